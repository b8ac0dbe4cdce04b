/- Arrays of the reference: words in ints. No conditions. -/
import Derived.Test.YtinkclcdpcjnfaaDoorRef1
namespace Go.Proofs.YtinkclcdpcjnfaaDoor
open Go.RowKit
set_option linter.unusedSimpArgs false
/-- The array behind t rounds. -/
def arrI (l : List UInt8) (t : Nat) : Array Value := ((spreadTo l t ++ List.replicate (64 - t) 0).map I).toArray
theorem arrI_size (l : List UInt8) (t : Nat) (h : t ≤ 64) : (arrI l t).size = 64 := by simp [arrI, spreadTo_length]; omega
theorem arrI_one (l : List UInt8) (t : Nat) : (arrI l t).all (·.oneCell') = true := by
  simp only [arrI, List.all_toArray, List.all_map]
  exact List.all_eq_true.2 fun x _ => rfl
theorem arrI_get (l : List UInt8) (t j : Nat) (hj : j < t) : (arrI l t)[j]? = some (.int .i64 (n32 ((spreadTo l t).getD j 0))) := by
  have hl := spreadTo_length l t
  simp only [arrI, List.getElem?_toArray, List.getElem?_map]
  rw [List.getElem?_append_left (by omega), List.getElem?_eq_getElem (by omega)]
  simp [I, List.getD_eq_getElem?_getD, List.getElem?_eq_getElem (show j < (spreadTo l t).length by omega)]
theorem arrI_here (l : List UInt8) (t : Nat) (h : t < 64) : (arrI l t)[t]? = some (.int .i64 0) := by
  have hl := spreadTo_length l t
  simp only [arrI, List.getElem?_toArray, List.getElem?_map]
  rw [List.getElem?_append_right (by omega), hl]
  simp [I, List.getElem?_replicate, show ¬ 64 - t = 0 by omega, n32]
theorem arrI_step (l : List UInt8) (t : Nat) (h : t < 64) (x : UInt32) (hx : x = if t < 16 then wordAt l t else nextW (spreadTo l t) t) :
    (arrI l t).setIfInBounds t (.int .i64 (n32 x)) = arrI l (t + 1) := by
  have hl := spreadTo_length l t
  apply Array.toList_inj.1
  apply List.ext_getElem?
  intro j
  simp only [arrI, Array.toList_setIfInBounds, List.getElem?_set, spreadTo, ← hx]
  by_cases hj : t = j
  · subst hj
    simp [hl, I]
    omega
  · simp only [hj, if_false]
    by_cases hlt : j < t
    · rw [List.getElem?_map, List.getElem?_map, List.getElem?_append_left (by omega), List.append_assoc, List.getElem?_append_left (by omega)]
    · rw [List.getElem?_map, List.getElem?_map, List.getElem?_append_right (by omega), List.getElem?_append_right (by simp; omega)]
      simp only [hl, List.length_append, List.length_cons, List.length_nil]
      rw [List.getElem?_replicate, List.getElem?_replicate]
      by_cases h2 : j < 64
      · rw [if_pos (by omega), if_pos (by omega)]
      · rw [if_neg (by omega), if_neg (by omega)]

def V8.ints (v : V8) : Array Value := #[I v.a, I v.b, I v.c, I v.d, I v.e, I v.f, I v.g, I v.h]
theorem ints_get (u : V8) (n : Nat) (h : n < 8) : u.ints[n]? = some (.int .i64 (n32 (u.list.getD n 0))) := by
  match n, h with
  | 0, _ => rfl | 1, _ => rfl | 2, _ => rfl | 3, _ => rfl | 4, _ => rfl | 5, _ => rfl | 6, _ => rfl | 7, _ => rfl
def mixI (u v : V8) (n : Nat) : Array Value := ((List.range 8).map fun j => I (if j < n then u.list.getD j 0 + v.list.getD j 0 else u.list.getD j 0)).toArray
theorem mixI_here (u v : V8) (n : Nat) (h : n < 8) : (mixI u v n)[n]? = some (.int .i64 (n32 (u.list.getD n 0))) := by
  match n, h with
  | 0, _ => rfl | 1, _ => rfl | 2, _ => rfl | 3, _ => rfl | 4, _ => rfl | 5, _ => rfl | 6, _ => rfl | 7, _ => rfl
theorem mixI_step (u v : V8) (n : Nat) (h : n < 8) : (mixI u v n).setIfInBounds n (.int .i64 (n32 (u.list.getD n 0 + v.list.getD n 0))) = mixI u v (n + 1) := by
  match n, h with
  | 0, _ => rfl | 1, _ => rfl | 2, _ => rfl | 3, _ => rfl | 4, _ => rfl | 5, _ => rfl | 6, _ => rfl | 7, _ => rfl
theorem mixI_zero (u v : V8) : mixI u v 0 = u.ints := rfl
theorem mixI_all (u v : V8) : mixI u v 8 = (u.add v).ints := rfl
/-- A word, byte by byte. -/
def pw (l : List UInt8) (t : Nat) : Nat → Nat
  | 0 => 0
  | j + 1 => pw l t j * 256 + (l.getD (4 * t + j) 0).toNat
theorem pw_lt (l : List UInt8) (t : Nat) : ∀ j, j ≤ 4 → pw l t j < 256 ^ j := by
  intro j
  induction j with
  | zero => intro _; simp [pw]
  | succ j ih =>
    intro h
    have h1 := ih (by omega)
    have h2 := (l.getD (4 * t + j) 0).toNat_lt
    simp only [pw, Nat.pow_succ]
    omega
theorem pw_le (l : List UInt8) (t j : Nat) (h : j ≤ 4) : pw l t j < 4294967296 := by
  have h1 := pw_lt l t j h
  have : 256 ^ j ≤ 256 ^ 4 := Nat.pow_le_pow_right (by omega) h
  omega
theorem pw_all (l : List UInt8) (t : Nat) : pw l t 4 = (wordAt l t).toNat := by
  have e : ∀ a b c d : UInt8, (word4 a b c d).toNat = ((a.toNat * 256 + b.toNat) * 256 + c.toNat) * 256 + d.toNat := by
    intro a b c d
    have ha := a.toNat_lt; have hb := b.toNat_lt; have hc := c.toNat_lt; have hd := d.toNat_lt
    have e24 : (a.toUInt32 <<< (24 : UInt32)).toNat = 2 ^ 24 * a.toNat := by
      rw [UInt32.toNat_shiftLeft]
      simp [Nat.shiftLeft_eq]
      omega
    have e16 : (b.toUInt32 <<< (16 : UInt32)).toNat = 2 ^ 16 * b.toNat := by
      rw [UInt32.toNat_shiftLeft]
      simp [Nat.shiftLeft_eq]
      omega
    have e8 : (c.toUInt32 <<< (8 : UInt32)).toNat = 2 ^ 8 * c.toNat := by
      rw [UInt32.toNat_shiftLeft]
      simp [Nat.shiftLeft_eq]
      omega
    have ed : (d.toUInt32).toNat = d.toNat := by simp
    unfold word4
    rw [UInt32.toNat_or, UInt32.toNat_or, UInt32.toNat_or, e24, e16, e8, ed]
    rw [← Nat.two_pow_add_eq_or_of_lt (show 2 ^ 16 * b.toNat < 2 ^ 24 by omega)]
    rw [show 2 ^ 24 * a.toNat + 2 ^ 16 * b.toNat = 2 ^ 16 * (a.toNat * 256 + b.toNat) by omega]
    rw [← Nat.two_pow_add_eq_or_of_lt (show 2 ^ 8 * c.toNat < 2 ^ 16 by omega)]
    rw [show 2 ^ 16 * (a.toNat * 256 + b.toNat) + 2 ^ 8 * c.toNat = 2 ^ 8 * ((a.toNat * 256 + b.toNat) * 256 + c.toNat) by omega]
    rw [← Nat.two_pow_add_eq_or_of_lt (show d.toNat < 2 ^ 8 by omega)]
    omega
  have h := e (l.getD (4 * t) 0) (l.getD (4 * t + 1) 0) (l.getD (4 * t + 2) 0) (l.getD (4 * t + 3) 0)
  show _ = (word4 _ _ _ _).toNat
  rw [h]
  simp [pw]
theorem arrI_set0 (l : List UInt8) (t : Nat) (h : t < 64) : (arrI l t).setIfInBounds t (.int .i64 ((pw l t 0 : Nat) : Int)) = arrI l t := by
  apply Array.ext_getElem?
  intro j
  rw [Array.getElem?_setIfInBounds]
  by_cases e : t = j
  · subst e
    rw [if_pos rfl, arrI_here l t h, if_pos (by rw [arrI_size l t (by omega)]; omega)]
    rfl
  · rw [if_neg e]
theorem arrI_set4 (l : List UInt8) (t : Nat) (h : t < 16) : (arrI l t).setIfInBounds t (.int .i64 ((pw l t 4 : Nat) : Int)) = arrI l (t + 1) := by
  have := arrI_step l t (by omega) (wordAt l t) (by rw [if_pos h])
  rw [← this, pw_all]
  rfl
theorem pw_succ (l : List UInt8) (t j : Nat) : ((pw l t (j + 1) : Nat) : Int) = (pw l t j : Int) * 256 + ((l.getD (4 * t + j) 0).toNat : Int) := by
  simp [pw]
theorem set_set (a : Array Value) (t : Nat) (x y : Value) : (a.setIfInBounds t x).setIfInBounds t y = a.setIfInBounds t y := by
  apply Array.ext_getElem?
  intro j
  simp only [Array.getElem?_setIfInBounds, Array.size_setIfInBounds]
  split <;> rfl
theorem set_here (a : Array Value) (t : Nat) (x : Value) (h : t < a.size) : (a.setIfInBounds t x)[t]? = some x := by
  rw [Array.getElem?_setIfInBounds, if_pos rfl, if_pos h]
def zerI : Array Value := (List.replicate 64 (Value.int .i64 0)).toArray
theorem arrI_zero (l : List UInt8) : arrI l 0 = zerI := by unfold arrI spreadTo; rfl
theorem st0_ints : #[Value.int .i64 1779033703, .int .i64 3144134277, .int .i64 1013904242, .int .i64 2773480762, .int .i64 1359893119, .int .i64 2600822924, .int .i64 528734635, .int .i64 1541459225] = st0V.ints := rfl
theorem kcells_get (t : Nat) (h : t < 64) : kcells[t]? = some (.int .i64 (n32 (ks.getD t 0))) := by
  have hl : ks.length = 64 := rfl
  simp only [kcells, List.getElem?_toArray, List.getElem?_map]
  rw [List.getElem?_eq_getElem (by omega), List.getD_eq_getElem?_getD, List.getElem?_eq_getElem (by omega)]
  rfl
theorem int_info : (Tryd.prog.info? 3).map (fun i => (i.zero, i.size, i.bytes)) = some (some (.int .i64 0), 1, 8) := by kernel_rfl
theorem ints_one (u : V8) : ∀ x ∈ u.ints.toList, x.oneCell' = true := by
  intro x hx
  simp [V8.ints, I] at hx
  rcases hx with h | h | h | h | h | h | h | h <;> (subst h; rfl)
/-- append([]int{}, h...): eight words. -/
theorem app_eight {ops : Array Oper} {rest : List Oper} {o : Oper} {a : Act} {Q : Exit → Act → World → Prop} {w : World} (hgd : o.guard = none) (s x : Operand) (ho : o.op = .call { callee := .builtin .append, args := #[s, x], argTypes := #[37, 37] })
    (w0 : World) (hw : w = w0.alloc (.cells #[] 3)) (hs : a.eval s = .slice (some ⟨w0.heap.size, 0, none⟩) 0 0) (H c : Nat) (V : V8) (hx : a.eval x = .slice (some ⟨H, 0, none⟩) 8 c) (hH : Blk w0 H 3 V.ints)
    (h : ∀ g c' w', w0.heap.size ≤ g → Below w0.heap.size w0 w' → (∀ j, j < 8 → w'.cell? ⟨g, j, none⟩ = some (.int .i64 (n32 (V.list.getD j 0)))) → wpList Tryd.prog ops Q rest (a.put o.dst (.slice (some ⟨g, 0, none⟩) 8 c')) w') : wpList Tryd.prog ops Q (o :: rest) a w := by
  subst hw
  obtain ⟨i0, hi0, hz0, hz1, hz2⟩ := info_parts int_info
  have hown : (w0.alloc (.cells #[] 3)).ownsRow w0.heap.size 3 1 (.slice (some ⟨w0.heap.size, 0, none⟩) 0 0) 0 [] := by
    refine ⟨by simp, Or.inr ⟨w0.heap.size, 0, #[], rfl, Nat.le_refl _, heap_alloc_new w0 _, ?_, ?_, ?_, ?_⟩⟩ <;> simp
  have hr : Reads (w0.alloc (.cells #[] 3)) w0.heap.size 1 (some ⟨H, 0, none⟩) 8 V.ints.toList := by
    refine ⟨rfl, fun _ => ⟨_, rfl, hH.lt, fun j u hu => ?_⟩⟩
    have ha : (⟨H, 0, none⟩ : Addr).add j = ⟨H, j, none⟩ := by unfold Addr.add; split <;> simp_all
    rw [ha, (hH.alloc _).cell j]
    simpa using hu
  refine wpList_append_any _ hgd s x _ ho w0.heap.size 3 i0 _ 1 8 Tryd.underlying37 hi0 hz0 hz1 hz2 rfl (by omega) _ 0 [] hs hown w0.heap.size _ 8 c _ hx hr (ints_one V) (by simp only [maxLen]; omega) (by omega) (by simp) ?_
  intro v' w' h1 h2 h3
  obtain ⟨g, c', hv, hg, _⟩ := World.ownsRow.form h1 (by omega)
  subst hv
  have hbel : Below w0.heap.size w0 w' := ((Below.refl _ w0).alloc (Nat.le_refl _) _).grown h2 (by simp) (fun q e => by simp [Value.ownBlock] at e; omega)
  refine h g c' w' hg hbel (fun j hj => ?_)
  have hc := h1.cells (g := g) rfl j (.int .i64 (n32 (V.list.getD j 0))) (by
    have := ints_get V j hj
    simpa using this)
  have ha : (⟨g, 0, none⟩ : Addr).add j = ⟨g, j, none⟩ := by unfold Addr.add; split <;> simp_all
  rwa [ha] at hc
attribute [irreducible] arrI pw
end Go.Proofs.YtinkclcdpcjnfaaDoor
