/- slices.Delete of one row of bytes' slices, in place. No conditions but sizes. -/
import Derived.Test.YtoekmgpnmhknoaaWire2
import Derived.Test.YtoekmgpnmhknoaaInv
import Derived.Deep.RegionLaw
import Derived.Lib.SliceRun
import Derived.Laws.IdiomCopy
namespace Go.Proofs.Ytoekmgpnmhknoaa
open Go.RowKit
theorem Blk.setCells_ {g : Nat} {t : TypeId} : ∀ (vs : List Value) (o : Nat) {w : World} {cs : Array Value}, Blk w g t cs → o + vs.length ≤ cs.size →
    ∃ cs', Blk (w.setCells g o vs) g t cs' ∧ cs'.size = cs.size ∧ ∀ j, cs'[j]? = if o ≤ j ∧ j < o + vs.length then vs[j - o]? else cs[j]? := by
  intro vs
  induction vs with
  | nil => intro o w cs h _; exact ⟨cs, h, rfl, fun j => by rw [if_neg (fun hh => by simp only [List.length_nil] at hh; omega)]⟩
  | cons v r ih =>
    intro o w cs h hl
    simp only [List.length_cons] at hl
    obtain ⟨cs', h1, h2, h3⟩ := ih (o + 1) (h.set_ o v) (by simp; omega)
    refine ⟨cs', h1, by simpa using h2, fun j => ?_⟩
    rw [h3]
    by_cases hj : j = o
    · subst hj
      rw [if_neg (by omega), if_pos (by simp only [List.length_cons]; omega), Nat.sub_self, Array.getElem?_setIfInBounds_self_of_lt (by omega)]; rfl
    · by_cases hj2 : o + 1 ≤ j ∧ j < o + 1 + r.length
      · rw [if_pos hj2, if_pos (by simp only [List.length_cons]; omega)]
        obtain ⟨k, rfl⟩ : ∃ k, j = o + 1 + k := ⟨j - (o + 1), by omega⟩
        rw [show o + 1 + k - o = k + 1 by omega, List.getElem?_cons_succ]
        congr 1; omega
      · rw [if_neg hj2, if_neg (by simp only [List.length_cons]; omega), Array.getElem?_setIfInBounds_ne (by omega)]
theorem Keeps.setCells_ {F : Nat → Prop} {g : Nat} (hg : F g) : ∀ (vs : List Value) (o : Nat) {a b : World}, Keeps F a b → Keeps F a (b.setCells g o vs) := by
  intro vs
  induction vs with
  | nil => intro o a b h; exact h
  | cons v r ih => intro o a b h; exact ih (o + 1) (h.setCell (p := ⟨g, o, none⟩) hg v)
theorem wpList_append_room {P : Program} {ops : Array Oper} {rest : List Oper} {o : Oper} {a : Act} {Q : Exit → Act → World → Prop} {w : World} (hgd : o.guard = none) (s x : Operand) (t : TypeId)
    (ho : o.op = .call { callee := .builtin .append, args := #[s, x], argTypes := #[t, t] }) (e : TypeId) (i : TypeInfo) (size : Nat) (h1 : P.underlying t = some (.slice e)) (h2 : P.info? e = some i) (h4 : i.size = size)
    (b off n cap : Nat) (hs : a.eval s = .slice (some ⟨b, off, none⟩) n cap) (ad : Addr) (m c : Nat) (news : List Value) (hx : a.eval x = .slice (some ad) m c) (hn : news.length = m * size) (hc : ∀ j u, news[j]? = some u → w.cell? (ad.add j) = some u) (h1c : ∀ u ∈ news, u.oneCell' = true)
    (hroom : n + m ≤ cap) (hspare : ∀ j, j < news.length → (w.cell? ⟨b, off + n * size + j, none⟩).isSome = true ∧ w.frozen? ⟨b, off + n * size + j, none⟩ = false)
    (h : wpList P ops Q rest (a.put o.dst (.slice (some ⟨b, off, none⟩) (n + m) cap)) (w.setCells b (off + n * size) news)) : wpList P ops Q (o :: rest) a w :=
  wpList_plain hgd fun K hK => by
    subst h4
    have hrun := run_append_room_cells (P := P) w t o.type e i h1 h2 b off n cap ad m c news hn hc h1c hroom (fun j hj => (hspare j hj).1) (fun j hj => (hspare j hj).2)
    unfold Oper.wp
    simp [execOp, ho, resolve, invoke, builtin, hs, hx, hrun, Result.andThen]
    exact hK _ _ h
theorem sl_info : (Try.prog.info? 29).map (fun i => (i.zero, i.size, i.bytes)) = some (some (.slice none 0 0), 1, 24) := by kernel_rfl
set_option maxRecDepth 1000000 in
set_option maxHeartbeats 4000000 in
theorem Delete_any (g cap n i : Nat) (xs : List Value) (w : World) (base : Nat) (hown : w.ownsRow base 29 1 (.slice (some ⟨g, 0, none⟩) n cap) n xs) (hi : i < n) (h1 : ∀ u ∈ xs, u.oneCell' = true) :
    Calls Try.prog 39 #[.slice (some ⟨g, 0, none⟩) n cap, .int .i64 (i : Int), .int .i64 ((i + 1 : Nat) : Int)] w fun e w' => e = .returned (.slice (some ⟨g, 0, none⟩) (n - 1) cap) ∧
      w'.ownsRow base 29 1 (.slice (some ⟨g, 0, none⟩) (n - 1) cap) (n - 1) (xs.take i ++ xs.drop (i + 1)) ∧ Keeps (fun k => k = g) w w' := by
  have hxl : xs.length = n := by have := hown.1; simpa using this
  obtain ⟨cur, hblk, hnc, hcm, hcs, htk⟩ : ∃ cur, Blk w g 29 cur ∧ n ≤ cap ∧ cap ≤ maxLen ∧ cur.size = cap ∧ cur.toList.take n = xs := by
    rcases hown.2 with ⟨h', _⟩ | ⟨g', cap', cur, h', _, hg, a1, a2, a3, a4⟩
    · simp at h'
    · simp only [Value.slice.injEq, Option.some.injEq, Addr.mk.injEq, and_true, true_and] at h'
      obtain ⟨rfl, rfl⟩ := h'
      exact ⟨cur, hg, a1, a2, by simpa using a3, by simpa using a4⟩
  have hbase : base ≤ g := (hown.lt g rfl).1
  have hcell : ∀ j, j < n → w.cell? ⟨g, j, none⟩ = xs[j]? := fun j hj => World.ownsRow.cellAt hown j (by omega)
  obtain ⟨news, hnews⟩ : ∃ news, news = xs.drop (i + 1) := ⟨_, rfl⟩
  have hnl : news.length = n - (i + 1) := by rw [hnews]; simp; omega
  obtain ⟨A, hA, hsrc⟩ : ∃ A : Addr, (if cap = i + 1 then some (⟨g, 0, none⟩ : Addr) else some ⟨g, i + 1, none⟩) = some A ∧ (∀ t u, news[t]? = some u → w.drew.cell? (A.add t) = some u) := by
    by_cases h : cap = i + 1
    · refine ⟨⟨g, 0, none⟩, by simp [h], fun t u hu => ?_⟩
      have h0 : news.length = 0 := by rw [hnl]; omega
      rw [List.length_eq_zero_iff.1 h0] at hu
      simp at hu
    · refine ⟨⟨g, i + 1, none⟩, by simp [h], fun t u hu => ?_⟩
      have ht : t < news.length := (List.getElem?_eq_some_iff.1 hu).1
      have ha : (⟨g, i + 1, none⟩ : Addr).add t = ⟨g, i + 1 + t, none⟩ := by unfold Addr.add; split <;> simp_all
      rw [ha]
      show w.cell? _ = _
      rw [hcell _ (by omega), ← hu, hnews, List.getElem?_drop]
  have HSRC := Lib.hid hsrc
  clear hsrc
  have S1 := Lib.hid (show news.length = (n - (i + 1)) * 1 by omega)
  have S2 := Lib.hid (show ∀ u ∈ news, u.oneCell' = true from fun u hu => h1 u (by rw [hnews] at hu; exact List.mem_of_mem_drop hu))
  have S3 := Lib.hid (show ∀ t, t < news.length → (w.drew.cell? ⟨g, 0 + i * 1 + t, none⟩).isSome = true ∧ w.drew.frozen? ⟨g, 0 + i * 1 + t, none⟩ = false from fun t ht => by
    rw [hnl] at ht
    refine ⟨?_, hblk.frozen _⟩
    show (w.cell? _).isSome = true
    rw [hcell _ (by omega), List.getElem?_eq_getElem (by omega)]; rfl)
  obtain ⟨cs1, hb1, hz1, hc1⟩ := Blk.setCells_ news i (hblk.drew) (by omega)
  obtain ⟨W1, hW1⟩ : ∃ W1, W1 = w.drew.setCells g (0 + i * 1) news := ⟨_, rfl⟩
  have hW1' : W1 = w.drew.setCells g i news := by rw [hW1]; simp
  rw [← hW1'] at hb1
  have hcl : ∀ ty, (Builtin.clear_ #[50] ty #[.slice (some ⟨g, i + (n - (i + 1)), none⟩) (n - (i + (n - (i + 1)))) (cap - (i + (n - (i + 1))))]).run Try.prog W1 = .ok (.tuple #[]) (W1.setCells g (i + (n - (i + 1))) (List.replicate (n - (i + (n - (i + 1)))) (.slice none 0 0))) :=
    fun ty => Lib.run_clear_slice W1 _ _ ty _ Try.underlying50 (fun w => by kernel_rfl) rfl rfl g (i + (n - (i + 1))) _ _ (by omega) (fun t ht => by rw [hb1.cell, Array.getElem?_eq_getElem (by omega)]; rfl) (fun t _ => hb1.frozen _)
  obtain ⟨cs2, hb2, hz2, hc2⟩ := Blk.setCells_ (List.replicate (n - (i + (n - (i + 1)))) (Value.slice none 0 0)) (i + (n - (i + 1))) hb1 (by simp; omega)
  have hfin : (W1.setCells g (i + (n - (i + 1))) (List.replicate (n - (i + (n - (i + 1)))) (.slice none 0 0))).ownsRow base 29 1 (.slice (some ⟨g, 0, none⟩) (n - 1) cap) (n - 1) (xs.take i ++ xs.drop (i + 1)) := by
    refine ⟨by simp; omega, Or.inr ⟨g, cap, cs2, rfl, hbase, hb2, by omega, hcm, by simp; omega, ?_⟩⟩
    refine List.ext_getElem? fun j => ?_
    rw [List.getElem?_take, Nat.mul_one]
    by_cases hj : j < n - 1
    · rw [if_pos hj, Array.getElem?_toList, hc2, if_neg (by omega), hc1]
      by_cases hji : i ≤ j
      · rw [if_pos (by omega), hnews, List.getElem?_drop, List.getElem?_append_right (by simp; omega), List.getElem?_drop]
        congr 1; simp; omega
      · rw [if_neg (by omega), List.getElem?_append_left (by simp; omega), List.getElem?_take, if_pos (by omega), ← htk, List.getElem?_take, if_pos (by omega), Array.getElem?_toList]
    · rw [if_neg hj, List.getElem?_eq_none (by simp; omega)]
  have hkf : Keeps (fun k => k = g) w (W1.setCells g (i + (n - (i + 1))) (List.replicate (n - (i + (n - (i + 1)))) (.slice none 0 0))) := by
    refine Keeps.setCells_ (F := fun k => k = g) rfl _ _ ?_
    rw [hW1']
    exact Keeps.setCells_ (F := fun k => k = g) rfl _ _ (Keeps.refl _ _).drew
  obtain ⟨i0, hi0, hz, hzs, _⟩ := info_parts sl_info
  have HI0 := Lib.hid (And.intro hi0 hzs)
  have HW := Lib.hid hW1; have HFIN := Lib.hid hfin; have HKF := Lib.hid hkf
  have hic : i ≤ cap := by omega
  have hjc : i + 1 ≤ cap := by omega
  clear hW1 hW1' hb1 hb2 hc1 hc2 hz1 hz2 hfin hkf hblk hcell hown hnews hnl htk hcs hi0 hz hzs h1 hxl hbase
  go_enter Try.func39, Try.ntmps39
  go_wp2_with fail
  refine wp_region_qt 6 (by kernel_rfl) (by kernel_rfl) ?_
  simp only [List.take_succ_cons, List.take_zero, List.drop_succ_cons, List.drop_zero]
  repeat (first | go_big_quiet_skip | (go_big_quiet_want; go_big_quiet_op; first | go_big_quiet_on))
  refine wpQuiet_nil ?_
  go_wp2_with (at_builtin; refine wpList_append_room rfl (.tmp 22) (.tmp 25) _ rfl 29 i0 1 Try.underlying50 HI0.out.1 HI0.out.2 g 0 i cap rfl A (n - (i + 1)) (cap - (i + 1)) news rfl S1.out HSRC.out S2.out (by omega) S3.out ?_; rw [← HW.out])
  go_ret
  exact ⟨by rw [show n - 1 = i + (n - (i + 1)) by omega]; rfl, HFIN.out, HKF.out⟩
end Go.Proofs.Ytoekmgpnmhknoaa
