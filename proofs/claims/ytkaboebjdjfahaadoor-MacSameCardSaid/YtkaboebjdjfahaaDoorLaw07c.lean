/- The walk of layer 7's law MacSame. Conditions: the table of the constants; the slices take at most the form's own reach. -/
import Derived.Test.YtkaboebjdjfahaaDoorLaw07
import Derived.Test.YtkaboebjdjfahaaDoorLaw06b
namespace Go.Proofs.YtkaboebjdjfahaaDoor
open Go.RowKit
theorem quiet_eql_str2 {P : Program} {C : World → Prop} {o : Oper} {a : Act} {K : Act → Prop} (t t' : TypeId) (x y : Operand) (ho : o.op = .binOp .eql t x y t') (l1 l2 : List UInt8) (hx : a.eval x = .string ⟨l1.toArray⟩) (hy : a.eval y = .string ⟨l2.toArray⟩) (e : Bool) (he : e = decide (l1 = l2)) (hK : K (a.put o.dst (.bool e))) : o.quiet P a C K := by
  refine ⟨_, fun w _ => ?_, hK⟩
  unfold Oper.quietAt execOp
  have h1 : (eqGuard .eql t x y (.string ⟨l1.toArray⟩) (.string ⟨l2.toArray⟩)) = pure () := rfl
  have h3 : ((⟨l1.toArray⟩ : ByteArray).toList == (⟨l2.toArray⟩ : ByteArray).toList) = e := by
    rw [he, ByteArray.toList_mk, ByteArray.toList_mk]
    by_cases h : l1 = l2 <;> simp [h]
  have h2 : (binOp .eql t (.string ⟨l1.toArray⟩) (.string ⟨l2.toArray⟩)) = pure (.bool e) := by rw [binOp_string_eql, h3]
  simp only [ho, hx, hy, h1, h2, Sem.run_bind, Sem.run_pure, Result.andThen_ok, Oper.quietUpon, and_self]
theorem wpList_wanted {P : Program} {ops : Array Oper} {Q : Exit → Act → World → Prop} {rest : List Oper} {o : Oper} {a : Act} {w : World} (hw : Region.wanted o (yielded ops a.tmps) = true) (h : wpList P ops Q ({ o with guard := none } :: rest) a w) : wpList P ops Q (o :: rest) a w := by
  obtain ⟨dst, op, ty, pos, after, guard⟩ := o
  unfold wpList at h ⊢
  rw [if_pos hw]
  rw [if_pos (by rfl)] at h
  exact h
theorem Own.set_ {w : World} {base g n c : Nat} {l : List UInt8} (h : Own w base (.slice (some ⟨g, 0, none⟩) n c) l) (k : Nat) (y : UInt8) : Own (w.setCell ⟨g, k, none⟩ (.int .u8 y.toNat)) base (.slice (some ⟨g, 0, none⟩) n c) (l.set k y) := by
  rcases h.2 with ⟨e, _⟩ | ⟨g', cap, cur, e, hb, hh, hle, hm, hsz, ht⟩
  · cases e
  · injection e with e1 e2 e3
    simp only [Option.some.injEq, Addr.mk.injEq, and_true] at e1
    subst e1; subst e3
    refine ⟨by simp, Or.inr ⟨g, c, cur.setIfInBounds k (.int .u8 y.toNat), by rw [List.length_set, e2], hb, Blk.set_ hh k _, by rw [List.length_set]; exact hle, hm, by simpa using hsz, ?_⟩⟩
    rw [Array.toList_setIfInBounds, List.length_set, List.take_set, ht, List.map_set]
    rfl
theorem set_xor (l : List UInt8) (k : Nat) (hk : k < l.length) (x : UInt8) : (l = l.set k (l.getD k 0 ^^^ x)) ↔ x = 0 := by
  constructor
  · intro h
    have h1 := congrArg (fun z => z.getD k 0) h
    simp only [List.getD_eq_getElem?_getD, List.getElem?_set_self hk, List.getElem?_eq_getElem hk, Option.getD_some] at h1
    generalize l[k] = z at h1
    have h2 : z ^^^ z = z ^^^ (z ^^^ x) := congrArg (z ^^^ ·) h1
    rw [← UInt8.xor_assoc, UInt8.xor_self, UInt8.zero_xor] at h2
    exact h2.symm
  · rintro rfl
    apply List.ext_getElem?
    intro j
    by_cases e : k = j
    · subst e
      rw [List.getElem?_set_self hk, List.getElem?_eq_getElem hk, List.getD_eq_getElem?_getD, List.getElem?_eq_getElem hk]
      simp
    · rw [List.getElem?_set_ne e]
set_option maxRecDepth 100000 in
set_option maxHeartbeats 2000000 in
theorem MacSame_any (A : Option Addr) (n c : Nat) (A2 : Option Addr) (n2 c2 : Nat) (y x : UInt8) (w : World) (l b : List UInt8) (hk : Consts w) (hn : n ≤ 140737488351232) (hn2 : n2 ≤ 140737488351232) (hr : Rd w w.heap.size A n l) (hr2 : Rd w w.heap.size A2 n2 b) :
    Calls Tryd.prog 8 #[.slice A n c, .slice A2 n2 c2, .int .u8 y.toNat, .int .u8 x.toNat] w fun e w' => e = .returned (.bool true) ∧ Below w.heap.size w w' := by
  have hB0 : 0 < w.heap.size := by have := World.block_lt_of_cell? w _ (hk 0 (by omega)); omega
  have HL := Lib.hid hr.len
  have HL2 := Lib.hid hr2.len
  obtain ⟨ee, hee⟩ : ∃ ee, decide (l = b) = ee := ⟨_, rfl⟩
  have HE := Lib.hid hee; clear hee
  by_cases h0 : n = 0
  · subst h0
    have hl : ([] ++ l).length = 0 := by simpa using HL.out.symm
    have HN := Lib.hid hl; clear hl
    go_enter Tryd.func8, Tryd.ntmps8
    go_wp2_with (
      at_builtin
      refine app_bytes rfl (.tmp 10) (.tmp 11) rfl w.heap.size (.slice (some ⟨w.heap.size, 0, none⟩) 0 0) [] rfl (Own.new_ w _ (Nat.le_refl _) [] (by simp) #[] rfl) _ A 0 c l rfl (hr.alloc (Nat.le_refl _) _) (by simp only [List.length_nil]; omega) (by simp) ?_
      intro v1 w1 hown1 hg1 _
      have hb : Below w.heap.size w w1 := below_app ((Below.refl _ _).alloc (Nat.le_refl _) _) (Own.new_ w _ (Nat.le_refl _) [] (by simp) #[] rfl) (by simp) hg1
      clear hg1
      obtain ⟨A1, c1, rfl⟩ := hown1.shape
      have hrc := hown1.rd
      clear hown1
      rw [HN.out] at hrc ⊢
      rw [List.nil_append] at hrc)
    have hC5 : Below w1.heap.size w1 w1.drew := (Below.refl _ _).drew
    have hkW : Consts w1 := hk.below hb hB0
    have K2 := Lib.hid (fun W (hW : Below w1.heap.size w1 W) => (hr.below hb).below (hW.mono hb.size))
    have K4 := Lib.hid (fun W (hW : Below w1.heap.size w1 W) => (hr2.below hb).below (hW.mono hb.size))
    refine wp_region_anyN (Below w1.heap.size w1) (by kernel_rfl) ?_
    refine anyC_only (i := 0) rfl (by kernel_rfl) hC5 ?_
    go_wp2_with fail
    refine (answers07_any w1.drew hkW).mono ?_
    rintro e w6 ⟨rfl, hb6⟩
    replace hb6 : Below w1.heap.size w1 w6 := hC5.trans hb6
    go_wp2_with fail
    refine anyC_takes (by kernel_rfl) (fun _ _ _ _ _ h => h) [1, 2, 3, 5, 6, 7, 8, 9] 24 _ _ (by kernel_rfl) ?_
    simp only [List.filterMap_cons, List.filterMap_nil, List.getElem?_toArray, List.getElem?_cons_succ, List.getElem?_cons_zero]
    show wpQuiet _ _ _ _ (_ :: _ :: _ :: _ :: _ :: _ :: _ :: _ :: List.nil) _
    repeat (first | go_big_quiet_skip | (go_big_quiet_want; first | (refine quiet_eql_str2 _ _ _ _ rfl l b rfl rfl ee HE.out.symm ?_; simp only [Act.put, List.setIfInBounds_toArray, List.set_cons_succ, List.set_cons_zero]; go_big_quiet_on) | (refine quiet_str 22 9 5 (.tmp 32) rfl A 0 c l rfl Tryd.underlying22 Tryd.underlying5 Tryd.underlying9 _ K2.out ?_; simp only [Act.put, List.setIfInBounds_toArray, List.set_cons_succ, List.set_cons_zero]; go_big_quiet_on) | (refine quiet_str 22 9 5 (.tmp 34) rfl A2 n2 c2 b rfl Tryd.underlying22 Tryd.underlying5 Tryd.underlying9 _ K4.out ?_; simp only [Act.put, List.setIfInBounds_toArray, List.set_cons_succ, List.set_cons_zero]; go_big_quiet_on) | (go_big_quiet_op; first | go_big_quiet_on | (refine ⟨_, fun _ _ => rfl, ?_⟩; go_big_quiet_on))))
    refine wpQuiet_nil ?_
    refine anyC_only (i := 4) rfl (by kernel_rfl) hb6 ?_
    go_wp2_with fail
    refine (Same_any A 0 c A2 n2 c2 w6 _ _ l b (by omega) (K2.out _ hb6) (K4.out _ hb6)).mono ?_
    rintro e w7 ⟨rfl, hb7⟩
    have hb7' := hb6.trans (hb7.mono hb6.size)
    rw [HE.out]
    go_wp2_with fail
    refine anyC_takes (by kernel_rfl) (fun _ _ _ _ _ h => h) [10, 11, 12, 13, 14, 16, 17, 18] 15 _ _ (by kernel_rfl) ?_
    simp only [List.filterMap_cons, List.filterMap_nil, List.getElem?_toArray, List.getElem?_cons_succ, List.getElem?_cons_zero]
    show wpQuiet _ _ _ _ (_ :: _ :: _ :: _ :: _ :: _ :: _ :: _ :: List.nil) _
    repeat (first | go_big_quiet_skip | (go_big_quiet_want; first | (refine quiet_pick _ _ _ rfl rfl (.bool true) rfl ?_; simp only [Act.put, List.setIfInBounds_toArray, List.set_cons_succ, List.set_cons_zero]; go_big_quiet_on) | (go_big_quiet_op; first | go_big_quiet_on | (refine ⟨_, fun _ _ => rfl, ?_⟩; go_big_quiet_on))))
    refine wpQuiet_nil ?_
    refine anyC_only (i := 15) rfl (by kernel_rfl) hb7' ?_
    go_wp2_with fail
    refine (Same_any A 0 c A1 0 c1 w7 _ _ l l (by omega) (K2.out _ hb7') (hrc.below hb7')).mono ?_
    rintro e w8 ⟨rfl, hb8⟩
    rw [decide_eq_true rfl]
    have hb8' := hb7'.trans (hb8.mono hb7'.size)
    go_wp2_with fail
    refine anyC_takes (by kernel_rfl) (fun _ _ _ _ _ h => h) [19, 20, 21, 22, 23, 24, 25, 26, 28] 5 _ _ (by kernel_rfl) ?_
    simp only [List.filterMap_cons, List.filterMap_nil, List.getElem?_toArray, List.getElem?_cons_succ, List.getElem?_cons_zero]
    show wpQuiet _ _ _ _ (_ :: _ :: _ :: _ :: _ :: _ :: _ :: _ :: _ :: List.nil) _
    repeat (first | go_big_quiet_skip | (go_big_quiet_want; first | (refine quiet_pick _ _ _ rfl rfl (.bool true) rfl ?_; simp only [Act.put, List.setIfInBounds_toArray, List.set_cons_succ, List.set_cons_zero]; go_big_quiet_on) | (go_big_quiet_op; first | go_big_quiet_on | (refine ⟨_, fun _ _ => rfl, ?_⟩; go_big_quiet_on))))
    refine wpQuiet_nil ?_
    refine anyC_only (i := 27) rfl (by kernel_rfl) hb8' ?_
    go_wp2_with fail
    refine anyC_only (i := 29) rfl (by kernel_rfl) (hb8'.alloc hb8'.size _) ?_
    refine wpList_wanted rfl ?_
    refine app_bytes rfl (.tmp 54) (.tmp 55) rfl w8.heap.size (.slice (some ⟨w8.heap.size, 0, none⟩) 0 0) [] rfl (Own.new_ w8 _ (Nat.le_refl _) [] (by simp) #[] rfl) _ A 0 c l rfl (K2.out _ (hb8'.alloc hb8'.size _)) (by simp only [List.length_nil]; omega) (by simp) ?_
    intro v9 w9 hown9 hg9 _
    have hb9 : Below w8.heap.size w8 w9 := below_app ((Below.refl _ _).alloc (Nat.le_refl _) _) (Own.new_ w8 _ (Nat.le_refl _) [] (by simp) #[] rfl) (by simp) hg9
    have hb9' := hb8'.trans (hb9.mono hb8'.size)
    clear hg9
    obtain ⟨A9', c9', rfl⟩ := hown9.shape
    have hr9 := hown9.rd
    generalize ([] ++ l).length = m9 at hr9
    rw [List.nil_append] at hr9
    clear hown9
    refine anyC_only (i := 30) rfl (by kernel_rfl) hb9' ?_
    go_wp2_with fail
    refine (Same_any A 0 c A9' m9 c9' w9 _ _ l l (by omega) (K2.out _ hb9') hr9).mono ?_
    rintro e w10 ⟨rfl, hb10⟩
    rw [decide_eq_true rfl]
    have hb10' := hb9'.trans (hb10.mono hb9'.size)
    go_wp2_with fail
    refine anyC_takes (by kernel_rfl) (fun _ _ _ _ _ h => h) [31, 32] 0 _ _ (by kernel_rfl) ?_
    simp only [List.filterMap_cons, List.filterMap_nil, List.getElem?_toArray, List.getElem?_cons_succ, List.getElem?_cons_zero]
    show wpQuiet _ _ _ _ (_ :: _ :: List.nil) _
    repeat (first | go_big_quiet_skip | (go_big_quiet_want; first | (refine quiet_pick _ _ _ rfl rfl (.bool true) rfl ?_; simp only [Act.put, List.setIfInBounds_toArray, List.set_cons_succ, List.set_cons_zero]; go_big_quiet_on) | (go_big_quiet_op; first | go_big_quiet_on | (refine ⟨_, fun _ _ => rfl, ?_⟩; go_big_quiet_on))))
    refine wpQuiet_nil ?_
    refine ⟨hb10', by kernel_rfl, ?_⟩
    go_wp2
    go_ret
    exact ⟨rfl, hb.trans (hb10'.mono hb.size)⟩
  · have hy := y.toNat_lt
    obtain ⟨k, hkd⟩ : ∃ k, k = y.toNat % n := ⟨_, rfl⟩
    have hkn : k < n := by rw [hkd]; exact Nat.mod_lt _ (by omega)
    have hrem : Int.tmod (y.toNat : Int) (n : Int) = (k : Int) := by rw [hkd, Int.ofNat_tmod]
    have hpos : (n : Int) > 0 := by omega
    have hn0 : ((n : Int) == 0) = false := by simp; omega
    obtain ⟨d, hd⟩ : ∃ d, decide (x = 0) = d := ⟨_, rfl⟩
    have hx0 : ((x.toNat : Int) == 0) = d := by
      rw [← hd]
      by_cases hx : x = 0
      · subst hx; rfl
      · have : x.toNat ≠ 0 := fun e => hx (UInt8.toNat_inj.1 e)
        simp [hx, this]
    have hD0 : decide (l = l.set k (l.getD k 0 ^^^ x)) = d := by rw [← hd]; exact decide_eq_decide.2 (set_xor l k (by rw [← HL.out]; exact hkn) x)
    have HD := Lib.hid hD0
    have HKD := Lib.hid hkd
    clear hD0 hkd hd
    go_enter Tryd.func8, Tryd.ntmps8
    go_wp2_with (
      at_builtin
      refine app_bytes rfl (.tmp 10) (.tmp 11) rfl w.heap.size (.slice (some ⟨w.heap.size, 0, none⟩) 0 0) [] rfl (Own.new_ w _ (Nat.le_refl _) [] (by simp) #[] rfl) _ A n c l rfl (hr.alloc (Nat.le_refl _) _) (by simp only [List.length_nil]; omega) (by simp) ?_
      intro v1 w1 hown1 hg1 _
      have hb1 : Below w.heap.size w w1 := below_app ((Below.refl _ _).alloc (Nat.le_refl _) _) (Own.new_ w _ (Nat.le_refl _) [] (by simp) #[] rfl) (by simp) hg1
      clear hg1
      rw [List.nil_append] at hown1
      obtain ⟨g, cc, cur, rfl, hg, hcur, hcc, hcell⟩ := hown1.blk (by rw [← HL.out]; omega)
      rw [← HL.out] at hcc hown1 ⊢
      have hck : w1.cell? ⟨g, k, none⟩ = some (.int .u8 (l.getD k 0).toNat) := (hcur.cell k).trans (hcell k (by rw [← HL.out]; exact hkn))
      have hfz := hcur.frozen k
      have hown2 := hown1.set_ k (l.getD k 0 ^^^ x)
      have hb : Below w.heap.size w (w1.setCell ⟨g, k, none⟩ (.int .u8 (l.getD k 0 ^^^ x).toNat)) := hb1.setCell hg _
      have hrc := hown2.rd
      generalize l.set k (l.getD k 0 ^^^ x) = lc at HD hrc hown2
      clear hown1 hown2 hcell hcur
      generalize l.getD k 0 = z at hck hb hrc)
    rw [← UInt8.toNat_xor]
    generalize w1.setCell ⟨g, k, none⟩ (.int .u8 (z ^^^ x).toNat) = w2 at hb hrc ⊢
    have hC5 : Below w2.heap.size w2 w2.drew := (Below.refl _ _).drew
    have hkW : Consts w2 := hk.below hb hB0
    have K2 := Lib.hid (fun W (hW : Below w2.heap.size w2 W) => (hr.below hb).below (hW.mono hb.size))
    have K4 := Lib.hid (fun W (hW : Below w2.heap.size w2 W) => (hr2.below hb).below (hW.mono hb.size))
    refine wp_region_anyN (Below w2.heap.size w2) (by kernel_rfl) ?_
    refine anyC_only (i := 0) rfl (by kernel_rfl) hC5 ?_
    go_wp2_with fail
    refine (answers07_any w2.drew hkW).mono ?_
    rintro e w6 ⟨rfl, hb6⟩
    replace hb6 : Below w2.heap.size w2 w6 := hC5.trans hb6
    go_wp2_with fail
    refine anyC_takes (by kernel_rfl) (fun _ _ _ _ _ h => h) [1, 2, 3, 5, 6, 7, 8, 9] 24 _ _ (by kernel_rfl) ?_
    simp only [List.filterMap_cons, List.filterMap_nil, List.getElem?_toArray, List.getElem?_cons_succ, List.getElem?_cons_zero]
    show wpQuiet _ _ _ _ (_ :: _ :: _ :: _ :: _ :: _ :: _ :: _ :: List.nil) _
    repeat (first | go_big_quiet_skip | (go_big_quiet_want; first | (refine quiet_eql_str2 _ _ _ _ rfl l b rfl rfl ee HE.out.symm ?_; simp only [Act.put, List.setIfInBounds_toArray, List.set_cons_succ, List.set_cons_zero]; go_big_quiet_on) | (refine quiet_str 22 9 5 (.tmp 32) rfl A n c l rfl Tryd.underlying22 Tryd.underlying5 Tryd.underlying9 _ K2.out ?_; simp only [Act.put, List.setIfInBounds_toArray, List.set_cons_succ, List.set_cons_zero]; go_big_quiet_on) | (refine quiet_str 22 9 5 (.tmp 34) rfl A2 n2 c2 b rfl Tryd.underlying22 Tryd.underlying5 Tryd.underlying9 _ K4.out ?_; simp only [Act.put, List.setIfInBounds_toArray, List.set_cons_succ, List.set_cons_zero]; go_big_quiet_on) | (go_big_quiet_op; first | go_big_quiet_on | (refine ⟨_, fun _ _ => rfl, ?_⟩; go_big_quiet_on))))
    refine wpQuiet_nil ?_
    refine anyC_only (i := 4) rfl (by kernel_rfl) hb6 ?_
    go_wp2_with fail
    refine (Same_any A n c A2 n2 c2 w6 _ _ l b (by omega) (K2.out _ hb6) (K4.out _ hb6)).mono ?_
    rintro e w7 ⟨rfl, hb7⟩
    have hb7' := hb6.trans (hb7.mono hb6.size)
    rw [HE.out]
    go_wp2_with fail
    refine anyC_takes (by kernel_rfl) (fun _ _ _ _ _ h => h) [10, 11, 12, 13, 14, 16, 17, 18] 15 _ _ (by kernel_rfl) ?_
    simp only [List.filterMap_cons, List.filterMap_nil, List.getElem?_toArray, List.getElem?_cons_succ, List.getElem?_cons_zero]
    show wpQuiet _ _ _ _ (_ :: _ :: _ :: _ :: _ :: _ :: _ :: _ :: List.nil) _
    repeat (first | go_big_quiet_skip | (go_big_quiet_want; first | (refine quiet_pick _ _ _ rfl rfl (.bool true) rfl ?_; simp only [Act.put, List.setIfInBounds_toArray, List.set_cons_succ, List.set_cons_zero]; go_big_quiet_on) | (go_big_quiet_op; first | go_big_quiet_on | (refine ⟨_, fun _ _ => rfl, ?_⟩; go_big_quiet_on))))
    refine wpQuiet_nil ?_
    refine anyC_only (i := 15) rfl (by kernel_rfl) hb7' ?_
    go_wp2_with fail
    refine (Same_any A n c (some ⟨g, 0, none⟩) n cc w7 _ _ l lc (by omega) (K2.out _ hb7') (hrc.below hb7')).mono ?_
    rintro e w8 ⟨rfl, hb8⟩
    rw [HD.out]
    have hb8' := hb7'.trans (hb8.mono hb7'.size)
    go_wp2_with fail
    refine anyC_takes (by kernel_rfl) (fun _ _ _ _ _ h => h) [19, 20, 21, 22, 23, 24, 25, 26, 28] 5 _ _ (by kernel_rfl) ?_
    simp only [List.filterMap_cons, List.filterMap_nil, List.getElem?_toArray, List.getElem?_cons_succ, List.getElem?_cons_zero]
    show wpQuiet _ _ _ _ (_ :: _ :: _ :: _ :: _ :: _ :: _ :: _ :: _ :: List.nil) _
    repeat (first | go_big_quiet_skip | (go_big_quiet_want; first | (refine quiet_pick _ _ _ rfl rfl (.bool true) rfl ?_; simp only [Act.put, List.setIfInBounds_toArray, List.set_cons_succ, List.set_cons_zero]; go_big_quiet_on) | (go_big_quiet_op; first | go_big_quiet_on | (refine ⟨_, fun _ _ => rfl, ?_⟩; go_big_quiet_on))))
    refine wpQuiet_nil ?_
    refine anyC_only (i := 27) rfl (by kernel_rfl) hb8' ?_
    go_wp2_with fail
    refine anyC_only (i := 29) rfl (by kernel_rfl) (hb8'.alloc hb8'.size _) ?_
    refine wpList_wanted rfl ?_
    refine app_bytes rfl (.tmp 54) (.tmp 55) rfl w8.heap.size (.slice (some ⟨w8.heap.size, 0, none⟩) 0 0) [] rfl (Own.new_ w8 _ (Nat.le_refl _) [] (by simp) #[] rfl) _ A n c l rfl (K2.out _ (hb8'.alloc hb8'.size _)) (by simp only [List.length_nil]; omega) (by simp) ?_
    intro v9 w9 hown9 hg9 _
    have hb9 : Below w8.heap.size w8 w9 := below_app ((Below.refl _ _).alloc (Nat.le_refl _) _) (Own.new_ w8 _ (Nat.le_refl _) [] (by simp) #[] rfl) (by simp) hg9
    have hb9' := hb8'.trans (hb9.mono hb8'.size)
    clear hg9
    obtain ⟨A9', c9', rfl⟩ := hown9.shape
    have hr9 := hown9.rd
    generalize ([] ++ l).length = m9 at hr9
    rw [List.nil_append] at hr9
    clear hown9
    refine anyC_only (i := 30) rfl (by kernel_rfl) hb9' ?_
    go_wp2_with fail
    refine (Same_any A n c A9' m9 c9' w9 _ _ l l (by omega) (K2.out _ hb9') hr9).mono ?_
    rintro e w10 ⟨rfl, hb10⟩
    rw [decide_eq_true rfl]
    have hb10' := hb9'.trans (hb10.mono hb9'.size)
    go_wp2_with fail
    refine anyC_takes (by kernel_rfl) (fun _ _ _ _ _ h => h) [31, 32] 0 _ _ (by kernel_rfl) ?_
    simp only [List.filterMap_cons, List.filterMap_nil, List.getElem?_toArray, List.getElem?_cons_succ, List.getElem?_cons_zero]
    show wpQuiet _ _ _ _ (_ :: _ :: List.nil) _
    repeat (first | go_big_quiet_skip | (go_big_quiet_want; first | (refine quiet_pick _ _ _ rfl rfl (.bool true) rfl ?_; simp only [Act.put, List.setIfInBounds_toArray, List.set_cons_succ, List.set_cons_zero]; go_big_quiet_on) | (go_big_quiet_op; first | go_big_quiet_on | (refine ⟨_, fun _ _ => rfl, ?_⟩; go_big_quiet_on))))
    refine wpQuiet_nil ?_
    refine ⟨hb10', by kernel_rfl, ?_⟩
    go_wp2
    go_ret
    exact ⟨rfl, hb.trans (hb10'.mono hb.size)⟩
end Go.Proofs.YtkaboebjdjfahaaDoor
