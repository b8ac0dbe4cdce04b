/- The walk of layer 6's law ShaOwn. Conditions: the table of the constants; the slice takes at most the form's own reach. -/
import Derived.Test.YtkaboebjdjfahaaDoorLaw06
import Derived.Test.YtkaboebjdjfahaaDoorAny
namespace Go.Proofs.YtkaboebjdjfahaaDoor
open Go.RowKit
theorem Rd.pre {w : World} {B : Nat} {A : Option Addr} {n m : Nat} {l r : List UInt8} (h : Rd w B A n (l ++ r)) (hm : m = l.length) : Rd w B A m l := by
  subst hm
  have hn := h.len
  refine ⟨by simp, fun h0 => ?_⟩
  obtain ⟨ad, h1, h2, h3⟩ := h.2 (by rw [hn, List.length_append]; omega)
  refine ⟨ad, h1, h2, fun j u hu => h3 j u ?_⟩
  rw [List.map_append, List.getElem?_append_left]
  · exact hu
  · exact (List.getElem?_eq_some_iff.1 hu).1
set_option maxRecDepth 100000 in
set_option maxHeartbeats 1000000 in
theorem ShaOwn_any (A : Option Addr) (n c : Nat) (x : UInt8) (w : World) (l : List UInt8) (hk : Consts w) (hn : n ≤ 140737488351232) (hr : Rd w w.heap.size A n l) :
    Calls Tryd.prog 5 #[.slice A n c, .int .u8 x.toNat] w fun e w' => e = .returned (.bool true) ∧ Below w.heap.size w w' := by
  have hB0 : 0 < w.heap.size := by have := World.block_lt_of_cell? w _ (hk 0 (by omega)); omega
  have HLN := Lib.hid hr.len
  go_enter Tryd.func5, Tryd.ntmps5
  go_wp2_with (first
    | (at_builtin; refine app_bytes rfl (.tmp 7) (.tmp 8) rfl w.heap.size (.slice (some ⟨w.heap.size, 0, none⟩) 0 0) [] rfl (Own.new_ w _ (Nat.le_refl _) [] (by simp) #[] rfl) _ A n c l rfl (hr.alloc (Nat.le_refl _) _) (by simp only [List.length_nil]; omega) (by simp) ?_; intro v1 w1 hown1 hg1 _)
    | (at_builtin; refine app_bytes rfl (.tmp 9) (.tmp 11) rfl w.heap.size v1 _ rfl (hown1.alloc _) (w1.heap.size + 1) _ 10 10 [x, 7, 7, 7, 7, 7, 7, 7, 7, 7] rfl (Rd.new_ w1 [x, 7, 7, 7, 7, 7, 7, 7, 7, 7] _ rfl 10 rfl) (by have := HLN.out; simp; omega) (by have := hg1.size; simp at this ⊢; omega) ?_; intro v2 w2 hown2 hg2 _)
    | fail)
  have hb1 : Below w.heap.size w w1 := below_app ((Below.refl _ _).alloc (Nat.le_refl _) _) (Own.new_ w _ (Nat.le_refl _) [] (by simp) #[] rfl) (by simp) hg1
  have hb2 := below_app (hb1.alloc hb1.size _) (hown1.alloc _) (by have := hb1.size; simp; omega) hg2
  clear hg1 hg2 hown1
  rw [List.nil_append] at hown2
  have hle2 : (l ++ [x, 7, 7, 7, 7, 7, 7, 7, 7, 7]).length = n + 10 := by have := HLN.out; simp; omega
  obtain ⟨g, cc, cur, rfl, hg, hcur, hcc, hcell⟩ := hown2.blk (by omega)
  rw [hle2] at hcc
  rw [hle2]
  have hnc : n ≤ cc := by omega
  have hcc0 : ¬ cc = 0 := by omega
  have hsl : ∀ W : World, Sem.run Tryd.prog (Instr.slice 22 (.slice (some ⟨g, 0, none⟩) (n + 10) cc) none (some (.int .i64 n)) none) W = .ok (.slice (some ⟨g, 0, none⟩) n cc) W := by
    intro W
    rw [run_slice_h W 22 _ _ _ (by kernel_rfl) .i64 n (by omega) (by omega)]
    simp [go_sem, sliced, hcc0]
  go_wp2_with fail
  simp only [hsl, Result.andThen, Oper.upon]
  have hsl' : ∀ W : World, Sem.run Tryd.prog (Instr.sliceAt 22 (.slice (some ⟨g, 0, none⟩) (n + 10) cc) none (some (.int .i64 n)) none) W = .ok (.slice (some ⟨g, 0, none⟩) n cc) W := fun W => (run_sliceAt_slice W _ _ _ _ _ (by kernel_rfl)).trans (hsl W)
  go_wp2_with fail
  have hrc : Rd w2 w2.heap.size (some ⟨g, 0, none⟩) n l := (hown2.rd.pre HLN.out)
  have hk2 := hk.below hb2 hB0
  refine (Sum_any _ n cc w2 l hk2 (by omega) hrc).mono ?_
  rintro e w3 ⟨va, rfl, hoa, hb3⟩
  obtain ⟨A3, c3, rfl⟩ := hoa.shape
  have HE := Lib.hid hoa.rd
  have hC0 : Below w3.heap.size w3 w3.drew := (Below.refl _ _).drew
  have h23 := hb3.size
  have hb03 : Below w.heap.size w w3 := hb2.trans (hb3.mono hb2.size)
  have HC1 : ∀ W, Below w3.heap.size w3 W → Reads W w3.heap.size 1 A3 (sha l).length ((sha l).map B8) := fun W hW => hoa.rd.below hW
  have HC2 : ∀ W, Below w3.heap.size w3 W → Reads W w.heap.size 1 A n (l.map B8) := fun W hW => (hr.below hb03).below (hW.mono hb03.size)
  have HC3 : ∀ W, Below w3.heap.size w3 W → Reads W w2.heap.size 1 (some ⟨g, 0, none⟩) n (l.map B8) := fun W hW => (hrc.below hb3).below (hW.mono h23)
  have HC4 : ∀ W, Below w3.heap.size w3 W → ∀ j, j < n + 10 → W.cell? ⟨g, j, none⟩ = some (.int .u8 ((l ++ [x, 7, 7, 7, 7, 7, 7, 7, 7, 7]).getD j 0).toNat) := fun W hW j hj =>
    (((hcur.below hb3 hcur.lt).below hW (by have := hcur.lt; omega)).cell j).trans (hcell j (by omega))
  have e0 : (l ++ [x, 7, 7, 7, 7, 7, 7, 7, 7, 7]).getD n 0 = x := by rw [HLN.out]; simp [List.getD_eq_getElem?_getD]
  have e9 : (l ++ [x, 7, 7, 7, 7, 7, 7, 7, 7, 7]).getD (n + 9) 0 = 7 := by rw [HLN.out]; simp [List.getD_eq_getElem?_getD]
  have HC5 : ∀ W, Below w3.heap.size w3 W → W.cell? ⟨g, n, none⟩ = some (.int .u8 x.toNat) := fun W hW => (HC4 W hW n (by omega)).trans (by rw [e0])
  have HC6 : ∀ W, Below w3.heap.size w3 W → W.cell? ⟨g, n + 9, none⟩ = some (.int .u8 7) := fun W hW => (HC4 W hW (n + 9) (by omega)).trans (by rw [e9]; rfl)
  have K1 := Lib.hid HC1; have K2 := Lib.hid HC2; have K3 := Lib.hid HC3; have K5 := Lib.hid HC5; have K6 := Lib.hid HC6
  have hk3 : Consts w3 := hk2.below hb3 (by have := hb2.size; omega)
  clear HC1 HC2 HC3 HC4 HC5 HC6 hcell hle2 e0 e9 hown2 hcur HE hoa
  go_wp2_with fail
  refine wp_region_anyN (Below w3.heap.size w3) (by kernel_rfl) ?_
  refine anyC_only (i := 0) rfl (by kernel_rfl) hC0 ?_
  go_wp2_with fail
  refine (answers06_any w3.drew hk3).mono ?_
  rintro e w4 ⟨rfl, hb4⟩
  replace hb4 : Below w3.heap.size w3 w4 := hC0.trans hb4
  go_wp2_with fail
  refine anyC_takes (by kernel_rfl) (fun _ _ _ _ _ h => h) [1, 2, 3, 4] 33 _ _ (by kernel_rfl) ?_
  simp only [List.filterMap_cons, List.filterMap_nil, List.getElem?_toArray, List.getElem?_cons_succ, List.getElem?_cons_zero]
  show wpQuiet _ _ _ _ [_, _, _, _] _
  repeat (first | go_big_quiet_skip | (go_big_quiet_want; first | (refine quiet_str 22 9 5 (.tmp 20) rfl A3 _ c3 (sha l) rfl Tryd.underlying22 Tryd.underlying5 Tryd.underlying9 _ K1.out ?_; simp only [Act.put, List.setIfInBounds_toArray, List.set_cons_succ, List.set_cons_zero]; go_big_quiet_on) | (go_big_quiet_op; first | go_big_quiet_on | (refine ⟨_, fun _ _ => rfl, ?_⟩; go_big_quiet_on))))
  refine wpQuiet_nil ?_
  refine anyC_only (i := 5) rfl (by kernel_rfl) hb4 ?_
  go_wp2_with fail
  have hk4 := hk3.below hb4 (by have := hb2.size; omega)
  refine (Sum_any A n c w4 l hk4 (by omega) ((hr.below (hb03.trans (hb4.mono hb03.size))).more (by have := hb4.size; have := hb03.size; omega))).mono ?_
  rintro e w5 ⟨v5, rfl, ho5, hb5⟩
  have hb35 : Below w3.heap.size w3 w5 := hb4.trans (hb5.mono hb4.size)
  obtain ⟨A5, c5, rfl⟩ := ho5.shape
  go_wp2_with fail
  have hC5 : ∀ W, Below w5.heap.size w5 W → Below w3.heap.size w3 W := fun W hW => hb35.trans (hW.mono hb35.size)
  have K7 := Lib.hid (fun W (hW : Below w5.heap.size w5 W) => ho5.rd.below hW)
  refine anyC_narrow (C' := Below w5.heap.size w5) hC5 _ _ _ _ ?_
  refine anyC_takes (by kernel_rfl) (fun _ _ _ _ _ h => h) [6, 7, 8, 9, 10, 11, 12, 13, 14, 15, 16, 17, 18, 19, 20, 21, 22, 23, 24, 25, 26, 27, 28, 29, 30, 31, 32, 33, 34, 35, 36, 37] 0 _ _ (by kernel_rfl) ?_
  simp only [List.filterMap_cons, List.filterMap_nil, List.getElem?_toArray, List.getElem?_cons_succ, List.getElem?_cons_zero]
  show wpQuiet _ _ _ _ [_, _, _, _, _, _, _, _, _, _, _, _, _, _, _, _, _, _, _, _, _, _, _, _, _, _, _, _, _, _, _, _] _
  repeat (first | go_big_quiet_skip | (go_big_quiet_want; first | (refine quiet_eql_str _ _ _ _ rfl _ rfl rfl ?_; simp only [Act.put, List.setIfInBounds_toArray, List.set_cons_succ, List.set_cons_zero]; go_big_quiet_on) | (refine quiet_pick _ _ _ rfl rfl (.bool true) rfl ?_; simp only [Act.put, List.setIfInBounds_toArray, List.set_cons_succ, List.set_cons_zero]; go_big_quiet_on) | (refine quiet_str 22 9 5 (.tmp 23) rfl A5 _ c5 (sha l) rfl Tryd.underlying22 Tryd.underlying5 Tryd.underlying9 _ K7.out ?_; simp only [Act.put, List.setIfInBounds_toArray, List.set_cons_succ, List.set_cons_zero]; go_big_quiet_on) | (refine quiet_str 22 9 5 (.tmp 31) rfl (some ⟨g, 0, none⟩) n cc l rfl Tryd.underlying22 Tryd.underlying5 Tryd.underlying9 _ (fun W hW => K3.out W (hC5 W hW)) ?_; simp only [Act.put, List.setIfInBounds_toArray, List.set_cons_succ, List.set_cons_zero]; go_big_quiet_on) | (refine quiet_str 22 9 5 (.tmp 33) rfl A n c l rfl Tryd.underlying22 Tryd.underlying5 Tryd.underlying9 _ (fun W hW => K2.out W (hC5 W hW)) ?_; simp only [Act.put, List.setIfInBounds_toArray, List.set_cons_succ, List.set_cons_zero]; go_big_quiet_on) | (refine quiet_slice_h 22 (.tmp 28) (.tmp 30) rfl (some ⟨g, 0, none⟩) (n + 10) cc n rfl rfl hsl' ?_; simp only [Act.put, List.setIfInBounds_toArray, List.set_cons_succ, List.set_cons_zero]; go_big_quiet_on) | (refine quiet_load 5 (.tmp 41) rfl ⟨g, n, none⟩ rfl _ (fun W hW => K5.out W (hC5 W hW)) (fun _ => by kernel_rfl) ?_; simp only [Act.put, List.setIfInBounds_toArray, List.set_cons_succ, List.set_cons_zero]; go_big_quiet_on) | (refine quiet_load 5 (.tmp 51) rfl ⟨g, n + 9, none⟩ rfl _ (fun W hW => K6.out W (hC5 W hW)) (fun _ => by kernel_rfl) ?_; simp only [Act.put, List.setIfInBounds_toArray, List.set_cons_succ, List.set_cons_zero]; go_big_quiet_on) | (go_big_quiet_op; first | go_big_quiet_on | (refine ⟨_, fun _ _ => rfl, ?_⟩; go_big_quiet_on))))
  refine wpQuiet_nil ?_
  refine ⟨Below.refl _ _, by kernel_rfl, ?_⟩
  go_wp2
  go_ret
  exact ⟨rfl, hb03.trans (hb35.mono hb03.size)⟩
end Go.Proofs.YtkaboebjdjfahaaDoor
