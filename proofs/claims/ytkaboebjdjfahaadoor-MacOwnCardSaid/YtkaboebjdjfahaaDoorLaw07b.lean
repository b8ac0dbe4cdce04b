/- The walk of layer 7's law MacOwn. Conditions: the table of the constants; the slices take at most the form's own reach. -/
import Derived.Test.YtkaboebjdjfahaaDoorLaw07
import Derived.Test.YtkaboebjdjfahaaDoorLaw06b
namespace Go.Proofs.YtkaboebjdjfahaaDoor
open Go.RowKit
set_option maxRecDepth 100000 in
set_option maxHeartbeats 2000000 in
theorem MacOwn_any (A : Option Addr) (n c : Nat) (A2 : Option Addr) (n2 c2 : Nat) (w : World) (l b : List UInt8) (hk : Consts w) (hn : n ≤ 140737488351232) (hn2 : n2 ≤ 140737488351232) (hr : Rd w w.heap.size A n l) (hr2 : Rd w w.heap.size A2 n2 b) :
    Calls Tryd.prog 9 #[.slice A n c, .slice A2 n2 c2] w fun e w' => e = .returned (.bool true) ∧ Below w.heap.size w w' := by
  have hB0 : 0 < w.heap.size := by have := World.block_lt_of_cell? w _ (hk 0 (by omega)); omega
  have HL := Lib.hid hr.len
  have HL2 := Lib.hid hr2.len
  go_enter Tryd.func9, Tryd.ntmps9
  go_wp2_with (first
    | (at_builtin; refine app_bytes rfl (.tmp 8) (.tmp 9) rfl w.heap.size (.slice (some ⟨w.heap.size, 0, none⟩) 0 0) [] rfl (Own.new_ w _ (Nat.le_refl _) [] (by simp) #[] rfl) _ A n c l rfl (hr.alloc (Nat.le_refl _) _) (by simp only [List.length_nil]; omega) (by simp) ?_; intro v1 w1 hown1 hg1 _)
    | (at_builtin; refine app_bytes rfl (.tmp 10) (.tmp 11) rfl w.heap.size v1 _ rfl (hown1.alloc _) (w1.heap.size + 1) _ 2 2 [7, 7] rfl (Rd.new_ w1 [7, 7] _ rfl 2 rfl) (by have := HL.out; simp; omega) (by have := hg1.size; simp at this ⊢; omega) ?_; intro v2 w2 hown2 hg2 _)
    | (at_builtin; refine app_bytes rfl (.tmp 13) (.tmp 14) rfl w2.heap.size (.slice (some ⟨w2.heap.size, 0, none⟩) 0 0) [] rfl (Own.new_ w2 _ (Nat.le_refl _) [] (by simp) #[] rfl) w.heap.size A2 n2 c2 b rfl (by have hb1 : Below w.heap.size w w1 := below_app ((Below.refl _ _).alloc (Nat.le_refl _) _) (Own.new_ w _ (Nat.le_refl _) [] (by simp) #[] rfl) (by simp) hg1; have hb2 := below_app (hb1.alloc hb1.size _) (hown1.alloc _) (by have := hb1.size; simp; omega) hg2; exact hr2.below (hb2.alloc hb2.size _)) (by simp only [List.length_nil]; omega) (by simp) ?_; intro v3 w3 hown3 hg3 _)
    | (at_builtin; refine app_bytes rfl (.tmp 15) (.tmp 16) rfl w2.heap.size v3 _ rfl (hown3.alloc _) (w3.heap.size + 1) _ 2 2 [8, 8] rfl (Rd.new_ w3 [8, 8] _ rfl 2 rfl) (by have := HL2.out; simp; omega) (by have := hg3.size; simp at this ⊢; omega) ?_; intro v4 w4 hown4 hg4 _)
    | fail)
  have hb1 : Below w.heap.size w w1 := below_app ((Below.refl _ _).alloc (Nat.le_refl _) _) (Own.new_ w _ (Nat.le_refl _) [] (by simp) #[] rfl) (by simp) hg1
  have hb2 := below_app (hb1.alloc hb1.size _) (hown1.alloc _) (by have := hb1.size; simp; omega) hg2
  have hb3 : Below w2.heap.size w2 w3 := below_app ((Below.refl _ _).alloc (Nat.le_refl _) _) (Own.new_ w2 _ (Nat.le_refl _) [] (by simp) #[] rfl) (by simp) hg3
  have hb4 : Below w2.heap.size w2 w4 := below_app (hb3.alloc hb3.size _) (hown3.alloc _) (by have := hb3.size; simp; omega) hg4
  have hown2' := hown2.below hb4
  clear hg1 hg2 hg3 hg4 hown1 hown2 hown3
  rw [List.nil_append] at hown2' hown4
  have hle2 : (l ++ [7, 7]).length = n + 2 := by have := HL.out; simp; omega
  have hle4 : (b ++ [8, 8]).length = n2 + 2 := by have := HL2.out; simp; omega
  obtain ⟨g, cc, cur, rfl, hg, hcur, hcc, hcell⟩ := hown2'.blk (by omega)
  obtain ⟨g2, cc2, cur2, rfl, hg', hcur2, hcc2, hcell2⟩ := hown4.blk (by omega)
  have hb04 : Below w.heap.size w w4 := hb2.trans (hb4.mono hb2.size)
  rw [hle2] at hcc hown2' ⊢
  rw [hle4] at hcc2 hown4 ⊢
  have hcc0 : ¬ cc = 0 := by omega
  have hcc20 : ¬ cc2 = 0 := by omega
  have hsl1 : ∀ W : World, Sem.run Tryd.prog (Instr.sliceAt 22 (.slice (some ⟨g, 0, none⟩) (n + 2) cc) none (some (.int .i64 n)) none) W = .ok (.slice (some ⟨g, 0, none⟩) n cc) W := by
    intro W
    rw [run_sliceAt_slice W _ _ _ _ _ (by kernel_rfl), run_slice_h W 22 _ _ _ (by kernel_rfl) .i64 n (by omega) (by omega)]
    simp [go_sem, sliced, hcc0]
  have hsl2 : ∀ W : World, Sem.run Tryd.prog (Instr.sliceAt 22 (.slice (some ⟨g2, 0, none⟩) (n2 + 2) cc2) none (some (.int .i64 n2)) none) W = .ok (.slice (some ⟨g2, 0, none⟩) n2 cc2) W := by
    intro W
    rw [run_sliceAt_slice W _ _ _ _ _ (by kernel_rfl), run_slice_h W 22 _ _ _ (by kernel_rfl) .i64 n2 (by omega) (by omega)]
    simp [go_sem, sliced, hcc20]
  have hrc : Rd w4 w4.heap.size (some ⟨g, 0, none⟩) n l := (hown2'.rd.pre HL.out)
  have hrc2 : Rd w4 w4.heap.size (some ⟨g2, 0, none⟩) n2 b := (hown4.rd.pre HL2.out)
  go_wp2_with fail
  refine wp_region_anyN (Below w4.heap.size w4) (by kernel_rfl) ?_
  refine anyC_takes (by kernel_rfl) (fun _ _ _ _ _ h => h) [0, 1, 2, 3, 4, 5, 6, 7] 2 _ _ (by kernel_rfl) ?_
  simp only [List.filterMap_cons, List.filterMap_nil, List.getElem?_toArray, List.getElem?_cons_succ, List.getElem?_cons_zero]
  show wpQuiet _ _ _ _ (_ :: _ :: _ :: _ :: _ :: _ :: _ :: _ :: List.nil) _
  repeat (first | go_big_quiet_skip | (go_big_quiet_want; first | (refine quiet_slice_h 22 (.tmp 18) (.tmp 20) rfl (some ⟨g, 0, none⟩) (n + 2) cc n rfl rfl hsl1 ?_; simp only [Act.put, List.setIfInBounds_toArray, List.set_cons_succ, List.set_cons_zero]; go_big_quiet_on) | (refine quiet_slice_h 22 (.tmp 22) (.tmp 24) rfl (some ⟨g2, 0, none⟩) (n2 + 2) cc2 n2 rfl rfl hsl2 ?_; simp only [Act.put, List.setIfInBounds_toArray, List.set_cons_succ, List.set_cons_zero]; go_big_quiet_on) | (go_big_quiet_op; first | go_big_quiet_on | (refine ⟨_, fun _ _ => rfl, ?_⟩; go_big_quiet_on))))
  refine wpQuiet_nil ?_
  have hC0 : Below w4.heap.size w4 w4.drew := (Below.refl _ _).drew
  have hk4 : Consts w4 := hk.below hb04 hB0
  refine anyC_only (i := 8) rfl (by kernel_rfl) hC0 ?_
  go_wp2_with fail
  refine (Mac_any (some ⟨g, 0, none⟩) n cc (some ⟨g2, 0, none⟩) n2 cc2 w4.drew l b hk4 (by omega) hn2 hrc hrc2).mono ?_
  rintro e w5 ⟨v5, rfl, ho5, hb5⟩
  replace hb5 : Below w4.heap.size w4 w5 := hC0.trans hb5
  obtain ⟨A5, c5, rfl⟩ := ho5.shape
  go_wp2_with fail
  refine anyC_takes (by kernel_rfl) (fun _ _ _ _ _ h => h) [9] 0 _ _ (by kernel_rfl) ?_
  simp only [List.filterMap_cons, List.filterMap_nil, List.getElem?_toArray, List.getElem?_cons_succ, List.getElem?_cons_zero]
  show wpQuiet _ _ _ _ (_ :: List.nil) _
  repeat (first | go_big_quiet_skip | (go_big_quiet_want; first | (go_big_quiet_op; first | go_big_quiet_on | (refine ⟨_, fun _ _ => rfl, ?_⟩; go_big_quiet_on))))
  refine wpQuiet_nil ?_
  refine ⟨hb5, by kernel_rfl, ?_⟩
  have hb05 : Below w.heap.size w w5 := hb04.trans (hb5.mono hb04.size)
  have hsz45 := hb5.size
  have hC5 : Below w5.heap.size w5 w5.drew := (Below.refl _ _).drew
  have e7 : (l ++ [7, 7]).getD n 0 = (7 : UInt8) := by rw [HL.out]; simp [List.getD_eq_getElem?_getD]
  have e8 : (b ++ [8, 8]).getD (n2 + 1) 0 = (8 : UInt8) := by rw [HL2.out]; simp [List.getD_eq_getElem?_getD]
  have K1 := Lib.hid (fun W (hW : Below w5.heap.size w5 W) => ho5.rd.below hW)
  have K2 := Lib.hid (fun W (hW : Below w5.heap.size w5 W) => (hr.below hb05).below (hW.mono hb05.size))
  have K4 := Lib.hid (fun W (hW : Below w5.heap.size w5 W) => (hr2.below hb05).below (hW.mono hb05.size))
  have K3 := Lib.hid (fun W (hW : Below w5.heap.size w5 W) => (hrc.below hb5).below (hW.mono hsz45))
  have K5 := Lib.hid (fun W (hW : Below w5.heap.size w5 W) => (hrc2.below hb5).below (hW.mono hsz45))
  have K8 := Lib.hid (fun W (hW : Below w5.heap.size w5 W) => (show W.cell? ⟨g, n, none⟩ = some (.int .u8 7) from (((hcur.below hb5 hcur.lt).below hW (by have := hcur.lt; omega)).cell n).trans ((hcell n (by omega)).trans (by rw [e7]; rfl))))
  have K9 := Lib.hid (fun W (hW : Below w5.heap.size w5 W) => (show W.cell? ⟨g2, n2 + 1, none⟩ = some (.int .u8 8) from (((hcur2.below hb5 hcur2.lt).below hW (by have := hcur2.lt; omega)).cell (n2 + 1)).trans ((hcell2 (n2 + 1) (by omega)).trans (by rw [e8]; rfl))))
  have hk5 : Consts w5 := hk4.below hb5 (by have := hb04.size; omega)
  clear hcell hcell2 hle2 hle4 e7 e8 hown2' hown4 hcur hcur2 ho5
  go_wp2_with fail
  refine wp_region_anyN (Below w5.heap.size w5) (by kernel_rfl) ?_
  refine anyC_only (i := 0) rfl (by kernel_rfl) hC5 ?_
  go_wp2_with fail
  refine (answers07_any w5.drew hk5).mono ?_
  rintro e w6 ⟨rfl, hb6⟩
  replace hb6 : Below w5.heap.size w5 w6 := hC5.trans hb6
  go_wp2_with fail
  refine anyC_takes (by kernel_rfl) (fun _ _ _ _ _ h => h) [1, 2, 3, 4, 5] 42 _ _ (by kernel_rfl) ?_
  simp only [List.filterMap_cons, List.filterMap_nil, List.getElem?_toArray, List.getElem?_cons_succ, List.getElem?_cons_zero]
  show wpQuiet _ _ _ _ (_ :: _ :: _ :: _ :: _ :: List.nil) _
  repeat (first | go_big_quiet_skip | (go_big_quiet_want; first | (refine quiet_str 22 9 5 (.tmp 29) rfl A5 _ c5 (mac l b) rfl Tryd.underlying22 Tryd.underlying5 Tryd.underlying9 _ K1.out ?_; simp only [Act.put, List.setIfInBounds_toArray, List.set_cons_succ, List.set_cons_zero]; go_big_quiet_on) | (go_big_quiet_op; first | go_big_quiet_on | (refine ⟨_, fun _ _ => rfl, ?_⟩; go_big_quiet_on))))
  refine wpQuiet_nil ?_
  refine anyC_only (i := 6) rfl (by kernel_rfl) hb6 ?_
  go_wp2_with fail
  have hb06 : Below w.heap.size w w6 := hb05.trans (hb6.mono hb05.size)
  have hk6 := hk.below hb06 hB0
  refine (Mac_any A n c A2 n2 c2 w6 l b hk6 (by omega) hn2 ((hr.below hb06).more hb06.size) ((hr2.below hb06).more hb06.size)).mono ?_
  rintro e w7 ⟨v7, rfl, ho7, hb7⟩
  have hb57 : Below w5.heap.size w5 w7 := hb6.trans (hb7.mono hb6.size)
  obtain ⟨A6, c6, rfl⟩ := ho7.shape
  go_wp2_with fail
  have hC6 : ∀ W, Below w7.heap.size w7 W → Below w5.heap.size w5 W := fun W hW => hb57.trans (hW.mono hb57.size)
  have K7 := Lib.hid (fun W (hW : Below w7.heap.size w7 W) => ho7.rd.below hW)
  refine anyC_narrow (C' := Below w7.heap.size w7) hC6 _ _ _ _ ?_
  refine anyC_takes (by kernel_rfl) (fun _ _ _ _ _ h => h) [7, 8, 9, 10, 11, 12, 13, 14, 15, 16, 17, 18, 19, 20, 21, 22, 23, 24, 25, 26, 27, 28, 29, 30, 31, 32, 33, 34, 35, 36, 37, 38, 39, 40, 41, 42, 43, 44, 45, 46, 47] 0 _ _ (by kernel_rfl) ?_
  simp only [List.filterMap_cons, List.filterMap_nil, List.getElem?_toArray, List.getElem?_cons_succ, List.getElem?_cons_zero]
  show wpQuiet _ _ _ _ (_ :: _ :: _ :: _ :: _ :: _ :: _ :: _ :: _ :: _ :: _ :: _ :: _ :: _ :: _ :: _ :: _ :: _ :: _ :: _ :: _ :: _ :: _ :: _ :: _ :: _ :: _ :: _ :: _ :: _ :: _ :: _ :: _ :: _ :: _ :: _ :: _ :: _ :: _ :: _ :: _ :: List.nil) _
  repeat (first | go_big_quiet_skip | (go_big_quiet_want; first | (refine quiet_eql_str _ _ _ _ rfl _ rfl rfl ?_; simp only [Act.put, List.setIfInBounds_toArray, List.set_cons_succ, List.set_cons_zero]; go_big_quiet_on) | (refine quiet_pick _ _ _ rfl rfl (.bool true) rfl ?_; simp only [Act.put, List.setIfInBounds_toArray, List.set_cons_succ, List.set_cons_zero]; go_big_quiet_on) | (refine quiet_str 22 9 5 (.tmp 33) rfl A6 _ c6 (mac l b) rfl Tryd.underlying22 Tryd.underlying5 Tryd.underlying9 _ K7.out ?_; simp only [Act.put, List.setIfInBounds_toArray, List.set_cons_succ, List.set_cons_zero]; go_big_quiet_on) | (refine quiet_str 22 9 5 (.tmp 41) rfl (some ⟨g, 0, none⟩) n cc l rfl Tryd.underlying22 Tryd.underlying5 Tryd.underlying9 _ (fun W hW => K3.out W (hC6 W hW)) ?_; simp only [Act.put, List.setIfInBounds_toArray, List.set_cons_succ, List.set_cons_zero]; go_big_quiet_on) | (refine quiet_str 22 9 5 (.tmp 43) rfl A n c l rfl Tryd.underlying22 Tryd.underlying5 Tryd.underlying9 _ (fun W hW => K2.out W (hC6 W hW)) ?_; simp only [Act.put, List.setIfInBounds_toArray, List.set_cons_succ, List.set_cons_zero]; go_big_quiet_on) | (refine quiet_str 22 9 5 (.tmp 51) rfl (some ⟨g2, 0, none⟩) n2 cc2 b rfl Tryd.underlying22 Tryd.underlying5 Tryd.underlying9 _ (fun W hW => K5.out W (hC6 W hW)) ?_; simp only [Act.put, List.setIfInBounds_toArray, List.set_cons_succ, List.set_cons_zero]; go_big_quiet_on) | (refine quiet_str 22 9 5 (.tmp 53) rfl A2 n2 c2 b rfl Tryd.underlying22 Tryd.underlying5 Tryd.underlying9 _ (fun W hW => K4.out W (hC6 W hW)) ?_; simp only [Act.put, List.setIfInBounds_toArray, List.set_cons_succ, List.set_cons_zero]; go_big_quiet_on) | (refine quiet_slice_h 22 (.tmp 38) (.tmp 40) rfl (some ⟨g, 0, none⟩) (n + 2) cc n rfl rfl hsl1 ?_; simp only [Act.put, List.setIfInBounds_toArray, List.set_cons_succ, List.set_cons_zero]; go_big_quiet_on) | (refine quiet_slice_h 22 (.tmp 48) (.tmp 50) rfl (some ⟨g2, 0, none⟩) (n2 + 2) cc2 n2 rfl rfl hsl2 ?_; simp only [Act.put, List.setIfInBounds_toArray, List.set_cons_succ, List.set_cons_zero]; go_big_quiet_on) | (refine quiet_load 5 (.tmp 61) rfl ⟨g, n, none⟩ rfl _ (fun W hW => K8.out W (hC6 W hW)) (fun _ => by kernel_rfl) ?_; simp only [Act.put, List.setIfInBounds_toArray, List.set_cons_succ, List.set_cons_zero]; go_big_quiet_on) | (refine quiet_load 5 (.tmp 70) rfl ⟨g2, n2 + 1, none⟩ rfl _ (fun W hW => K9.out W (hC6 W hW)) (fun _ => by kernel_rfl) ?_; simp only [Act.put, List.setIfInBounds_toArray, List.set_cons_succ, List.set_cons_zero]; go_big_quiet_on) | (go_big_quiet_op; first | go_big_quiet_on | (refine ⟨_, fun _ _ => rfl, ?_⟩; go_big_quiet_on))))
  refine wpQuiet_nil ?_
  refine ⟨Below.refl _ _, by kernel_rfl, ?_⟩
  go_wp2
  go_ret
  exact ⟨rfl, hb05.trans (hb57.mono hb05.size)⟩
end Go.Proofs.YtkaboebjdjfahaaDoor
