/- The walk of layer 7's law MacMarks. Conditions: the table of the constants; the slices take at most the form's own reach. -/
import Derived.Test.YtkaboebjdjfahaaDoorLaw07
import Derived.Test.YtkaboebjdjfahaaDoorAny
import Derived.Test.YtkaboebjdjfahaaDoorRefMac
namespace Go.Proofs.YtkaboebjdjfahaaDoor
open Go.RowKit
set_option maxRecDepth 100000 in
set_option maxHeartbeats 1000000 in
theorem MacMarks_any (A : Option Addr) (n c : Nat) (A2 : Option Addr) (n2 c2 : Nat) (w : World) (l b : List UInt8) (hk : Consts w) (hn : n ≤ 140737488351232) (hn2 : n2 ≤ 140737488351232) (hr : Rd w w.heap.size A n l) (hr2 : Rd w w.heap.size A2 n2 b) :
    Calls Tryd.prog 6 #[.slice A n c, .slice A2 n2 c2] w fun e w' => e = .returned (.bool true) ∧ Below w.heap.size w w' := by
  have hB0 : 0 < w.heap.size := by have := World.block_lt_of_cell? w _ (hk 0 (by omega)); omega
  go_enter Tryd.func6, Tryd.ntmps6
  have hC0 : Below w.heap.size w w.drew := (Below.refl _ _).drew
  go_wp2_with fail
  refine wp_region_anyN (Below w.heap.size w) (by kernel_rfl) ?_
  refine anyC_only (i := 0) rfl (by kernel_rfl) hC0 ?_
  go_wp2_with fail
  refine (answers07_any w.drew hk).mono ?_
  rintro e w4 ⟨rfl, hb4⟩
  replace hb4 : Below w.heap.size w w4 := hC0.trans hb4
  go_wp2_with fail
  refine anyC_takes (by kernel_rfl) (fun _ _ _ _ _ h => h) [1, 2, 3, 6, 7] 7 _ _ (by kernel_rfl) ?_
  simp only [List.filterMap_cons, List.filterMap_nil, List.getElem?_toArray, List.getElem?_cons_succ, List.getElem?_cons_zero]
  show wpQuiet _ _ _ _ (_ :: _ :: _ :: _ :: _ :: List.nil) _
  repeat (first | go_big_quiet_skip | (go_big_quiet_want; first | (fail; simp only [Act.put, List.setIfInBounds_toArray, List.set_cons_succ, List.set_cons_zero]; go_big_quiet_on) | (go_big_quiet_op; first | go_big_quiet_on | (refine ⟨_, fun _ _ => rfl, ?_⟩; go_big_quiet_on))))
  refine wpQuiet_nil ?_
  refine anyC_only (i := 4) rfl (by kernel_rfl) hb4 ?_
  go_wp2_with fail
  have hk4 := hk.below hb4 hB0
  refine (Mac_any A n c A2 n2 c2 w4 l b hk4 (by omega) (by omega) ((hr.below hb4).more hb4.size) ((hr2.below hb4).more hb4.size)).mono ?_
  rintro e w5 ⟨v5, rfl, ho5, hb5⟩
  have hb05 : Below w.heap.size w w5 := hb4.trans (hb5.mono hb4.size)
  obtain ⟨A5, c5, rfl⟩ := ho5.shape
  go_wp2_with fail
  have hC5 : ∀ W, Below w5.heap.size w5 W → Below w.heap.size w W := fun W hW => hb05.trans (hW.mono hb05.size)
  have K5 := Lib.hid (fun W (hW : Below w5.heap.size w5 W) => ho5.rd.below hW)
  refine anyC_narrow (C' := Below w5.heap.size w5) hC5 _ _ _ _ ?_
  refine anyC_takes (by kernel_rfl) (fun _ _ _ _ _ h => h) [5] 5 _ _ (by kernel_rfl) ?_
  simp only [List.filterMap_cons, List.filterMap_nil, List.getElem?_toArray, List.getElem?_cons_succ, List.getElem?_cons_zero]
  show wpQuiet _ _ _ _ (_ :: List.nil) _
  repeat (first | go_big_quiet_skip | (go_big_quiet_want; first | (refine quiet_str 22 9 5 (.tmp 9) rfl A5 _ c5 (mac l b) rfl Tryd.underlying22 Tryd.underlying5 Tryd.underlying9 _ K5.out ?_; simp only [Act.put, List.setIfInBounds_toArray, List.set_cons_succ, List.set_cons_zero]; go_big_quiet_on) | (go_big_quiet_op; first | go_big_quiet_on | (refine ⟨_, fun _ _ => rfl, ?_⟩; go_big_quiet_on))))
  refine wpQuiet_nil ?_
  refine anyC_only (i := 8) rfl (by kernel_rfl) (Below.refl _ _) ?_
  go_wp2_with fail
  refine (RefMac_any A n c A2 n2 c2 w5 l b hn hn2 ((hr.below hb05).more hb05.size) ((hr2.below hb05).more hb05.size)).mono ?_
  rintro e w6 ⟨v6, rfl, ho6, hb6⟩
  obtain ⟨A6, c6, rfl⟩ := ho6.shape
  go_wp2_with fail
  have hC6 : ∀ W, Below w6.heap.size w6 W → Below w5.heap.size w5 W := fun W hW => hb6.trans (hW.mono hb6.size)
  have K6 := Lib.hid (fun W (hW : Below w6.heap.size w6 W) => ho6.rd.below hW)
  refine anyC_narrow (C' := Below w6.heap.size w6) hC6 _ _ _ _ ?_
  refine anyC_takes (by kernel_rfl) (fun _ _ _ _ _ h => h) [9, 10, 11, 12] 0 _ _ (by kernel_rfl) ?_
  simp only [List.filterMap_cons, List.filterMap_nil, List.getElem?_toArray, List.getElem?_cons_succ, List.getElem?_cons_zero]
  show wpQuiet _ _ _ _ (_ :: _ :: _ :: _ :: List.nil) _
  repeat (first | go_big_quiet_skip | (go_big_quiet_want; first | (refine quiet_eql_str _ _ _ _ rfl _ rfl rfl ?_; simp only [Act.put, List.setIfInBounds_toArray, List.set_cons_succ, List.set_cons_zero]; go_big_quiet_on) | (refine quiet_pick _ _ _ rfl rfl (.bool true) rfl ?_; simp only [Act.put, List.setIfInBounds_toArray, List.set_cons_succ, List.set_cons_zero]; go_big_quiet_on) | (refine quiet_str 22 9 5 (.tmp 13) rfl A6 _ c6 (mac l b) rfl Tryd.underlying22 Tryd.underlying5 Tryd.underlying9 _ K6.out ?_; simp only [Act.put, List.setIfInBounds_toArray, List.set_cons_succ, List.set_cons_zero]; go_big_quiet_on) | (go_big_quiet_op; first | go_big_quiet_on | (refine ⟨_, fun _ _ => rfl, ?_⟩; go_big_quiet_on))))
  refine wpQuiet_nil ?_
  refine ⟨Below.refl _ _, by kernel_rfl, ?_⟩
  go_wp2
  go_ret
  exact ⟨rfl, hb05.trans (hb6.mono hb05.size)⟩
end Go.Proofs.YtkaboebjdjfahaaDoor
