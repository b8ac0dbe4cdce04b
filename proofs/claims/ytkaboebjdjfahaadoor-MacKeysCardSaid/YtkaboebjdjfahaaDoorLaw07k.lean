/- The walk of layer 7's law MacKeys. Conditions: the table of the constants; the slices take at most the form's own reach. -/
import Derived.Test.YtkaboebjdjfahaaDoorLaw07a
import Derived.Test.YtkaboebjdjfahaaDoorZeros
namespace Go.Proofs.YtkaboebjdjfahaaDoor
open Go.RowKit
theorem mac_key (l1 l2 b : List UInt8) (h : keyOf l1 = keyOf l2) : mac l1 b = mac l2 b := by unfold mac; rw [h]
theorem mac_long (l b : List UInt8) (h : 64 < l.length) : mac l b = mac (sha l) b := by
  unfold mac keyOf
  rw [if_pos h, if_neg (by rw [sha_len]; omega)]
theorem mac_fill (l b : List UInt8) (h : l.length ≤ 63) : mac l b = mac (l ++ [0]) b := by
  have hp : ∀ y, padk l y = padk (l ++ [0]) y := by
    intro y
    unfold padk
    apply List.map_congr_left
    intro j _
    congr 1
    simp only [List.getD_eq_getElem?_getD]
    by_cases hj : j < l.length
    · rw [List.getElem?_append_left hj]
    · rw [List.getElem?_append_right (by omega), List.getElem?_eq_none (by omega)]
      by_cases h0 : j - l.length = 0
      · rw [h0]; rfl
      · rw [List.getElem?_eq_none (by simp; omega)]
  unfold mac keyOf
  rw [if_neg (by omega), if_neg (by simp; omega), hp, hp]
set_option maxRecDepth 100000 in
set_option maxHeartbeats 2000000 in
theorem MacKeys_any (A : Option Addr) (n c : Nat) (A2 : Option Addr) (n2 c2 : Nat) (w : World) (l b : List UInt8) (hk : Consts w) (hn : n ≤ 140737488351232) (hn2 : n2 ≤ 140737488351232) (hr : Rd w w.heap.size A n l) (hr2 : Rd w w.heap.size A2 n2 b) :
    Calls Tryd.prog 7 #[.slice A n c, .slice A2 n2 c2] w fun e w' => e = .returned (.bool true) ∧ Below w.heap.size w w' := by
  have hB0 : 0 < w.heap.size := by have := World.block_lt_of_cell? w _ (hk 0 (by omega)); omega
  have HL := Lib.hid hr.len
  by_cases h63 : 63 < n
  · have h63' : (n : Int) > 63 := by omega
    go_enter Tryd.func7, Tryd.ntmps7
    go_wp2_with (first
      | (at_builtin; refine app_bytes rfl (.tmp 7) (.tmp 8) rfl w.heap.size (.slice (some ⟨w.heap.size, 0, none⟩) 0 0) [] rfl (Own.new_ w _ (Nat.le_refl _) [] (by simp) #[] rfl) _ A n c l rfl (hr.alloc (Nat.le_refl _) _) (by simp only [List.length_nil]; omega) (by simp) ?_; intro v1 w1 hown1 hg1 _)
      | (at_builtin; refine app_zeros rfl (.tmp 9) 65 rfl w.heap.size v1 _ rfl hown1 (by omega) (by have := HL.out; simp; omega) (by have := hg1.size; simp at this; omega) ?_; intro v2 w2 hown2 hg2)
      | fail)
    have hb1 : Below w.heap.size w w1 := below_app ((Below.refl _ _).alloc (Nat.le_refl _) _) (Own.new_ w _ (Nat.le_refl _) [] (by simp) #[] rfl) (by simp) hg1
    have hzw2 : Below w.heap.size w w2 := below_app hb1 hown1 hb1.size hg2
    clear hg1 hg2 hown1
    rw [List.nil_append] at hown2
    have hlL : (l ++ List.replicate 65 (0 : UInt8)).length = n + 65 := by rw [List.length_append, List.length_replicate, ← HL.out]
    generalize l ++ List.replicate 65 (0 : UInt8) = L at hown2 hlL
    obtain ⟨AL, cL, rfl⟩ := hown2.shape
    have hrL := hown2.rd
    rw [hlL] at hrL ⊢
    have hlong := mac_long L b (by omega)
    have HLO := Lib.hid hlong; clear hlong hown2 hlL
    have hm0 : Below w2.heap.size w2 w2.drew := (Below.refl _ _).drew
    go_wp2_with fail
    refine wp_region_anyN (Below w2.heap.size w2) (by kernel_rfl) ?_
    refine anyC_only (i := 0) rfl (by kernel_rfl) hm0 ?_
    go_wp2_with fail
    refine (answers07_any w2.drew (show Consts w2 from hk.below hzw2 hB0)).mono ?_
    rintro e y0 ⟨rfl, hb0⟩
    have hmy0 : Below w2.heap.size w2 y0 := hm0.trans hb0
    have hzy0 : Below w.heap.size w y0 := hzw2.trans (hmy0.mono hzw2.size)
    go_wp2_with fail
    refine anyC_takes (by kernel_rfl) (fun _ _ _ _ _ h => h) [1, 2, 3, 6, 8] 8 _ _ (by kernel_rfl) ?_
    simp only [List.filterMap_cons, List.filterMap_nil, List.getElem?_toArray, List.getElem?_cons_succ, List.getElem?_cons_zero]
    show wpQuiet _ _ _ _ (_ :: _ :: _ :: _ :: _ :: List.nil) _
    repeat (first | go_big_quiet_skip | (go_big_quiet_want; first | (fail; simp only [Act.put, List.setIfInBounds_toArray, List.set_cons_succ, List.set_cons_zero]; go_big_quiet_on) | (go_big_quiet_op; first | go_big_quiet_on | (refine ⟨_, fun _ _ => rfl, ?_⟩; go_big_quiet_on))))
    refine wpQuiet_nil ?_
    refine anyC_only (i := 4) rfl (by kernel_rfl) hmy0 ?_
    go_wp2_with fail
    refine (Mac_any AL (n + 65) cL A2 n2 c2 y0 L b (hk.below hzy0 hB0) (by omega) hn2 ((hrL.below hmy0).more hmy0.size) ((hr2.below hzy0).more hzy0.size)).mono ?_
    rintro e y1 ⟨v1, rfl, ho1, hb1⟩
    have hzy1 : Below w.heap.size w y1 := hzy0.trans (hb1.mono hzy0.size)
    have hcy1 : Below y0.heap.size y0 y1 := hb1
    obtain ⟨B1, d1, rfl⟩ := ho1.shape
    have K1 := Lib.hid (fun W (hW : Below y1.heap.size y1 W) => ho1.rd.below hW)
    go_wp2_with fail
    have hn1 : ∀ W, Below y1.heap.size y1 W → Below w2.heap.size w2 W := fun W hW => hmy0.trans ((hcy1.trans (hW.mono hcy1.size)).mono hmy0.size)
    refine anyC_narrow (C' := Below y1.heap.size y1) hn1 _ _ _ _ ?_
    refine anyC_takes (by kernel_rfl) (fun _ _ _ _ _ h => h) [5] 6 _ _ (by kernel_rfl) ?_
    simp only [List.filterMap_cons, List.filterMap_nil, List.getElem?_toArray, List.getElem?_cons_succ, List.getElem?_cons_zero]
    show wpQuiet _ _ _ _ (_ :: List.nil) _
    repeat (first | go_big_quiet_skip | (go_big_quiet_want; first | (refine quiet_str 22 9 5 (.tmp 18) rfl B1 _ d1 (mac L b) rfl Tryd.underlying22 Tryd.underlying5 Tryd.underlying9 _ K1.out ?_; simp only [Act.put, List.setIfInBounds_toArray, List.set_cons_succ, List.set_cons_zero]; go_big_quiet_on) | (go_big_quiet_op; first | go_big_quiet_on | (refine ⟨_, fun _ _ => rfl, ?_⟩; go_big_quiet_on))))
    refine wpQuiet_nil ?_
    refine anyC_only (i := 7) rfl (by kernel_rfl) (Below.refl _ _) ?_
    go_wp2_with fail
    refine (RefSum_any AL (n + 65) cL y1 L (by omega) ((hrL.below (hn1 _ (Below.refl _ _))).more (by have := hmy0.size; have := hcy1.size; omega))).mono ?_
    rintro e y2 ⟨v2, rfl, ho2, hb2⟩
    have hmy2 : Below y1.heap.size y1 y2 := hb2
    have hzy2 : Below w.heap.size w y2 := hzy1.trans (hb2.mono hzy1.size)
    obtain ⟨B2, d2, rfl⟩ := ho2.shape
    go_wp2_with fail
    refine anyC_only (i := 9) rfl (by kernel_rfl) hmy2 ?_
    go_wp2_with fail
    refine (Mac_any B2 _ d2 A2 n2 c2 y2 (sha L) b (hk.below hzy2 hB0) (by rw [sha_len]; omega) hn2 ho2.rd ((hr2.below hzy2).more hzy2.size)).mono ?_
    rintro e y3 ⟨v3, rfl, ho3, hb3⟩
    have hzy3 : Below w.heap.size w y3 := hzy2.trans (hb3.mono hzy2.size)
    have hcy3 : Below y2.heap.size y2 y3 := hb3
    rw [← HLO.out] at ho3
    obtain ⟨B3, d3, rfl⟩ := ho3.shape
    have K3 := Lib.hid (fun W (hW : Below y3.heap.size y3 W) => ho3.rd.below hW)
    go_wp2_with fail
    have hn3 : ∀ W, Below y3.heap.size y3 W → Below y1.heap.size y1 W := fun W hW => hmy2.trans ((hcy3.trans (hW.mono hcy3.size)).mono hmy2.size)
    refine anyC_narrow (C' := Below y3.heap.size y3) hn3 _ _ _ _ ?_
    refine anyC_takes (by kernel_rfl) (fun _ _ _ _ _ h => h) [10, 11, 12, 13] 0 _ _ (by kernel_rfl) ?_
    simp only [List.filterMap_cons, List.filterMap_nil, List.getElem?_toArray, List.getElem?_cons_succ, List.getElem?_cons_zero]
    show wpQuiet _ _ _ _ (_ :: _ :: _ :: _ :: List.nil) _
    repeat (first | go_big_quiet_skip | (go_big_quiet_want; first | (refine quiet_str 22 9 5 (.tmp 23) rfl B3 _ d3 (mac L b) rfl Tryd.underlying22 Tryd.underlying5 Tryd.underlying9 _ K3.out ?_; simp only [Act.put, List.setIfInBounds_toArray, List.set_cons_succ, List.set_cons_zero]; go_big_quiet_on) | (refine quiet_eql_str _ _ _ _ rfl _ rfl rfl ?_; simp only [Act.put, List.setIfInBounds_toArray, List.set_cons_succ, List.set_cons_zero]; go_big_quiet_on) | (refine quiet_pick _ _ _ rfl rfl (.bool true) rfl ?_; simp only [Act.put, List.setIfInBounds_toArray, List.set_cons_succ, List.set_cons_zero]; go_big_quiet_on) | (go_big_quiet_op; first | go_big_quiet_on | (refine ⟨_, fun _ _ => rfl, ?_⟩; go_big_quiet_on))))
    refine wpQuiet_nil ?_
    refine ⟨Below.refl _ _, by kernel_rfl, ?_⟩
    go_wp2
    go_ret
    exact ⟨rfl, hzy3⟩
  · have h63' : ¬ (n : Int) > 63 := by omega
    go_enter Tryd.func7, Tryd.ntmps7
    go_wp2_with (first
      | (at_builtin; refine app_bytes rfl (.tmp 7) (.tmp 8) rfl w.heap.size (.slice (some ⟨w.heap.size, 0, none⟩) 0 0) [] rfl (Own.new_ w _ (Nat.le_refl _) [] (by simp) #[] rfl) _ A n c l rfl (hr.alloc (Nat.le_refl _) _) (by simp only [List.length_nil]; omega) (by simp) ?_; intro v1 w1 hown1 hg1 _)
      | (at_builtin; refine app_zeros rfl (.tmp 9) 65 rfl w.heap.size v1 _ rfl hown1 (by omega) (by have := HL.out; simp; omega) (by have := hg1.size; simp at this; omega) ?_; intro v2 w2 hown2 hg2)
      | (at_builtin; refine app_bytes rfl (.tmp 27) (.tmp 28) rfl w2.heap.size (.slice (some ⟨w2.heap.size, 0, none⟩) 0 0) [] rfl (Own.new_ w2 _ (Nat.le_refl _) [] (by simp) #[] rfl) w.heap.size A n c l rfl (by have hb1 : Below w.heap.size w w1 := below_app ((Below.refl _ _).alloc (Nat.le_refl _) _) (Own.new_ w _ (Nat.le_refl _) [] (by simp) #[] rfl) (by simp) hg1; have hzw2 : Below w.heap.size w w2 := below_app hb1 hown1 hb1.size hg2; exact hr.below (hzw2.alloc hzw2.size _)) (by simp only [List.length_nil]; omega) (by simp) ?_; intro v3 w3 hown3 hg3 _)
      | (at_builtin; refine app_bytes rfl (.tmp 29) (.tmp 30) rfl w2.heap.size v3 _ rfl (hown3.alloc _) (w3.heap.size + 1) _ 1 1 [0] rfl (Rd.new_ w3 [0] _ rfl 1 rfl) (by have := HL.out; simp; omega) (by have := hg3.size; simp at this ⊢; omega) ?_; intro v4 w4 hown4 hg4 _)
      | fail)
    have hb1 : Below w.heap.size w w1 := below_app ((Below.refl _ _).alloc (Nat.le_refl _) _) (Own.new_ w _ (Nat.le_refl _) [] (by simp) #[] rfl) (by simp) hg1
    have hzw2 : Below w.heap.size w w2 := below_app hb1 hown1 hb1.size hg2
    have hb3 : Below w2.heap.size w2 w3 := below_app ((Below.refl _ _).alloc (Nat.le_refl _) _) (Own.new_ w2 _ (Nat.le_refl _) [] (by simp) #[] rfl) (by simp) hg3
    have hb4 : Below w2.heap.size w2 w4 := below_app (hb3.alloc hb3.size _) (hown3.alloc _) (by have := hb3.size; simp; omega) hg4
    have hzw4 : Below w.heap.size w w4 := hzw2.trans (hb4.mono hzw2.size)
    clear hg1 hg2 hown1 hg3 hg4 hown3
    rw [List.nil_append] at hown4
    have hlF : (l ++ [(0 : UInt8)]).length = n + 1 := by rw [List.length_append, ← HL.out]; rfl
    obtain ⟨AF, cF, rfl⟩ := hown4.shape
    have hrF := hown4.rd
    rw [hlF] at hrF ⊢
    have hfi := mac_fill l b (by have := HL.out; omega)
    have HFI := Lib.hid hfi; clear hfi hown4 hlF
    rw [List.nil_append] at hown2
    have hlL : (l ++ List.replicate 65 (0 : UInt8)).length = n + 65 := by rw [List.length_append, List.length_replicate, ← HL.out]
    generalize l ++ List.replicate 65 (0 : UInt8) = L at hown2 hlL
    obtain ⟨AL, cL, rfl⟩ := hown2.shape
    have hrL := hown2.rd
    rw [hlL] at hrL ⊢
    have hlong := mac_long L b (by omega)
    have HLO := Lib.hid hlong; clear hlong hown2 hlL
    replace hrL := (hrL.below hb4).more hb4.size
    have hm0 : Below w4.heap.size w4 w4.drew := (Below.refl _ _).drew
    go_wp2_with fail
    refine wp_region_anyN (Below w4.heap.size w4) (by kernel_rfl) ?_
    refine anyC_only (i := 0) rfl (by kernel_rfl) hm0 ?_
    go_wp2_with fail
    refine (answers07_any w4.drew (show Consts w4 from hk.below hzw4 hB0)).mono ?_
    rintro e y0 ⟨rfl, hb0⟩
    have hmy0 : Below w4.heap.size w4 y0 := hm0.trans hb0
    have hzy0 : Below w.heap.size w y0 := hzw4.trans (hmy0.mono hzw4.size)
    go_wp2_with fail
    refine anyC_takes (by kernel_rfl) (fun _ _ _ _ _ h => h) [1, 2, 3, 6, 7] 19 _ _ (by kernel_rfl) ?_
    simp only [List.filterMap_cons, List.filterMap_nil, List.getElem?_toArray, List.getElem?_cons_succ, List.getElem?_cons_zero]
    show wpQuiet _ _ _ _ (_ :: _ :: _ :: _ :: _ :: List.nil) _
    repeat (first | go_big_quiet_skip | (go_big_quiet_want; first | (fail; simp only [Act.put, List.setIfInBounds_toArray, List.set_cons_succ, List.set_cons_zero]; go_big_quiet_on) | (go_big_quiet_op; first | go_big_quiet_on | (refine ⟨_, fun _ _ => rfl, ?_⟩; go_big_quiet_on))))
    refine wpQuiet_nil ?_
    refine anyC_only (i := 4) rfl (by kernel_rfl) hmy0 ?_
    go_wp2_with fail
    refine (Mac_any A n c A2 n2 c2 y0 l b (hk.below hzy0 hB0) (by omega) hn2 ((hr.below hzy0).more hzy0.size) ((hr2.below hzy0).more hzy0.size)).mono ?_
    rintro e y1 ⟨v1, rfl, ho1, hb1⟩
    have hzy1 : Below w.heap.size w y1 := hzy0.trans (hb1.mono hzy0.size)
    have hcy1 : Below y0.heap.size y0 y1 := hb1
    obtain ⟨B1, d1, rfl⟩ := ho1.shape
    have K1 := Lib.hid (fun W (hW : Below y1.heap.size y1 W) => ho1.rd.below hW)
    go_wp2_with fail
    have hn1 : ∀ W, Below y1.heap.size y1 W → Below w4.heap.size w4 W := fun W hW => hmy0.trans ((hcy1.trans (hW.mono hcy1.size)).mono hmy0.size)
    have hmy1 : Below y1.heap.size y1 y1 := Below.refl _ _
    refine anyC_narrow (C' := Below y1.heap.size y1) hn1 _ _ _ _ ?_
    refine anyC_takes (by kernel_rfl) (fun _ _ _ _ _ h => h) [5] 17 _ _ (by kernel_rfl) ?_
    simp only [List.filterMap_cons, List.filterMap_nil, List.getElem?_toArray, List.getElem?_cons_succ, List.getElem?_cons_zero]
    show wpQuiet _ _ _ _ (_ :: List.nil) _
    repeat (first | go_big_quiet_skip | (go_big_quiet_want; first | (refine quiet_str 22 9 5 (.tmp 36) rfl B1 _ d1 (mac l b) rfl Tryd.underlying22 Tryd.underlying5 Tryd.underlying9 _ K1.out ?_; simp only [Act.put, List.setIfInBounds_toArray, List.set_cons_succ, List.set_cons_zero]; go_big_quiet_on) | (go_big_quiet_op; first | go_big_quiet_on | (refine ⟨_, fun _ _ => rfl, ?_⟩; go_big_quiet_on))))
    refine wpQuiet_nil ?_
    refine anyC_only (i := 8) rfl (by kernel_rfl) hmy1 ?_
    go_wp2_with fail
    refine (Mac_any AF (n + 1) cF A2 n2 c2 y1 (l ++ [0]) b (hk.below hzy1 hB0) (by omega) hn2 ((hrF.below (hn1 _ (Below.refl _ _))).more (by have := hmy0.size; have := hcy1.size; omega)) ((hr2.below hzy1).more hzy1.size)).mono ?_
    rintro e y2 ⟨v2, rfl, ho2, hb2⟩
    have hzy2 : Below w.heap.size w y2 := hzy1.trans (hb2.mono hzy1.size)
    have hcy2 : Below y1.heap.size y1 y2 := hb2
    rw [← HFI.out] at ho2
    obtain ⟨B2, d2, rfl⟩ := ho2.shape
    have K2 := Lib.hid (fun W (hW : Below y2.heap.size y2 W) => ho2.rd.below hW)
    go_wp2_with fail
    have hn2' : ∀ W, Below y2.heap.size y2 W → Below y1.heap.size y1 W := fun W hW => hcy2.trans (hW.mono hcy2.size)
    have hmy2 : Below y2.heap.size y2 y2 := Below.refl _ _
    refine anyC_narrow (C' := Below y2.heap.size y2) hn2' _ _ _ _ ?_
    refine anyC_takes (by kernel_rfl) (fun _ _ _ _ _ h => h) [9, 10, 11, 12, 13, 14, 17, 19] 8 _ _ (by kernel_rfl) ?_
    simp only [List.filterMap_cons, List.filterMap_nil, List.getElem?_toArray, List.getElem?_cons_succ, List.getElem?_cons_zero]
    show wpQuiet _ _ _ _ (_ :: _ :: _ :: _ :: _ :: _ :: _ :: _ :: List.nil) _
    repeat (first | go_big_quiet_skip | (go_big_quiet_want; first | (refine quiet_str 22 9 5 (.tmp 40) rfl B2 _ d2 (mac l b) rfl Tryd.underlying22 Tryd.underlying5 Tryd.underlying9 _ K2.out ?_; simp only [Act.put, List.setIfInBounds_toArray, List.set_cons_succ, List.set_cons_zero]; go_big_quiet_on) | (refine quiet_eql_str _ _ _ _ rfl _ rfl rfl ?_; simp only [Act.put, List.setIfInBounds_toArray, List.set_cons_succ, List.set_cons_zero]; go_big_quiet_on) | (refine quiet_pick _ _ _ rfl rfl (.bool true) rfl ?_; simp only [Act.put, List.setIfInBounds_toArray, List.set_cons_succ, List.set_cons_zero]; go_big_quiet_on) | (go_big_quiet_op; first | go_big_quiet_on | (refine ⟨_, fun _ _ => rfl, ?_⟩; go_big_quiet_on))))
    refine wpQuiet_nil ?_
    refine anyC_only (i := 15) rfl (by kernel_rfl) hmy2 ?_
    go_wp2_with fail
    refine (Mac_any AL (n + 65) cL A2 n2 c2 y2 L b (hk.below hzy2 hB0) (by omega) hn2 ((hrL.below (hn1 _ (hn2' _ (Below.refl _ _)))).more (by have := hmy0.size; have := hcy1.size; have := hcy2.size; omega)) ((hr2.below hzy2).more hzy2.size)).mono ?_
    rintro e y3 ⟨v3, rfl, ho3, hb3⟩
    have hzy3 : Below w.heap.size w y3 := hzy2.trans (hb3.mono hzy2.size)
    have hcy3 : Below y2.heap.size y2 y3 := hb3
    obtain ⟨B3, d3, rfl⟩ := ho3.shape
    have K3 := Lib.hid (fun W (hW : Below y3.heap.size y3 W) => ho3.rd.below hW)
    go_wp2_with fail
    have hn3 : ∀ W, Below y3.heap.size y3 W → Below y2.heap.size y2 W := fun W hW => hcy3.trans (hW.mono hcy3.size)
    refine anyC_narrow (C' := Below y3.heap.size y3) hn3 _ _ _ _ ?_
    refine anyC_takes (by kernel_rfl) (fun _ _ _ _ _ h => h) [16] 6 _ _ (by kernel_rfl) ?_
    simp only [List.filterMap_cons, List.filterMap_nil, List.getElem?_toArray, List.getElem?_cons_succ, List.getElem?_cons_zero]
    show wpQuiet _ _ _ _ (_ :: List.nil) _
    repeat (first | go_big_quiet_skip | (go_big_quiet_want; first | (refine quiet_str 22 9 5 (.tmp 47) rfl B3 _ d3 (mac L b) rfl Tryd.underlying22 Tryd.underlying5 Tryd.underlying9 _ K3.out ?_; simp only [Act.put, List.setIfInBounds_toArray, List.set_cons_succ, List.set_cons_zero]; go_big_quiet_on) | (go_big_quiet_op; first | go_big_quiet_on | (refine ⟨_, fun _ _ => rfl, ?_⟩; go_big_quiet_on))))
    refine wpQuiet_nil ?_
    refine anyC_only (i := 18) rfl (by kernel_rfl) (Below.refl _ _) ?_
    go_wp2_with fail
    refine (RefSum_any AL (n + 65) cL y3 L (by omega) ((hrL.below (hn1 _ (hn2' _ (hn3 _ (Below.refl _ _))))).more (by have := hmy0.size; have := hcy1.size; have := hcy2.size; have := hcy3.size; omega))).mono ?_
    rintro e y4 ⟨v4, rfl, ho4, hb4'⟩
    have hmy4 : Below y3.heap.size y3 y4 := hb4'
    have hzy4 : Below w.heap.size w y4 := hzy3.trans (hb4'.mono hzy3.size)
    obtain ⟨B4, d4, rfl⟩ := ho4.shape
    go_wp2_with fail
    refine anyC_only (i := 20) rfl (by kernel_rfl) hmy4 ?_
    go_wp2_with fail
    refine (Mac_any B4 _ d4 A2 n2 c2 y4 (sha L) b (hk.below hzy4 hB0) (by rw [sha_len]; omega) hn2 ho4.rd ((hr2.below hzy4).more hzy4.size)).mono ?_
    rintro e y5 ⟨v5, rfl, ho5, hb5⟩
    have hzy5 : Below w.heap.size w y5 := hzy4.trans (hb5.mono hzy4.size)
    have hcy5 : Below y4.heap.size y4 y5 := hb5
    rw [← HLO.out] at ho5
    obtain ⟨B5, d5, rfl⟩ := ho5.shape
    have K5 := Lib.hid (fun W (hW : Below y5.heap.size y5 W) => ho5.rd.below hW)
    go_wp2_with fail
    have hn5 : ∀ W, Below y5.heap.size y5 W → Below y3.heap.size y3 W := fun W hW => hmy4.trans ((hcy5.trans (hW.mono hcy5.size)).mono hmy4.size)
    refine anyC_narrow (C' := Below y5.heap.size y5) hn5 _ _ _ _ ?_
    refine anyC_takes (by kernel_rfl) (fun _ _ _ _ _ h => h) [21, 22, 23, 24] 0 _ _ (by kernel_rfl) ?_
    simp only [List.filterMap_cons, List.filterMap_nil, List.getElem?_toArray, List.getElem?_cons_succ, List.getElem?_cons_zero]
    show wpQuiet _ _ _ _ (_ :: _ :: _ :: _ :: List.nil) _
    repeat (first | go_big_quiet_skip | (go_big_quiet_want; first | (refine quiet_str 22 9 5 (.tmp 52) rfl B5 _ d5 (mac L b) rfl Tryd.underlying22 Tryd.underlying5 Tryd.underlying9 _ K5.out ?_; simp only [Act.put, List.setIfInBounds_toArray, List.set_cons_succ, List.set_cons_zero]; go_big_quiet_on) | (refine quiet_eql_str _ _ _ _ rfl _ rfl rfl ?_; simp only [Act.put, List.setIfInBounds_toArray, List.set_cons_succ, List.set_cons_zero]; go_big_quiet_on) | (refine quiet_pick _ _ _ rfl rfl (.bool true) rfl ?_; simp only [Act.put, List.setIfInBounds_toArray, List.set_cons_succ, List.set_cons_zero]; go_big_quiet_on) | (go_big_quiet_op; first | go_big_quiet_on | (refine ⟨_, fun _ _ => rfl, ?_⟩; go_big_quiet_on))))
    refine wpQuiet_nil ?_
    refine ⟨Below.refl _ _, by kernel_rfl, ?_⟩
    go_wp2
    go_ret
    exact ⟨rfl, hzy5⟩
end Go.Proofs.YtkaboebjdjfahaaDoor
