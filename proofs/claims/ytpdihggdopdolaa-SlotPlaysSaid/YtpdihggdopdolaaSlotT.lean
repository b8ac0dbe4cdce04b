/- What Turn does to a slot. No conditions. -/
import Derived.Test.YtpdihggdopdolaaRefS2
namespace Go.Proofs.Ytpdihggdopdolaa
open Go.RowKit
theorem pieceOf_get (l : List UInt8) (i m : Nat) (hm : m < 32) : (pieceOf l i)[m]? = some (l.getD (32 * i + m) 0) := by
  unfold pieceOf
  rw [List.getD_eq_getElem?_getD]
  by_cases h : m < ((l.drop (32 * i)).take 32).length
  · rw [List.getElem?_append_left h, List.getElem?_take, if_pos hm, List.getElem?_drop]
    have h2 : 32 * i + m < l.length := by rw [List.length_take, List.length_drop] at h; omega
    rw [List.getElem?_eq_getElem h2]
    rfl
  · rw [List.getElem?_append_right (by omega), List.getElem?_replicate, if_pos (by rw [List.length_take, List.length_drop] at h ⊢; omega)]
    have h2 : l.length ≤ 32 * i + m := by rw [List.length_take, List.length_drop] at h; omega
    rw [List.getElem?_eq_none h2]
    rfl
theorem turned_len (l : List UInt8) (j : Nat) (x : UInt8) : (turned l j x).length = l.length := by unfold turned; simp
theorem turned_get (l : List UInt8) (j k : Nat) (x : UInt8) (hj : j < l.length) : (turned l j x).getD k 0 = if j = k then l.getD j 0 ^^^ x else l.getD k 0 := by
  unfold turned
  rw [List.getD_eq_getElem?_getD, List.getElem?_set]
  by_cases e : j = k
  · rw [if_pos e, if_pos e, if_pos hj]; rfl
  · rw [if_neg e, if_neg e, List.getD_eq_getElem?_getD]
theorem piece_turn (l : List UInt8) (j i : Nat) (x : UInt8) (hj : j < l.length) : pieceOf (turned l j x) i = if i = j / 32 then turned (pieceOf l i) (j % 32) x else pieceOf l i := by
  apply List.ext_getElem?
  intro m
  by_cases hm : m < 32
  · rw [pieceOf_get _ _ _ hm, turned_get l j _ x hj]
    by_cases hi : i = j / 32
    · rw [if_pos hi]
      unfold turned
      rw [List.getElem?_set]
      by_cases e : j % 32 = m
      · have e2 : j = 32 * i + m := by omega
        rw [if_pos e, if_pos e2, if_pos (by rw [pieceOf_len]; omega), show (pieceOf l i).getD (j % 32) 0 = l.getD (32 * i + j % 32) 0 from by rw [List.getD_eq_getElem?_getD, pieceOf_get _ _ _ (by omega)]; rfl]
        rw [show 32 * i + j % 32 = j by omega]
      · rw [if_neg e, if_neg (by omega), pieceOf_get _ _ _ hm]
    · rw [if_neg hi, if_neg (by omega), pieceOf_get _ _ _ hm]
  · rw [List.getElem?_eq_none (by rw [pieceOf_len]; omega), List.getElem?_eq_none (by split <;> simp [turned, pieceOf_len] <;> omega)]
theorem SOk.turn {s : DS} {room side : Nat} {kept : List UInt8} (h : SOk s room side kept) (j : Nat) (x : UInt8) (hj : j < kept.length) :
    SOk { s with bl := s.bl.set (1 + side * room + j / 32) (turned (pieceOf kept (j / 32)) (j % 32) x) } room side (turned kept j x) := by
  have hj2 : j / 32 < takesOf kept.length := by unfold takesOf; omega
  have hlt : 1 + side * room + j / 32 < s.bl.length := by rw [h.len]; exact idx_lt h.sideLe (Nat.lt_of_lt_of_le hj2 h.fits)
  refine ⟨by rw [List.length_set]; exact h.len, fun i l hi => ?_, ?_, h.sideLe, by rw [turned_len]; exact h.fits, fun i hi => ?_, h.roomLe⟩
  · have hi' : (s.bl.set (1 + side * room + j / 32) (turned (pieceOf kept (j / 32)) (j % 32) x))[i]? = some l := hi
    rw [List.getElem?_set] at hi'
    by_cases e : 1 + side * room + j / 32 = i
    · rw [if_pos e, if_pos hlt] at hi'
      injection hi' with hi'
      rw [← hi', turned_len, pieceOf_len]
    · rw [if_neg e] at hi'
      exact h.l32 i l hi'
  · show (s.bl.set _ _)[0]? = _
    rw [List.getElem?_set, if_neg (by omega), turned_len]
    exact h.root
  · show (s.bl.set _ _)[1 + side * room + i]? = _
    rw [turned_len] at hi
    rw [List.getElem?_set, piece_turn kept j i x hj]
    by_cases e : i = j / 32
    · rw [if_pos (by omega), if_pos hlt, if_pos e, e]
    · rw [if_neg (by omega), if_neg e]; exact h.data i hi
set_option maxRecDepth 100000 in
set_option maxHeartbeats 1000000 in
theorem STurn_any (w : World) (F : Nat → Prop) (S room : Nat) (s : DS) (side : Nat) (kept : List UInt8) (N : Int) (x : UInt8) (h : SlotIs w F S room s) (hok : SOk s room side kept) :
    Calls Try.prog 35 #[.pointer (some ⟨S, 0, none⟩), .int .i64 N, .int .u8 x.toNat] w fun e w' => e = .returned (.bool (decide (0 ≤ N ∧ N < (kept.length : Int)))) ∧
      (∃ s', SlotIs w' (Grown F w) S room s' ∧ SOk s' room side (if 0 ≤ N ∧ N < (kept.length : Int) then turned kept N.toNat x else kept) ∧ s'.pw = s.pw) ∧ Keeps F w w' := by
  by_cases hin : 0 ≤ N ∧ N < (kept.length : Int)
  · rw [decide_eq_true hin, if_pos hin]
    obtain ⟨j, rfl⟩ : ∃ j : Nat, N = j := ⟨N.toNat, by omega⟩
    have hj : j < kept.length := by omega
    have hj' : (j : Int) < (kept.length : Int) := by omega
    rw [Int.toNat_natCast]
    have HJ := Lib.hid hj; have HJ' := Lib.hid hj'
    clear hin hj hj'
    have HOK := Lib.hid hok; have H := Lib.hid h
    clear hok h
    go_enter Try.func35, Try.ntmps35
    go_wp2_with fail
    refine (Root_any w F S room s side kept.length H.out HOK.out.root HOK.out.sideLe HOK.out.small).mono ?_
    rintro e w1 ⟨rfl, hb1⟩
    have hb1a := hb1.alloc hb1.size (.cells #[.int .i64 (side : Int), .int .i64 (kept.length : Int)] 74)
    have HT := Lib.hid (Blk.new w1 74 #[.int .i64 (side : Int), .int .i64 (kept.length : Int)])
    have H1 := Lib.hid (H.out.below hb1a); have HB1 := Lib.hid hb1a
    have HRL := Lib.hid (show w1.heap.size < (w1.alloc (.cells #[.int .i64 (side : Int), .int .i64 (kept.length : Int)] 74)).heap.size by simp)
    have HB0 := Lib.hid hb1
    clear hb1 hb1a
    go_upto_region 4 with (fail)
    have HQ := Lib.hid HB0.out.size
    generalize w1.alloc (.cells #[.int .i64 (side : Int), .int .i64 (kept.length : Int)] 74) = W2 at HT H1 HB1 HRL ⊢
    generalize w1.heap.size = Q at HT HRL HQ ⊢
    obtain ⟨D, G, hS0, ⟨gs, r, hA0, hF0⟩, h3, h4, h5⟩ := H.out
    have hb := HB1.out
    have hS := hS0.below hb hS0.lt
    have hA := hA0.below hb
    have HnS := Lib.hid (fun e => h3 (hF0 S e) : ¬ Foot D gs r S)
    have HnQ := Lib.hid (fun e => by have := hA0.foot_lt Q e; have := HQ.out; omega : ¬ Foot D gs r Q)
    have HF := Lib.hid (fun k e => h4 k (hF0 k e) : ∀ k, Foot D gs r k → F k)
    have HS := Lib.hid hS; have HD := Lib.hid (⟨gs, r, hA, fun k e => e⟩ : DiskIs W2 (Foot D gs r) D s)
    have H5 := Lib.hid h5
    have HSC := Lib.hid (fun W (hW : Keeps (Foot D gs r) W2 W) => ((HS.out.keeps hW HnS.out).cell 0).trans rfl : ∀ W, Keeps (Foot D gs r) W2 W → W.cell? ⟨S, 0, none⟩ = some (.pointer (some ⟨D, 0, none⟩)))
    have HT0 := Lib.hid (fun W (hW : Keeps (Foot D gs r) W2 W) => ((HT.out.keeps hW HnQ.out).cell 0).trans rfl : ∀ W, Keeps (Foot D gs r) W2 W → W.cell? ⟨Q, 0, none⟩ = some (.int .i64 (side : Int)))
    have HT1 := Lib.hid (fun W (hW : Keeps (Foot D gs r) W2 W) => ((HT.out.keeps hW HnQ.out).cell 1).trans rfl : ∀ W, Keeps (Foot D gs r) W2 W → W.cell? ⟨Q, 1, none⟩ = some (.int .i64 (kept.length : Int)))
    have hC0 : Keeps (Foot D gs r) W2 W2.drew := (Keeps.refl _ _).drew
    clear hS0 hA0 hF0 h3 h4 h5 hb hS hA
    have hj' := HJ'.out
    have hjs : j < 16384 := by have := HJ.out; have := HOK.out.small; omega
    refine wp_region_anyN (Keeps (Foot D gs r) W2) (by kernel_rfl) ?_
    refine anyC_takes (by kernel_rfl) (fun _ _ _ _ _ h => h) [0, 1, 2, 3, 4, 5, 6, 7, 8, 9, 10, 11, 12, 13, 14, 15, 16, 17, 19, 20, 21] 4 _ _ (by kernel_rfl) ?_
    simp only [List.filterMap_cons, List.filterMap_nil, List.getElem?_toArray, List.getElem?_cons_succ, List.getElem?_cons_zero]
    show wpQuiet _ _ _ _ (_ :: _ :: _ :: _ :: _ :: _ :: _ :: _ :: _ :: _ :: _ :: _ :: _ :: _ :: _ :: _ :: _ :: _ :: _ :: _ :: _ :: List.nil) _
    repeat (first | go_big_quiet_skip | (go_big_quiet_want; first | (refine quiet_load _ _ rfl ⟨S, 0, none⟩ rfl _ HSC.out (fun _ => by kernel_rfl) ?_; simp only [Act.put, List.setIfInBounds_toArray, List.set_cons_succ, List.set_cons_zero]; go_big_quiet_on) | (refine quiet_load _ _ rfl ⟨Q, 0, none⟩ rfl _ HT0.out (fun _ => by kernel_rfl) ?_; simp only [Act.put, List.setIfInBounds_toArray, List.set_cons_succ, List.set_cons_zero]; go_big_quiet_on) | (refine quiet_load _ _ rfl ⟨Q, 1, none⟩ rfl _ HT1.out (fun _ => by kernel_rfl) ?_; simp only [Act.put, List.setIfInBounds_toArray, List.set_cons_succ, List.set_cons_zero]; go_big_quiet_on) | (refine quiet_pick _ _ _ rfl rfl (.bool true) rfl ?_; simp only [Act.put, List.setIfInBounds_toArray, List.set_cons_succ, List.set_cons_zero]; go_big_quiet_on) | (go_big_quiet_op; first | go_big_quiet_on | (refine ⟨_, fun _ _ => rfl, ?_⟩; go_big_quiet_on))))
    refine wpQuiet_nil ?_
    refine anyC_only (i := 18) rfl (by kernel_rfl) hC0 ?_
    go_wp2_with fail
    refine (block_any S D room side (j / 32) W2.drew HOK.out.roomLe (by have := HOK.out.sideLe; omega) (by omega) (HS.out.keeps hC0 HnS.out)).mono ?_
    rintro e w5 ⟨rfl, rfl⟩
    go_wp2_with fail
    refine anyC_only (i := 22) rfl (by kernel_rfl) hC0 ?_
    go_wp2_with fail
    have hpc : s.bl[1 + side * room + j / 32]? = some (pieceOf kept (j / 32)) := HOK.out.data (j / 32) (by have := HJ.out; unfold takesOf; omega)
    have hturn : s.turn ((1 + side * room + j / 32 : Nat) : Int) ((j : Int) % 32) x = (true, { s with bl := s.bl.set (1 + side * room + j / 32) (turned (pieceOf kept (j / 32)) (j % 32) x) }) := by
      unfold DS.turn
      rw [if_pos ⟨by unfold DS.has; have := (List.getElem?_eq_some_iff.1 hpc).1; exact decide_eq_true ⟨by omega, by omega⟩, by omega, by omega⟩, Int.toNat_natCast, List.getD_eq_getElem?_getD, hpc, show ((j : Int) % 32).toNat = j % 32 by omega]
      rfl
    refine (Turn_any W2.drew (Foot D gs r) D s ((1 + side * room + j / 32 : Nat) : Int) ((j : Int) % 32) x (DiskIs.below (F := Foot D gs r) HD.out (Below.refl _ _).drew)).mono ?_
    rw [hturn]
    rintro e w6 ⟨rfl, hd6, hk6⟩
    have hC6 : Keeps (Foot D gs r) W2 w6 := hC0.trans hk6 (fun _ _ e => e)
    have HD6 := Lib.hid hd6; have HC6 := Lib.hid hC6
    clear hd6 hk6 hturn hpc
    go_wp2_with fail
    refine anyC_takes (by kernel_rfl) (fun _ _ _ _ _ h => h) [23, 24] 0 _ _ (by kernel_rfl) ?_
    simp only [List.filterMap_cons, List.filterMap_nil, List.getElem?_toArray, List.getElem?_cons_succ, List.getElem?_cons_zero]
    show wpQuiet _ _ _ _ (_ :: _ :: List.nil) _
    repeat (first | go_big_quiet_skip | (go_big_quiet_want; first | (refine quiet_pick _ _ _ rfl rfl (.bool true) rfl ?_; simp only [Act.put, List.setIfInBounds_toArray, List.set_cons_succ, List.set_cons_zero]; go_big_quiet_on) | (go_big_quiet_op; first | go_big_quiet_on | (refine ⟨_, fun _ _ => rfl, ?_⟩; go_big_quiet_on))))
    refine wpQuiet_nil ?_
    refine ⟨HC6.out, by kernel_rfl, ?_⟩
    go_wp2_with fail
    go_ret
    obtain ⟨hsl, hkk⟩ := SlotIs.call HS.out HnS.out HF.out H5.out (HD6.out.weaken fun k e => Or.inl e) HC6.out
    refine ⟨rfl, ⟨_, hsl.weaken (fun k e => ?_), HOK.out.turn j x HJ.out, rfl⟩, (Keeps.of_below HB1.out).trans hkk (fun _ _ e => e)⟩
    rcases e with e | e
    · exact Or.inl e
    · exact Or.inr (Nat.le_trans HB1.out.size e)
  rw [decide_eq_false hin, if_neg hin]
  by_cases hneg : N < 0
  · have H01 := Lib.hid (show decide (0 ≤ N) = false by simp; omega)
    have H02 := Lib.hid (show (0 ≤ N) = False by simp; omega)
    clear hin hneg
    have HOK := Lib.hid hok; have H := Lib.hid h
    clear hok h
    go_enter Try.func35, Try.ntmps35
    go_wp2_with fail
    refine (Root_any w F S room s side kept.length H.out HOK.out.root HOK.out.sideLe HOK.out.small).mono ?_
    rintro e w1 ⟨rfl, hb1⟩
    have hb1a := hb1.alloc hb1.size (.cells #[.int .i64 (side : Int), .int .i64 (kept.length : Int)] 74)
    have HT := Lib.hid (Blk.new w1 74 #[.int .i64 (side : Int), .int .i64 (kept.length : Int)])
    have H1 := Lib.hid (H.out.below hb1a); have HB1 := Lib.hid hb1a
    have HRL := Lib.hid (show w1.heap.size < (w1.alloc (.cells #[.int .i64 (side : Int), .int .i64 (kept.length : Int)] 74)).heap.size by simp)
    clear hb1 hb1a
    go_upto_region 4 with (fail)
    generalize w1.alloc (.cells #[.int .i64 (side : Int), .int .i64 (kept.length : Int)] 74) = W2 at HT H1 HB1 HRL ⊢
    generalize w1.heap.size = Q at HT HRL ⊢
    obtain ⟨D, G, hS, hd, h3, h4, h5⟩ := H1.out
    have HS := Lib.hid hS; have HD := Lib.hid hd
    have HSC := Lib.hid (fun W (hW : Below W2.heap.size W2 W) => ((HS.out.below hW HS.out.lt).cell 0).trans rfl : ∀ W, Below W2.heap.size W2 W → W.cell? ⟨S, 0, none⟩ = some (.pointer (some ⟨D, 0, none⟩)))
    have HT0 := Lib.hid (fun W (hW : Below W2.heap.size W2 W) => ((HT.out.below hW HRL.out).cell 0).trans rfl : ∀ W, Below W2.heap.size W2 W → W.cell? ⟨Q, 0, none⟩ = some (.int .i64 (side : Int)))
    have HT1 := Lib.hid (fun W (hW : Below W2.heap.size W2 W) => ((HT.out.below hW HRL.out).cell 1).trans rfl : ∀ W, Below W2.heap.size W2 W → W.cell? ⟨Q, 1, none⟩ = some (.int .i64 (kept.length : Int)))
    have hC0 : Below W2.heap.size W2 W2.drew := (Below.refl _ _).drew
    clear hS hd
    have h01 := H01.out; have h02 := H02.out
    refine wp_region_anyN (Below W2.heap.size W2) (by kernel_rfl) ?_
    refine anyC_takes (by kernel_rfl) (fun _ _ _ _ _ h => h) [0, 1, 2, 3, 4, 5, 6, 7, 8, 9, 10, 11, 12, 13, 14, 15, 16, 17, 19, 20, 21] 4 _ _ (by kernel_rfl) ?_
    simp only [List.filterMap_cons, List.filterMap_nil, List.getElem?_toArray, List.getElem?_cons_succ, List.getElem?_cons_zero]
    show wpQuiet _ _ _ _ (_ :: _ :: _ :: _ :: _ :: _ :: _ :: _ :: _ :: _ :: _ :: _ :: _ :: _ :: _ :: _ :: _ :: _ :: _ :: _ :: _ :: List.nil) _
    repeat (first | go_big_quiet_skip | (go_big_quiet_want; first | (refine pick_false _ _ _ rfl rfl (.bool false) rfl ?_; simp only [Act.put, List.setIfInBounds_toArray, List.set_cons_succ, List.set_cons_zero]; go_big_quiet_on) | (go_big_quiet_op; first | go_big_quiet_on | (refine ⟨_, fun _ _ => rfl, ?_⟩; go_big_quiet_on))))
    refine wpQuiet_nil ?_
    refine anyC_only (i := 18) rfl (by kernel_rfl) hC0 ?_
    go_wp2_with fail
    refine anyC_only (i := 22) rfl (by kernel_rfl) hC0 ?_
    go_wp2_with fail
    refine anyC_takes (by kernel_rfl) (fun _ _ _ _ _ h => h) [23, 24] 0 _ _ (by kernel_rfl) ?_
    simp only [List.filterMap_cons, List.filterMap_nil, List.getElem?_toArray, List.getElem?_cons_succ, List.getElem?_cons_zero]
    show wpQuiet _ _ _ _ (_ :: _ :: List.nil) _
    repeat (first | go_big_quiet_skip | (go_big_quiet_want; first | (refine pick_false _ _ _ rfl rfl (.bool false) rfl ?_; simp only [Act.put, List.setIfInBounds_toArray, List.set_cons_succ, List.set_cons_zero]; go_big_quiet_on) | (go_big_quiet_op; first | go_big_quiet_on | (refine ⟨_, fun _ _ => rfl, ?_⟩; go_big_quiet_on))))
    refine wpQuiet_nil ?_
    refine ⟨hC0, by kernel_rfl, ?_⟩
    go_wp2_with fail
    go_ret
    exact ⟨rfl, ⟨s, ((H1.out.below (Below.refl _ _).drew).weaken (fun k e => Or.inl e)), HOK.out, rfl⟩, (Keeps.of_below HB1.out).drew⟩
  · have HN0 := Lib.hid (show 0 ≤ N by omega)
    have HN0' := Lib.hid (show decide (0 ≤ N) = true by simp; omega)
    have HGE := Lib.hid (show decide (N < (kept.length : Int)) = false from decide_eq_false fun e => hin ⟨by omega, e⟩)
    have HGE2 := Lib.hid (show (N < (kept.length : Int)) = False from eq_false fun e => hin ⟨by omega, e⟩)
    clear hin hneg
    have HOK := Lib.hid hok; have H := Lib.hid h
    clear hok h
    go_enter Try.func35, Try.ntmps35
    go_wp2_with fail
    refine (Root_any w F S room s side kept.length H.out HOK.out.root HOK.out.sideLe HOK.out.small).mono ?_
    rintro e w1 ⟨rfl, hb1⟩
    have hb1a := hb1.alloc hb1.size (.cells #[.int .i64 (side : Int), .int .i64 (kept.length : Int)] 74)
    have HT := Lib.hid (Blk.new w1 74 #[.int .i64 (side : Int), .int .i64 (kept.length : Int)])
    have H1 := Lib.hid (H.out.below hb1a); have HB1 := Lib.hid hb1a
    have HRL := Lib.hid (show w1.heap.size < (w1.alloc (.cells #[.int .i64 (side : Int), .int .i64 (kept.length : Int)] 74)).heap.size by simp)
    clear hb1 hb1a
    go_upto_region 4 with (fail)
    generalize w1.alloc (.cells #[.int .i64 (side : Int), .int .i64 (kept.length : Int)] 74) = W2 at HT H1 HB1 HRL ⊢
    generalize w1.heap.size = Q at HT HRL ⊢
    obtain ⟨D, G, hS, hd, h3, h4, h5⟩ := H1.out
    have HS := Lib.hid hS; have HD := Lib.hid hd
    have HSC := Lib.hid (fun W (hW : Below W2.heap.size W2 W) => ((HS.out.below hW HS.out.lt).cell 0).trans rfl : ∀ W, Below W2.heap.size W2 W → W.cell? ⟨S, 0, none⟩ = some (.pointer (some ⟨D, 0, none⟩)))
    have HT0 := Lib.hid (fun W (hW : Below W2.heap.size W2 W) => ((HT.out.below hW HRL.out).cell 0).trans rfl : ∀ W, Below W2.heap.size W2 W → W.cell? ⟨Q, 0, none⟩ = some (.int .i64 (side : Int)))
    have HT1 := Lib.hid (fun W (hW : Below W2.heap.size W2 W) => ((HT.out.below hW HRL.out).cell 1).trans rfl : ∀ W, Below W2.heap.size W2 W → W.cell? ⟨Q, 1, none⟩ = some (.int .i64 (kept.length : Int)))
    have hC0 : Below W2.heap.size W2 W2.drew := (Below.refl _ _).drew
    clear hS hd
    have hn0 := HN0.out; have hn0' := HN0'.out; have hge := HGE.out; have hge2 := HGE2.out
    refine wp_region_anyN (Below W2.heap.size W2) (by kernel_rfl) ?_
    refine anyC_takes (by kernel_rfl) (fun _ _ _ _ _ h => h) [0, 1, 2, 3, 4, 5, 6, 7, 8, 9, 10, 11, 12, 13, 14, 15, 16, 17, 19, 20, 21] 4 _ _ (by kernel_rfl) ?_
    simp only [List.filterMap_cons, List.filterMap_nil, List.getElem?_toArray, List.getElem?_cons_succ, List.getElem?_cons_zero]
    show wpQuiet _ _ _ _ (_ :: _ :: _ :: _ :: _ :: _ :: _ :: _ :: _ :: _ :: _ :: _ :: _ :: _ :: _ :: _ :: _ :: _ :: _ :: _ :: _ :: List.nil) _
    repeat (first | go_big_quiet_skip | (go_big_quiet_want; first | (refine quiet_load _ _ rfl ⟨Q, 1, none⟩ rfl _ HT1.out (fun _ => by kernel_rfl) ?_; simp only [Act.put, List.setIfInBounds_toArray, List.set_cons_succ, List.set_cons_zero]; go_big_quiet_on) | (refine quiet_pick _ _ _ rfl rfl (.bool false) rfl ?_; simp only [Act.put, List.setIfInBounds_toArray, List.set_cons_succ, List.set_cons_zero]; go_big_quiet_on) | (refine pick_false _ _ _ rfl rfl (.bool false) rfl ?_; simp only [Act.put, List.setIfInBounds_toArray, List.set_cons_succ, List.set_cons_zero]; go_big_quiet_on) | (go_big_quiet_op; first | go_big_quiet_on | (refine ⟨_, fun _ _ => rfl, ?_⟩; go_big_quiet_on))))
    refine wpQuiet_nil ?_
    refine anyC_only (i := 18) rfl (by kernel_rfl) hC0 ?_
    go_wp2_with fail
    refine anyC_only (i := 22) rfl (by kernel_rfl) hC0 ?_
    go_wp2_with fail
    refine anyC_takes (by kernel_rfl) (fun _ _ _ _ _ h => h) [23, 24] 0 _ _ (by kernel_rfl) ?_
    simp only [List.filterMap_cons, List.filterMap_nil, List.getElem?_toArray, List.getElem?_cons_succ, List.getElem?_cons_zero]
    show wpQuiet _ _ _ _ (_ :: _ :: List.nil) _
    repeat (first | go_big_quiet_skip | (go_big_quiet_want; first | (refine pick_false _ _ _ rfl rfl (.bool false) rfl ?_; simp only [Act.put, List.setIfInBounds_toArray, List.set_cons_succ, List.set_cons_zero]; go_big_quiet_on) | (go_big_quiet_op; first | go_big_quiet_on | (refine ⟨_, fun _ _ => rfl, ?_⟩; go_big_quiet_on))))
    refine wpQuiet_nil ?_
    refine ⟨hC0, by kernel_rfl, ?_⟩
    go_wp2_with fail
    go_ret
    exact ⟨rfl, ⟨s, ((H1.out.below (Below.refl _ _).drew).weaken (fun k e => Or.inl e)), HOK.out, rfl⟩, (Keeps.of_below HB1.out).drew⟩
end Go.Proofs.Ytpdihggdopdolaa
