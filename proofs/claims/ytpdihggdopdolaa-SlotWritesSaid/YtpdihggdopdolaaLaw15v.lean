/- The walk of layer 15's law SlotWrites. Conditions: the slices are no greater than a row's own reach. -/
import Derived.Test.YtpdihggdopdolaaLaw15w
namespace Go.Proofs.Ytpdihggdopdolaa
open Go.RowKit
theorem save_free {s : DS} {room side m : Nat} {kept : List UInt8} (b : List UInt8) (hok : SOk s room side kept) (hcl : CleanP s room side kept.length) (hp : s.pw = ⟨-1, false, m⟩) :
    ∃ side2 m2, SOk (s.save room side kept b).2 room side2 (rsK s.pw room (takesOf b.length) kept b) ∧ CleanP (s.save room side kept b).2 room side2 (rsK s.pw room (takesOf b.length) kept b).length ∧ (s.save room side kept b).2.pw = ⟨-1, false, m2⟩ ∧ m2 ≤ m + 2000 ∧ (s.save room side kept b).1 = rsE s.pw room (takesOf b.length) (takesOf kept.length) ∧ (s.save room side kept b).2.pw = rsP s.pw room (takesOf b.length) (takesOf kept.length) := by
  obtain ⟨g1, g2, _⟩ := save_ref (b := b) hok
  have hf : s.fuse = -1 := congrArg PW.left hp
  have hd : s.down = false := congrArg PW.gone hp
  have hm : s.writes = m := congrArg PW.writes hp
  by_cases hbig : room < takesOf b.length
  · have hs : s.save room side kept b = (7, s) := by unfold DS.save; rw [if_pos hbig]
    have hK : rsK s.pw room (takesOf b.length) kept b = kept := by unfold rsK; rw [if_pos hbig]
    rw [hK]
    rw [hs] at g1 g2 ⊢
    exact ⟨side, m, hok, hcl, hp, Nat.le_add_right _ _, g1, g2⟩
  · obtain ⟨_, f2, f3, f4⟩ := save_full b hok hcl hf hd hbig
    have hK : rsK s.pw room (takesOf b.length) kept b = b := by unfold rsK; rw [if_neg hbig, hp, run_free]; rfl
    rw [hK]
    refine ⟨1 - side, _, f2, f3, f4, ?_, g1, g2⟩
    have := hok.takes; have := hok.roomLe
    omega
set_option maxRecDepth 100000 in
set_option maxHeartbeats 1000000 in
theorem SlotWrites_any (n : Int) (A1 : Option Addr) (n1 c1 : Nat) (A2 : Option Addr) (n2 c2 : Nat) (w : World) (l1 l2 : List UInt8) (h0 : -9223372036854775808 ≤ n) (h0' : n ≤ 9223372036854775807)
    (hle1 : n1 ≤ 140737488351232) (hnc1 : n1 ≤ c1) (_hcc1 : c1 ≤ 9223372036854775807) (hle2 : n2 ≤ 140737488351232) (hnc2 : n2 ≤ c2) (_hcc2 : c2 ≤ 9223372036854775807)
    (hr1 : Rd w w.heap.size A1 n1 l1) (hr2 : Rd w w.heap.size A2 n2 l2) :
    Calls Try.prog 8 #[.int .i64 n, .slice A1 n1 c1, .slice A2 n2 c2] w fun e w' => e = .returned (.bool true) ∧ Below w.heap.size w w' := by
  have HL1 := Lib.hid hle1; have HL2 := Lib.hid hle2; have HC1 := Lib.hid hnc1; have HC2 := Lib.hid hnc2; have HN := Lib.hid h0'; have HN0 := Lib.hid h0
  have HR1 := Lib.hid (fun W (hW : Below w.heap.size w W) => hr1.below hW); have HR2 := Lib.hid (fun W (hW : Below w.heap.size w W) => hr2.below hW)
  have HX1 := Lib.hid (show takesOf n1 = takesOf l1.length by rw [hr1.len]); have HX2 := Lib.hid (show takesOf n2 = takesOf l2.length by rw [hr2.len])
  clear hle1 hle2 hnc1 hnc2 hr1 hr2 h0 h0'
  go_enter Try.func8, Try.ntmps8
  go_wp2_with fail
  refine (SNew_any w n HN.out).mono ?_
  rintro e w1 ⟨S, rfl, hs1, hb1⟩
  have HS1 := Lib.hid hs1; have HB1 := Lib.hid hb1
  clear hs1 hb1
  go_wp2_with fail
  refine (rnew_any w1 n HN.out HN0.out).mono ?_
  rintro e w2 ⟨rfl, hw2⟩
  obtain ⟨room, hroom⟩ : ∃ room : Nat, (room : Int) = min (max n 0) 512 := ⟨(min (max n 0) 512).toNat, by omega⟩
  have hrm : room ≤ 512 := by omega
  have hs1 := HS1.out
  rw [← hroom, Int.toNat_natCast] at hs1 hw2
  obtain ⟨hok1, hcl1⟩ := SOk.new room hrm
  have hp1 : (DS.new (1 + 2 * (room : Int))).pw = ⟨-1, false, 0⟩ := rfl
  have hduo := Duo.new hs1 HB1.out.size
  rw [← hw2] at hduo
  have hb2 : Below w.heap.size w w2 := by rw [hw2]; exact HB1.out.alloc HB1.out.size _
  clear hw2 hroom hs1 HS1
  generalize w1.heap.size = R at hduo ⊢
  generalize hs1e : DS.new (1 + 2 * (room : Int)) = s1 at hok1 hcl1 hp1 hduo
  clear hs1e
  generalize hBe : w.heap.size = B at HB1 hduo hb2 HR1 HR2
  obtain ⟨sd2, m2, q1, q2, q3, q4, q5, q6⟩ := save_free l1 hok1 hcl1 hp1
  rw [hp1] at q1 q2 q5 q6
  obtain ⟨k2, hk2⟩ : ∃ k2, k2 = rsK ⟨-1, false, 0⟩ room (takesOf l1.length) [] l1 := ⟨_, rfl⟩
  obtain ⟨e2, he2⟩ : ∃ e2, e2 = rsE ⟨-1, false, 0⟩ room (takesOf l1.length) (takesOf ([] : List UInt8).length) := ⟨_, rfl⟩
  obtain ⟨s2, hs2⟩ : ∃ s2, s2 = (s1.save room 0 [] l1).2 := ⟨_, rfl⟩
  have HSV := Lib.hid (show s1.save room 0 [] l1 = (e2, s2) from Prod.ext (q5.trans he2.symm) hs2.symm)
  have HP2 := Lib.hid (show rsP ⟨-1, false, 0⟩ room (takesOf l1.length) (takesOf ([] : List UInt8).length) = ⟨-1, false, m2⟩ from q6.symm.trans q3)
  rw [← hk2, ← hs2] at q1 q2
  rw [← hs2] at q3
  have HK2 := Lib.hid hk2; have HE22 := Lib.hid he2; have HOK1 := Lib.hid hok1; have HOK2 := Lib.hid q1; have HCL2 := Lib.hid q2; have HPW2 := Lib.hid q3; have HM2 := Lib.hid q4; have HD2 := Lib.hid hduo; have HB2 := Lib.hid hb2; have HRM := Lib.hid hrm; have HBE := Lib.hid hBe
  have HW1 := Lib.hid (show s1.writes = 0 from congrArg PW.writes hp1)
  clear hok1 hcl1 hp1 hduo hb2 q1 q2 q3 q4 q5 q6 hk2 he2 hs2 hrm hBe
  go_wp2_with fail
  refine wp_region_anyN (fun _ => True) (by kernel_rfl) ?_
  refine anyC_takes (by kernel_rfl) (fun _ _ _ _ _ h => h) [0, 1, 3, 4, 5] 13 _ _ (by kernel_rfl) ?_
  simp only [List.filterMap_cons, List.filterMap_nil, List.getElem?_toArray, List.getElem?_cons_succ, List.getElem?_cons_zero]
  show wpQuiet _ _ _ _ (_ :: _ :: _ :: _ :: _ :: List.nil) _
  repeat (first | go_big_quiet_skip | (go_big_quiet_want; first | (fail; simp only [Act.put, List.setIfInBounds_toArray, List.set_cons_succ, List.set_cons_zero]; go_big_quiet_on) | (go_big_quiet_op; first | go_big_quiet_on | (refine ⟨_, fun _ _ => rfl, ?_⟩; go_big_quiet_on))))
  refine wpQuiet_nil ?_
  refine anyC_only (i := 2) rfl (by kernel_rfl) trivial ?_
  go_wp2_with fail
  refine (Duo.save 0 [] l1 A1 n1 c1 (HD2.out.below (Below.refl _ _).drew) HOK1.out (HR1.out w2.drew (HB2.out.drew)) HC1.out (by rw [HW1.out]; omega) HL1.out).mono ?_
  rintro e w3 ⟨rfl, hd3, hb3⟩
  rw [HSV.out] at hd3 ⊢
  have HD3 := Lib.hid hd3; have HB3 := Lib.hid (HB2.out.drew.trans hb3)
  clear hd3 hb3
  go_wp2_with fail
  refine anyC_only (i := 6) rfl (by kernel_rfl) trivial ?_
  go_wp2_with fail
  refine (Duo.ref l1 A1 n1 c1 0 0 HD3.out (HR1.out w3 HB3.out) HL1.out HRM.out (by decide) (by decide) (by decide) (by decide)).mono ?_
  rintro e w4 ⟨rfl, hd4, hb4⟩
  rw [HX1.out, HP2.out, ← HK2.out] at hd4
  rw [HX1.out, ← HE22.out]
  have HD4 := Lib.hid hd4; have HB4 := Lib.hid (HB3.out.trans hb4)
  have hcw := hd4.cells.1
  have HCW := Lib.hid (fun W (hW : W = w4) => hW ▸ hcw : ∀ W, W = w4 → W.cell? ⟨R, 2, none⟩ = some (.int .i64 (m2 : Int)))
  clear hd4 hb4 hcw
  go_wp2_with fail
  refine anyC_narrow (C' := fun W => W = w4) (fun _ _ => trivial) _ _ _ _ ?_
  refine anyC_takes (by kernel_rfl) (fun _ _ _ _ _ h => h) [7, 8, 9, 12, 13, 14, 15] 4 _ _ (by kernel_rfl) ?_
  simp only [List.filterMap_cons, List.filterMap_nil, List.getElem?_toArray, List.getElem?_cons_succ, List.getElem?_cons_zero]
  show wpQuiet _ _ _ _ (_ :: _ :: _ :: _ :: _ :: _ :: _ :: List.nil) _
  repeat (first | go_big_quiet_skip | (go_big_quiet_want; first | (refine quiet_load _ _ rfl ⟨R, 2, none⟩ rfl _ HCW.out (fun _ => by kernel_rfl) ?_; simp only [Act.put, List.setIfInBounds_toArray, List.set_cons_succ, List.set_cons_zero]; go_big_quiet_on) | (go_big_quiet_op; first | go_big_quiet_on | (refine ⟨_, fun _ _ => rfl, ?_⟩; go_big_quiet_on))))
  refine wpQuiet_nil ?_
  refine anyC_only (i := 10) rfl (by kernel_rfl) rfl ?_
  go_wp2_with fail
  refine (SDisk_any w4 _ S room s2 HD4.out.slot).mono ?_
  rintro e w5 ⟨⟨D, G, rfl, hdk⟩, hw5⟩
  rw [hw5]
  have HDK := Lib.hid hdk
  clear hdk hw5
  go_wp2_with fail
  refine anyC_only (i := 11) rfl (by kernel_rfl) rfl ?_
  go_wp2_with fail
  refine (Writes_G w4 G D s2 HDK.out).mono ?_
  rintro e w5 ⟨rfl, hw5⟩
  rw [hw5, show s2.writes = m2 from congrArg PW.writes HPW2.out]
  clear hw5
  go_wp2_with fail
  refine anyC_takes (by kernel_rfl) (fun _ _ _ _ _ h => h) [16, 17] 0 _ _ (by kernel_rfl) ?_
  simp only [List.filterMap_cons, List.filterMap_nil, List.getElem?_toArray, List.getElem?_cons_succ, List.getElem?_cons_zero]
  show wpQuiet _ _ _ _ (_ :: _ :: List.nil) _
  repeat (first | go_big_quiet_skip | (go_big_quiet_want; first | (refine pick_false _ _ _ rfl rfl (.bool false) rfl ?_; simp only [Act.put, List.setIfInBounds_toArray, List.set_cons_succ, List.set_cons_zero]; go_big_quiet_on) | (go_big_quiet_op; first | go_big_quiet_on | (refine ⟨_, fun _ _ => rfl, ?_⟩; go_big_quiet_on))))
  refine wpQuiet_nil ?_
  refine ⟨rfl, by kernel_rfl, ?_⟩
  obtain ⟨sd6, m6, q1, q2, q3, q4, q5, q6⟩ := save_free l2 HOK2.out HCL2.out HPW2.out
  rw [HPW2.out] at q1 q2 q5 q6
  obtain ⟨k6, hk6⟩ : ∃ k6, k6 = rsK ⟨-1, false, m2⟩ room (takesOf l2.length) k2 l2 := ⟨_, rfl⟩
  obtain ⟨e6, he6⟩ : ∃ e6, e6 = rsE ⟨-1, false, m2⟩ room (takesOf l2.length) (takesOf k2.length) := ⟨_, rfl⟩
  obtain ⟨s6, hs6⟩ : ∃ s6, s6 = (s2.save room sd2 k2 l2).2 := ⟨_, rfl⟩
  have HSV6 := Lib.hid (show s2.save room sd2 k2 l2 = (e6, s6) from Prod.ext (q5.trans he6.symm) hs6.symm)
  have HP6 := Lib.hid (show rsP ⟨-1, false, m2⟩ room (takesOf l2.length) (takesOf k2.length) = ⟨-1, false, m6⟩ from q6.symm.trans q3)
  rw [← hk6, ← hs6] at q1 q2
  rw [← hs6] at q3
  have HK6 := Lib.hid hk6; have HE6 := Lib.hid he6; have HOK6 := Lib.hid q1; have HCL6 := Lib.hid q2; have HPW6 := Lib.hid q3; have HM6 := Lib.hid q4
  clear q1 q2 q3 q4 q5 q6 hk6 he6 hs6
  go_wp2_with fail
  refine (Duo.save sd2 k2 l2 A2 n2 c2 HD4.out HOK2.out (HR2.out w4 HB4.out) HC2.out (by rw [show s2.writes = m2 from congrArg PW.writes HPW2.out]; have := HM2.out; omega) HL2.out).mono ?_
  rintro e w5 ⟨rfl, hd5, hb5⟩
  rw [HSV6.out] at hd5 ⊢
  have HD5 := Lib.hid hd5; have HB5 := Lib.hid (HB4.out.trans hb5)
  clear hd5 hb5
  go_wp2_with fail
  refine wp_region_anyN (fun _ => True) (by kernel_rfl) ?_
  refine anyC_only (i := 0) rfl (by kernel_rfl) trivial ?_
  go_wp2_with fail
  refine (answers15_any w5.drew).mono ?_
  rintro e w6 ⟨rfl, hb6⟩
  have HD6 := Lib.hid ((HD5.out.below (Below.refl _ _).drew).below hb6); have HB6 := Lib.hid (HB5.out.drew.trans (hb6.mono HD5.out.size))
  clear hb6
  go_wp2_with fail
  refine anyC_takes (by kernel_rfl) (fun _ _ _ _ _ h => h) [1, 2, 3, 4, 5] 29 _ _ (by kernel_rfl) ?_
  simp only [List.filterMap_cons, List.filterMap_nil, List.getElem?_toArray, List.getElem?_cons_succ, List.getElem?_cons_zero]
  show wpQuiet _ _ _ _ (_ :: _ :: _ :: _ :: _ :: List.nil) _
  repeat (first | go_big_quiet_skip | (go_big_quiet_want; first | (fail; simp only [Act.put, List.setIfInBounds_toArray, List.set_cons_succ, List.set_cons_zero]; go_big_quiet_on) | (go_big_quiet_op; first | go_big_quiet_on | (refine ⟨_, fun _ _ => rfl, ?_⟩; go_big_quiet_on))))
  refine wpQuiet_nil ?_
  refine anyC_only (i := 6) rfl (by kernel_rfl) trivial ?_
  go_wp2_with fail
  refine (Duo.ref l2 A2 n2 c2 0 0 HD6.out (HR2.out w6 HB6.out) HL2.out HRM.out HOK2.out.takes (by show (-1 : Int) ≤ -1; omega) (by show (-1 : Int) ≤ _; omega) (by have := HM2.out; show m2 ≤ _; omega)).mono ?_
  rintro e w7 ⟨rfl, hd7, hb7⟩
  rw [HX2.out, HP6.out, ← HK6.out] at hd7
  rw [HX2.out, ← HE6.out]
  have HD7 := Lib.hid hd7; have HB7 := Lib.hid (HB6.out.trans hb7)
  have hcw := hd7.cells.1
  have HCW7 := Lib.hid (fun W (hW : W = w7) => hW ▸ hcw : ∀ W, W = w7 → W.cell? ⟨R, 2, none⟩ = some (.int .i64 (m6 : Int)))
  clear hd7 hb7 hcw
  go_wp2_with fail
  refine anyC_narrow (C' := fun W => Below w7.heap.size w7 W) (fun _ _ => trivial) _ _ _ _ ?_
  have HCB7 := Lib.hid (fun W (hW : Below w7.heap.size w7 W) => (hW.cell (p := ⟨R, 2, none⟩) HD7.out.rlt).trans (HCW7.out w7 rfl) : ∀ W, Below w7.heap.size w7 W → W.cell? ⟨R, 2, none⟩ = some (.int .i64 (m6 : Int)))
  refine anyC_takes (by kernel_rfl) (fun _ _ _ _ _ h => h) [7, 8, 9, 10, 13, 14, 15, 16] 20 _ _ (by kernel_rfl) ?_
  simp only [List.filterMap_cons, List.filterMap_nil, List.getElem?_toArray, List.getElem?_cons_succ, List.getElem?_cons_zero]
  show wpQuiet _ _ _ _ (_ :: _ :: _ :: _ :: _ :: _ :: _ :: _ :: List.nil) _
  repeat (first | go_big_quiet_skip | (go_big_quiet_want; first | (refine quiet_load _ _ rfl ⟨R, 2, none⟩ rfl _ HCB7.out (fun _ => by kernel_rfl) ?_; simp only [Act.put, List.setIfInBounds_toArray, List.set_cons_succ, List.set_cons_zero]; go_big_quiet_on) | (refine quiet_pick _ _ _ rfl rfl (.bool true) rfl ?_; simp only [Act.put, List.setIfInBounds_toArray, List.set_cons_succ, List.set_cons_zero]; go_big_quiet_on) | (go_big_quiet_op; first | go_big_quiet_on | (refine ⟨_, fun _ _ => rfl, ?_⟩; go_big_quiet_on))))
  refine wpQuiet_nil ?_
  refine anyC_only (i := 11) rfl (by kernel_rfl) (Below.refl _ _) ?_
  go_wp2_with fail
  refine (SDisk_any w7 _ S room s6 HD7.out.slot).mono ?_
  rintro e w8 ⟨⟨D2, G2, rfl, hdk⟩, hw8⟩
  rw [hw8]
  have HDK2 := Lib.hid hdk
  clear hdk hw8
  go_wp2_with fail
  refine anyC_only (i := 12) rfl (by kernel_rfl) (Below.refl _ _) ?_
  go_wp2_with fail
  refine (Writes_G w7 G2 D2 s6 HDK2.out).mono ?_
  rintro e w8 ⟨rfl, hw8⟩
  rw [hw8, show s6.writes = m6 from congrArg PW.writes HPW6.out]
  clear hw8
  go_wp2_with fail
  refine anyC_takes (by kernel_rfl) (fun _ _ _ _ _ h => h) [17, 18, 19, 20] 14 _ _ (by kernel_rfl) ?_
  simp only [List.filterMap_cons, List.filterMap_nil, List.getElem?_toArray, List.getElem?_cons_succ, List.getElem?_cons_zero]
  show wpQuiet _ _ _ _ (_ :: _ :: _ :: _ :: List.nil) _
  repeat (first | go_big_quiet_skip | (go_big_quiet_want; first | (refine quiet_pick _ _ _ rfl rfl (.bool true) rfl ?_; simp only [Act.put, List.setIfInBounds_toArray, List.set_cons_succ, List.set_cons_zero]; go_big_quiet_on) | (go_big_quiet_op; first | go_big_quiet_on | (refine ⟨_, fun _ _ => rfl, ?_⟩; go_big_quiet_on))))
  refine wpQuiet_nil ?_
  refine anyC_only (i := 21) rfl (by kernel_rfl) (Below.refl _ _) ?_
  go_wp2_with fail
  refine (Clean_any w7 _ S room s6 sd6 k6 HD7.out.slot HOK6.out).mono ?_
  rintro e w8 ⟨⟨b8, rfl, hb8⟩, hbe8⟩
  obtain rfl : b8 = true := hb8.2 HCL6.out
  have HBE8 := Lib.hid hbe8; have HD8 := Lib.hid (HD7.out.below hbe8)
  clear hb8 hbe8
  go_wp2_with fail
  obtain ⟨_, _, KA, Kc, hkc, hkr⟩ := HD8.out.cells
  have HKC := Lib.hid (fun W (hW : Below w8.heap.size w8 W) => (hW.cell (p := ⟨R, 5, none⟩) HD8.out.rlt).trans hkc : ∀ W, Below w8.heap.size w8 W → W.cell? ⟨R, 5, none⟩ = some (.slice KA k6.length Kc))
  have HKR := Lib.hid (fun W (hW : Below w8.heap.size w8 W) => hkr.below hW)
  have HC87 := Lib.hid (fun W (hW : Below w8.heap.size w8 W) => HBE8.out.trans (hW.mono HBE8.out.size) : ∀ W, Below w8.heap.size w8 W → Below w7.heap.size w7 W)
  clear hkc hkr
  refine anyC_narrow (C' := Below w8.heap.size w8) HC87.out _ _ _ _ ?_
  refine anyC_takes (by kernel_rfl) (fun _ _ _ _ _ h => h) [22, 23, 24, 27, 28, 29, 30, 31] 5 _ _ (by kernel_rfl) ?_
  simp only [List.filterMap_cons, List.filterMap_nil, List.getElem?_toArray, List.getElem?_cons_succ, List.getElem?_cons_zero]
  show wpQuiet _ _ _ _ (_ :: _ :: _ :: _ :: _ :: _ :: _ :: _ :: List.nil) _
  repeat (first | go_big_quiet_skip | (go_big_quiet_want; first | (refine quiet_pick _ _ _ rfl rfl (.bool true) rfl ?_; simp only [Act.put, List.setIfInBounds_toArray, List.set_cons_succ, List.set_cons_zero]; go_big_quiet_on) | (refine quiet_load _ _ rfl ⟨R, 5, none⟩ rfl _ HKC.out (fun _ => by kernel_rfl) ?_; simp only [Act.put, List.setIfInBounds_toArray, List.set_cons_succ, List.set_cons_zero]; go_big_quiet_on) | (refine quiet_str 22 9 5 (.tmp 65) rfl KA _ Kc k6 rfl Try.underlying22 Try.underlying5 Try.underlying9 _ HKR.out ?_; simp only [Act.put, List.setIfInBounds_toArray, List.set_cons_succ, List.set_cons_zero]; go_big_quiet_on) | (go_big_quiet_op; first | go_big_quiet_on | (refine ⟨_, fun _ _ => rfl, ?_⟩; go_big_quiet_on))))
  refine wpQuiet_nil ?_
  refine anyC_only (i := 25) rfl (by kernel_rfl) (Below.refl _ _) ?_
  go_wp2_with fail
  refine (Load_any w8 _ S room s6 sd6 k6 HD8.out.slot HOK6.out).mono ?_
  rintro e w9 ⟨A9, c9, rfl, hr9, hb9⟩
  have HR9 := Lib.hid (fun W (hW : Below w9.heap.size w9 W) => hr9.below hW); have HB9 := Lib.hid hb9
  have HC98 := Lib.hid (fun W (hW : Below w9.heap.size w9 W) => HB9.out.trans (hW.mono HB9.out.size) : ∀ W, Below w9.heap.size w9 W → Below w8.heap.size w8 W)
  clear hr9 hb9
  go_wp2_with fail
  refine anyC_narrow (C' := Below w9.heap.size w9) HC98.out _ _ _ _ ?_
  refine anyC_takes (by kernel_rfl) (fun _ _ _ _ _ h => h) [26, 32, 33, 34] 0 _ _ (by kernel_rfl) ?_
  simp only [List.filterMap_cons, List.filterMap_nil, List.getElem?_toArray, List.getElem?_cons_succ, List.getElem?_cons_zero]
  show wpQuiet _ _ _ _ (_ :: _ :: _ :: _ :: List.nil) _
  repeat (first | go_big_quiet_skip | (go_big_quiet_want; first | (refine quiet_str 22 9 5 (.tmp 60) rfl A9 _ c9 k6 rfl Try.underlying22 Try.underlying5 Try.underlying9 _ HR9.out ?_; simp only [Act.put, List.setIfInBounds_toArray, List.set_cons_succ, List.set_cons_zero]; go_big_quiet_on) | (refine quiet_eql_str _ _ _ _ rfl _ rfl rfl ?_; simp only [Act.put, List.setIfInBounds_toArray, List.set_cons_succ, List.set_cons_zero]; go_big_quiet_on) | (refine quiet_pick _ _ _ rfl rfl (.bool true) rfl ?_; simp only [Act.put, List.setIfInBounds_toArray, List.set_cons_succ, List.set_cons_zero]; go_big_quiet_on) | (go_big_quiet_op; first | go_big_quiet_on | (refine ⟨_, fun _ _ => rfl, ?_⟩; go_big_quiet_on))))
  refine wpQuiet_nil ?_
  refine ⟨Below.refl _ _, by kernel_rfl, ?_⟩
  go_wp2_with fail
  go_ret
  exact ⟨rfl, by rw [HBE.out]; exact HB7.out.trans ((HBE8.out.trans (HB9.out.mono HBE8.out.size)).mono HD7.out.size)⟩
end Go.Proofs.Ytpdihggdopdolaa
