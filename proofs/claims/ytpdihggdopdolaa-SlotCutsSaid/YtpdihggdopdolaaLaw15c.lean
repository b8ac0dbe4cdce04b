/- The walk of layer 15's law SlotCuts. Conditions: the slices are no greater than a row's own reach. -/
import Derived.Test.YtpdihggdopdolaaLaw15
namespace Go.Proofs.Ytpdihggdopdolaa
open Go.RowKit
theorem run_free (k : Nat) : ∀ (n : Nat), PW.run ⟨-1, false, n⟩ k = (true, ⟨-1, false, n + k⟩) := by
  induction k with
  | zero => intro n; rfl
  | succ k ih =>
    intro n
    rw [show PW.run ⟨-1, false, n⟩ (k + 1) = PW.run ⟨-1, false, n + 1⟩ k from rfl, ih, show n + 1 + k = n + (k + 1) by omega]
theorem run_writes (k : Nat) : ∀ (p : PW), (p.run k).2.writes ≤ p.writes + k := by
  induction k with
  | zero => intro p; exact Nat.le_refl _
  | succ k ih =>
    intro p
    unfold PW.run
    split
    · show p.writes ≤ _; omega
    · have := ih ⟨if 0 < p.left then p.left - 1 else p.left, false, p.writes + 1⟩
      simp only at this
      omega
theorem SOk.takes {s : DS} {room side : Nat} {kept : List UInt8} (h : SOk s room side kept) : takesOf kept.length ≤ 512 := Nat.le_trans h.fits h.roomLe
theorem save_case {s : DS} {room side : Nat} {kept : List UInt8} (b : List UInt8) (hok : SOk s room side kept) (ht : CleanP s room side kept.length) :
    ∃ side' kept', SOk (s.save room side kept b).2 room side' kept' ∧ TailP (s.save room side kept b).2 room side' kept'.length ∧ (kept' = kept ∨ kept' = b) ∧ ((s.save room side kept b).1 = 0 → kept' = b) ∧ (s.save room side kept b).2.writes ≤ s.writes + 2000 := by
  by_cases hbig : room < takesOf b.length
  · have hs : s.save room side kept b = (7, s) := by unfold DS.save; rw [if_pos hbig]
    rw [hs]
    exact ⟨side, kept, hok, ht.tail, Or.inl rfl, fun e => (by cases e), Nat.le_add_right _ _⟩
  · have hsv := save_spec (b := b) hok hbig
    have hw : (s.save room side kept b).2.writes ≤ s.writes + 2000 := by
      have h1 := hsv.pw.2
      have h2 : (s.save room side kept b).2.writes = (s.pw.run (takesOf b.length + 1 + takesOf kept.length)).2.writes := congrArg PW.writes h1
      have h3 := run_writes (takesOf b.length + 1 + takesOf kept.length) s.pw
      have h4 : s.pw.writes = s.writes := rfl
      have := hok.takes; have := hok.roomLe
      omega
    cases hc : (s.pw.run (takesOf b.length + 1)).1
    · obtain ⟨h1, h2⟩ := hsv.old hc
      refine ⟨side, kept, h1, h2 ht, Or.inl rfl, fun e => ?_, hw⟩
      have h3 := hsv.pw.1
      have h4 := PW.run_add s.pw (takesOf b.length + 1) (takesOf kept.length)
      rw [if_neg (by rw [hc]; decide)] at h4
      rw [e] at h3
      have h5 := ite_zero h3.symm
      rw [h4, hc] at h5
      cases h5
    · obtain ⟨h1, h2⟩ := hsv.new hc
      exact ⟨1 - side, b, h1, (h2 ht).1, Or.inr rfl, fun _ => rfl, hw⟩
theorem save_full {s : DS} {room side : Nat} {kept : List UInt8} (b : List UInt8) (hok : SOk s room side kept) (ht : CleanP s room side kept.length) (hf : s.fuse = -1) (hd : s.down = false) (hbig : ¬ room < takesOf b.length) :
    (s.save room side kept b).1 = 0 ∧ SOk (s.save room side kept b).2 room (1 - side) b ∧ CleanP (s.save room side kept b).2 room (1 - side) b.length ∧ (s.save room side kept b).2.pw = ⟨-1, false, s.writes + (takesOf b.length + 1 + takesOf kept.length)⟩ := by
  have hsv := save_spec (b := b) hok hbig
  have hp : s.pw = ⟨-1, false, s.writes⟩ := by unfold DS.pw; rw [hf, hd]
  obtain ⟨p1, p2⟩ := hsv.pw
  rw [hp, run_free] at p1 p2
  have h0 : (s.save room side kept b).1 = 0 := p1
  obtain ⟨h1, h2⟩ := hsv.new (by rw [hp, run_free])
  exact ⟨h0, h1, (h2 ht).2 h0, p2⟩
theorem pick_false {P : Program} {C : World → Prop} {o : Oper} {a : Act} {K : Act → Prop} (c x y : Operand) (ho : o.op = .pick c x y) (hc : a.eval c = .bool false) (v : Value) (hx : a.eval y = v) (hK : K (a.put o.dst v)) : o.quiet P a C K := by
  refine ⟨_, fun w _ => ?_, hK⟩
  unfold Oper.quietAt execOp
  simp [ho, hc, hx, asBool, Oper.quietUpon]
theorem anyC_skip {P : Program} {ops : Array Oper} {md : Region.Mode} {Q : Exit → Act → World → Prop} {C : World → Prop} {i : Nat} {o : Oper} {f : Nat} {listed : Array Bool} {a : Act} {w : World} (hi : ops[i]? = some o) (hr : Region.ready md ops listed = [i]) (hC : C w) (hw : Region.wanted o (yielded ops a.tmps) = false)
    (h : anyC P md ops C Q f (listed.setIfInBounds i true) (a.put o.dst undef) w) : anyC P md ops C Q (f + 1) listed a w := by
  refine anyC_only hi hr hC ?_
  unfold wpList
  rw [if_neg (by rw [hw]; decide)]
  exact h
theorem case4 {d1 d2 : Bool} {e : Int} (h : (d1 = true ∨ d2 = true) ∧ (e = 0 → d2 = true)) : (d1 = true ∧ e ≠ 0) ∨ (d1 = true ∧ d2 = true ∧ e = 0) ∨ (d1 = false ∧ d2 = true ∧ e ≠ 0) ∨ (d1 = false ∧ d2 = true ∧ e = 0) := by
  obtain ⟨h1, h2⟩ := h
  by_cases e0 : e = 0
  · have h3 := h2 e0
    cases d1
    · exact Or.inr (Or.inr (Or.inr ⟨rfl, h3, e0⟩))
    · exact Or.inr (Or.inl ⟨rfl, h3, e0⟩)
  · cases d1
    · exact Or.inr (Or.inr (Or.inl ⟨rfl, h1.resolve_left (by decide), e0⟩))
    · exact Or.inl ⟨rfl, e0⟩
set_option maxRecDepth 100000 in
set_option maxHeartbeats 4000000 in
theorem SlotCuts_any (n : Int) (A1 : Option Addr) (n1 c1 : Nat) (A2 : Option Addr) (n2 c2 : Nat) (A3 : Option Addr) (n3 c3 : Nat) (x : UInt8) (w : World) (l1 l2 l3 : List UInt8) (_h0 : -9223372036854775808 ≤ n) (h0' : n ≤ 9223372036854775807)
    (hle1 : n1 ≤ 140737488351232) (hnc1 : n1 ≤ c1) (_hcc1 : c1 ≤ 9223372036854775807) (hle2 : n2 ≤ 140737488351232) (hnc2 : n2 ≤ c2) (_hcc2 : c2 ≤ 9223372036854775807) (hle3 : n3 ≤ 140737488351232) (hnc3 : n3 ≤ c3) (_hcc3 : c3 ≤ 9223372036854775807)
    (hr1 : Rd w w.heap.size A1 n1 l1) (hr2 : Rd w w.heap.size A2 n2 l2) (hr3 : Rd w w.heap.size A3 n3 l3) :
    Calls Try.prog 7 #[.int .i64 n, .slice A1 n1 c1, .slice A2 n2 c2, .slice A3 n3 c3, .int .u8 x.toNat] w fun e w' => e = .returned (.bool true) ∧ Below w.heap.size w w' := by
  have rd_lt : ∀ {A : Option Addr} {n : Nat} {l : List UInt8}, Rd w w.heap.size A n l → ∀ W, Below w.heap.size w W → Rd W w.heap.size A n l := fun h W hW => h.below hW
  have HL1 := Lib.hid hle1; have HL2 := Lib.hid hle2; have HL3 := Lib.hid hle3; have HC1 := Lib.hid hnc1; have HC2 := Lib.hid hnc2; have HC3 := Lib.hid hnc3
  have HR1 := Lib.hid (rd_lt hr1); have HR2 := Lib.hid (rd_lt hr2); have HR3 := Lib.hid (rd_lt hr3)
  clear hle1 hle2 hle3 hnc1 hnc2 hnc3 hr1 hr2 hr3 rd_lt _hcc1 _hcc2 _hcc3 _h0
  generalize hBe : w.heap.size = B at HR1 HR2 HR3
  have HBE := Lib.hid hBe
  clear hBe
  have HX := Lib.hid (show (x.toNat : Int) ≤ 9223372036854775807 by have := x.toNat_lt; omega)
  go_enter Try.func7, Try.ntmps7
  go_wp2_with fail
  refine (SNew_any w n h0').mono ?_
  rintro e w1 ⟨S, rfl, hs1, hb1⟩
  rw [HBE.out] at hs1 hb1
  obtain ⟨room, hroom⟩ : ∃ room : Nat, (room : Int) = min (max n 0) 512 := ⟨(min (max n 0) 512).toNat, by omega⟩
  have hrm : room ≤ 512 := by omega
  rw [← hroom, Int.toNat_natCast] at hs1
  clear hroom h0'
  obtain ⟨hok1, hcl1⟩ := SOk.new room hrm
  have hf1 : (DS.new (1 + 2 * (room : Int))).fuse = -1 := rfl
  have hd1 : (DS.new (1 + 2 * (room : Int))).down = false := rfl
  have hw1 : (DS.new (1 + 2 * (room : Int))).writes = 0 := rfl
  generalize DS.new (1 + 2 * (room : Int)) = s1 at hok1 hcl1 hf1 hd1 hw1 hs1
  have HS1 := Lib.hid hs1; have HB1 := Lib.hid hb1; have HOK1 := Lib.hid hok1; have HCL1 := Lib.hid hcl1; have HF1 := Lib.hid hf1; have HD1 := Lib.hid hd1; have HW1 := Lib.hid hw1; have HRM := Lib.hid hrm
  have HBW1 := Lib.hid (show B ≤ w1.heap.size by have := hb1.size; have := HBE.out; omega)
  clear hs1 hb1 hok1 hcl1 hf1 hd1 hw1 hrm
  by_cases hbig1 : room < takesOf l1.length
  · have hsv : s1.save room 0 [] l1 = (7, s1) := by unfold DS.save; rw [if_pos hbig1]
    have HSV := Lib.hid hsv
    clear hsv hbig1
    go_wp2_with fail
    refine (Save_arg 0 [] l1 A1 n1 c1 HS1.out HBW1.out HOK1.out (HR1.out w1 HB1.out) HC1.out (by rw [HW1.out]; omega) HL1.out).mono ?_
    rintro e w2 ⟨rfl, hs2, hb2⟩
    rw [HSV.out] at hs2 ⊢
    have HS2 := Lib.hid hs2; have HB2 := Lib.hid (HB1.out.trans hb2); have HBW2 := Lib.hid (Nat.le_trans HBW1.out hb2.size)
    clear hs2 hb2 HSV
    go_wp2_with fail
    refine (answers15_any w2).mono ?_
    rintro e w3 ⟨rfl, hb3⟩
    have HS3 := Lib.hid (HS2.out.below hb3); have HB3 := Lib.hid (HB2.out.trans (hb3.mono HBW2.out)); have HBW3 := Lib.hid (Nat.le_trans HBW2.out hb3.size)
    clear hb3
    go_wp2_with fail
    refine (Load_any w3 _ S room s1 0 [] HS3.out HOK1.out).mono ?_
    rintro e w4 ⟨A4, c4, rfl, _, hb4⟩
    have HB4 := Lib.hid (HB3.out.trans (hb4.mono HBW3.out))
    clear hb4
    go_wp2_with fail
    go_ret
    exact ⟨rfl, HB4.out⟩
  obtain ⟨he2, hok2, hcl2, hp2⟩ := save_full l1 HOK1.out HCL1.out HF1.out HD1.out hbig1
  rw [HW1.out] at hp2
  have HE2 := Lib.hid he2; have HOK2 := Lib.hid hok2; have HCL2 := Lib.hid hcl2; have HP2 := Lib.hid hp2; have HBIG1 := Lib.hid hbig1
  clear he2 hok2 hcl2 hp2 hbig1
  go_wp2_with fail
  refine (Save_arg 0 [] l1 A1 n1 c1 HS1.out HBW1.out HOK1.out (HR1.out w1 HB1.out) HC1.out (by rw [HW1.out]; omega) HL1.out).mono ?_
  rintro e w2 ⟨rfl, hs2, hb2⟩
  rw [HE2.out]
  have hw2 : (s1.save room 0 [] l1).2.writes ≤ 2000 := by
    have h9 : (s1.save room 0 [] l1).2.writes = _ := congrArg PW.writes HP2.out
    have := HBIG1.out; have := HRM.out
    simp only [List.length_nil] at h9
    unfold takesOf at *
    omega
  have HS2 := Lib.hid hs2; have HB2 := Lib.hid (HB1.out.trans hb2); have HBW2 := Lib.hid (Nat.le_trans HBW1.out hb2.size); have HW2 := Lib.hid hw2
  clear hs2 hb2 HE2 HP2 hw2
  generalize (s1.save room 0 [] l1).2 = s2 at HS2 HOK2 HCL2 HW2
  have hx255 : x.toNat < 256 := x.toNat_lt
  go_wp2_with fail
  refine (SFuse_B (x.toNat : Int) HX.out HS2.out HBW2.out).mono ?_
  clear hx255
  rintro e w3 ⟨rfl, hs3, hb3⟩
  have hok3 : SOk { s2 with fuse := max (x.toNat : Int) 0 } room (1 - 0) l1 := HOK2.out.bl rfl
  have hcl3 : CleanP { s2 with fuse := max (x.toNat : Int) 0 } room (1 - 0) l1.length := HCL2.out.bl rfl
  have hw3 : ({ s2 with fuse := max (x.toNat : Int) 0 } : DS).writes ≤ 2000 := HW2.out
  generalize ({ s2 with fuse := max (x.toNat : Int) 0 } : DS) = s3 at hs3 hok3 hcl3 hw3
  obtain ⟨side4, k4, hok4, ht4, hk4, he4, hw4⟩ := save_case l2 hok3 hcl3
  have HS3 := Lib.hid hs3; have HB3 := Lib.hid (HB2.out.trans hb3); have HBW3 := Lib.hid (Nat.le_trans HBW2.out hb3.size); have HOK3 := Lib.hid hok3; have HW3 := Lib.hid hw3
  have HOK4 := Lib.hid hok4; have HT4 := Lib.hid ht4; have HK4 := Lib.hid hk4; have HE4 := Lib.hid he4; have HW4 := Lib.hid hw4
  clear hs3 hb3 hok3 hcl3 hw3 hok4 ht4 hk4 he4 hw4
  go_wp2_with fail
  refine (Save_arg (1 - 0) l1 l2 A2 n2 c2 HS3.out HBW3.out HOK3.out (HR2.out w3 HB3.out) HC2.out (by have := HW3.out; omega) HL2.out).mono ?_
  rintro e w4 ⟨rfl, hs4, hb4⟩
  have HS4 := Lib.hid hs4; have HB4 := Lib.hid (HB3.out.trans hb4); have HBW4 := Lib.hid (Nat.le_trans HBW3.out hb4.size)
  clear hs4 hb4
  obtain ⟨e4, s4, hsv⟩ : ∃ e4 s4, s3.save room (1 - 0) l1 l2 = (e4, s4) := ⟨_, _, rfl⟩
  rw [hsv] at HS4 HOK4 HT4 HE4 HW4 ⊢
  clear hsv
  go_wp2_with fail
  refine (Load_any w4 _ S room s4 side4 k4 HS4.out HOK4.out).mono ?_
  rintro e w5 ⟨A5, c5, rfl, hr5, hb5⟩
  have HR5 := Lib.hid hr5; have HS5 := Lib.hid (HS4.out.below hb5); have HB5 := Lib.hid (HB4.out.trans (hb5.mono HBW4.out)); have HBW5 := Lib.hid (Nat.le_trans HBW4.out hb5.size)
  clear hr5 hb5
  go_wp2_with (refine wpList_str (by rfl) 22 9 5 (.tmp 36) rfl A5 _ c5 k4 rfl Try.underlying22 Try.underlying5 Try.underlying9 _ HR5.out ?_)
  refine (Start_B side4 k4 HS5.out HBW5.out HOK4.out (by have := HW4.out; have := HW3.out; omega)).mono ?_
  rintro e w6 ⟨rfl, ⟨s6, hs6, hc6⟩, hb6⟩
  obtain ⟨hok6, hcl6⟩ := started HOK4.out hc6
  have HS6 := Lib.hid hs6; have HOK6 := Lib.hid hok6; have HCL6 := Lib.hid (hcl6 _ HT4.out); have HDN := Lib.hid hc6.down; have HFU := Lib.hid hc6.fuse; have HB6 := Lib.hid (HB5.out.trans hb6); have HBW6 := Lib.hid (Nat.le_trans HBW5.out hb6.size)
  have HW6 := Lib.hid (show s6.writes ≤ 10000 by have := hc6.writes; have := HW4.out; have := HW3.out; have := HRM.out; omega)
  have HRA := Lib.hid (HR1.out w6 HB6.out); have HRB := Lib.hid (HR2.out w6 HB6.out)
  clear hs6 hc6 hb6 hok6 hcl6
  obtain ⟨d1, hd1⟩ : ∃ d1, decide (k4 = l1) = d1 := ⟨_, rfl⟩
  obtain ⟨d2, hd2⟩ : ∃ d2, decide (k4 = l2) = d2 := ⟨_, rfl⟩
  have HDD := Lib.hid (show (d1 = true ∨ d2 = true) ∧ (e4 = 0 → d2 = true) by rw [← hd1, ← hd2]; exact ⟨HK4.out.elim (fun e => Or.inl (decide_eq_true e)) (fun e => Or.inr (decide_eq_true e)), fun e => decide_eq_true (HE4.out e)⟩)
  have HD1' := Lib.hid hd1; have HD2' := Lib.hid hd2
  clear hd1 hd2
  have hcase := case4 HDD.out
  clear HK4 HE4
  rcases hcase with ⟨rfl, he⟩ | ⟨rfl, rfl, rfl⟩ | ⟨rfl, rfl, he⟩ | ⟨rfl, rfl, rfl⟩
  · go_wp2_with (first | (refine wpList_str (by rfl) 22 9 5 (.tmp 41) rfl A1 n1 c1 l1 rfl Try.underlying22 Try.underlying5 Try.underlying9 _ HRA.out ?_) | (refine wpList_neq (by rfl) 9 9 (.tmp 40) (.tmp 42) rfl k4 l1 rfl rfl ?_; rw [HD1'.out]) | (refine wpList_str (by rfl) 22 9 5 (.tmp 46) rfl A2 n2 c2 l2 rfl Try.underlying22 Try.underlying5 Try.underlying9 _ HRB.out ?_) | (refine wpList_neq (by rfl) 9 9 (.tmp 45) (.tmp 47) rfl k4 l2 rfl rfl ?_; rw [HD2'.out]) | (refine wpList_str (by rfl) 22 9 5 (.tmp 55) rfl A2 n2 c2 l2 rfl Try.underlying22 Try.underlying5 Try.underlying9 _ HRB.out ?_) | (refine wpList_neq (by rfl) 9 9 (.tmp 54) (.tmp 56) rfl k4 l2 rfl rfl ?_; rw [HD2'.out]))
    refine (Load_any w6 _ S room s6 side4 k4 HS6.out HOK6.out).mono ?_
    rintro e w7 ⟨A7, c7, rfl, hr7, hb7⟩
    have HR7 := Lib.hid hr7; have HS7 := Lib.hid (HS6.out.below hb7); have HB7 := Lib.hid (HB6.out.trans (hb7.mono HBW6.out)); have HBW7 := Lib.hid (Nat.le_trans HBW6.out hb7.size)
    clear hr7 hb7
    go_wp2_with (first | (refine wpList_str (by rfl) 22 9 5 (.tmp 62) rfl A7 _ c7 k4 rfl Try.underlying22 Try.underlying5 Try.underlying9 _ HR7.out ?_) | (refine wpList_neq (by rfl) 9 9 (.tmp 63) (.tmp 64) rfl k4 k4 rfl rfl ?_; rw [decide_eq_true (rfl : k4 = k4)]))
    refine (Clean_any w7 _ S room s6 side4 k4 HS7.out HOK6.out).mono ?_
    rintro e w8 ⟨⟨b8, rfl, hb8⟩, hbe8⟩
    have HS8 := Lib.hid (HS7.out.below hbe8); have HB8 := Lib.hid (HB7.out.trans (hbe8.mono HBW7.out)); have HBW8 := Lib.hid (Nat.le_trans HBW7.out hbe8.size)
    obtain rfl : b8 = true := hb8.2 HCL6.out
    clear hb8 hbe8
    go_wp2_with (go_at_call 31; refine (SDown_any _ _ S room s6 HS8.out).mono ?_; rintro e w9 ⟨rfl, rfl⟩; rw [HDN.out])
    by_cases hbig : room < takesOf l3.length
    · have HSV := Lib.hid (show s6.save room side4 k4 l3 = (7, s6) by unfold DS.save; rw [if_pos hbig])
      clear hbig
      refine (Save_arg side4 k4 l3 A3 n3 c3 HS8.out HBW8.out HOK6.out (HR3.out _ HB8.out) HC3.out (by have := HW6.out; omega) HL3.out).mono ?_
      rintro e wA ⟨rfl, hsA, hbA⟩
      rw [HSV.out] at hsA ⊢
      have HSA := Lib.hid hsA; have HBA := Lib.hid (HB8.out.trans hbA); have HBWA := Lib.hid (Nat.le_trans HBW8.out hbA.size)
      clear hsA hbA
      go_wp2_with fail
      have hC0 : Below wA.heap.size wA wA.drew := (Below.refl _ _).drew
      refine wp_region_anyN (Below wA.heap.size wA) (by kernel_rfl) ?_
      refine anyC_only (i := 0) rfl (by kernel_rfl) hC0 ?_
      go_wp2_with fail
      refine (answers15_any wA.drew).mono ?_
      rintro e wB ⟨rfl, hbB⟩
      have HCB := Lib.hid (hC0.trans hbB)
      clear hbB
      go_wp2_with fail
      refine anyC_takes (by kernel_rfl) (fun _ _ _ _ _ h => h) [1, 2, 3, 4, 5, 8] 22 _ _ (by kernel_rfl) ?_
      simp only [List.filterMap_cons, List.filterMap_nil, List.getElem?_toArray, List.getElem?_cons_succ, List.getElem?_cons_zero]
      show wpQuiet _ _ _ _ (_ :: _ :: _ :: _ :: _ :: _ :: List.nil) _
      repeat (first | go_big_quiet_skip | (go_big_quiet_want; first | (fail; simp only [Act.put, List.setIfInBounds_toArray, List.set_cons_succ, List.set_cons_zero]; go_big_quiet_on) | (go_big_quiet_op; first | go_big_quiet_on | (refine ⟨_, fun _ _ => rfl, ?_⟩; go_big_quiet_on))))
      refine wpQuiet_nil ?_
      refine anyC_only (i := 6) rfl (by kernel_rfl) HCB.out ?_
      go_wp2_with fail
      refine (Load_any wB _ S room s6 side4 k4 (HSA.out.below HCB.out) HOK6.out).mono ?_
      rintro e wC ⟨AC, cC, rfl, hrC, hbC⟩
      have HCC := Lib.hid (HCB.out.trans (hbC.mono (HCB.out.size)))
      have hCC : ∀ W, Below wC.heap.size wC W → Below wA.heap.size wA W := fun W hW => HCC.out.trans (hW.mono HCC.out.size)
      have HRC := Lib.hid (fun W (hW : Below wC.heap.size wC W) => hrC.below hW)
      have HRX := Lib.hid (fun W (hW : Below wC.heap.size wC W) => HR3.out W (HBA.out.trans ((hCC W hW).mono HBWA.out)))
      have HCW := Lib.hid hCC
      clear hrC hbC hCC
      go_wp2_with fail
      refine anyC_narrow (C' := Below wC.heap.size wC) HCW.out _ _ _ _ ?_
      refine anyC_takes (by kernel_rfl) (fun _ _ _ _ _ h => h) [7, 9, 10, 11, 12, 13, 14, 15, 18, 19] 11 _ _ (by kernel_rfl) ?_
      simp only [List.filterMap_cons, List.filterMap_nil, List.getElem?_toArray, List.getElem?_cons_succ, List.getElem?_cons_zero]
      show wpQuiet _ _ _ _ (_ :: _ :: _ :: _ :: _ :: _ :: _ :: _ :: _ :: _ :: List.nil) _
      repeat (first | go_big_quiet_skip | (go_big_quiet_want; first | (refine quiet_str 22 9 5 (.tmp 85) rfl AC _ cC k4 rfl Try.underlying22 Try.underlying5 Try.underlying9 _ HRC.out ?_; simp only [Act.put, List.setIfInBounds_toArray, List.set_cons_succ, List.set_cons_zero]; go_big_quiet_on) | (refine quiet_eql_str _ _ _ _ rfl _ rfl rfl ?_; simp only [Act.put, List.setIfInBounds_toArray, List.set_cons_succ, List.set_cons_zero]; go_big_quiet_on) | (refine quiet_pick _ _ _ rfl rfl (.bool true) rfl ?_; simp only [Act.put, List.setIfInBounds_toArray, List.set_cons_succ, List.set_cons_zero]; go_big_quiet_on) | (go_big_quiet_op; first | go_big_quiet_on | (refine ⟨_, fun _ _ => rfl, ?_⟩; go_big_quiet_on))))
      refine wpQuiet_nil ?_
      refine anyC_skip (i := 16) rfl (by kernel_rfl) (Below.refl _ _) (by rfl) ?_
      simp only [List.getElem_toArray, List.getElem_cons_succ, List.getElem_cons_zero, Act.put, List.setIfInBounds_toArray, List.set_cons_succ, List.set_cons_zero]
      refine anyC_takes (by kernel_rfl) (fun _ _ _ _ _ h => h) [17, 20, 21, 22, 23, 24, 25] 3 _ _ (by kernel_rfl) ?_
      simp only [List.filterMap_cons, List.filterMap_nil, List.getElem?_toArray, List.getElem?_cons_succ, List.getElem?_cons_zero]
      show wpQuiet _ _ _ _ (_ :: _ :: _ :: _ :: _ :: _ :: _ :: List.nil) _
      repeat (first | go_big_quiet_skip | (go_big_quiet_want; first | (refine quiet_eql_str _ _ _ _ rfl _ rfl rfl ?_; simp only [Act.put, List.setIfInBounds_toArray, List.set_cons_succ, List.set_cons_zero]; go_big_quiet_on) | (refine quiet_pick _ _ _ rfl rfl (.bool true) rfl ?_; simp only [Act.put, List.setIfInBounds_toArray, List.set_cons_succ, List.set_cons_zero]; go_big_quiet_on) | (go_big_quiet_op; first | go_big_quiet_on | (refine ⟨_, fun _ _ => rfl, ?_⟩; go_big_quiet_on))))
      refine wpQuiet_nil ?_
      refine anyC_only (i := 26) rfl (by kernel_rfl) (Below.refl _ _) ?_
      go_wp2_with fail
      refine (Clean_any wC _ S room s6 side4 k4 (HSA.out.below HCC.out) HOK6.out).mono ?_
      rintro e wD ⟨⟨bD, rfl, hbD⟩, hbeD⟩
      obtain rfl : bD = true := hbD.2 HCL6.out
      have HBD := Lib.hid hbeD
      clear hbD hbeD
      go_wp2_with fail
      refine anyC_takes (by kernel_rfl) (fun _ _ _ _ _ h => h) [27, 28] 0 _ _ (by kernel_rfl) ?_
      simp only [List.filterMap_cons, List.filterMap_nil, List.getElem?_toArray, List.getElem?_cons_succ, List.getElem?_cons_zero]
      show wpQuiet _ _ _ _ (_ :: _ :: List.nil) _
      repeat (first | go_big_quiet_skip | (go_big_quiet_want; first | (refine quiet_pick _ _ _ rfl rfl (.bool true) rfl ?_; simp only [Act.put, List.setIfInBounds_toArray, List.set_cons_succ, List.set_cons_zero]; go_big_quiet_on) | (go_big_quiet_op; first | go_big_quiet_on | (refine ⟨_, fun _ _ => rfl, ?_⟩; go_big_quiet_on))))
      refine wpQuiet_nil ?_
      refine ⟨HBD.out, by kernel_rfl, ?_⟩
      go_wp2_with fail
      go_ret
      exact ⟨rfl, HBA.out.trans ((HCC.out.trans (HBD.out.mono HCC.out.size)).mono HBWA.out)⟩
    · obtain ⟨heA, hokA, hclA, _⟩ := save_full l3 HOK6.out HCL6.out HFU.out HDN.out hbig
      obtain ⟨sA, hsA0⟩ : ∃ sA, sA = (s6.save room side4 k4 l3).2 := ⟨_, rfl⟩
      have HSV := Lib.hid (show s6.save room side4 k4 l3 = (0, sA) from Prod.ext heA hsA0.symm)
      rw [← hsA0] at hokA hclA
      have HOKA := Lib.hid hokA; have HCLA := Lib.hid hclA
      clear hbig heA hokA hclA hsA0
      refine (Save_arg side4 k4 l3 A3 n3 c3 HS8.out HBW8.out HOK6.out (HR3.out _ HB8.out) HC3.out (by have := HW6.out; omega) HL3.out).mono ?_
      rintro e wA ⟨rfl, hsA, hbA⟩
      rw [HSV.out] at hsA ⊢
      have HSA := Lib.hid hsA; have HBA := Lib.hid (HB8.out.trans hbA); have HBWA := Lib.hid (Nat.le_trans HBW8.out hbA.size)
      clear hsA hbA
      go_wp2_with fail
      have hC0 : Below wA.heap.size wA wA.drew := (Below.refl _ _).drew
      refine wp_region_anyN (Below wA.heap.size wA) (by kernel_rfl) ?_
      refine anyC_only (i := 0) rfl (by kernel_rfl) hC0 ?_
      go_wp2_with fail
      refine (answers15_any wA.drew).mono ?_
      rintro e wB ⟨rfl, hbB⟩
      have HCB := Lib.hid (hC0.trans hbB)
      clear hbB
      go_wp2_with fail
      have HRY := Lib.hid (fun W (hW : Below wA.heap.size wA W) => HR3.out W (HBA.out.trans (hW.mono HBWA.out)))
      refine anyC_takes (by kernel_rfl) (fun _ _ _ _ _ h => h) [1, 2, 3, 4, 5, 8] 22 _ _ (by kernel_rfl) ?_
      simp only [List.filterMap_cons, List.filterMap_nil, List.getElem?_toArray, List.getElem?_cons_succ, List.getElem?_cons_zero]
      show wpQuiet _ _ _ _ (_ :: _ :: _ :: _ :: _ :: _ :: List.nil) _
      repeat (first | go_big_quiet_skip | (go_big_quiet_want; first | (fail; simp only [Act.put, List.setIfInBounds_toArray, List.set_cons_succ, List.set_cons_zero]; go_big_quiet_on) | (go_big_quiet_op; first | go_big_quiet_on | (refine ⟨_, fun _ _ => rfl, ?_⟩; go_big_quiet_on))))
      refine wpQuiet_nil ?_
      refine anyC_only (i := 6) rfl (by kernel_rfl) HCB.out ?_
      go_wp2_with fail
      refine anyC_takes (by kernel_rfl) (fun _ _ _ _ _ h => h) [7, 9, 10, 11, 12, 13, 14, 15, 18, 19] 11 _ _ (by kernel_rfl) ?_
      simp only [List.filterMap_cons, List.filterMap_nil, List.getElem?_toArray, List.getElem?_cons_succ, List.getElem?_cons_zero]
      show wpQuiet _ _ _ _ (_ :: _ :: _ :: _ :: _ :: _ :: _ :: _ :: _ :: _ :: List.nil) _
      repeat (first | go_big_quiet_skip | (go_big_quiet_want; first | (refine pick_false _ _ _ rfl rfl (.bool false) rfl ?_; simp only [Act.put, List.setIfInBounds_toArray, List.set_cons_succ, List.set_cons_zero]; go_big_quiet_on) | (refine quiet_str 22 9 5 (.tmp 97) rfl A3 n3 c3 l3 rfl Try.underlying22 Try.underlying5 Try.underlying9 _ HRY.out ?_; simp only [Act.put, List.setIfInBounds_toArray, List.set_cons_succ, List.set_cons_zero]; go_big_quiet_on) | (go_big_quiet_op; first | go_big_quiet_on | (refine ⟨_, fun _ _ => rfl, ?_⟩; go_big_quiet_on))))
      refine wpQuiet_nil ?_
      refine anyC_only (i := 16) rfl (by kernel_rfl) HCB.out ?_
      go_wp2_with fail
      refine (Load_any wB _ S room sA (1 - side4) l3 (HSA.out.below HCB.out) HOKA.out).mono ?_
      rintro e wC ⟨AC, cC, rfl, hrC, hbC⟩
      have HCC := Lib.hid (HCB.out.trans (hbC.mono (HCB.out.size)))
      have hCC : ∀ W, Below wC.heap.size wC W → Below wA.heap.size wA W := fun W hW => HCC.out.trans (hW.mono HCC.out.size)
      have HRC := Lib.hid (fun W (hW : Below wC.heap.size wC W) => hrC.below hW)
      have HRX := Lib.hid (fun W (hW : Below wC.heap.size wC W) => HR3.out W (HBA.out.trans ((hCC W hW).mono HBWA.out)))
      have HCW := Lib.hid hCC
      clear hrC hbC hCC
      go_wp2_with fail
      refine anyC_narrow (C' := Below wC.heap.size wC) HCW.out _ _ _ _ ?_
      refine anyC_takes (by kernel_rfl) (fun _ _ _ _ _ h => h) [17, 20, 21, 22, 23, 24, 25] 3 _ _ (by kernel_rfl) ?_
      simp only [List.filterMap_cons, List.filterMap_nil, List.getElem?_toArray, List.getElem?_cons_succ, List.getElem?_cons_zero]
      show wpQuiet _ _ _ _ (_ :: _ :: _ :: _ :: _ :: _ :: _ :: List.nil) _
      repeat (first | go_big_quiet_skip | (go_big_quiet_want; first | (refine quiet_str 22 9 5 (.tmp 95) rfl AC _ cC l3 rfl Try.underlying22 Try.underlying5 Try.underlying9 _ HRC.out ?_; simp only [Act.put, List.setIfInBounds_toArray, List.set_cons_succ, List.set_cons_zero]; go_big_quiet_on) | (refine quiet_eql_str _ _ _ _ rfl _ rfl rfl ?_; simp only [Act.put, List.setIfInBounds_toArray, List.set_cons_succ, List.set_cons_zero]; go_big_quiet_on) | (refine quiet_pick _ _ _ rfl rfl (.bool true) rfl ?_; simp only [Act.put, List.setIfInBounds_toArray, List.set_cons_succ, List.set_cons_zero]; go_big_quiet_on) | (go_big_quiet_op; first | go_big_quiet_on | (refine ⟨_, fun _ _ => rfl, ?_⟩; go_big_quiet_on))))
      refine wpQuiet_nil ?_
      refine anyC_only (i := 26) rfl (by kernel_rfl) (Below.refl _ _) ?_
      go_wp2_with fail
      refine (Clean_any wC _ S room sA (1 - side4) l3 (HSA.out.below HCC.out) HOKA.out).mono ?_
      rintro e wD ⟨⟨bD, rfl, hbD⟩, hbeD⟩
      obtain rfl : bD = true := hbD.2 HCLA.out
      have HBD := Lib.hid hbeD
      clear hbD hbeD
      go_wp2_with fail
      refine anyC_takes (by kernel_rfl) (fun _ _ _ _ _ h => h) [27, 28] 0 _ _ (by kernel_rfl) ?_
      simp only [List.filterMap_cons, List.filterMap_nil, List.getElem?_toArray, List.getElem?_cons_succ, List.getElem?_cons_zero]
      show wpQuiet _ _ _ _ (_ :: _ :: List.nil) _
      repeat (first | go_big_quiet_skip | (go_big_quiet_want; first | (refine quiet_pick _ _ _ rfl rfl (.bool true) rfl ?_; simp only [Act.put, List.setIfInBounds_toArray, List.set_cons_succ, List.set_cons_zero]; go_big_quiet_on) | (go_big_quiet_op; first | go_big_quiet_on | (refine ⟨_, fun _ _ => rfl, ?_⟩; go_big_quiet_on))))
      refine wpQuiet_nil ?_
      refine ⟨HBD.out, by kernel_rfl, ?_⟩
      go_wp2_with fail
      go_ret
      exact ⟨rfl, HBA.out.trans ((HCC.out.trans (HBD.out.mono HCC.out.size)).mono HBWA.out)⟩
  · go_wp2_with (first | (refine wpList_str (by rfl) 22 9 5 (.tmp 41) rfl A1 n1 c1 l1 rfl Try.underlying22 Try.underlying5 Try.underlying9 _ HRA.out ?_) | (refine wpList_neq (by rfl) 9 9 (.tmp 40) (.tmp 42) rfl k4 l1 rfl rfl ?_; rw [HD1'.out]) | (refine wpList_str (by rfl) 22 9 5 (.tmp 46) rfl A2 n2 c2 l2 rfl Try.underlying22 Try.underlying5 Try.underlying9 _ HRB.out ?_) | (refine wpList_neq (by rfl) 9 9 (.tmp 45) (.tmp 47) rfl k4 l2 rfl rfl ?_; rw [HD2'.out]) | (refine wpList_str (by rfl) 22 9 5 (.tmp 55) rfl A2 n2 c2 l2 rfl Try.underlying22 Try.underlying5 Try.underlying9 _ HRB.out ?_) | (refine wpList_neq (by rfl) 9 9 (.tmp 54) (.tmp 56) rfl k4 l2 rfl rfl ?_; rw [HD2'.out]))
    refine (Load_any w6 _ S room s6 side4 k4 HS6.out HOK6.out).mono ?_
    rintro e w7 ⟨A7, c7, rfl, hr7, hb7⟩
    have HR7 := Lib.hid hr7; have HS7 := Lib.hid (HS6.out.below hb7); have HB7 := Lib.hid (HB6.out.trans (hb7.mono HBW6.out)); have HBW7 := Lib.hid (Nat.le_trans HBW6.out hb7.size)
    clear hr7 hb7
    go_wp2_with (first | (refine wpList_str (by rfl) 22 9 5 (.tmp 62) rfl A7 _ c7 k4 rfl Try.underlying22 Try.underlying5 Try.underlying9 _ HR7.out ?_) | (refine wpList_neq (by rfl) 9 9 (.tmp 63) (.tmp 64) rfl k4 k4 rfl rfl ?_; rw [decide_eq_true (rfl : k4 = k4)]))
    refine (Clean_any w7 _ S room s6 side4 k4 HS7.out HOK6.out).mono ?_
    rintro e w8 ⟨⟨b8, rfl, hb8⟩, hbe8⟩
    have HS8 := Lib.hid (HS7.out.below hbe8); have HB8 := Lib.hid (HB7.out.trans (hbe8.mono HBW7.out)); have HBW8 := Lib.hid (Nat.le_trans HBW7.out hbe8.size)
    obtain rfl : b8 = true := hb8.2 HCL6.out
    clear hb8 hbe8
    go_wp2_with (go_at_call 31; refine (SDown_any _ _ S room s6 HS8.out).mono ?_; rintro e w9 ⟨rfl, rfl⟩; rw [HDN.out])
    by_cases hbig : room < takesOf l3.length
    · have HSV := Lib.hid (show s6.save room side4 k4 l3 = (7, s6) by unfold DS.save; rw [if_pos hbig])
      clear hbig
      refine (Save_arg side4 k4 l3 A3 n3 c3 HS8.out HBW8.out HOK6.out (HR3.out _ HB8.out) HC3.out (by have := HW6.out; omega) HL3.out).mono ?_
      rintro e wA ⟨rfl, hsA, hbA⟩
      rw [HSV.out] at hsA ⊢
      have HSA := Lib.hid hsA; have HBA := Lib.hid (HB8.out.trans hbA); have HBWA := Lib.hid (Nat.le_trans HBW8.out hbA.size)
      clear hsA hbA
      go_wp2_with fail
      have hC0 : Below wA.heap.size wA wA.drew := (Below.refl _ _).drew
      refine wp_region_anyN (Below wA.heap.size wA) (by kernel_rfl) ?_
      refine anyC_only (i := 0) rfl (by kernel_rfl) hC0 ?_
      go_wp2_with fail
      refine (answers15_any wA.drew).mono ?_
      rintro e wB ⟨rfl, hbB⟩
      have HCB := Lib.hid (hC0.trans hbB)
      clear hbB
      go_wp2_with fail
      refine anyC_takes (by kernel_rfl) (fun _ _ _ _ _ h => h) [1, 2, 3, 4, 5, 8] 22 _ _ (by kernel_rfl) ?_
      simp only [List.filterMap_cons, List.filterMap_nil, List.getElem?_toArray, List.getElem?_cons_succ, List.getElem?_cons_zero]
      show wpQuiet _ _ _ _ (_ :: _ :: _ :: _ :: _ :: _ :: List.nil) _
      repeat (first | go_big_quiet_skip | (go_big_quiet_want; first | (fail; simp only [Act.put, List.setIfInBounds_toArray, List.set_cons_succ, List.set_cons_zero]; go_big_quiet_on) | (go_big_quiet_op; first | go_big_quiet_on | (refine ⟨_, fun _ _ => rfl, ?_⟩; go_big_quiet_on))))
      refine wpQuiet_nil ?_
      refine anyC_only (i := 6) rfl (by kernel_rfl) HCB.out ?_
      go_wp2_with fail
      refine (Load_any wB _ S room s6 side4 k4 (HSA.out.below HCB.out) HOK6.out).mono ?_
      rintro e wC ⟨AC, cC, rfl, hrC, hbC⟩
      have HCC := Lib.hid (HCB.out.trans (hbC.mono (HCB.out.size)))
      have hCC : ∀ W, Below wC.heap.size wC W → Below wA.heap.size wA W := fun W hW => HCC.out.trans (hW.mono HCC.out.size)
      have HRC := Lib.hid (fun W (hW : Below wC.heap.size wC W) => hrC.below hW)
      have HRX := Lib.hid (fun W (hW : Below wC.heap.size wC W) => HR3.out W (HBA.out.trans ((hCC W hW).mono HBWA.out)))
      have HCW := Lib.hid hCC
      clear hrC hbC hCC
      go_wp2_with fail
      refine anyC_narrow (C' := Below wC.heap.size wC) HCW.out _ _ _ _ ?_
      refine anyC_takes (by kernel_rfl) (fun _ _ _ _ _ h => h) [7, 9, 10, 11, 12, 13, 14, 15, 18, 19] 11 _ _ (by kernel_rfl) ?_
      simp only [List.filterMap_cons, List.filterMap_nil, List.getElem?_toArray, List.getElem?_cons_succ, List.getElem?_cons_zero]
      show wpQuiet _ _ _ _ (_ :: _ :: _ :: _ :: _ :: _ :: _ :: _ :: _ :: _ :: List.nil) _
      repeat (first | go_big_quiet_skip | (go_big_quiet_want; first | (refine quiet_str 22 9 5 (.tmp 85) rfl AC _ cC k4 rfl Try.underlying22 Try.underlying5 Try.underlying9 _ HRC.out ?_; simp only [Act.put, List.setIfInBounds_toArray, List.set_cons_succ, List.set_cons_zero]; go_big_quiet_on) | (refine quiet_eql_str _ _ _ _ rfl _ rfl rfl ?_; simp only [Act.put, List.setIfInBounds_toArray, List.set_cons_succ, List.set_cons_zero]; go_big_quiet_on) | (refine quiet_pick _ _ _ rfl rfl (.bool true) rfl ?_; simp only [Act.put, List.setIfInBounds_toArray, List.set_cons_succ, List.set_cons_zero]; go_big_quiet_on) | (go_big_quiet_op; first | go_big_quiet_on | (refine ⟨_, fun _ _ => rfl, ?_⟩; go_big_quiet_on))))
      refine wpQuiet_nil ?_
      refine anyC_skip (i := 16) rfl (by kernel_rfl) (Below.refl _ _) (by rfl) ?_
      simp only [List.getElem_toArray, List.getElem_cons_succ, List.getElem_cons_zero, Act.put, List.setIfInBounds_toArray, List.set_cons_succ, List.set_cons_zero]
      refine anyC_takes (by kernel_rfl) (fun _ _ _ _ _ h => h) [17, 20, 21, 22, 23, 24, 25] 3 _ _ (by kernel_rfl) ?_
      simp only [List.filterMap_cons, List.filterMap_nil, List.getElem?_toArray, List.getElem?_cons_succ, List.getElem?_cons_zero]
      show wpQuiet _ _ _ _ (_ :: _ :: _ :: _ :: _ :: _ :: _ :: List.nil) _
      repeat (first | go_big_quiet_skip | (go_big_quiet_want; first | (refine quiet_eql_str _ _ _ _ rfl _ rfl rfl ?_; simp only [Act.put, List.setIfInBounds_toArray, List.set_cons_succ, List.set_cons_zero]; go_big_quiet_on) | (refine quiet_pick _ _ _ rfl rfl (.bool true) rfl ?_; simp only [Act.put, List.setIfInBounds_toArray, List.set_cons_succ, List.set_cons_zero]; go_big_quiet_on) | (go_big_quiet_op; first | go_big_quiet_on | (refine ⟨_, fun _ _ => rfl, ?_⟩; go_big_quiet_on))))
      refine wpQuiet_nil ?_
      refine anyC_only (i := 26) rfl (by kernel_rfl) (Below.refl _ _) ?_
      go_wp2_with fail
      refine (Clean_any wC _ S room s6 side4 k4 (HSA.out.below HCC.out) HOK6.out).mono ?_
      rintro e wD ⟨⟨bD, rfl, hbD⟩, hbeD⟩
      obtain rfl : bD = true := hbD.2 HCL6.out
      have HBD := Lib.hid hbeD
      clear hbD hbeD
      go_wp2_with fail
      refine anyC_takes (by kernel_rfl) (fun _ _ _ _ _ h => h) [27, 28] 0 _ _ (by kernel_rfl) ?_
      simp only [List.filterMap_cons, List.filterMap_nil, List.getElem?_toArray, List.getElem?_cons_succ, List.getElem?_cons_zero]
      show wpQuiet _ _ _ _ (_ :: _ :: List.nil) _
      repeat (first | go_big_quiet_skip | (go_big_quiet_want; first | (refine quiet_pick _ _ _ rfl rfl (.bool true) rfl ?_; simp only [Act.put, List.setIfInBounds_toArray, List.set_cons_succ, List.set_cons_zero]; go_big_quiet_on) | (go_big_quiet_op; first | go_big_quiet_on | (refine ⟨_, fun _ _ => rfl, ?_⟩; go_big_quiet_on))))
      refine wpQuiet_nil ?_
      refine ⟨HBD.out, by kernel_rfl, ?_⟩
      go_wp2_with fail
      go_ret
      exact ⟨rfl, HBA.out.trans ((HCC.out.trans (HBD.out.mono HCC.out.size)).mono HBWA.out)⟩
    · obtain ⟨heA, hokA, hclA, _⟩ := save_full l3 HOK6.out HCL6.out HFU.out HDN.out hbig
      obtain ⟨sA, hsA0⟩ : ∃ sA, sA = (s6.save room side4 k4 l3).2 := ⟨_, rfl⟩
      have HSV := Lib.hid (show s6.save room side4 k4 l3 = (0, sA) from Prod.ext heA hsA0.symm)
      rw [← hsA0] at hokA hclA
      have HOKA := Lib.hid hokA; have HCLA := Lib.hid hclA
      clear hbig heA hokA hclA hsA0
      refine (Save_arg side4 k4 l3 A3 n3 c3 HS8.out HBW8.out HOK6.out (HR3.out _ HB8.out) HC3.out (by have := HW6.out; omega) HL3.out).mono ?_
      rintro e wA ⟨rfl, hsA, hbA⟩
      rw [HSV.out] at hsA ⊢
      have HSA := Lib.hid hsA; have HBA := Lib.hid (HB8.out.trans hbA); have HBWA := Lib.hid (Nat.le_trans HBW8.out hbA.size)
      clear hsA hbA
      go_wp2_with fail
      have hC0 : Below wA.heap.size wA wA.drew := (Below.refl _ _).drew
      refine wp_region_anyN (Below wA.heap.size wA) (by kernel_rfl) ?_
      refine anyC_only (i := 0) rfl (by kernel_rfl) hC0 ?_
      go_wp2_with fail
      refine (answers15_any wA.drew).mono ?_
      rintro e wB ⟨rfl, hbB⟩
      have HCB := Lib.hid (hC0.trans hbB)
      clear hbB
      go_wp2_with fail
      have HRY := Lib.hid (fun W (hW : Below wA.heap.size wA W) => HR3.out W (HBA.out.trans (hW.mono HBWA.out)))
      refine anyC_takes (by kernel_rfl) (fun _ _ _ _ _ h => h) [1, 2, 3, 4, 5, 8] 22 _ _ (by kernel_rfl) ?_
      simp only [List.filterMap_cons, List.filterMap_nil, List.getElem?_toArray, List.getElem?_cons_succ, List.getElem?_cons_zero]
      show wpQuiet _ _ _ _ (_ :: _ :: _ :: _ :: _ :: _ :: List.nil) _
      repeat (first | go_big_quiet_skip | (go_big_quiet_want; first | (fail; simp only [Act.put, List.setIfInBounds_toArray, List.set_cons_succ, List.set_cons_zero]; go_big_quiet_on) | (go_big_quiet_op; first | go_big_quiet_on | (refine ⟨_, fun _ _ => rfl, ?_⟩; go_big_quiet_on))))
      refine wpQuiet_nil ?_
      refine anyC_only (i := 6) rfl (by kernel_rfl) HCB.out ?_
      go_wp2_with fail
      refine anyC_takes (by kernel_rfl) (fun _ _ _ _ _ h => h) [7, 9, 10, 11, 12, 13, 14, 15, 18, 19] 11 _ _ (by kernel_rfl) ?_
      simp only [List.filterMap_cons, List.filterMap_nil, List.getElem?_toArray, List.getElem?_cons_succ, List.getElem?_cons_zero]
      show wpQuiet _ _ _ _ (_ :: _ :: _ :: _ :: _ :: _ :: _ :: _ :: _ :: _ :: List.nil) _
      repeat (first | go_big_quiet_skip | (go_big_quiet_want; first | (refine pick_false _ _ _ rfl rfl (.bool false) rfl ?_; simp only [Act.put, List.setIfInBounds_toArray, List.set_cons_succ, List.set_cons_zero]; go_big_quiet_on) | (refine quiet_str 22 9 5 (.tmp 97) rfl A3 n3 c3 l3 rfl Try.underlying22 Try.underlying5 Try.underlying9 _ HRY.out ?_; simp only [Act.put, List.setIfInBounds_toArray, List.set_cons_succ, List.set_cons_zero]; go_big_quiet_on) | (go_big_quiet_op; first | go_big_quiet_on | (refine ⟨_, fun _ _ => rfl, ?_⟩; go_big_quiet_on))))
      refine wpQuiet_nil ?_
      refine anyC_only (i := 16) rfl (by kernel_rfl) HCB.out ?_
      go_wp2_with fail
      refine (Load_any wB _ S room sA (1 - side4) l3 (HSA.out.below HCB.out) HOKA.out).mono ?_
      rintro e wC ⟨AC, cC, rfl, hrC, hbC⟩
      have HCC := Lib.hid (HCB.out.trans (hbC.mono (HCB.out.size)))
      have hCC : ∀ W, Below wC.heap.size wC W → Below wA.heap.size wA W := fun W hW => HCC.out.trans (hW.mono HCC.out.size)
      have HRC := Lib.hid (fun W (hW : Below wC.heap.size wC W) => hrC.below hW)
      have HRX := Lib.hid (fun W (hW : Below wC.heap.size wC W) => HR3.out W (HBA.out.trans ((hCC W hW).mono HBWA.out)))
      have HCW := Lib.hid hCC
      clear hrC hbC hCC
      go_wp2_with fail
      refine anyC_narrow (C' := Below wC.heap.size wC) HCW.out _ _ _ _ ?_
      refine anyC_takes (by kernel_rfl) (fun _ _ _ _ _ h => h) [17, 20, 21, 22, 23, 24, 25] 3 _ _ (by kernel_rfl) ?_
      simp only [List.filterMap_cons, List.filterMap_nil, List.getElem?_toArray, List.getElem?_cons_succ, List.getElem?_cons_zero]
      show wpQuiet _ _ _ _ (_ :: _ :: _ :: _ :: _ :: _ :: _ :: List.nil) _
      repeat (first | go_big_quiet_skip | (go_big_quiet_want; first | (refine quiet_str 22 9 5 (.tmp 95) rfl AC _ cC l3 rfl Try.underlying22 Try.underlying5 Try.underlying9 _ HRC.out ?_; simp only [Act.put, List.setIfInBounds_toArray, List.set_cons_succ, List.set_cons_zero]; go_big_quiet_on) | (refine quiet_eql_str _ _ _ _ rfl _ rfl rfl ?_; simp only [Act.put, List.setIfInBounds_toArray, List.set_cons_succ, List.set_cons_zero]; go_big_quiet_on) | (refine quiet_pick _ _ _ rfl rfl (.bool true) rfl ?_; simp only [Act.put, List.setIfInBounds_toArray, List.set_cons_succ, List.set_cons_zero]; go_big_quiet_on) | (go_big_quiet_op; first | go_big_quiet_on | (refine ⟨_, fun _ _ => rfl, ?_⟩; go_big_quiet_on))))
      refine wpQuiet_nil ?_
      refine anyC_only (i := 26) rfl (by kernel_rfl) (Below.refl _ _) ?_
      go_wp2_with fail
      refine (Clean_any wC _ S room sA (1 - side4) l3 (HSA.out.below HCC.out) HOKA.out).mono ?_
      rintro e wD ⟨⟨bD, rfl, hbD⟩, hbeD⟩
      obtain rfl : bD = true := hbD.2 HCLA.out
      have HBD := Lib.hid hbeD
      clear hbD hbeD
      go_wp2_with fail
      refine anyC_takes (by kernel_rfl) (fun _ _ _ _ _ h => h) [27, 28] 0 _ _ (by kernel_rfl) ?_
      simp only [List.filterMap_cons, List.filterMap_nil, List.getElem?_toArray, List.getElem?_cons_succ, List.getElem?_cons_zero]
      show wpQuiet _ _ _ _ (_ :: _ :: List.nil) _
      repeat (first | go_big_quiet_skip | (go_big_quiet_want; first | (refine quiet_pick _ _ _ rfl rfl (.bool true) rfl ?_; simp only [Act.put, List.setIfInBounds_toArray, List.set_cons_succ, List.set_cons_zero]; go_big_quiet_on) | (go_big_quiet_op; first | go_big_quiet_on | (refine ⟨_, fun _ _ => rfl, ?_⟩; go_big_quiet_on))))
      refine wpQuiet_nil ?_
      refine ⟨HBD.out, by kernel_rfl, ?_⟩
      go_wp2_with fail
      go_ret
      exact ⟨rfl, HBA.out.trans ((HCC.out.trans (HBD.out.mono HCC.out.size)).mono HBWA.out)⟩
  · go_wp2_with (first | (refine wpList_str (by rfl) 22 9 5 (.tmp 41) rfl A1 n1 c1 l1 rfl Try.underlying22 Try.underlying5 Try.underlying9 _ HRA.out ?_) | (refine wpList_neq (by rfl) 9 9 (.tmp 40) (.tmp 42) rfl k4 l1 rfl rfl ?_; rw [HD1'.out]) | (refine wpList_str (by rfl) 22 9 5 (.tmp 46) rfl A2 n2 c2 l2 rfl Try.underlying22 Try.underlying5 Try.underlying9 _ HRB.out ?_) | (refine wpList_neq (by rfl) 9 9 (.tmp 45) (.tmp 47) rfl k4 l2 rfl rfl ?_; rw [HD2'.out]) | (refine wpList_str (by rfl) 22 9 5 (.tmp 55) rfl A2 n2 c2 l2 rfl Try.underlying22 Try.underlying5 Try.underlying9 _ HRB.out ?_) | (refine wpList_neq (by rfl) 9 9 (.tmp 54) (.tmp 56) rfl k4 l2 rfl rfl ?_; rw [HD2'.out]))
    refine (Load_any w6 _ S room s6 side4 k4 HS6.out HOK6.out).mono ?_
    rintro e w7 ⟨A7, c7, rfl, hr7, hb7⟩
    have HR7 := Lib.hid hr7; have HS7 := Lib.hid (HS6.out.below hb7); have HB7 := Lib.hid (HB6.out.trans (hb7.mono HBW6.out)); have HBW7 := Lib.hid (Nat.le_trans HBW6.out hb7.size)
    clear hr7 hb7
    go_wp2_with (first | (refine wpList_str (by rfl) 22 9 5 (.tmp 62) rfl A7 _ c7 k4 rfl Try.underlying22 Try.underlying5 Try.underlying9 _ HR7.out ?_) | (refine wpList_neq (by rfl) 9 9 (.tmp 63) (.tmp 64) rfl k4 k4 rfl rfl ?_; rw [decide_eq_true (rfl : k4 = k4)]))
    refine (Clean_any w7 _ S room s6 side4 k4 HS7.out HOK6.out).mono ?_
    rintro e w8 ⟨⟨b8, rfl, hb8⟩, hbe8⟩
    have HS8 := Lib.hid (HS7.out.below hbe8); have HB8 := Lib.hid (HB7.out.trans (hbe8.mono HBW7.out)); have HBW8 := Lib.hid (Nat.le_trans HBW7.out hbe8.size)
    obtain rfl : b8 = true := hb8.2 HCL6.out
    clear hb8 hbe8
    go_wp2_with (go_at_call 31; refine (SDown_any _ _ S room s6 HS8.out).mono ?_; rintro e w9 ⟨rfl, rfl⟩; rw [HDN.out])
    by_cases hbig : room < takesOf l3.length
    · have HSV := Lib.hid (show s6.save room side4 k4 l3 = (7, s6) by unfold DS.save; rw [if_pos hbig])
      clear hbig
      refine (Save_arg side4 k4 l3 A3 n3 c3 HS8.out HBW8.out HOK6.out (HR3.out _ HB8.out) HC3.out (by have := HW6.out; omega) HL3.out).mono ?_
      rintro e wA ⟨rfl, hsA, hbA⟩
      rw [HSV.out] at hsA ⊢
      have HSA := Lib.hid hsA; have HBA := Lib.hid (HB8.out.trans hbA); have HBWA := Lib.hid (Nat.le_trans HBW8.out hbA.size)
      clear hsA hbA
      go_wp2_with fail
      have hC0 : Below wA.heap.size wA wA.drew := (Below.refl _ _).drew
      refine wp_region_anyN (Below wA.heap.size wA) (by kernel_rfl) ?_
      refine anyC_only (i := 0) rfl (by kernel_rfl) hC0 ?_
      go_wp2_with fail
      refine (answers15_any wA.drew).mono ?_
      rintro e wB ⟨rfl, hbB⟩
      have HCB := Lib.hid (hC0.trans hbB)
      clear hbB
      go_wp2_with fail
      refine anyC_takes (by kernel_rfl) (fun _ _ _ _ _ h => h) [1, 2, 3, 4, 5, 8] 22 _ _ (by kernel_rfl) ?_
      simp only [List.filterMap_cons, List.filterMap_nil, List.getElem?_toArray, List.getElem?_cons_succ, List.getElem?_cons_zero]
      show wpQuiet _ _ _ _ (_ :: _ :: _ :: _ :: _ :: _ :: List.nil) _
      repeat (first | go_big_quiet_skip | (go_big_quiet_want; first | (fail; simp only [Act.put, List.setIfInBounds_toArray, List.set_cons_succ, List.set_cons_zero]; go_big_quiet_on) | (go_big_quiet_op; first | go_big_quiet_on | (refine ⟨_, fun _ _ => rfl, ?_⟩; go_big_quiet_on))))
      refine wpQuiet_nil ?_
      refine anyC_only (i := 6) rfl (by kernel_rfl) HCB.out ?_
      go_wp2_with fail
      refine (Load_any wB _ S room s6 side4 k4 (HSA.out.below HCB.out) HOK6.out).mono ?_
      rintro e wC ⟨AC, cC, rfl, hrC, hbC⟩
      have HCC := Lib.hid (HCB.out.trans (hbC.mono (HCB.out.size)))
      have hCC : ∀ W, Below wC.heap.size wC W → Below wA.heap.size wA W := fun W hW => HCC.out.trans (hW.mono HCC.out.size)
      have HRC := Lib.hid (fun W (hW : Below wC.heap.size wC W) => hrC.below hW)
      have HRX := Lib.hid (fun W (hW : Below wC.heap.size wC W) => HR3.out W (HBA.out.trans ((hCC W hW).mono HBWA.out)))
      have HCW := Lib.hid hCC
      clear hrC hbC hCC
      go_wp2_with fail
      refine anyC_narrow (C' := Below wC.heap.size wC) HCW.out _ _ _ _ ?_
      refine anyC_takes (by kernel_rfl) (fun _ _ _ _ _ h => h) [7, 9, 10, 11, 12, 13, 14, 15, 18, 19] 11 _ _ (by kernel_rfl) ?_
      simp only [List.filterMap_cons, List.filterMap_nil, List.getElem?_toArray, List.getElem?_cons_succ, List.getElem?_cons_zero]
      show wpQuiet _ _ _ _ (_ :: _ :: _ :: _ :: _ :: _ :: _ :: _ :: _ :: _ :: List.nil) _
      repeat (first | go_big_quiet_skip | (go_big_quiet_want; first | (refine quiet_str 22 9 5 (.tmp 85) rfl AC _ cC k4 rfl Try.underlying22 Try.underlying5 Try.underlying9 _ HRC.out ?_; simp only [Act.put, List.setIfInBounds_toArray, List.set_cons_succ, List.set_cons_zero]; go_big_quiet_on) | (refine quiet_eql_str _ _ _ _ rfl _ rfl rfl ?_; simp only [Act.put, List.setIfInBounds_toArray, List.set_cons_succ, List.set_cons_zero]; go_big_quiet_on) | (refine quiet_pick _ _ _ rfl rfl (.bool true) rfl ?_; simp only [Act.put, List.setIfInBounds_toArray, List.set_cons_succ, List.set_cons_zero]; go_big_quiet_on) | (go_big_quiet_op; first | go_big_quiet_on | (refine ⟨_, fun _ _ => rfl, ?_⟩; go_big_quiet_on))))
      refine wpQuiet_nil ?_
      refine anyC_skip (i := 16) rfl (by kernel_rfl) (Below.refl _ _) (by rfl) ?_
      simp only [List.getElem_toArray, List.getElem_cons_succ, List.getElem_cons_zero, Act.put, List.setIfInBounds_toArray, List.set_cons_succ, List.set_cons_zero]
      refine anyC_takes (by kernel_rfl) (fun _ _ _ _ _ h => h) [17, 20, 21, 22, 23, 24, 25] 3 _ _ (by kernel_rfl) ?_
      simp only [List.filterMap_cons, List.filterMap_nil, List.getElem?_toArray, List.getElem?_cons_succ, List.getElem?_cons_zero]
      show wpQuiet _ _ _ _ (_ :: _ :: _ :: _ :: _ :: _ :: _ :: List.nil) _
      repeat (first | go_big_quiet_skip | (go_big_quiet_want; first | (refine quiet_eql_str _ _ _ _ rfl _ rfl rfl ?_; simp only [Act.put, List.setIfInBounds_toArray, List.set_cons_succ, List.set_cons_zero]; go_big_quiet_on) | (refine quiet_pick _ _ _ rfl rfl (.bool true) rfl ?_; simp only [Act.put, List.setIfInBounds_toArray, List.set_cons_succ, List.set_cons_zero]; go_big_quiet_on) | (go_big_quiet_op; first | go_big_quiet_on | (refine ⟨_, fun _ _ => rfl, ?_⟩; go_big_quiet_on))))
      refine wpQuiet_nil ?_
      refine anyC_only (i := 26) rfl (by kernel_rfl) (Below.refl _ _) ?_
      go_wp2_with fail
      refine (Clean_any wC _ S room s6 side4 k4 (HSA.out.below HCC.out) HOK6.out).mono ?_
      rintro e wD ⟨⟨bD, rfl, hbD⟩, hbeD⟩
      obtain rfl : bD = true := hbD.2 HCL6.out
      have HBD := Lib.hid hbeD
      clear hbD hbeD
      go_wp2_with fail
      refine anyC_takes (by kernel_rfl) (fun _ _ _ _ _ h => h) [27, 28] 0 _ _ (by kernel_rfl) ?_
      simp only [List.filterMap_cons, List.filterMap_nil, List.getElem?_toArray, List.getElem?_cons_succ, List.getElem?_cons_zero]
      show wpQuiet _ _ _ _ (_ :: _ :: List.nil) _
      repeat (first | go_big_quiet_skip | (go_big_quiet_want; first | (refine quiet_pick _ _ _ rfl rfl (.bool true) rfl ?_; simp only [Act.put, List.setIfInBounds_toArray, List.set_cons_succ, List.set_cons_zero]; go_big_quiet_on) | (go_big_quiet_op; first | go_big_quiet_on | (refine ⟨_, fun _ _ => rfl, ?_⟩; go_big_quiet_on))))
      refine wpQuiet_nil ?_
      refine ⟨HBD.out, by kernel_rfl, ?_⟩
      go_wp2_with fail
      go_ret
      exact ⟨rfl, HBA.out.trans ((HCC.out.trans (HBD.out.mono HCC.out.size)).mono HBWA.out)⟩
    · obtain ⟨heA, hokA, hclA, _⟩ := save_full l3 HOK6.out HCL6.out HFU.out HDN.out hbig
      obtain ⟨sA, hsA0⟩ : ∃ sA, sA = (s6.save room side4 k4 l3).2 := ⟨_, rfl⟩
      have HSV := Lib.hid (show s6.save room side4 k4 l3 = (0, sA) from Prod.ext heA hsA0.symm)
      rw [← hsA0] at hokA hclA
      have HOKA := Lib.hid hokA; have HCLA := Lib.hid hclA
      clear hbig heA hokA hclA hsA0
      refine (Save_arg side4 k4 l3 A3 n3 c3 HS8.out HBW8.out HOK6.out (HR3.out _ HB8.out) HC3.out (by have := HW6.out; omega) HL3.out).mono ?_
      rintro e wA ⟨rfl, hsA, hbA⟩
      rw [HSV.out] at hsA ⊢
      have HSA := Lib.hid hsA; have HBA := Lib.hid (HB8.out.trans hbA); have HBWA := Lib.hid (Nat.le_trans HBW8.out hbA.size)
      clear hsA hbA
      go_wp2_with fail
      have hC0 : Below wA.heap.size wA wA.drew := (Below.refl _ _).drew
      refine wp_region_anyN (Below wA.heap.size wA) (by kernel_rfl) ?_
      refine anyC_only (i := 0) rfl (by kernel_rfl) hC0 ?_
      go_wp2_with fail
      refine (answers15_any wA.drew).mono ?_
      rintro e wB ⟨rfl, hbB⟩
      have HCB := Lib.hid (hC0.trans hbB)
      clear hbB
      go_wp2_with fail
      have HRY := Lib.hid (fun W (hW : Below wA.heap.size wA W) => HR3.out W (HBA.out.trans (hW.mono HBWA.out)))
      refine anyC_takes (by kernel_rfl) (fun _ _ _ _ _ h => h) [1, 2, 3, 4, 5, 8] 22 _ _ (by kernel_rfl) ?_
      simp only [List.filterMap_cons, List.filterMap_nil, List.getElem?_toArray, List.getElem?_cons_succ, List.getElem?_cons_zero]
      show wpQuiet _ _ _ _ (_ :: _ :: _ :: _ :: _ :: _ :: List.nil) _
      repeat (first | go_big_quiet_skip | (go_big_quiet_want; first | (fail; simp only [Act.put, List.setIfInBounds_toArray, List.set_cons_succ, List.set_cons_zero]; go_big_quiet_on) | (go_big_quiet_op; first | go_big_quiet_on | (refine ⟨_, fun _ _ => rfl, ?_⟩; go_big_quiet_on))))
      refine wpQuiet_nil ?_
      refine anyC_only (i := 6) rfl (by kernel_rfl) HCB.out ?_
      go_wp2_with fail
      refine anyC_takes (by kernel_rfl) (fun _ _ _ _ _ h => h) [7, 9, 10, 11, 12, 13, 14, 15, 18, 19] 11 _ _ (by kernel_rfl) ?_
      simp only [List.filterMap_cons, List.filterMap_nil, List.getElem?_toArray, List.getElem?_cons_succ, List.getElem?_cons_zero]
      show wpQuiet _ _ _ _ (_ :: _ :: _ :: _ :: _ :: _ :: _ :: _ :: _ :: _ :: List.nil) _
      repeat (first | go_big_quiet_skip | (go_big_quiet_want; first | (refine pick_false _ _ _ rfl rfl (.bool false) rfl ?_; simp only [Act.put, List.setIfInBounds_toArray, List.set_cons_succ, List.set_cons_zero]; go_big_quiet_on) | (refine quiet_str 22 9 5 (.tmp 97) rfl A3 n3 c3 l3 rfl Try.underlying22 Try.underlying5 Try.underlying9 _ HRY.out ?_; simp only [Act.put, List.setIfInBounds_toArray, List.set_cons_succ, List.set_cons_zero]; go_big_quiet_on) | (go_big_quiet_op; first | go_big_quiet_on | (refine ⟨_, fun _ _ => rfl, ?_⟩; go_big_quiet_on))))
      refine wpQuiet_nil ?_
      refine anyC_only (i := 16) rfl (by kernel_rfl) HCB.out ?_
      go_wp2_with fail
      refine (Load_any wB _ S room sA (1 - side4) l3 (HSA.out.below HCB.out) HOKA.out).mono ?_
      rintro e wC ⟨AC, cC, rfl, hrC, hbC⟩
      have HCC := Lib.hid (HCB.out.trans (hbC.mono (HCB.out.size)))
      have hCC : ∀ W, Below wC.heap.size wC W → Below wA.heap.size wA W := fun W hW => HCC.out.trans (hW.mono HCC.out.size)
      have HRC := Lib.hid (fun W (hW : Below wC.heap.size wC W) => hrC.below hW)
      have HRX := Lib.hid (fun W (hW : Below wC.heap.size wC W) => HR3.out W (HBA.out.trans ((hCC W hW).mono HBWA.out)))
      have HCW := Lib.hid hCC
      clear hrC hbC hCC
      go_wp2_with fail
      refine anyC_narrow (C' := Below wC.heap.size wC) HCW.out _ _ _ _ ?_
      refine anyC_takes (by kernel_rfl) (fun _ _ _ _ _ h => h) [17, 20, 21, 22, 23, 24, 25] 3 _ _ (by kernel_rfl) ?_
      simp only [List.filterMap_cons, List.filterMap_nil, List.getElem?_toArray, List.getElem?_cons_succ, List.getElem?_cons_zero]
      show wpQuiet _ _ _ _ (_ :: _ :: _ :: _ :: _ :: _ :: _ :: List.nil) _
      repeat (first | go_big_quiet_skip | (go_big_quiet_want; first | (refine quiet_str 22 9 5 (.tmp 95) rfl AC _ cC l3 rfl Try.underlying22 Try.underlying5 Try.underlying9 _ HRC.out ?_; simp only [Act.put, List.setIfInBounds_toArray, List.set_cons_succ, List.set_cons_zero]; go_big_quiet_on) | (refine quiet_eql_str _ _ _ _ rfl _ rfl rfl ?_; simp only [Act.put, List.setIfInBounds_toArray, List.set_cons_succ, List.set_cons_zero]; go_big_quiet_on) | (refine quiet_pick _ _ _ rfl rfl (.bool true) rfl ?_; simp only [Act.put, List.setIfInBounds_toArray, List.set_cons_succ, List.set_cons_zero]; go_big_quiet_on) | (go_big_quiet_op; first | go_big_quiet_on | (refine ⟨_, fun _ _ => rfl, ?_⟩; go_big_quiet_on))))
      refine wpQuiet_nil ?_
      refine anyC_only (i := 26) rfl (by kernel_rfl) (Below.refl _ _) ?_
      go_wp2_with fail
      refine (Clean_any wC _ S room sA (1 - side4) l3 (HSA.out.below HCC.out) HOKA.out).mono ?_
      rintro e wD ⟨⟨bD, rfl, hbD⟩, hbeD⟩
      obtain rfl : bD = true := hbD.2 HCLA.out
      have HBD := Lib.hid hbeD
      clear hbD hbeD
      go_wp2_with fail
      refine anyC_takes (by kernel_rfl) (fun _ _ _ _ _ h => h) [27, 28] 0 _ _ (by kernel_rfl) ?_
      simp only [List.filterMap_cons, List.filterMap_nil, List.getElem?_toArray, List.getElem?_cons_succ, List.getElem?_cons_zero]
      show wpQuiet _ _ _ _ (_ :: _ :: List.nil) _
      repeat (first | go_big_quiet_skip | (go_big_quiet_want; first | (refine quiet_pick _ _ _ rfl rfl (.bool true) rfl ?_; simp only [Act.put, List.setIfInBounds_toArray, List.set_cons_succ, List.set_cons_zero]; go_big_quiet_on) | (go_big_quiet_op; first | go_big_quiet_on | (refine ⟨_, fun _ _ => rfl, ?_⟩; go_big_quiet_on))))
      refine wpQuiet_nil ?_
      refine ⟨HBD.out, by kernel_rfl, ?_⟩
      go_wp2_with fail
      go_ret
      exact ⟨rfl, HBA.out.trans ((HCC.out.trans (HBD.out.mono HCC.out.size)).mono HBWA.out)⟩
  · go_wp2_with (first | (refine wpList_str (by rfl) 22 9 5 (.tmp 41) rfl A1 n1 c1 l1 rfl Try.underlying22 Try.underlying5 Try.underlying9 _ HRA.out ?_) | (refine wpList_neq (by rfl) 9 9 (.tmp 40) (.tmp 42) rfl k4 l1 rfl rfl ?_; rw [HD1'.out]) | (refine wpList_str (by rfl) 22 9 5 (.tmp 46) rfl A2 n2 c2 l2 rfl Try.underlying22 Try.underlying5 Try.underlying9 _ HRB.out ?_) | (refine wpList_neq (by rfl) 9 9 (.tmp 45) (.tmp 47) rfl k4 l2 rfl rfl ?_; rw [HD2'.out]) | (refine wpList_str (by rfl) 22 9 5 (.tmp 55) rfl A2 n2 c2 l2 rfl Try.underlying22 Try.underlying5 Try.underlying9 _ HRB.out ?_) | (refine wpList_neq (by rfl) 9 9 (.tmp 54) (.tmp 56) rfl k4 l2 rfl rfl ?_; rw [HD2'.out]))
    refine (Load_any w6 _ S room s6 side4 k4 HS6.out HOK6.out).mono ?_
    rintro e w7 ⟨A7, c7, rfl, hr7, hb7⟩
    have HR7 := Lib.hid hr7; have HS7 := Lib.hid (HS6.out.below hb7); have HB7 := Lib.hid (HB6.out.trans (hb7.mono HBW6.out)); have HBW7 := Lib.hid (Nat.le_trans HBW6.out hb7.size)
    clear hr7 hb7
    go_wp2_with (first | (refine wpList_str (by rfl) 22 9 5 (.tmp 62) rfl A7 _ c7 k4 rfl Try.underlying22 Try.underlying5 Try.underlying9 _ HR7.out ?_) | (refine wpList_neq (by rfl) 9 9 (.tmp 63) (.tmp 64) rfl k4 k4 rfl rfl ?_; rw [decide_eq_true (rfl : k4 = k4)]))
    refine (Clean_any w7 _ S room s6 side4 k4 HS7.out HOK6.out).mono ?_
    rintro e w8 ⟨⟨b8, rfl, hb8⟩, hbe8⟩
    have HS8 := Lib.hid (HS7.out.below hbe8); have HB8 := Lib.hid (HB7.out.trans (hbe8.mono HBW7.out)); have HBW8 := Lib.hid (Nat.le_trans HBW7.out hbe8.size)
    obtain rfl : b8 = true := hb8.2 HCL6.out
    clear hb8 hbe8
    go_wp2_with (go_at_call 31; refine (SDown_any _ _ S room s6 HS8.out).mono ?_; rintro e w9 ⟨rfl, rfl⟩; rw [HDN.out])
    by_cases hbig : room < takesOf l3.length
    · have HSV := Lib.hid (show s6.save room side4 k4 l3 = (7, s6) by unfold DS.save; rw [if_pos hbig])
      clear hbig
      refine (Save_arg side4 k4 l3 A3 n3 c3 HS8.out HBW8.out HOK6.out (HR3.out _ HB8.out) HC3.out (by have := HW6.out; omega) HL3.out).mono ?_
      rintro e wA ⟨rfl, hsA, hbA⟩
      rw [HSV.out] at hsA ⊢
      have HSA := Lib.hid hsA; have HBA := Lib.hid (HB8.out.trans hbA); have HBWA := Lib.hid (Nat.le_trans HBW8.out hbA.size)
      clear hsA hbA
      go_wp2_with fail
      have hC0 : Below wA.heap.size wA wA.drew := (Below.refl _ _).drew
      refine wp_region_anyN (Below wA.heap.size wA) (by kernel_rfl) ?_
      refine anyC_only (i := 0) rfl (by kernel_rfl) hC0 ?_
      go_wp2_with fail
      refine (answers15_any wA.drew).mono ?_
      rintro e wB ⟨rfl, hbB⟩
      have HCB := Lib.hid (hC0.trans hbB)
      clear hbB
      go_wp2_with fail
      refine anyC_takes (by kernel_rfl) (fun _ _ _ _ _ h => h) [1, 2, 3, 4, 5, 8] 22 _ _ (by kernel_rfl) ?_
      simp only [List.filterMap_cons, List.filterMap_nil, List.getElem?_toArray, List.getElem?_cons_succ, List.getElem?_cons_zero]
      show wpQuiet _ _ _ _ (_ :: _ :: _ :: _ :: _ :: _ :: List.nil) _
      repeat (first | go_big_quiet_skip | (go_big_quiet_want; first | (fail; simp only [Act.put, List.setIfInBounds_toArray, List.set_cons_succ, List.set_cons_zero]; go_big_quiet_on) | (go_big_quiet_op; first | go_big_quiet_on | (refine ⟨_, fun _ _ => rfl, ?_⟩; go_big_quiet_on))))
      refine wpQuiet_nil ?_
      refine anyC_only (i := 6) rfl (by kernel_rfl) HCB.out ?_
      go_wp2_with fail
      refine (Load_any wB _ S room s6 side4 k4 (HSA.out.below HCB.out) HOK6.out).mono ?_
      rintro e wC ⟨AC, cC, rfl, hrC, hbC⟩
      have HCC := Lib.hid (HCB.out.trans (hbC.mono (HCB.out.size)))
      have hCC : ∀ W, Below wC.heap.size wC W → Below wA.heap.size wA W := fun W hW => HCC.out.trans (hW.mono HCC.out.size)
      have HRC := Lib.hid (fun W (hW : Below wC.heap.size wC W) => hrC.below hW)
      have HRX := Lib.hid (fun W (hW : Below wC.heap.size wC W) => HR3.out W (HBA.out.trans ((hCC W hW).mono HBWA.out)))
      have HCW := Lib.hid hCC
      clear hrC hbC hCC
      go_wp2_with fail
      refine anyC_narrow (C' := Below wC.heap.size wC) HCW.out _ _ _ _ ?_
      refine anyC_takes (by kernel_rfl) (fun _ _ _ _ _ h => h) [7, 9, 10, 11, 12, 13, 14, 15, 18, 19] 11 _ _ (by kernel_rfl) ?_
      simp only [List.filterMap_cons, List.filterMap_nil, List.getElem?_toArray, List.getElem?_cons_succ, List.getElem?_cons_zero]
      show wpQuiet _ _ _ _ (_ :: _ :: _ :: _ :: _ :: _ :: _ :: _ :: _ :: _ :: List.nil) _
      repeat (first | go_big_quiet_skip | (go_big_quiet_want; first | (refine quiet_str 22 9 5 (.tmp 85) rfl AC _ cC k4 rfl Try.underlying22 Try.underlying5 Try.underlying9 _ HRC.out ?_; simp only [Act.put, List.setIfInBounds_toArray, List.set_cons_succ, List.set_cons_zero]; go_big_quiet_on) | (refine quiet_eql_str _ _ _ _ rfl _ rfl rfl ?_; simp only [Act.put, List.setIfInBounds_toArray, List.set_cons_succ, List.set_cons_zero]; go_big_quiet_on) | (refine quiet_pick _ _ _ rfl rfl (.bool true) rfl ?_; simp only [Act.put, List.setIfInBounds_toArray, List.set_cons_succ, List.set_cons_zero]; go_big_quiet_on) | (go_big_quiet_op; first | go_big_quiet_on | (refine ⟨_, fun _ _ => rfl, ?_⟩; go_big_quiet_on))))
      refine wpQuiet_nil ?_
      refine anyC_skip (i := 16) rfl (by kernel_rfl) (Below.refl _ _) (by rfl) ?_
      simp only [List.getElem_toArray, List.getElem_cons_succ, List.getElem_cons_zero, Act.put, List.setIfInBounds_toArray, List.set_cons_succ, List.set_cons_zero]
      refine anyC_takes (by kernel_rfl) (fun _ _ _ _ _ h => h) [17, 20, 21, 22, 23, 24, 25] 3 _ _ (by kernel_rfl) ?_
      simp only [List.filterMap_cons, List.filterMap_nil, List.getElem?_toArray, List.getElem?_cons_succ, List.getElem?_cons_zero]
      show wpQuiet _ _ _ _ (_ :: _ :: _ :: _ :: _ :: _ :: _ :: List.nil) _
      repeat (first | go_big_quiet_skip | (go_big_quiet_want; first | (refine quiet_eql_str _ _ _ _ rfl _ rfl rfl ?_; simp only [Act.put, List.setIfInBounds_toArray, List.set_cons_succ, List.set_cons_zero]; go_big_quiet_on) | (refine quiet_pick _ _ _ rfl rfl (.bool true) rfl ?_; simp only [Act.put, List.setIfInBounds_toArray, List.set_cons_succ, List.set_cons_zero]; go_big_quiet_on) | (go_big_quiet_op; first | go_big_quiet_on | (refine ⟨_, fun _ _ => rfl, ?_⟩; go_big_quiet_on))))
      refine wpQuiet_nil ?_
      refine anyC_only (i := 26) rfl (by kernel_rfl) (Below.refl _ _) ?_
      go_wp2_with fail
      refine (Clean_any wC _ S room s6 side4 k4 (HSA.out.below HCC.out) HOK6.out).mono ?_
      rintro e wD ⟨⟨bD, rfl, hbD⟩, hbeD⟩
      obtain rfl : bD = true := hbD.2 HCL6.out
      have HBD := Lib.hid hbeD
      clear hbD hbeD
      go_wp2_with fail
      refine anyC_takes (by kernel_rfl) (fun _ _ _ _ _ h => h) [27, 28] 0 _ _ (by kernel_rfl) ?_
      simp only [List.filterMap_cons, List.filterMap_nil, List.getElem?_toArray, List.getElem?_cons_succ, List.getElem?_cons_zero]
      show wpQuiet _ _ _ _ (_ :: _ :: List.nil) _
      repeat (first | go_big_quiet_skip | (go_big_quiet_want; first | (refine quiet_pick _ _ _ rfl rfl (.bool true) rfl ?_; simp only [Act.put, List.setIfInBounds_toArray, List.set_cons_succ, List.set_cons_zero]; go_big_quiet_on) | (go_big_quiet_op; first | go_big_quiet_on | (refine ⟨_, fun _ _ => rfl, ?_⟩; go_big_quiet_on))))
      refine wpQuiet_nil ?_
      refine ⟨HBD.out, by kernel_rfl, ?_⟩
      go_wp2_with fail
      go_ret
      exact ⟨rfl, HBA.out.trans ((HCC.out.trans (HBD.out.mono HCC.out.size)).mono HBWA.out)⟩
    · obtain ⟨heA, hokA, hclA, _⟩ := save_full l3 HOK6.out HCL6.out HFU.out HDN.out hbig
      obtain ⟨sA, hsA0⟩ : ∃ sA, sA = (s6.save room side4 k4 l3).2 := ⟨_, rfl⟩
      have HSV := Lib.hid (show s6.save room side4 k4 l3 = (0, sA) from Prod.ext heA hsA0.symm)
      rw [← hsA0] at hokA hclA
      have HOKA := Lib.hid hokA; have HCLA := Lib.hid hclA
      clear hbig heA hokA hclA hsA0
      refine (Save_arg side4 k4 l3 A3 n3 c3 HS8.out HBW8.out HOK6.out (HR3.out _ HB8.out) HC3.out (by have := HW6.out; omega) HL3.out).mono ?_
      rintro e wA ⟨rfl, hsA, hbA⟩
      rw [HSV.out] at hsA ⊢
      have HSA := Lib.hid hsA; have HBA := Lib.hid (HB8.out.trans hbA); have HBWA := Lib.hid (Nat.le_trans HBW8.out hbA.size)
      clear hsA hbA
      go_wp2_with fail
      have hC0 : Below wA.heap.size wA wA.drew := (Below.refl _ _).drew
      refine wp_region_anyN (Below wA.heap.size wA) (by kernel_rfl) ?_
      refine anyC_only (i := 0) rfl (by kernel_rfl) hC0 ?_
      go_wp2_with fail
      refine (answers15_any wA.drew).mono ?_
      rintro e wB ⟨rfl, hbB⟩
      have HCB := Lib.hid (hC0.trans hbB)
      clear hbB
      go_wp2_with fail
      have HRY := Lib.hid (fun W (hW : Below wA.heap.size wA W) => HR3.out W (HBA.out.trans (hW.mono HBWA.out)))
      refine anyC_takes (by kernel_rfl) (fun _ _ _ _ _ h => h) [1, 2, 3, 4, 5, 8] 22 _ _ (by kernel_rfl) ?_
      simp only [List.filterMap_cons, List.filterMap_nil, List.getElem?_toArray, List.getElem?_cons_succ, List.getElem?_cons_zero]
      show wpQuiet _ _ _ _ (_ :: _ :: _ :: _ :: _ :: _ :: List.nil) _
      repeat (first | go_big_quiet_skip | (go_big_quiet_want; first | (fail; simp only [Act.put, List.setIfInBounds_toArray, List.set_cons_succ, List.set_cons_zero]; go_big_quiet_on) | (go_big_quiet_op; first | go_big_quiet_on | (refine ⟨_, fun _ _ => rfl, ?_⟩; go_big_quiet_on))))
      refine wpQuiet_nil ?_
      refine anyC_only (i := 6) rfl (by kernel_rfl) HCB.out ?_
      go_wp2_with fail
      refine anyC_takes (by kernel_rfl) (fun _ _ _ _ _ h => h) [7, 9, 10, 11, 12, 13, 14, 15, 18, 19] 11 _ _ (by kernel_rfl) ?_
      simp only [List.filterMap_cons, List.filterMap_nil, List.getElem?_toArray, List.getElem?_cons_succ, List.getElem?_cons_zero]
      show wpQuiet _ _ _ _ (_ :: _ :: _ :: _ :: _ :: _ :: _ :: _ :: _ :: _ :: List.nil) _
      repeat (first | go_big_quiet_skip | (go_big_quiet_want; first | (refine pick_false _ _ _ rfl rfl (.bool false) rfl ?_; simp only [Act.put, List.setIfInBounds_toArray, List.set_cons_succ, List.set_cons_zero]; go_big_quiet_on) | (refine quiet_str 22 9 5 (.tmp 97) rfl A3 n3 c3 l3 rfl Try.underlying22 Try.underlying5 Try.underlying9 _ HRY.out ?_; simp only [Act.put, List.setIfInBounds_toArray, List.set_cons_succ, List.set_cons_zero]; go_big_quiet_on) | (go_big_quiet_op; first | go_big_quiet_on | (refine ⟨_, fun _ _ => rfl, ?_⟩; go_big_quiet_on))))
      refine wpQuiet_nil ?_
      refine anyC_only (i := 16) rfl (by kernel_rfl) HCB.out ?_
      go_wp2_with fail
      refine (Load_any wB _ S room sA (1 - side4) l3 (HSA.out.below HCB.out) HOKA.out).mono ?_
      rintro e wC ⟨AC, cC, rfl, hrC, hbC⟩
      have HCC := Lib.hid (HCB.out.trans (hbC.mono (HCB.out.size)))
      have hCC : ∀ W, Below wC.heap.size wC W → Below wA.heap.size wA W := fun W hW => HCC.out.trans (hW.mono HCC.out.size)
      have HRC := Lib.hid (fun W (hW : Below wC.heap.size wC W) => hrC.below hW)
      have HRX := Lib.hid (fun W (hW : Below wC.heap.size wC W) => HR3.out W (HBA.out.trans ((hCC W hW).mono HBWA.out)))
      have HCW := Lib.hid hCC
      clear hrC hbC hCC
      go_wp2_with fail
      refine anyC_narrow (C' := Below wC.heap.size wC) HCW.out _ _ _ _ ?_
      refine anyC_takes (by kernel_rfl) (fun _ _ _ _ _ h => h) [17, 20, 21, 22, 23, 24, 25] 3 _ _ (by kernel_rfl) ?_
      simp only [List.filterMap_cons, List.filterMap_nil, List.getElem?_toArray, List.getElem?_cons_succ, List.getElem?_cons_zero]
      show wpQuiet _ _ _ _ (_ :: _ :: _ :: _ :: _ :: _ :: _ :: List.nil) _
      repeat (first | go_big_quiet_skip | (go_big_quiet_want; first | (refine quiet_str 22 9 5 (.tmp 95) rfl AC _ cC l3 rfl Try.underlying22 Try.underlying5 Try.underlying9 _ HRC.out ?_; simp only [Act.put, List.setIfInBounds_toArray, List.set_cons_succ, List.set_cons_zero]; go_big_quiet_on) | (refine quiet_eql_str _ _ _ _ rfl _ rfl rfl ?_; simp only [Act.put, List.setIfInBounds_toArray, List.set_cons_succ, List.set_cons_zero]; go_big_quiet_on) | (refine quiet_pick _ _ _ rfl rfl (.bool true) rfl ?_; simp only [Act.put, List.setIfInBounds_toArray, List.set_cons_succ, List.set_cons_zero]; go_big_quiet_on) | (go_big_quiet_op; first | go_big_quiet_on | (refine ⟨_, fun _ _ => rfl, ?_⟩; go_big_quiet_on))))
      refine wpQuiet_nil ?_
      refine anyC_only (i := 26) rfl (by kernel_rfl) (Below.refl _ _) ?_
      go_wp2_with fail
      refine (Clean_any wC _ S room sA (1 - side4) l3 (HSA.out.below HCC.out) HOKA.out).mono ?_
      rintro e wD ⟨⟨bD, rfl, hbD⟩, hbeD⟩
      obtain rfl : bD = true := hbD.2 HCLA.out
      have HBD := Lib.hid hbeD
      clear hbD hbeD
      go_wp2_with fail
      refine anyC_takes (by kernel_rfl) (fun _ _ _ _ _ h => h) [27, 28] 0 _ _ (by kernel_rfl) ?_
      simp only [List.filterMap_cons, List.filterMap_nil, List.getElem?_toArray, List.getElem?_cons_succ, List.getElem?_cons_zero]
      show wpQuiet _ _ _ _ (_ :: _ :: List.nil) _
      repeat (first | go_big_quiet_skip | (go_big_quiet_want; first | (refine quiet_pick _ _ _ rfl rfl (.bool true) rfl ?_; simp only [Act.put, List.setIfInBounds_toArray, List.set_cons_succ, List.set_cons_zero]; go_big_quiet_on) | (go_big_quiet_op; first | go_big_quiet_on | (refine ⟨_, fun _ _ => rfl, ?_⟩; go_big_quiet_on))))
      refine wpQuiet_nil ?_
      refine ⟨HBD.out, by kernel_rfl, ?_⟩
      go_wp2_with fail
      go_ret
      exact ⟨rfl, HBA.out.trans ((HCC.out.trans (HBD.out.mono HCC.out.size)).mono HBWA.out)⟩
end Go.Proofs.Ytpdihggdopdolaa
