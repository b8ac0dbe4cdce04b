/- The reference's Do, layer 15: a Save. Conditions: the sizes. -/
import Derived.Test.YtpdihggdopdolaaRefS0
namespace Go.Proofs.Ytpdihggdopdolaa
open Go.RowKit
/-- What a Save answers, the power behind it, and what is kept then. -/
def rsE (p : PW) (room n1 n2 : Nat) : Int := if room < n1 then 7 else if (p.run (n1 + 1 + n2)).1 = true then 0 else 3
def rsP (p : PW) (room n1 n2 : Nat) : PW := if room < n1 then p else (p.run (n1 + 1 + n2)).2
def rsK (p : PW) (room n1 : Nat) (kept b : List UInt8) : List UInt8 := if room < n1 then kept else if (p.run (n1 + 1)).1 = true then b else kept
theorem run_pre_no {p : PW} {k n : Nat} (hk : k ≤ n) (h : (p.run k).1 = false) : p.run n = p.run k := by
  obtain ⟨j, rfl⟩ : ∃ j, n = k + j := ⟨n - k, by omega⟩
  rw [PW.run_add, if_neg (by rw [h]; decide)]
theorem run_pre_ok {p : PW} {k n : Nat} (hk : k ≤ n) (h : (p.run n).1 = true) : (p.run k).1 = true := by
  cases hc : (p.run k).1
  · rw [run_pre_no hk hc, hc] at h; cases h
  · rfl
theorem run_left (k : Nat) : ∀ (p : PW), -1 ≤ p.left → p.left ≤ 9223372036854775807 → -1 ≤ (p.run k).2.left ∧ (p.run k).2.left ≤ 9223372036854775807 := by
  induction k with
  | zero => intro p h1 h2; exact ⟨h1, h2⟩
  | succ k ih =>
    intro p h1 h2
    unfold PW.run
    split
    · exact ⟨h1, h2⟩
    · refine ih _ ?_ ?_
      · simp only; split <;> omega
      · simp only; split <;> omega
theorem own_ne6 {v : Value} {g m R : Nat} (h : v.ownBlock = (Value.slice (some ⟨g, 0, none⟩) 0 0).ownBlock ∨ v.ownBlock = some m) (h1 : R < g) (h2 : R < m) : v.ownBlock ≠ some R := by
  intro e
  rcases h with h | h
  · rw [h] at e
    simp [Value.ownBlock] at e
    omega
  · rw [h] at e
    simp at e
    omega
theorem own_ge6 {v : Value} {g m x : Nat} (h : v.ownBlock = (Value.slice (some ⟨g, 0, none⟩) 0 0).ownBlock ∨ v.ownBlock = some m) (h1 : x ≤ g) (h2 : x ≤ m) : ∀ k, v.ownBlock = some k → x ≤ k := by
  intro k e
  rcases h with h | h
  · rw [h] at e
    simp [Value.ownBlock] at e
    omega
  · rw [h] at e
    simp at e
    omega
theorem keeps_app {w0 w w' : World} {R g : Nat} (hk : Keeps (fun k => k = R) w0 w) (hg : w.grownBy w' (Value.slice (some ⟨g, 0, none⟩) 0 0).ownBlock) (h : w0.heap.size ≤ g) : Keeps (fun k => k = R) w0 w' := by
  refine hk.grown hg fun k e => Or.inl ?_
  simp [Value.ownBlock] at e
  omega
theorem blk_app {w w' : World} {R g : Nat} {t : TypeId} {cs : Array Value} (hb : Blk w R t cs) (hg : w.grownBy w' (Value.slice (some ⟨g, 0, none⟩) 0 0).ownBlock) (h : R < g) : Blk w' R t cs := by
  refine hb.grown hg fun e => ?_
  simp [Value.ownBlock] at e
  omega
set_option maxRecDepth 100000 in
set_option maxHeartbeats 1000000 in
theorem RefSave_any (w : World) (R room : Nat) (p : PW) (dirty : Bool) (v : Value) (kept b : List UInt8) (B : Nat) (A : Option Addr) (n c : Nat) (N y : Int) (h : Blk w R 58 (RCells room p dirty v)) (hv : Own w B v kept) (hvR : v.ownBlock ≠ some R) (hB : B ≤ w.heap.size)
    (hr : Rd w w.heap.size A n b) (hoff : 0 < n → ∀ ad, A = some ad → ad.block ≠ R) (hn : n ≤ 140737488351232) (hrm : room ≤ 512) (hk : takesOf kept.length ≤ 512) (hl : -1 ≤ p.left) (hl2 : p.left ≤ 9223372036854775807) (hw : p.writes ≤ 4611686018400000000) :
    Calls Try.prog 33 #[.pointer (some ⟨R, 0, none⟩), .agg #[.int .i64 1, .int .i64 N, .int .u8 y, .slice A n c]] w fun e w' => e = .returned (.int .i64 (rsE p room (takesOf n) (takesOf kept.length))) ∧
      (∃ dirty' v', Blk w' R 58 (RCells room (rsP p room (takesOf n) (takesOf kept.length)) dirty' v') ∧ Own w' B v' (rsK p room (takesOf n) kept b) ∧ v'.ownBlock ≠ some R ∧ (v' = v ∨ ∀ k, v'.ownBlock = some k → w.heap.size ≤ k)) ∧ Keeps (fun k => k = R) w w' := by
  obtain ⟨vA, vc, rfl⟩ := hv.shape
  obtain ⟨W1, hW1⟩ : ∃ W1, W1 = w.alloc (.cells #[.int .i64 1, .int .i64 N, .int .u8 y, .slice A n c] 55) := ⟨_, rfl⟩
  have hb1 : Below w.heap.size w W1 := by rw [hW1]; exact (Below.refl _ _).alloc (Nat.le_refl _) _
  have hX : Blk W1 w.heap.size 55 #[.int .i64 1, .int .i64 N, .int .u8 y, .slice A n c] := by rw [hW1]; exact Blk.new _ _ _
  have HB1 := Lib.hid hb1; have HX := Lib.hid hX; have HW1 := Lib.hid hW1; have H := Lib.hid (h.below hb1 h.lt); have HV := Lib.hid (hv.below hb1); have HVR := Lib.hid hvR; have HBB := Lib.hid hB
  have HR := Lib.hid (hr.below hb1); have HOFF := Lib.hid hoff; have HN := Lib.hid hn; have HRM := Lib.hid hrm; have HK := Lib.hid hk; have HL := Lib.hid hl; have HL2 := Lib.hid hl2; have HW := Lib.hid hw; have HRL := Lib.hid h.lt
  have k0 : W1.cell? ⟨w.heap.size, 0, none⟩ = some (.int .i64 1) := (hX.cell 0).trans rfl
  clear h hv hvR hB hr hoff hn hrm hk hl hl2 hw hb1 hX hW1
  go_enter Try.func33, Try.ntmps33
  go_upto_region 1 with fail
  rw [← HW1.out]
  go_wp2_with fail
  have HXC := Lib.hid (fun W (hW : Below W1.heap.size W1 W) => ((HX.out.below hW HX.out.lt).cell 3).trans rfl : ∀ W, Below W1.heap.size W1 W → W.cell? ⟨w.heap.size, 3, none⟩ = some (.slice A n c))
  have HRC := Lib.hid (fun W (hW : Below W1.heap.size W1 W) => ((H.out.below hW H.out.lt).cell 0).trans rfl : ∀ W, Below W1.heap.size W1 W → W.cell? ⟨R, 0, none⟩ = some (.int .i64 (room : Int)))
  have hC0 : Below W1.heap.size W1 W1.drew := (Below.refl _ _).drew
  refine wp_region_anyN (Below W1.heap.size W1) (by kernel_rfl) ?_
  refine anyC_takes (by kernel_rfl) (fun _ _ _ _ _ h => h) [0, 1, 3, 4, 5, 6] 2 _ _ (by kernel_rfl) ?_
  simp only [List.filterMap_cons, List.filterMap_nil, List.getElem?_toArray, List.getElem?_cons_succ, List.getElem?_cons_zero]
  show wpQuiet _ _ _ _ (_ :: _ :: _ :: _ :: _ :: _ :: List.nil) _
  repeat (first | go_big_quiet_skip | (go_big_quiet_want; first | (refine quiet_load _ _ rfl ⟨w.heap.size, 3, none⟩ rfl _ HXC.out (fun _ => by kernel_rfl) ?_; simp only [Act.put, List.setIfInBounds_toArray, List.set_cons_succ, List.set_cons_zero]; go_big_quiet_on) | (refine quiet_load _ _ rfl ⟨R, 0, none⟩ rfl _ HRC.out (fun _ => by kernel_rfl) ?_; simp only [Act.put, List.setIfInBounds_toArray, List.set_cons_succ, List.set_cons_zero]; go_big_quiet_on) | (go_big_quiet_op; first | go_big_quiet_on | (refine ⟨_, fun _ _ => rfl, ?_⟩; go_big_quiet_on))))
  refine wpQuiet_nil ?_
  refine anyC_only (i := 2) rfl (by kernel_rfl) hC0 ?_
  go_wp2_with fail
  refine (rtakes_any A n c W1.drew (by have := HN.out; omega)).mono ?_
  rintro e w3 ⟨rfl, rfl⟩
  go_wp2_with fail
  refine anyC_takes (by kernel_rfl) (fun _ _ _ _ _ h => h) [7] 0 _ _ (by kernel_rfl) ?_
  simp only [List.filterMap_cons, List.filterMap_nil, List.getElem?_toArray, List.getElem?_cons_succ, List.getElem?_cons_zero]
  show wpQuiet _ _ _ _ (_ :: List.nil) _
  repeat (first | go_big_quiet_skip | (go_big_quiet_want; first | (fail; simp only [Act.put, List.setIfInBounds_toArray, List.set_cons_succ, List.set_cons_zero]; go_big_quiet_on) | (go_big_quiet_op; first | go_big_quiet_on | (refine ⟨_, fun _ _ => rfl, ?_⟩; go_big_quiet_on))))
  refine wpQuiet_nil ?_
  refine ⟨hC0, by kernel_rfl, ?_⟩
  by_cases hbig : room < takesOf n
  · have hbig' : (room : Int) < (takesOf n : Int) := by omega
    go_wp2_with fail
    go_ret
    refine ⟨by unfold rsE; rw [if_pos hbig]; rfl, ⟨dirty, .slice vA kept.length vc, ?_, ?_, ⟨HVR.out, Or.inl rfl⟩⟩, Keeps.of_below (HB1.out.drew)⟩
    · unfold rsP; rw [if_pos hbig]; exact H.out.drew
    · unfold rsK; rw [if_pos hbig]; exact HV.out.drew
  have hbig' : ¬ (room : Int) < (takesOf n : Int) := by omega
  have HFIT := Lib.hid hbig
  clear hbig
  have hfit := HFIT.out
  have hrmx := HRM.out
  have hn1 : n ≤ 16384 := by unfold takesOf at hfit; omega
  have hx3 : ∀ W, Keeps (fun k => k = R) W1 W → W.cell? ⟨w.heap.size, 3, none⟩ = some (.slice A n c) := fun W hW => ((HX.out.keeps hW (by have := HRL.out; omega)).cell 3).trans rfl
  have hrd : ∀ W, Keeps (fun k => k = R) W1 W → Rd W w.heap.size A n b := fun W hW => by
    rcases Nat.eq_zero_or_pos n with h0 | h0
    · exact ⟨HR.out.1, fun h => absurd h (by omega)⟩
    · exact rd_off HR.out hW HB1.out.size (fun ad e _ => HOFF.out h0 ad e)
  have HX3 := Lib.hid hx3; have HRD := Lib.hid hrd; have HN1 := Lib.hid hn1
  have hT1 : takesOf n ≤ 512 := by omega
  have HT1 := Lib.hid hT1
  clear hx3 hrd hn1 hfit hrmx hT1
  go_wp2_with fail
  generalize hT : takesOf n = T1 at HFIT HT1 hbig' ⊢
  have HTT := Lib.hid hT
  clear hT
  go_loopw [5] (fun q wr => ∃ (i : Nat) (dt : Bool), i ≤ T1 ∧ q = .int .i64 (i : Int) ∧ (p.run i).1 = true ∧ Blk wr R 58 (RCells room (p.run i).2 dt (.slice vA kept.length vc)) ∧ Keeps (fun k => k = R) W1 wr) (fun q _ => T1 - (intOf q).toNat)
  case atStart => exact ⟨0, dirty, by omega, rfl, rfl, H.out.drew, (Keeps.refl _ _).drew⟩
  case round =>
    obtain ⟨i, dt, hi, rfl, hok, hblk, hkp⟩ := hrel
    have HOK := Lib.hid hok; have HBLK := Lib.hid hblk; have HKP := Lib.hid hkp
    have hxx := HX3.out wr hkp
    clear hok hblk hkp
    have hT1 := HT1.out; have hKK := HK.out; have hWW := HW.out
    have hlft := run_left i p HL.out HL2.out
    have hwrt := run_writes i p
    by_cases hiT : i < T1
    · have hiT' : (i : Int) < (T1 : Int) := by omega
      go_wp2_with (go_at_call 43; refine (rtakes_any A n c wr (by have := HN.out; omega)).mono ?_; rintro e w4 ⟨rfl, hw4⟩; subst hw4; rw [HTT.out])
      refine (rwrite_any _ R room (p.run i).2 dt _ HBLK.out hlft.1 hlft.2 (by omega)).mono ?_
      rintro e w4 ⟨rfl, hb4, hk4⟩
      have HB4 := Lib.hid hb4; have HK4 := Lib.hid (HKP.out.trans hk4 (fun _ _ e => e))
      have hrs : p.run (i + 1) = (p.run i).2.run 1 := by rw [PW.run_succ, if_pos HOK.out]
      have HRS := Lib.hid hrs
      clear hb4 hk4 hrs hxx
      cases hc : ((p.run i).2.run 1).1
      · have HC := Lib.hid hc
        clear hc
        go_wp2_with fail
        rw [HTT.out]
        have hno : (p.run (i + 1)).1 = false := by rw [HRS.out]; exact HC.out
        have htot : p.run (T1 + 1 + takesOf kept.length) = p.run (i + 1) := run_pre_no (by omega) hno
        go_ret
        refine ⟨by unfold rsE; rw [if_neg HFIT.out, htot, if_neg (by rw [hno]; decide)]; rfl, ⟨dt, .slice vA kept.length vc, ?_, ?_, ⟨HVR.out, Or.inl rfl⟩⟩, (Keeps.of_below HB1.out).trans HK4.out (fun _ _ e => e)⟩
        · unfold rsP; rw [if_neg HFIT.out, htot, HRS.out]; exact HB4.out
        · unfold rsK; rw [if_neg HFIT.out, if_neg (by rw [run_pre_no (show i + 1 ≤ T1 + 1 by omega) hno, hno]; decide)]; exact HV.out.keeps HK4.out (fun k e e2 => HVR.out (by rw [e, e2]))
      · have HC := Lib.hid hc
        clear hc
        have hp1 : (p.run (i + 1)).1 = true := by rw [HRS.out]; exact HC.out
        rw [← HRS.out] at HB4
        have HP1 := Lib.hid hp1
        clear hp1
        cases dt
        · have k4 : w4.cell? ⟨R, 4, none⟩ = some (.bool false) := (HB4.out.cell 4).trans rfl
          have f4 : w4.frozen? ⟨R, 4, none⟩ = false := HB4.out.frozen 4
          have kx := HX3.out w4 HK4.out
          go_wp2_with (go_at_call 45; refine (solid_any w4 _ A n c b i HN1.out (by omega) (HRD.out w4 HK4.out)).mono ?_; rintro e wS ⟨⟨bs, rfl⟩, hwS⟩; subst hwS)
          go_roundw
          case rel => exact ⟨i + 1, bs, hiT, by go_num, HP1.out, HB4.out.set_ 4 (.bool bs), HK4.out.setCell (p := ⟨R, 4, none⟩) rfl _⟩
          case measure => simp [intOf]; omega
        · have k4 : w4.cell? ⟨R, 4, none⟩ = some (.bool true) := (HB4.out.cell 4).trans rfl
          have f4 : w4.frozen? ⟨R, 4, none⟩ = false := HB4.out.frozen 4
          go_wp2_with fail
          go_roundw
          case rel => exact ⟨i + 1, true, hiT, by go_num, HP1.out, HB4.out.set_ 4 (.bool true), HK4.out.setCell (p := ⟨R, 4, none⟩) rfl _⟩
          case measure => simp [intOf]; omega
    · obtain rfl : i = T1 := by omega
      go_wp2_with (go_at_call 43; refine (rtakes_any A n c wr (by have := HN.out; omega)).mono ?_; rintro e w4 ⟨rfl, hw4⟩; subst hw4; rw [HTT.out])
      refine (rwrite_any _ R room (p.run i).2 dt _ HBLK.out hlft.1 hlft.2 (by omega)).mono ?_
      rintro e w4 ⟨rfl, hb4, hk4⟩
      have HB4 := Lib.hid hb4; have HK4 := Lib.hid (HKP.out.trans hk4 (fun _ _ e => e))
      have hrs : p.run (i + 1) = (p.run i).2.run 1 := by rw [PW.run_succ, if_pos HOK.out]
      have HRS := Lib.hid hrs
      clear hb4 hk4 hrs hxx
      cases hc : ((p.run i).2.run 1).1
      · have HC := Lib.hid hc
        clear hc
        go_wp2_with fail
        rw [HTT.out]
        have hno : (p.run (i + 1)).1 = false := by rw [HRS.out]; exact HC.out
        have htot : p.run (i + 1 + takesOf kept.length) = p.run (i + 1) := run_pre_no (by omega) hno
        go_ret
        refine ⟨by unfold rsE; rw [if_neg HFIT.out, htot, if_neg (by rw [hno]; decide)]; rfl, ⟨dt, .slice vA kept.length vc, ?_, ?_, ⟨HVR.out, Or.inl rfl⟩⟩, (Keeps.of_below HB1.out).trans HK4.out (fun _ _ e => e)⟩
        · unfold rsP; rw [if_neg HFIT.out, htot, HRS.out]; exact HB4.out
        · unfold rsK; rw [if_neg HFIT.out, if_neg (by rw [hno]; decide)]; exact HV.out.keeps HK4.out (fun k e e2 => HVR.out (by rw [e, e2]))
      · have HC := Lib.hid hc
        clear hc
        have hp1 : (p.run (i + 1)).1 = true := by rw [HRS.out]; exact HC.out
        rw [← HRS.out] at HB4
        have HP1 := Lib.hid hp1
        clear hp1 hlft hwrt
        obtain ⟨p3, hp3⟩ : ∃ p3, p3 = (p.run (i + 1)).2 := ⟨_, rfl⟩
        rw [← hp3] at HB4
        have HP3 := Lib.hid hp3
        clear hp3
        have k5 : w4.cell? ⟨R, 5, none⟩ = some (.slice vA kept.length vc) := (HB4.out.cell 5).trans rfl
        have hbq : Below w4.heap.size w4 (w4.alloc (.cells #[] 5)) := (Below.refl _ _).alloc (Nat.le_refl _) _
        have hkq : Keeps (fun k => k = R) W1 (w4.alloc (.cells #[] 5)) := HK4.out.alloc _
        have HKQ := Lib.hid hkq
        have kx := HX3.out _ hkq
        have HRQ := Lib.hid (HRD.out _ hkq)
        have HBQ := Lib.hid (HB4.out.below hbq HB4.out.lt)
        have HSZ := Lib.hid (show w.heap.size ≤ w4.heap.size from Nat.le_trans HB1.out.size HK4.out.size)
        have HE := Lib.hid (Own.new_ w4 B (by have := HSZ.out; have := HBB.out; omega) [] (by simp) #[] rfl)
        clear hbq hkq
        go_upto_region 14 with fail
        iterate 16 go_step
        refine app_bytes rfl (.tmp 53) (.tmp 55) rfl B (.slice (some ⟨w4.heap.size, 0, none⟩) 0 0) [] rfl HE.out w.heap.size A n c b rfl HRQ.out (by simp only [List.length_nil]; have := HN1.out; omega) (by have := HSZ.out; have := HBB.out; simp; omega) ?_
        intro v6 w6 hown6 hg6 hat6
        rw [List.nil_append] at hown6
        have HO6 := Lib.hid hown6
        have hr6 : R < w4.heap.size := by have := HSZ.out; have := HRL.out; omega
        have HVR6 := Lib.hid (own_ne6 hat6 hr6 (by simp; omega))
        have HGE6 := Lib.hid (own_ge6 hat6 HSZ.out (by have := HSZ.out; simp; omega))
        have hb6 : Blk w6 R 58 (RCells room p3 dt (.slice vA kept.length vc)) := blk_app HBQ.out hg6 hr6
        have HB6 := Lib.hid hb6
        have HK6 := Lib.hid (keeps_app HKQ.out hg6 HK4.out.size)
        have f5 := hb6.frozen 5
        have f4 := hb6.frozen 4
        have k5' : w6.cell? ⟨R, 5, none⟩ = some (.slice vA kept.length vc) := (hb6.cell 5).trans rfl
        have k4' : w6.cell? ⟨R, 4, none⟩ = some (.bool dt) := (hb6.cell 4).trans rfl
        obtain ⟨A6, c6, rfl⟩ := hown6.shape
        clear hown6 hg6 hat6 hb6 k5 kx hr6
        go_wp2_with fail
        obtain ⟨W7, hW7⟩ : ∃ W7, W7 = (w6.setCell ⟨R, 5, none⟩ (.slice A6 b.length c6)).setCell ⟨R, 4, none⟩ (.bool false) := ⟨_, rfl⟩
        have hb7 : Blk W7 R 58 (RCells room p3 false (.slice A6 b.length c6)) := by rw [hW7]; exact (HB6.out.set_ 5 (.slice A6 b.length c6)).set_ 4 (.bool false)
        have hk67 : Keeps (fun k => k = R) w6 W7 := by rw [hW7]; exact ((Keeps.refl (fun k => k = R) w6).setCell (p := ⟨R, 5, none⟩) rfl _).setCell (p := ⟨R, 4, none⟩) rfl _
        have HB7 := Lib.hid hb7; have HK7 := Lib.hid (HK6.out.trans hk67 (fun _ _ e => e)); have HO7 := Lib.hid (HO6.out.keeps hk67 (fun k e e2 => HVR6.out (by rw [e, e2])))
        rw [← hW7]
        clear hW7 hb7 hk67 f5 f4 k5' k4'
        obtain ⟨T2, hT2⟩ : ∃ T2, takesOf kept.length = T2 := ⟨_, rfl⟩
        have hT512 : T2 ≤ 512 := by rw [← hT2]; exact hKK
        have hkl : kept.length ≤ 16384 := by unfold takesOf at hKK; omega
        have HNK := Lib.hid hT2
        clear hT2 hKK
        go_loopw [7] (fun q wr => ∃ (j : Nat) (dt2 : Bool), j ≤ T2 ∧ q = .int .i64 (j : Int) ∧ Blk wr R 58 (RCells room p3 dt2 (.slice A6 b.length c6)) ∧ Keeps (fun k => k = R) W7 wr) (fun q _ => T2 - (intOf q).toNat)
        case atStart => exact ⟨0, false, by omega, rfl, HB7.out, Keeps.refl _ _⟩
        case round =>
          obtain ⟨j, dt2, hj, rfl, hbl, hkl2⟩ := hrel
          have HBL := Lib.hid hbl; have HKL := Lib.hid hkl2
          have HOR := Lib.hid (HV.out.keeps (HK7.out.trans hkl2 (fun _ _ e => e)) (fun k e e2 => HVR.out (by rw [e, e2]))).rd
          clear hbl hkl2
          by_cases hjT : j < T2
          · have hjT' : (j : Int) < (T2 : Int) := by omega
            cases dt2
            · have k4 : wr.cell? ⟨R, 4, none⟩ = some (.bool false) := (HBL.out.cell 4).trans rfl
              have f4 : wr.frozen? ⟨R, 4, none⟩ = false := HBL.out.frozen 4
              go_wp2_with (first
                | (go_at_call 43; refine (rtakes_any vA kept.length vc wr (by omega)).mono ?_; rintro e wS ⟨rfl, hwS⟩; subst hwS; rw [HNK.out])
                | (go_at_call 45; refine (solid_any _ _ vA kept.length vc kept j (by omega) (by omega) HOR.out).mono ?_; rintro e wS ⟨⟨bs, rfl⟩, hwS⟩; subst hwS))
              go_roundw
              case rel => exact ⟨j + 1, bs, hjT, by go_num, HBL.out.set_ 4 (.bool bs), HKL.out.setCell (p := ⟨R, 4, none⟩) rfl _⟩
              case measure => simp [intOf]; omega
            · have k4 : wr.cell? ⟨R, 4, none⟩ = some (.bool true) := (HBL.out.cell 4).trans rfl
              have f4 : wr.frozen? ⟨R, 4, none⟩ = false := HBL.out.frozen 4
              go_wp2_with (go_at_call 43; refine (rtakes_any vA kept.length vc wr (by omega)).mono ?_; rintro e wS ⟨rfl, hwS⟩; subst hwS; rw [HNK.out])
              go_roundw
              case rel => exact ⟨j + 1, true, hjT, by go_num, HBL.out.set_ 4 (.bool true), HKL.out.setCell (p := ⟨R, 4, none⟩) rfl _⟩
              case measure => simp [intOf]; omega
          · obtain rfl : j = T2 := by omega
            have HK8 := Lib.hid (HK7.out.trans HKL.out (fun _ _ e => e)); have HO8 := Lib.hid (HO7.out.keeps HKL.out (fun k e e2 => HVR6.out (by rw [e, e2])))
            go_wp2_with (go_at_call 43; refine (rtakes_any vA kept.length vc wr (by omega)).mono ?_; rintro e wS ⟨rfl, hwS⟩; rw [hwS, HNK.out])
            have hp3l := run_left (i + 1) p HL.out HL2.out
            have hp3w := run_writes (i + 1) p
            rw [← HP3.out] at hp3l hp3w
            have HP3L := Lib.hid hp3l; have HP3W := Lib.hid hp3w
            clear hp3l hp3w hj
            go_loopw [8] (fun q wz => ∃ (m : Nat) (dt3 : Bool), m ≤ j ∧ q = .int .i64 (m : Int) ∧ (p3.run m).1 = true ∧ Blk wz R 58 (RCells room (p3.run m).2 dt3 (.slice A6 b.length c6)) ∧ Keeps (fun k => k = R) wr wz) (fun q _ => j - (intOf q).toNat)
            case atStart => exact ⟨0, dt2, by omega, rfl, rfl, HBL.out, Keeps.refl _ _⟩
            case round =>
              obtain ⟨m, dt3, hm, rfl, hok3, hbl3, hk3⟩ := hrel
              have HOK3 := Lib.hid hok3; have HBL3 := Lib.hid hbl3; have HK3 := Lib.hid hk3
              clear hok3 hbl3 hk3
              have hadd : ∀ q, p.run (i + 1 + q) = p3.run q := fun q => by rw [PW.run_add, if_pos HP1.out, ← HP3.out]
              have HADD := Lib.hid hadd
              have hlft := run_left m p3 HP3L.out.1 HP3L.out.2
              have hwrt := run_writes m p3
              have hw3 := HP3W.out
              clear hadd
              by_cases hmj : m < j
              · have hmj' : (m : Int) < (j : Int) := by omega
                go_wp2_with (go_at_call 43; refine (rtakes_any vA kept.length vc _ (by omega)).mono ?_; rintro e wS ⟨rfl, hwS⟩; rw [hwS, HNK.out])
                refine (rwrite_any _ R room (p3.run m).2 dt3 _ HBL3.out hlft.1 hlft.2 (by omega)).mono ?_
                rintro e w9 ⟨rfl, hb9, hk9⟩
                have HB9 := Lib.hid hb9; have HK9 := Lib.hid (HK3.out.trans hk9 (fun _ _ e => e))
                have hrs : p3.run (m + 1) = (p3.run m).2.run 1 := by rw [PW.run_succ, if_pos HOK3.out]
                have HRS3 := Lib.hid hrs
                clear hb9 hk9 hrs hlft hwrt hw3
                cases hc : ((p3.run m).2.run 1).1
                · have HC3 := Lib.hid hc
                  clear hc
                  go_wp2_with fail
                  rw [HTT.out]
                  have hno : (p.run (i + 1 + (m + 1))).1 = false := by rw [HADD.out, HRS3.out]; exact HC3.out
                  have htot : p.run (i + 1 + takesOf kept.length) = p.run (i + 1 + (m + 1)) := run_pre_no (by rw [HNK.out]; omega) hno
                  go_ret
                  refine ⟨by unfold rsE; rw [if_neg HFIT.out, htot, if_neg (by rw [hno]; decide)]; rfl, ⟨dt3, .slice A6 b.length c6, ?_, ?_, ⟨HVR6.out, Or.inr HGE6.out⟩⟩, (Keeps.of_below HB1.out).trans (HK8.out.trans HK9.out (fun _ _ e => e)) (fun _ _ e => e)⟩
                  · unfold rsP; rw [if_neg HFIT.out, htot, HADD.out, HRS3.out]; exact HB9.out
                  · unfold rsK; rw [if_neg HFIT.out, if_pos HP1.out]; exact HO8.out.keeps HK9.out (fun k e e2 => HVR6.out (by rw [e, e2]))
                · have HC3 := Lib.hid hc
                  clear hc
                  have hp1 : (p3.run (m + 1)).1 = true := by rw [HRS3.out]; exact HC3.out
                  rw [← HRS3.out] at HB9
                  have HP4 := Lib.hid hp1
                  clear hp1
                  go_wp2_with fail
                  go_roundw
                  case rel => exact ⟨m + 1, dt3, hmj, by go_num, HP4.out, HB9.out, HK9.out⟩
                  case measure => simp [intOf]; omega
              · obtain rfl : m = j := by omega
                have k4 : wr.cell? ⟨R, 4, none⟩ = some (.bool dt3) := (HBL3.out.cell 4).trans rfl
                have f4 : wr.frozen? ⟨R, 4, none⟩ = false := HBL3.out.frozen 4
                go_wp2_with (go_at_call 43; refine (rtakes_any vA kept.length vc _ (by omega)).mono ?_; rintro e wS ⟨rfl, hwS⟩; rw [hwS, HNK.out])
                rw [HTT.out]
                have htot : p.run (i + 1 + takesOf kept.length) = p3.run m := by rw [HNK.out, HADD.out]
                go_ret
                refine ⟨by unfold rsE; rw [if_neg HFIT.out, htot, if_pos HOK3.out]; rfl, ⟨false, .slice A6 b.length c6, ?_, ?_, ⟨HVR6.out, Or.inr HGE6.out⟩⟩, (Keeps.of_below HB1.out).trans (HK8.out.trans (HK3.out.setCell (p := ⟨R, 4, none⟩) rfl _) (fun _ _ e => e)) (fun _ _ e => e)⟩
                · unfold rsP; rw [if_neg HFIT.out, htot]; exact HBL3.out.set_ 4 (.bool false)
                · unfold rsK; rw [if_neg HFIT.out, if_pos HP1.out]; exact HO8.out.keeps (HK3.out.setCell (p := ⟨R, 4, none⟩) rfl _) (fun k e e2 => HVR6.out (by rw [e, e2]))
end Go.Proofs.Ytpdihggdopdolaa
