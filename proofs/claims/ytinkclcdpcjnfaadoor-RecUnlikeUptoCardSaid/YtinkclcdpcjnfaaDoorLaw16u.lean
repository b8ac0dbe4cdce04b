/- The walk of layer 16's law RecUnlike. Condition: the states are no great ones. -/
import Derived.Test.YtinkclcdpcjnfaaDoorLaw16
namespace Go.Proofs.YtinkclcdpcjnfaaDoor
open Go.RowKit
set_option maxRecDepth 100000 in
set_option maxHeartbeats 8000000 in
theorem RecUnlike_any (m : StateV) (Ao Ap : Option Addr) (co cp : Nat) (n : StateV) (Bo Bp : Option Addr) (eo ep : Nat) (w : World) (hk : Consts w) (hs : m.cost ≤ 67108864) (hs2 : n.cost ≤ 67108864) (hr : StateRd w (fun k => k < w.heap.size) m Ao Ap) (hr2 : StateRd w (fun k => k < w.heap.size) n Bo Bp) :
    Calls Tryd.prog 7 #[.agg (stateCells m Ao Ap co cp), .agg (stateCells n Bo Bp eo ep)] w fun e w' => e = .returned (.bool true) ∧ Below w.heap.size w w' := by
  have hB0 : 0 < w.heap.size := by have := World.block_lt_of_cell? w _ (hk 0 (by omega)); omega
  have HCK := Lib.hid hk; clear hk
  have hb1 : Below w.heap.size w ((w.alloc (.cells (stateCells m Ao Ap co cp) 26)).alloc (.cells (stateCells n Bo Bp eo ep) 26)) := ((Below.refl _ _).alloc (Nat.le_refl _) _).alloc (by simp) _
  have hM1 := (Blk.new w 26 (stateCells m Ao Ap co cp)).alloc (.cells (stateCells n Bo Bp eo ep) 26)
  have hM2 : Blk ((w.alloc (.cells (stateCells m Ao Ap co cp) 26)).alloc (.cells (stateCells n Bo Bp eo ep) 26)) (w.heap.size + 1) 26 (stateCells n Bo Bp eo ep) := Blk.new' (by simp)
  have hr1 := hr.below hb1
  have hr3 := hr2.below hb1
  have hsz : ((w.alloc (.cells (stateCells m Ao Ap co cp) 26)).alloc (.cells (stateCells n Bo Bp eo ep) 26)).heap.size = w.heap.size + 2 := by simp
  have HSZ := Lib.hid hsz
  have HB1 := Lib.hid hb1; have HR1 := Lib.hid hr1; have HR2 := Lib.hid hr3; have HM1 := Lib.hid hM1; have HM2 := Lib.hid hM2
  clear hb1 hr1 hr hr2 hr3 hM1 hM2 hsz
  go_enter Tryd.func7, Tryd.ntmps7
  go_wp2_with (refine wpList_load_row rfl 26 (.tmp 2) rfl w.heap.size rfl _ _ _ _ HM1.out Tryd.underlying26 rfl (by kernel_rfl) ?_)
  refine (EncodeState_any _ _ m Ao Ap co cp HR1.out (fun k e => by rw [HSZ.out]; omega) (by omega)).mono ?_
  rintro e w2 ⟨v1, rfl, hf1, hb2, _⟩
  have hrN := HR2.out.below hb2
  have hrM := HR1.out.below hb2
  have hM1 := HM1.out.below hb2 (by rw [HSZ.out]; omega)
  have hM2 := HM2.out.below hb2 (by rw [HSZ.out]; omega)
  have hb02 := HB1.out.trans (hb2.mono HB1.out.size)
  have hN2 : w.heap.size + 2 ≤ w2.heap.size := by rw [← HSZ.out]; exact hb2.size
  have HRN := Lib.hid hrN; have HRM := Lib.hid hrM; have HM1' := Lib.hid hM1; have HM2' := Lib.hid hM2; have HB2 := Lib.hid hb02; have HN2 := Lib.hid hN2
  clear hrN hrM hM1 hM2 hb02 hN2 hb2 HR1 HR2 HM1 HM2 HB1 HSZ
  generalize hk1 : (!(WS.state ⟨[], false⟩ m).bad) = k1
  generalize hl1 : (if (WS.state ⟨[], false⟩ m).bad = true then [] else (WS.state ⟨[], false⟩ m).out) = L1 at hf1
  obtain ⟨A1, c1, rfl, hrd1, _⟩ := hf1
  have HRD1 := Lib.hid hrd1; have HK1 := Lib.hid hk1; have HL1 := Lib.hid hl1
  clear hrd1 hk1 hl1
  go_wp2_with (refine wpList_load_row rfl 26 (.tmp 3) rfl (w.heap.size + 1) rfl _ _ _ _ HM2'.out Tryd.underlying26 rfl (by kernel_rfl) ?_)
  refine (EncodeState_any w2 _ n Bo Bp eo ep HRN.out (fun k e => by have := HN2.out; omega) (by omega)).mono ?_
  rintro e w4 ⟨v3, rfl, hf3, hb4, _⟩
  have hrN := HRN.out.below hb4
  have hrM := HRM.out.below hb4
  have hM1 := HM1'.out.below hb4 (by have := HN2.out; omega)
  have hM2 := HM2'.out.below hb4 (by have := HN2.out; omega)
  have hb04 := HB2.out.trans (hb4.mono HB2.out.size)
  have hrd1 := HRD1.out.below hb4
  have hN4 : w.heap.size + 2 ≤ w4.heap.size := Nat.le_trans HN2.out hb4.size
  generalize hk3 : (!(WS.state ⟨[], false⟩ n).bad) = k3
  generalize hl3 : (if (WS.state ⟨[], false⟩ n).bad = true then [] else (WS.state ⟨[], false⟩ n).out) = L3 at hf3
  obtain ⟨A3, c3, rfl, hrd3, _⟩ := hf3
  have hinj : k1 = true → k3 = true → L1 = L3 → m = n := fun e1 e3 e => by
    have h1 : (WS.state ⟨[], false⟩ m).bad = false := by have := HK1.out; rw [e1] at this; simpa using this
    have h3 : (WS.state ⟨[], false⟩ n).bad = false := by rw [e3] at hk3; simpa using hk3
    have g1 := HL1.out
    rw [h1] at g1; rw [h3] at hl3
    exact encS_inj h1 h3 (g1.trans (e.trans hl3.symm))
  have HINJ := Lib.hid hinj
  have HN4 := Lib.hid hN4
  have HC4 := Lib.hid (HCK.out.below hb04 hB0)
  clear HRN HRM HM1' HM2' HB2 HRD1 HN2 hb4 hN4
  have HRN := Lib.hid hrN; have HRM := Lib.hid hrM; have HM1 := Lib.hid hM1; have HM2 := Lib.hid hM2; have HB4 := Lib.hid hb04; have HRD1 := Lib.hid (hrd1.more (Nat.le_refl _)); have HRD3 := Lib.hid hrd3
  clear hrN hrM hM1 hM2 hb04 hrd1 hrd3
  clear hk3 hl3 hinj HK1 HL1
  by_cases hbad : k1 = true ∧ k3 = true ∧ L1 = L3
  · obtain ⟨rfl, rfl, rfl⟩ := hbad
    obtain rfl := HINJ.out rfl rfl rfl
    clear hs2 HINJ
    have hd : decide (L1 = L1) = true := by simp
    have p3 : w4.cell? ⟨w.heap.size, 3, none⟩ = some (.slice Ao m.objs.length co) := (HM1.out.cell 3).trans rfl
    have p7 : w4.cell? ⟨w.heap.size, 7, none⟩ = some (.slice Ap m.pobjs.length cp) := (HM1.out.cell 7).trans rfl
    have q3 : w4.cell? ⟨(w.heap.size + 1), 3, none⟩ = some (.slice Bo m.objs.length eo) := (HM2.out.cell 3).trans rfl
    have q7 : w4.cell? ⟨(w.heap.size + 1), 7, none⟩ = some (.slice Bp m.pobjs.length ep) := (HM2.out.cell 7).trans rfl
    go_wp2_with (first | (refine wpList_str rfl 27 9 5 (.tmp 27) rfl A1 _ c1 L1 rfl Tryd.underlying27 Tryd.underlying5 Tryd.underlying9 _ HRD1.out ?_) | (refine wpList_str rfl 27 9 5 (.tmp 29) rfl A3 _ c3 L1 rfl Tryd.underlying27 Tryd.underlying5 Tryd.underlying9 _ HRD3.out ?_) | (refine wpList_neq rfl 9 9 (.tmp 28) (.tmp 30) rfl L1 L1 rfl rfl ?_; rw [hd]))
    clear p3 p7 q3 q7 hd HRD1 HRD3
    go_loopw [9] (fun q wr => ∃ i : Nat, i ≤ m.objs.length ∧ q = .int .i64 (i : Int) ∧ Keeps (fun _ => False) w4 wr) (fun q _ => m.objs.length - (intOf q).toNat)
    case atStart => exact ⟨0, by omega, rfl, Keeps.refl _ _⟩
    case round =>
      obtain ⟨i, hi, rfl, hk⟩ := hrel
      have HK := Lib.hid hk
      have HM1' := Lib.hid (HM1.out.keeps hk id); have HM2' := Lib.hid (HM2.out.keeps hk id)
      have hol : m.objs.length ≤ 67108864 := by have h1 := costO_ge m.objs; unfold StateV.cost at hs; omega
      by_cases hin : i < m.objs.length
      · have hin' : (i : Int) < (m.objs.length : Int) := by omega
        obtain ⟨ad, rfl, _, _, hc⟩ := (HRM.out.objs.off hk (fun _ _ e => e)) (by omega)
        obtain ⟨bd, rfl, _, _, hc'⟩ := (HRN.out.objs.off hk (fun _ _ e => e)) (by omega)
        obtain ⟨As, At, cs, ct, c0, c1, c2, c3, _, _, rA, rT⟩ := hc i _ (List.getElem?_eq_getElem hin)
        obtain ⟨Bs, Bt, es, et, d0, d1, d2, d3, _, _, sA, sT⟩ := hc' i _ (List.getElem?_eq_getElem hin)
        generalize m.objs[i] = x at c0 c1 c2 c3 d0 d1 d2 d3 rA rT sA sT
        have RA := Lib.hid rA; have RT := Lib.hid rT; have SA := Lib.hid sA; have ST := Lib.hid sT
        clear hc hc' hk rA rT sA sT
        have p3 : wr.cell? ⟨w.heap.size, 3, none⟩ = some (.slice (some ad) m.objs.length co) := (HM1'.out.cell 3).trans rfl
        have q3 : wr.cell? ⟨(w.heap.size + 1), 3, none⟩ = some (.slice (some bd) m.objs.length eo) := (HM2'.out.cell 3).trans rfl
        go_wp2_with fail
        refine wp_region_q (by kernel_rfl) (by kernel_rfl) ?_
        repeat (first | go_big_quiet_skip | (go_big_quiet_want; first | (refine quiet_str 27 9 5 (.tmp 93) rfl As _ cs x.share rfl Tryd.underlying27 Tryd.underlying5 Tryd.underlying9 _ (fun W hW => by subst hW; exact RA.out.drew) ?_; simp only [Act.put, List.setIfInBounds_toArray, List.set_cons_succ, List.set_cons_zero]; go_big_quiet_on) | (refine quiet_str 27 9 5 (.tmp 100) rfl Bs _ es x.share rfl Tryd.underlying27 Tryd.underlying5 Tryd.underlying9 _ (fun W hW => by subst hW; exact SA.out.drew) ?_; simp only [Act.put, List.setIfInBounds_toArray, List.set_cons_succ, List.set_cons_zero]; go_big_quiet_on) | (refine quiet_str 27 9 5 (.tmp 110) rfl At _ ct x.tag rfl Tryd.underlying27 Tryd.underlying5 Tryd.underlying9 _ (fun W hW => by subst hW; exact RT.out.drew) ?_; simp only [Act.put, List.setIfInBounds_toArray, List.set_cons_succ, List.set_cons_zero]; go_big_quiet_on) | (refine quiet_str 27 9 5 (.tmp 117) rfl Bt _ et x.tag rfl Tryd.underlying27 Tryd.underlying5 Tryd.underlying9 _ (fun W hW => by subst hW; exact ST.out.drew) ?_; simp only [Act.put, List.setIfInBounds_toArray, List.set_cons_succ, List.set_cons_zero]; go_big_quiet_on) | (go_big_quiet_op; first | go_big_quiet_on | (refine ⟨_, fun _ _ => rfl, ?_⟩; go_big_quiet_on))))
        refine wpQuiet_nil ?_
        go_wp2
        go_roundw
        case rel => exact ⟨i + 1, by omega, by go_num, HK.out.drew⟩
        case measure => simp [intOf]; omega
      · obtain rfl : i = m.objs.length := by omega
        have hb := HB4.out.trans (hk.below (B := w.heap.size) (fun k e => e.elim) (by have := HN4.out; omega))
        have HB := Lib.hid hb
        clear hb hk
        have p3 : wr.cell? ⟨w.heap.size, 3, none⟩ = some (.slice Ao m.objs.length co) := (HM1'.out.cell 3).trans rfl
        have q3 : wr.cell? ⟨(w.heap.size + 1), 3, none⟩ = some (.slice Bo m.objs.length eo) := (HM2'.out.cell 3).trans rfl
        go_wp2_with fail
        refine (answers16_any wr (HCK.out.below HB.out hB0)).mono ?_
        rintro e w5 ⟨rfl, hb5⟩
        have HB5 := Lib.hid (HB.out.trans (hb5.mono HB.out.size))
        have hM1 := HM1'.out.below hb5 HM1'.out.lt
        have hM2 := HM2'.out.below hb5 HM2'.out.lt
        clear hb5 p3 q3
        have p0 : w5.cell? ⟨w.heap.size, 0, none⟩ = some (.int .i64 m.epoch) := (hM1.cell 0).trans rfl
        have p1 : w5.cell? ⟨w.heap.size, 1, none⟩ = some (.int .i64 m.decided) := (hM1.cell 1).trans rfl
        have p2 : w5.cell? ⟨w.heap.size, 2, none⟩ = some (.int .i64 m.dealt) := (hM1.cell 2).trans rfl
        have p4 : w5.cell? ⟨w.heap.size, 4, none⟩ = some (.int .i64 m.psession) := (hM1.cell 4).trans rfl
        have p5 : w5.cell? ⟨w.heap.size, 5, none⟩ = some (.int .i64 m.pkind) := (hM1.cell 5).trans rfl
        have q0 : w5.cell? ⟨(w.heap.size + 1), 0, none⟩ = some (.int .i64 m.epoch) := (hM2.cell 0).trans rfl
        have q1 : w5.cell? ⟨(w.heap.size + 1), 1, none⟩ = some (.int .i64 m.decided) := (hM2.cell 1).trans rfl
        have q2 : w5.cell? ⟨(w.heap.size + 1), 2, none⟩ = some (.int .i64 m.dealt) := (hM2.cell 2).trans rfl
        have q4 : w5.cell? ⟨(w.heap.size + 1), 4, none⟩ = some (.int .i64 m.psession) := (hM2.cell 4).trans rfl
        have q5 : w5.cell? ⟨(w.heap.size + 1), 5, none⟩ = some (.int .i64 m.pkind) := (hM2.cell 5).trans rfl
        clear hM1 hM2
        go_wp2
        go_ret
        exact ⟨rfl, HB5.out⟩
  · clear HINJ
    cases k1
    · clear hbad
      go_wp2_with fail
      refine (answers16_any w4 HC4.out).mono ?_
      rintro e w5 ⟨rfl, hb5⟩
      have HB5 := Lib.hid (HB4.out.trans (hb5.mono HB4.out.size))
      clear hb5
      go_wp2
      go_ret
      exact ⟨rfl, HB5.out⟩
    · cases k3
      · clear hbad
        go_wp2_with fail
        refine (answers16_any w4 HC4.out).mono ?_
        rintro e w5 ⟨rfl, hb5⟩
        have HB5 := Lib.hid (HB4.out.trans (hb5.mono HB4.out.size))
        clear hb5
        go_wp2
        go_ret
        exact ⟨rfl, HB5.out⟩
      · have hd : decide (L1 = L3) = false := decide_eq_false (fun e => hbad ⟨rfl, rfl, e⟩)
        clear hbad
        go_wp2_with (first | (refine wpList_str rfl 27 9 5 (.tmp 27) rfl A1 _ c1 L1 rfl Tryd.underlying27 Tryd.underlying5 Tryd.underlying9 _ HRD1.out ?_) | (refine wpList_str rfl 27 9 5 (.tmp 29) rfl A3 _ c3 L3 rfl Tryd.underlying27 Tryd.underlying5 Tryd.underlying9 _ HRD3.out ?_) | (refine wpList_neq rfl 9 9 (.tmp 28) (.tmp 30) rfl L1 L3 rfl rfl ?_; rw [hd]))
        refine (answers16_any w4 HC4.out).mono ?_
        rintro e w5 ⟨rfl, hb5⟩
        have HB5 := Lib.hid (HB4.out.trans (hb5.mono HB4.out.size))
        clear hb5
        go_wp2
        go_ret
        exact ⟨rfl, HB5.out⟩
end Go.Proofs.YtinkclcdpcjnfaaDoor
