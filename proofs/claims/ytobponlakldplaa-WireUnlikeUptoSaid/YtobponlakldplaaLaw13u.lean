/- The walk of layer 13's law WireUnlike. Condition: the messages are no great ones. -/
import Derived.Test.YtobponlakldplaaLaw13r
namespace Go.Proofs.Ytobponlakldplaa
open Go.RowKit
set_option maxRecDepth 100000 in
set_option maxHeartbeats 4000000 in
theorem WireUnlike_any (m : MsgV) (Ah Ad Ap Ax : Option Addr) (ch cd cp cx : Nat) (n : MsgV) (Bh Bd Bp Bx : Option Addr) (eh ed ep ex : Nat) (w : World) (hs : m.cost ≤ 67108864) (hs2 : n.cost ≤ 67108864) (hr : MsgRd w w.heap.size m Ah Ad Ap Ax) (hr2 : MsgRd w w.heap.size n Bh Bd Bp Bx) :
    Calls Try.prog 10 #[.agg (msgCells m Ah Ad Ap Ax ch cd cp cx), .agg (msgCells n Bh Bd Bp Bx eh ed ep ex)] w fun e w' => e = .returned (.bool true) ∧ Below w.heap.size w w' := by
  have hln : m.heads.length ≤ 9223372036854775807 := by have := costH_ge m.heads; unfold MsgV.cost at hs; omega
  have hln2 : n.heads.length ≤ 9223372036854775807 := by have := costH_ge n.heads; unfold MsgV.cost at hs2; omega
  have hb1 : Below w.heap.size w ((w.alloc (.cells (msgCells m Ah Ad Ap Ax ch cd cp cx) 51)).alloc (.cells (msgCells n Bh Bd Bp Bx eh ed ep ex) 51)) := ((Below.refl _ _).alloc (Nat.le_refl _) _).alloc (by simp) _
  have hM1 := (Blk.new w 51 (msgCells m Ah Ad Ap Ax ch cd cp cx)).alloc (.cells (msgCells n Bh Bd Bp Bx eh ed ep ex) 51)
  have hM2 : Blk ((w.alloc (.cells (msgCells m Ah Ad Ap Ax ch cd cp cx) 51)).alloc (.cells (msgCells n Bh Bd Bp Bx eh ed ep ex) 51)) (w.heap.size + 1) 51 (msgCells n Bh Bd Bp Bx eh ed ep ex) := Blk.new' (by simp)
  have hr1 := (hr.below hb1 (Nat.le_refl _)).more hb1.size
  have hr3 := (hr2.below hb1 (Nat.le_refl _)).more hb1.size
  have hsz : ((w.alloc (.cells (msgCells m Ah Ad Ap Ax ch cd cp cx) 51)).alloc (.cells (msgCells n Bh Bd Bp Bx eh ed ep ex) 51)).heap.size = w.heap.size + 2 := by simp
  have HSZ := Lib.hid hsz
  have HB1 := Lib.hid hb1; have HR1 := Lib.hid hr1; have HR2 := Lib.hid hr3; have HM1 := Lib.hid hM1; have HM2 := Lib.hid hM2
  clear hb1 hr1 hr hr2 hr3 hM1 hM2 hsz
  go_enter Try.func10, Try.ntmps10
  go_wp2_with fail
  refine (Encode_any _ m Ah Ad Ap Ax ch cd cp cx HR1.out (by omega) hln).mono ?_
  rintro e w2 ⟨v1, rfl, hf1, hb2, _⟩
  have hle2 := HSZ.out ▸ hb2.size
  have hrN := ((HR2.out.below hb2 (Nat.le_refl _)).more hb2.size)
  have hrM := ((HR1.out.below hb2 (Nat.le_refl _)).more hb2.size)
  have hM1 := HM1.out.below hb2 (by rw [HSZ.out]; omega)
  have hM2 := HM2.out.below hb2 (by rw [HSZ.out]; omega)
  have hb02 := HB1.out.trans (hb2.mono HB1.out.size)
  have hN2 : w.heap.size + 2 ≤ w2.heap.size := by rw [← HSZ.out]; exact hb2.size
  have HRN := Lib.hid hrN; have HRM := Lib.hid hrM; have HM1' := Lib.hid hM1; have HM2' := Lib.hid hM2; have HB2 := Lib.hid hb02; have HN2 := Lib.hid hN2
  clear hle2 hrN hrM hM1 hM2 hb02 hN2 hb2 HR1 HR2 HM1 HM2 HB1 HSZ
  generalize hk1 : (!(WS.msg ⟨[], false⟩ m).bad) = k1
  generalize hl1 : (if (WS.msg ⟨[], false⟩ m).bad = true then [] else (WS.msg ⟨[], false⟩ m).out) = L1 at hf1
  obtain ⟨A1, c1, rfl, hrd1, _⟩ := hf1
  have HRD1 := Lib.hid hrd1; have HK1 := Lib.hid hk1; have HL1 := Lib.hid hl1
  clear hrd1 hk1 hl1
  go_wp2_with (refine wpList_load_row rfl 51 (.tmp 3) rfl (w.heap.size + 1) rfl _ _ _ _ HM2'.out Try.underlying51 rfl (by kernel_rfl) ?_)
  refine (Encode_any w2 n Bh Bd Bp Bx eh ed ep ex HRN.out (by omega) hln2).mono ?_
  rintro e w4 ⟨v3, rfl, hf3, hb4, _⟩
  have hrN := ((HRN.out.below hb4 (Nat.le_refl _)).more hb4.size)
  have hrM := ((HRM.out.below hb4 (Nat.le_refl _)).more hb4.size)
  have hM1 := HM1'.out.below hb4 (by have := HN2.out; omega)
  have hM2 := HM2'.out.below hb4 (by have := HN2.out; omega)
  have hb04 := HB2.out.trans (hb4.mono HB2.out.size)
  have hrd1 := HRD1.out.below hb4
  have hN4 : w.heap.size + 2 ≤ w4.heap.size := Nat.le_trans HN2.out hb4.size
  generalize hk3 : (!(WS.msg ⟨[], false⟩ n).bad) = k3
  generalize hl3 : (if (WS.msg ⟨[], false⟩ n).bad = true then [] else (WS.msg ⟨[], false⟩ n).out) = L3 at hf3
  obtain ⟨A3, c3, rfl, hrd3, _⟩ := hf3
  have hinj : k1 = true → k3 = true → L1 = L3 → m = n := fun e1 e3 e => by
    have h1 : (WS.msg ⟨[], false⟩ m).bad = false := by have := HK1.out; rw [e1] at this; simpa using this
    have h3 : (WS.msg ⟨[], false⟩ n).bad = false := by rw [e3] at hk3; simpa using hk3
    have g1 := HL1.out
    rw [h1] at g1; rw [h3] at hl3
    exact enc_inj h1 h3 (g1.trans (e.trans hl3.symm))
  have HINJ := Lib.hid hinj
  have HN4 := Lib.hid hN4
  clear HRN HRM HM1' HM2' HB2 HRD1 HN2 hb4 hN4
  have HRN := Lib.hid hrN; have HRM := Lib.hid hrM; have HM1 := Lib.hid hM1; have HM2 := Lib.hid hM2; have HB4 := Lib.hid hb04; have HRD1 := Lib.hid (hrd1.more (Nat.le_refl _)); have HRD3 := Lib.hid hrd3
  clear hrN hrM hM1 hM2 hb04 hrd1 hrd3
  clear hk3 hl3 hinj HK1 HL1
  by_cases hbad : k1 = true ∧ k3 = true ∧ L1 = L3
  · obtain ⟨rfl, rfl, rfl⟩ := hbad
    obtain rfl := HINJ.out rfl rfl rfl
    clear hs2 hln2 HINJ
    have hd : decide (L1 = L1) = true := by simp
    have hdx : decide (m.data = m.data) = true := by simp
    have hdi : decide (m.id = m.id) = true := by simp

    have p7 : w4.cell? ⟨w.heap.size, 7, none⟩ = some (.slice Ah m.heads.length ch) := (HM1.out.cell 7).trans rfl
    have p12 : w4.cell? ⟨w.heap.size, 12, none⟩ = some (.slice Ad m.dealers.length cd) := (HM1.out.cell 12).trans rfl
    have p13 : w4.cell? ⟨w.heap.size, 13, none⟩ = some (.slice Ap m.parts.length cp) := (HM1.out.cell 13).trans rfl
    have p15 : w4.cell? ⟨w.heap.size, 15, none⟩ = some (.slice Ax m.data.length cx) := (HM1.out.cell 15).trans rfl
    have p8 : w4.cell? ⟨w.heap.size, 8, none⟩ = some (.string ⟨m.id.toArray⟩) := (HM1.out.cell 8).trans rfl
    have q7 : w4.cell? ⟨(w.heap.size + 1), 7, none⟩ = some (.slice Bh m.heads.length eh) := (HM2.out.cell 7).trans rfl
    have q12 : w4.cell? ⟨(w.heap.size + 1), 12, none⟩ = some (.slice Bd m.dealers.length ed) := (HM2.out.cell 12).trans rfl
    have q13 : w4.cell? ⟨(w.heap.size + 1), 13, none⟩ = some (.slice Bp m.parts.length ep) := (HM2.out.cell 13).trans rfl
    have q15 : w4.cell? ⟨(w.heap.size + 1), 15, none⟩ = some (.slice Bx m.data.length ex) := (HM2.out.cell 15).trans rfl
    have q8 : w4.cell? ⟨(w.heap.size + 1), 8, none⟩ = some (.string ⟨m.id.toArray⟩) := (HM2.out.cell 8).trans rfl
    go_wp2_with (first | (refine wpList_str rfl 26 9 5 (.tmp 27) rfl A1 _ c1 L1 rfl Try.underlying26 Try.underlying5 Try.underlying9 _ HRD1.out ?_) | (refine wpList_str rfl 26 9 5 (.tmp 29) rfl A3 _ c3 L1 rfl Try.underlying26 Try.underlying5 Try.underlying9 _ HRD3.out ?_) | (refine wpList_neq rfl 9 9 (.tmp 28) (.tmp 30) rfl L1 L1 rfl rfl ?_; rw [hd]) | (refine wpList_str rfl 26 9 5 (.tmp 61) rfl Ax _ cx m.data rfl Try.underlying26 Try.underlying5 Try.underlying9 _ HRM.out.data ?_) | (refine wpList_str rfl 26 9 5 (.tmp 64) rfl Bx _ ex m.data rfl Try.underlying26 Try.underlying5 Try.underlying9 _ HRN.out.data ?_) | (refine wpList_neq rfl 9 9 (.tmp 62) (.tmp 65) rfl m.data m.data rfl rfl ?_; rw [hdx]) | (refine wpList_neq rfl 9 9 (.tmp 70) (.tmp 72) rfl m.id m.id rfl rfl ?_; rw [hdi]))
    clear p7 p12 p13 p15 p8 q7 q12 q13 q15 q8 hd hdx hdi HRD1 HRD3
    go_loopw [9] (fun q wr => ∃ i : Nat, i ≤ m.heads.length ∧ q = .int .i64 (i : Int) ∧ Keeps (fun _ => False) w4 wr) (fun q _ => m.heads.length - (intOf q).toNat)
    case atStart => exact ⟨0, by omega, rfl, Keeps.refl _ _⟩
    case round =>
      obtain ⟨i, hi, rfl, hk⟩ := hrel
      have HK := Lib.hid hk
      have HM1' := Lib.hid (HM1.out.keeps hk id); have HM2' := Lib.hid (HM2.out.keeps hk id)
      by_cases hin : i < m.heads.length
      · have hin' : (i : Int) < (m.heads.length : Int) := by omega
        obtain ⟨ad, rfl, _, hc⟩ := (HRM.out.heads.off hk (Nat.le_refl _) (fun _ _ _ e => e)) (by omega)
        obtain ⟨bd, rfl, _, hc'⟩ := (HRN.out.heads.off hk (Nat.le_refl _) (fun _ _ _ e => e)) (by omega)
        obtain ⟨c0, c1⟩ := hc i _ (List.getElem?_eq_getElem hin)
        obtain ⟨d0, d1⟩ := hc' i _ (List.getElem?_eq_getElem hin)
        generalize m.heads[i] = x at c0 c1 d0 d1
        clear hc hc' hk
        have p7 : wr.cell? ⟨w.heap.size, 7, none⟩ = some (.slice (some ad) m.heads.length ch) := (HM1'.out.cell 7).trans rfl
        have q7 : wr.cell? ⟨(w.heap.size + 1), 7, none⟩ = some (.slice (some bd) m.heads.length eh) := (HM2'.out.cell 7).trans rfl
        go_wp2_with fail
        refine wp_region_q (by kernel_rfl) (by kernel_rfl) ?_
        repeat (first | go_big_quiet_skip | (go_big_quiet_want; go_big_quiet_op; first | go_big_quiet_on))
        refine wpQuiet_nil ?_
        go_wp2
        go_roundw
        case rel => exact ⟨i + 1, by omega, by go_num, HK.out.drew⟩
        case measure => simp [intOf]; omega
      · obtain rfl : i = m.heads.length := by omega
        have hb := HB4.out.trans (hk.below (B := w.heap.size) (fun k e => e.elim) (by have := HN4.out; omega))
        have HB := Lib.hid hb
        clear hb hk
        have p7 : wr.cell? ⟨w.heap.size, 7, none⟩ = some (.slice Ah m.heads.length ch) := (HM1'.out.cell 7).trans rfl
        have q7 : wr.cell? ⟨(w.heap.size + 1), 7, none⟩ = some (.slice Bh m.heads.length eh) := (HM2'.out.cell 7).trans rfl
        go_wp2_with fail
        refine (answers13_any wr).mono ?_
        rintro e w5 ⟨rfl, hb5⟩
        have HB5 := Lib.hid (HB.out.trans (hb5.mono HB.out.size))
        have hM1 := HM1'.out.below hb5 HM1'.out.lt
        have hM2 := HM2'.out.below hb5 HM2'.out.lt
        clear hb5 p7 q7
        have p0 : w5.cell? ⟨w.heap.size, 0, none⟩ = some (.int .i64 m.kind) := (hM1.cell 0).trans rfl
        have p1 : w5.cell? ⟨w.heap.size, 1, none⟩ = some (.int .i64 m.from_) := (hM1.cell 1).trans rfl
        have p2 : w5.cell? ⟨w.heap.size, 2, none⟩ = some (.int .i64 m.to_) := (hM1.cell 2).trans rfl
        have p3 : w5.cell? ⟨w.heap.size, 3, none⟩ = some (.int .i64 m.session) := (hM1.cell 3).trans rfl
        have p4 : w5.cell? ⟨w.heap.size, 4, none⟩ = some (.int .i64 m.decided) := (hM1.cell 4).trans rfl
        have p5 : w5.cell? ⟨w.heap.size, 5, none⟩ = some (.int .i64 m.commit) := (hM1.cell 5).trans rfl
        have p6 : w5.cell? ⟨w.heap.size, 6, none⟩ = some (.int .i64 m.epoch) := (hM1.cell 6).trans rfl
        have p9 : w5.cell? ⟨w.heap.size, 9, none⟩ = some (.int .i64 m.size) := (hM1.cell 9).trans rfl
        have p10 : w5.cell? ⟨w.heap.size, 10, none⟩ = some (.int .i64 m.sort) := (hM1.cell 10).trans rfl
        have p11 : w5.cell? ⟨w.heap.size, 11, none⟩ = some (.int .i64 m.target) := (hM1.cell 11).trans rfl
        have p14 : w5.cell? ⟨w.heap.size, 14, none⟩ = some (.int .i64 m.code) := (hM1.cell 14).trans rfl
        have q0 : w5.cell? ⟨(w.heap.size + 1), 0, none⟩ = some (.int .i64 m.kind) := (hM2.cell 0).trans rfl
        have q1 : w5.cell? ⟨(w.heap.size + 1), 1, none⟩ = some (.int .i64 m.from_) := (hM2.cell 1).trans rfl
        have q2 : w5.cell? ⟨(w.heap.size + 1), 2, none⟩ = some (.int .i64 m.to_) := (hM2.cell 2).trans rfl
        have q3 : w5.cell? ⟨(w.heap.size + 1), 3, none⟩ = some (.int .i64 m.session) := (hM2.cell 3).trans rfl
        have q4 : w5.cell? ⟨(w.heap.size + 1), 4, none⟩ = some (.int .i64 m.decided) := (hM2.cell 4).trans rfl
        have q5 : w5.cell? ⟨(w.heap.size + 1), 5, none⟩ = some (.int .i64 m.commit) := (hM2.cell 5).trans rfl
        have q6 : w5.cell? ⟨(w.heap.size + 1), 6, none⟩ = some (.int .i64 m.epoch) := (hM2.cell 6).trans rfl
        have q9 : w5.cell? ⟨(w.heap.size + 1), 9, none⟩ = some (.int .i64 m.size) := (hM2.cell 9).trans rfl
        have q10 : w5.cell? ⟨(w.heap.size + 1), 10, none⟩ = some (.int .i64 m.sort) := (hM2.cell 10).trans rfl
        have q11 : w5.cell? ⟨(w.heap.size + 1), 11, none⟩ = some (.int .i64 m.target) := (hM2.cell 11).trans rfl
        have q14 : w5.cell? ⟨(w.heap.size + 1), 14, none⟩ = some (.int .i64 m.code) := (hM2.cell 14).trans rfl
        clear hM1 hM2
        go_wp2
        go_ret
        exact ⟨rfl, HB5.out⟩
  · clear HINJ
    cases k1
    · clear hbad
      go_wp2_with fail
      refine (answers13_any w4).mono ?_
      rintro e w5 ⟨rfl, hb5⟩
      have HB5 := Lib.hid (HB4.out.trans (hb5.mono HB4.out.size))
      clear hb5
      go_wp2
      go_ret
      exact ⟨rfl, HB5.out⟩
    · cases k3
      · clear hbad
        go_wp2_with fail
        refine (answers13_any w4).mono ?_
        rintro e w5 ⟨rfl, hb5⟩
        have HB5 := Lib.hid (HB4.out.trans (hb5.mono HB4.out.size))
        clear hb5
        go_wp2
        go_ret
        exact ⟨rfl, HB5.out⟩
      · have hd : decide (L1 = L3) = false := decide_eq_false (fun e => hbad ⟨rfl, rfl, e⟩)
        clear hbad
        go_wp2_with (first | (refine wpList_str rfl 26 9 5 (.tmp 27) rfl A1 _ c1 L1 rfl Try.underlying26 Try.underlying5 Try.underlying9 _ HRD1.out ?_) | (refine wpList_str rfl 26 9 5 (.tmp 29) rfl A3 _ c3 L3 rfl Try.underlying26 Try.underlying5 Try.underlying9 _ HRD3.out ?_) | (refine wpList_neq rfl 9 9 (.tmp 28) (.tmp 30) rfl L1 L3 rfl rfl ?_; rw [hd]))
        refine (answers13_any w4).mono ?_
        rintro e w5 ⟨rfl, hb5⟩
        have HB5 := Lib.hid (HB4.out.trans (hb5.mono HB4.out.size))
        clear hb5
        go_wp2
        go_ret
        exact ⟨rfl, HB5.out⟩
end Go.Proofs.Ytobponlakldplaa
