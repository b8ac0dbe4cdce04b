/- The walk of layer 16's law RecTags. No conditions but the table. -/
import Derived.Test.YtinkclcdpcjnfaaDoorLaw16
import Derived.Test.YtinkclcdpcjnfaaDoorRecT2
import Derived.DataShut
namespace Go.Proofs.YtinkclcdpcjnfaaDoor
open Go.RowKit
theorem u16_of {z : Int} (h : (Lit.int .u16 z).wf = true) : 0 ≤ z ∧ z ≤ 65535 := by
  rw [Lit.wf_int_iff] at h
  have h0 : 0 ≤ z := h.1
  have h1 : z ≤ 65535 := h.2
  exact ⟨h0, h1⟩
theorem tagV_ok {hd ep : Int} {o : ObjV} (h1 : 0 ≤ hd ∧ hd ≤ 65535) (h2 : 0 ≤ ep ∧ ep ≤ 65535) (h3 : o.id.length ≤ 1000) (h4 : o.share.length ≤ 1000) (h5 : 0 ≤ o.size) (h6 : o.size ≤ 1048576) :
    (mac ((⟨[], false⟩ : WS).int hd).out (((⟨[], false⟩ : WS).int ep).obj o).out).take 8 = tagV hd ep o := by
  have k1 : ((⟨[], false⟩ : WS).int hd).bad = false := (w_int_of rfl (by unfold okI; omega)).1
  have k2 : (((⟨[], false⟩ : WS).int ep).obj o).bad = false := by
    unfold WS.obj
    exact (w_bytes_of (w_int_of (w_bytes_of (w_int_of rfl (by unfold okI; omega)).1 (by unfold okB; omega)).1 (by unfold okI; omega)).1 (by unfold okB; omega)).1
  unfold tagV outS
  rw [k1, k2]
  rfl
set_option maxRecDepth 100000 in
set_option maxHeartbeats 8000000 in
theorem RecTags_any (hd ep : Int) (o : ObjV) (As At : Option Addr) (cs ct : Nat) (A3 : Option Addr) (n3 c3 : Nat) (w : World) (l3 : List UInt8) (hk : Consts w) (wh : (Lit.int .u16 hd).wf = true) (we : (Lit.int .u16 ep).wf = true) (hn3 : n3 ≤ 140737488351232) (hr : ObjRd w (fun k => k < w.heap.size) As At o) (hr3 : Rd w w.heap.size A3 n3 l3) :
    Calls Tryd.prog 6 #[.int .u16 hd, .int .u16 ep, .agg (objCells o As At cs ct), .slice A3 n3 c3] w fun e w' => e = .returned (.bool true) ∧ Below w.heap.size w w' := by
  have hB0 : 0 < w.heap.size := by have := World.block_lt_of_cell? w _ (hk 0 (by omega)); omega
  obtain ⟨hh0, hh1⟩ := u16_of wh
  obtain ⟨he0, he1⟩ := u16_of we
  have hl3 := hr3.len
  subst hl3
  have hb1 : Below w.heap.size w (w.alloc (.cells (objCells o As At cs ct) 47)) := (Below.refl _ _).alloc (Nat.le_refl _) _
  have hM := Blk.new w 47 (objCells o As At cs ct)
  have hra := hr.2.2.1.below hb1
  have hk1 := hk.below hb1 hB0
  have HB1 := Lib.hid hb1; have HM := Lib.hid hM; have HRA := Lib.hid hra; have HK1 := Lib.hid hk1; have HK := Lib.hid hk
  clear hb1 hM hra hk1 hr hr3 hk wh we hn3
  go_enter Tryd.func6, Tryd.ntmps6
  go_upto_region 1 with (fail)
  obtain ⟨M, hMe⟩ : ∃ M, M = w.heap.size := ⟨_, rfl⟩
  rw [← hMe] at HM ⊢
  obtain ⟨w1, hw1⟩ : ∃ w1, w1 = w.alloc (.cells (objCells o As At cs ct) 47) := ⟨_, rfl⟩
  rw [← hw1] at HB1 HM HRA HK1 ⊢
  have HME := Lib.hid hMe
  clear hw1 hMe
  have c0 : w1.cell? ⟨M, 0, none⟩ = some (.string ⟨o.id.toArray⟩) := (HM.out.cell 0).trans rfl
  have c1 : w1.cell? ⟨M, 1, none⟩ = some (.int .i64 o.size) := (HM.out.cell 1).trans rfl
  have c2 : w1.cell? ⟨M, 2, none⟩ = some (.slice As o.share.length cs) := (HM.out.cell 2).trans rfl
  obtain ⟨idl, hidl⟩ : ∃ m, m = o.id.length := ⟨_, rfl⟩
  obtain ⟨shl, hshl⟩ : ∃ m, m = o.share.length := ⟨_, rfl⟩
  obtain ⟨sz, hsz⟩ : ∃ m, m = o.size := ⟨_, rfl⟩
  go_cut [30] (fun s30 wx => s30 = .bool (decide (1000 < o.id.length ∨ 1000 < o.share.length ∨ o.size < 0 ∨ 1048576 < o.size)) ∧ wx = w1)
  case first =>
    by_cases h1 : 1000 < o.id.length
    · have hp : (1000 < o.id.length ∨ 1000 < o.share.length ∨ o.size < 0 ∨ 1048576 < o.size) := Or.inl h1
      have HP := Lib.hid hp; clear hp
      go_wp2_with fail
      go_meet
      exact ⟨by rw [decide_eq_true HP.out], rfl⟩
    by_cases h2 : 1000 < o.share.length
    · have hp : (1000 < o.id.length ∨ 1000 < o.share.length ∨ o.size < 0 ∨ 1048576 < o.size) := Or.inr (Or.inl h2)
      have HP := Lib.hid hp; clear hp
      go_wp2_with fail
      go_meet
      exact ⟨by rw [decide_eq_true HP.out], rfl⟩
    by_cases h3 : o.size < 0
    · have hp : (1000 < o.id.length ∨ 1000 < o.share.length ∨ o.size < 0 ∨ 1048576 < o.size) := Or.inr (Or.inr (Or.inl h3))
      have HP := Lib.hid hp; clear hp
      go_wp2_with fail
      go_meet
      exact ⟨by rw [decide_eq_true HP.out], rfl⟩
    by_cases h4 : 1048576 < o.size
    · have hp : (1000 < o.id.length ∨ 1000 < o.share.length ∨ o.size < 0 ∨ 1048576 < o.size) := Or.inr (Or.inr (Or.inr h4))
      have HP := Lib.hid hp; clear hp
      go_wp2_with fail
      go_meet
      exact ⟨by rw [decide_eq_true HP.out], rfl⟩
    have hp : ¬ (1000 < o.id.length ∨ 1000 < o.share.length ∨ o.size < 0 ∨ 1048576 < o.size) := by omega
    have HP := Lib.hid hp; clear hp
    go_wp2_with fail
    go_meet
    exact ⟨by rw [decide_eq_false HP.out]; first | rfl | (simp; omega), rfl⟩
  case rest =>
    obtain ⟨rfl, rfl⟩ := hcut
    clear c0 c1 c2 hidl hshl hsz
    by_cases hg : (1000 < o.id.length ∨ 1000 < o.share.length ∨ o.size < 0 ∨ 1048576 < o.size)
    · rw [decide_eq_true hg]
      clear hg
      go_wp2_with fail
      refine (answers16_any wc HK1.out).mono ?_
      rintro e w5 ⟨rfl, hb5⟩
      have HB5 := Lib.hid (HB1.out.trans (hb5.mono HB1.out.size))
      clear hb5
      go_wp2
      go_ret
      exact ⟨rfl, HB5.out⟩
    · rw [decide_eq_false hg]
      obtain ⟨w1, hw1⟩ : ∃ w1, w1 = wc := ⟨_, rfl⟩
      subst hw1
      have hT := tagV_ok (hd := hd) (ep := ep) (o := o) ⟨hh0, hh1⟩ ⟨he0, he1⟩ (by omega) (by omega) (by omega) (by omega)
      have HT := Lib.hid hT
      have hsl : o.share.length ≤ 1000 := by omega
      have hil : o.id.length ≤ 1000 := by omega
      clear hg hT
      go_wp2_with (refine wpList_load_row rfl 47 (.tmp 6) rfl M rfl _ _ _ _ HM.out Tryd.underlying47 rfl (by kernel_rfl) ?_)
      refine (Tag_any w1 HK1.out hd ep o As At cs ct (HRA.out.more HB1.out.size)).mono ?_
      rintro e w2 ⟨A9, c9, rfl, hrT, _, hb2⟩
      have HM2 := Lib.hid (HM.out.below hb2 HM.out.lt); have HB2 := Lib.hid hb2; have HRT := Lib.hid hrT
      clear hb2 hrT
      go_upto_region 5 with (refine wpList_load_row rfl 47 (.tmp 6) rfl M rfl _ _ _ _ HM2.out Tryd.underlying47 rfl (by kernel_rfl) ?_)
      have hN := Blk.new w2 47 (objCells o As At cs ct)
      have hM3 := HM2.out.alloc (.cells (objCells o As At cs ct) 47)
      have hk3 : Keeps (fun _ => False) w2 (w2.alloc (.cells (objCells o As At cs ct) 47)) := (Keeps.refl _ _).alloc _
      have hMl := HM2.out.lt
      generalize hNe : w2.heap.size = N at hN hMl ⊢
      obtain ⟨w3, hw3⟩ : ∃ w3, w3 = w2.alloc (.cells (objCells o As At cs ct) 47) := ⟨_, rfl⟩
      rw [← hw3] at hN hM3 hk3 ⊢
      clear hw3
      have q3 : w3.cell? ⟨N, 3, none⟩ = some (.slice At o.tag.length ct) := (hN.cell 3).trans rfl
      have f3 : w3.frozen? ⟨N, 3, none⟩ = false := hN.frozen 3
      have HN := Lib.hid hN; have HM3 := Lib.hid hM3; have HK3 := Lib.hid hk3
      clear hN hM3 hk3
      go_upto_region 6 with (fail)
      have hQN : Blk (w3.setCell ⟨N, 3, none⟩ (.slice A3 l3.length c3)) N 47 (objCells { o with tag := l3 } As A3 cs c3) := HN.out.set_ 3 _
      have hQM : Blk (w3.setCell ⟨N, 3, none⟩ (.slice A3 l3.length c3)) M 47 (objCells o As At cs ct) := HM3.out.far (by dsimp only; omega) _
      have hkv : Keeps (fun _ => False) w2 (w3.setCell ⟨N, 3, none⟩ (.slice A3 l3.length c3)) := HK3.out.setNew (p := ⟨N, 3, none⟩) (by dsimp only; omega) _
      obtain ⟨v, hv⟩ : ∃ v, v = w3.setCell ⟨N, 3, none⟩ (.slice A3 l3.length c3) := ⟨_, rfl⟩
      rw [← hv] at hQN hQM hkv ⊢
      have hbv : Below w2.heap.size w2 v := hkv.below (fun _ e => e.elim) (Nat.le_refl _)
      have hb1v := HB2.out.trans (hbv.mono HB2.out.size)
      have hb0v := HB1.out.trans (hb1v.mono HB1.out.size)
      have HQN := Lib.hid hQN; have HQM := Lib.hid hQM
      have HRAV := Lib.hid ((HRA.out.below (hb1v.mono HB1.out.size)).more hb0v.size); have HRTV := Lib.hid ((HRT.out.below hbv).more hbv.size)
      have HKV := Lib.hid (HK.out.below hb0v hB0); have HB0V := Lib.hid hb0v
      have hB0v : 0 < v.heap.size := Nat.lt_of_lt_of_le hB0 hb0v.size
      clear hv q3 f3 hQN hQM hkv hbv hb1v hb0v HN HM3 HK3
      have HTO := Lib.hid (show tagV hd ep { o with tag := l3 } = tagV hd ep o from rfl)
      generalize tagV hd ep o = T at *
      have hC0 : Below v.heap.size v v.drew := (Below.refl _ _).drew
      refine wp_region_anyN (Below v.heap.size v) (by kernel_rfl) ?_
      refine anyC_only (i := 0) rfl (by kernel_rfl) hC0 ?_
      go_wp2_with fail
      refine (answers16_any v.drew HKV.out).mono ?_
      rintro e w5 ⟨rfl, hb5⟩
      replace hb5 : Below v.heap.size v w5 := hC0.trans hb5
      go_wp2_with fail
      refine anyC_takes (by kernel_rfl) (fun _ _ _ _ _ h => h) [1, 2, 3, 4, 5, 6, 7, 8] 17 _ _ (by kernel_rfl) ?_
      simp only [List.filterMap_cons, List.filterMap_nil, List.getElem?_toArray, List.getElem?_cons_succ, List.getElem?_cons_zero]
      show wpQuiet _ _ _ _ (_ :: _ :: _ :: _ :: _ :: _ :: _ :: _ :: List.nil) _
      repeat (first | go_big_quiet_skip | (go_big_quiet_want; first | (refine quiet_str 27 9 5 (.tmp 43) rfl A9 _ c9 T rfl Tryd.underlying27 Tryd.underlying5 Tryd.underlying9 _ (fun W hW => HRTV.out.below hW) ?_; simp only [Act.put, List.setIfInBounds_toArray, List.set_cons_succ, List.set_cons_zero]; go_big_quiet_on) | (refine quiet_load_row 47 (.tmp 6) rfl M rfl 47 _ _ (fun W hW => HQM.out.below hW HQM.out.lt) Tryd.underlying47 rfl (by kernel_rfl) ?_; simp only [Act.put, List.setIfInBounds_toArray, List.set_cons_succ, List.set_cons_zero]; go_big_quiet_on) | (go_big_quiet_op; first | go_big_quiet_on | (refine ⟨_, fun _ _ => rfl, ?_⟩; go_big_quiet_on))))
      refine wpQuiet_nil ?_
      refine anyC_only (i := 9) rfl (by kernel_rfl) hb5 ?_
      go_wp2_with fail
      refine (RefTag_any w5 hd ep o As At cs ct ((HRAV.out.below hb5).more hb5.size) (by omega) (by omega)).mono ?_
      rintro e w6 ⟨A6, c6, rfl, hr6, hb6⟩
      rw [HT.out] at hr6
      have hb6' : Below v.heap.size v w6 := hb5.trans (hb6.mono hb5.size)
      have HR6 := Lib.hid hr6
      go_wp2_with fail
      have hC6 : ∀ W, Below w6.heap.size w6 W → Below v.heap.size v W := fun W hW => hb6'.trans (hW.mono hb6'.size)
      refine anyC_narrow (C' := Below w6.heap.size w6) hC6 _ _ _ _ ?_
      refine anyC_takes (by kernel_rfl) (fun _ _ _ _ _ h => h) [10, 11, 12, 13, 14, 15, 16, 17, 18, 21, 22] 5 _ _ (by kernel_rfl) ?_
      simp only [List.filterMap_cons, List.filterMap_nil, List.getElem?_toArray, List.getElem?_cons_succ, List.getElem?_cons_zero]
      show wpQuiet _ _ _ _ (_ :: _ :: _ :: _ :: _ :: _ :: _ :: _ :: _ :: _ :: _ :: List.nil) _
      repeat (first | go_big_quiet_skip | (go_big_quiet_want; first | (refine quiet_eql_str _ _ _ _ rfl _ rfl rfl ?_; simp only [Act.put, List.setIfInBounds_toArray, List.set_cons_succ, List.set_cons_zero]; go_big_quiet_on) | (refine quiet_pick _ _ _ rfl rfl (.bool true) rfl ?_; simp only [Act.put, List.setIfInBounds_toArray, List.set_cons_succ, List.set_cons_zero]; go_big_quiet_on) | (refine quiet_str 27 9 5 (.tmp 50) rfl A6 _ c6 T rfl Tryd.underlying27 Tryd.underlying5 Tryd.underlying9 _ (fun W hW => HR6.out.below hW) ?_; simp only [Act.put, List.setIfInBounds_toArray, List.set_cons_succ, List.set_cons_zero]; go_big_quiet_on) | (refine quiet_load_row 47 (.tmp 10) rfl N rfl 47 _ _ (fun W hW => HQN.out.below (hC6 W hW) HQN.out.lt) Tryd.underlying47 rfl (by kernel_rfl) ?_; simp only [Act.put, List.setIfInBounds_toArray, List.set_cons_succ, List.set_cons_zero]; go_big_quiet_on) | (refine quiet_str 27 9 5 (.tmp 62) rfl A9 _ c9 T rfl Tryd.underlying27 Tryd.underlying5 Tryd.underlying9 _ (fun W hW => HRTV.out.below (hC6 W hW)) ?_; simp only [Act.put, List.setIfInBounds_toArray, List.set_cons_succ, List.set_cons_zero]; go_big_quiet_on) | (go_big_quiet_op; first | go_big_quiet_on | (refine ⟨_, fun _ _ => rfl, ?_⟩; go_big_quiet_on))))
      refine wpQuiet_nil ?_
      refine anyC_only (i := 19) rfl (by kernel_rfl) (Below.refl _ _) ?_
      go_wp2_with fail
      refine (Tag_any w6 (HKV.out.below hb6' hB0v) hd ep { o with tag := l3 } As A3 cs c3 ((HRAV.out.below hb6').more hb6'.size)).mono ?_
      rintro e w7 ⟨A7, c7, rfl, hr7, _, hb7⟩
      rw [HTO.out] at hr7
      have HR7 := Lib.hid hr7
      go_wp2_with fail
      have hC7 : ∀ W, Below w7.heap.size w7 W → Below w6.heap.size w6 W := fun W hW => hb7.trans (hW.mono hb7.size)
      refine anyC_narrow (C' := Below w7.heap.size w7) hC7 _ _ _ _ ?_
      refine anyC_takes (by kernel_rfl) (fun _ _ _ _ _ h => h) [20, 23, 24, 25] 0 _ _ (by kernel_rfl) ?_
      simp only [List.filterMap_cons, List.filterMap_nil, List.getElem?_toArray, List.getElem?_cons_succ, List.getElem?_cons_zero]
      show wpQuiet _ _ _ _ (_ :: _ :: _ :: _ :: List.nil) _
      repeat (first | go_big_quiet_skip | (go_big_quiet_want; first | (refine quiet_eql_str _ _ _ _ rfl _ rfl rfl ?_; simp only [Act.put, List.setIfInBounds_toArray, List.set_cons_succ, List.set_cons_zero]; go_big_quiet_on) | (refine quiet_pick _ _ _ rfl rfl (.bool true) rfl ?_; simp only [Act.put, List.setIfInBounds_toArray, List.set_cons_succ, List.set_cons_zero]; go_big_quiet_on) | (refine quiet_str 27 9 5 (.tmp 60) rfl A7 _ c7 T rfl Tryd.underlying27 Tryd.underlying5 Tryd.underlying9 _ (fun W hW => HR7.out.below hW) ?_; simp only [Act.put, List.setIfInBounds_toArray, List.set_cons_succ, List.set_cons_zero]; go_big_quiet_on) | (go_big_quiet_op; first | go_big_quiet_on | (refine ⟨_, fun _ _ => rfl, ?_⟩; go_big_quiet_on))))
      refine wpQuiet_nil ?_
      refine ⟨Below.refl _ _, by kernel_rfl, ?_⟩
      go_wp2
      go_ret
      exact ⟨rfl, HB0V.out.trans ((hb6'.trans (hb7.mono hb6'.size)).mono HB0V.out.size)⟩
end Go.Proofs.YtinkclcdpcjnfaaDoor
