/- The walk of layer 19's law BookCounts. No conditions. Printed by mkcounts.py. -/
import Derived.Test.YtlabebapjhhkaaaBkC
namespace Go.Proofs.Ytlabebapjhhkaaa
open Go.RowKit Go.Shelf
set_option maxRecDepth 100000 in
set_option maxHeartbeats 8000000 in
theorem BookCounts_law (q0 : PrmI) (A : Option Addr) (n c : Nat) (A2 : Option Addr) (c2 : Nat) (pb : Bool) (w : World) (qs : List OpP) (l2 : List Int) (hn : n ≤ 9223372036854775807) (hn2 : l2.length ≤ 9223372036854775807) (_hp : q0.Ok) (hl : OpsK w w.heap.size A n qs) (hl2 : IRd w w.heap.size A2 l2.length l2) :
    Calls Try.prog 7 #[.agg q0.arr, .slice A n c, .slice A2 l2.length c2, .bool pb] w fun e w' => e = .returned (.bool true) ∧ Below w.heap.size w w' := by
  have HL := Lib.hid hl; have HLN := Lib.hid hl.len
  have HGOOD := Lib.hid (fun w => Good_any w q0)
  obtain ⟨n2, hn2e⟩ : ∃ n2, n2 = l2.length := ⟨_, rfl⟩
  rw [← hn2e] at hl2 hn2 ⊢
  have HL2 := Lib.hid hl2; have HLE := Lib.hid hn2e
  clear hl _hp hl2 hn2e
  obtain ⟨N, T, Kk, E, Room⟩ := q0
  dsimp only [PrmI.arr] at HGOOD ⊢
  go_enter Try.func7, Try.ntmps7
  go_upto_region 1 with (fail)
  have hb := below1 w (.cells #[.int .i64 N, .int .i64 T, .int .i64 Kk, .int .i64 E, .int .i64 Room] 23)
  have hB := Blk.new w 23 #[.int .i64 N, .int .i64 T, .int .i64 Kk, .int .i64 E, .int .i64 Room]
  obtain ⟨b, hbe⟩ : ∃ b, b = w.heap.size := ⟨_, rfl⟩
  rw [← hbe] at hB hb HL HL2 ⊢
  generalize w.alloc (.cells #[.int .i64 N, .int .i64 T, .int .i64 Kk, .int .i64 E, .int .i64 Room] 23) = w1 at hb hB ⊢
  have HB := Lib.hid hb; have HBB := Lib.hid hB
  have HBE := Lib.hid hbe
  clear hb hB hbe
  go_wp2_with (refine wpList_load_row rfl 23 (.tmp 4) rfl b rfl _ _ _ _ HBB.out Try.underlying23 rfl (by kernel_rfl) ?_)
  refine (HGOOD.out w1).mono ?_
  rintro e w2 ⟨gd, rfl, hg, hb2⟩
  have hBle : b ≤ w1.heap.size := Nat.le_of_lt HBB.out.lt
  have HB2 := Lib.hid (HB.out.trans (hb2.mono hBle)); have HBB2 := Lib.hid (HBB.out.below hb2 HBB.out.lt); have HG := Lib.hid hg
  clear hb2 hg HB HBB HGOOD hBle
  cases gd with
  | false =>
    go_wp2_with fail
    refine (answers19_any w2).mono ?_
    rintro e w3 ⟨rfl, hb3⟩
    go_wp2
    go_ret
    rw [← HBE.out]
    exact ⟨rfl, HB2.out.trans (hb3.mono (Nat.le_of_lt HBB2.out.lt))⟩
  | true =>
  by_cases hn60 : (60 : Int) < (n : Int)
  · go_wp2_with fail
    refine (answers19_any w2).mono ?_
    rintro e w3 ⟨rfl, hb3⟩
    go_wp2
    go_ret
    rw [← HBE.out]
    exact ⟨rfl, HB2.out.trans (hb3.mono (Nat.le_of_lt HBB2.out.lt))⟩
  by_cases hp300 : (300 : Int) < (n2 : Int)
  · go_wp2_with fail
    refine (answers19_any w2).mono ?_
    rintro e w3 ⟨rfl, hb3⟩
    go_wp2
    go_ret
    rw [← HBE.out]
    exact ⟨rfl, HB2.out.trans (hb3.mono (Nat.le_of_lt HBB2.out.lt))⟩
  obtain ⟨hN0, hN1⟩ := HG.out rfl
  obtain ⟨N, rfl⟩ : ∃ N' : Nat, N = N' := ⟨N.toNat, by omega⟩
  have hN255 : N ≤ 255 := by omega
  have HNN := Lib.hid hN255
  have HNEW := Lib.hid (BNew_any w2 ⟨N, T, Kk, E, Room⟩ hN255)
  dsimp only [prmC] at HNEW
  clear hN0 hN1 HG hN255
  go_upto_region 4 with (first | refine wpList_load_row rfl 23 (.tmp 4) rfl b rfl _ _ _ _ HBB2.out Try.underlying23 rfl (by kernel_rfl) ?_ | (go_at_call 11; refine HNEW.out.mono ?_; rintro e w3 ⟨K, rfl, hk3, hb3⟩))
  have HC3 := Lib.hid (show CB w w3 b K ⟨N, T, Kk, E, Room⟩ (BM.new N) from ⟨hk3.weaken (fun k e => Nat.lt_of_lt_of_le HBB2.out.lt e), HB2.out.trans (hb3.mono (Nat.le_of_lt HBB2.out.lt)), HBB2.out.below hb3 HBB2.out.lt⟩)
  clear hk3 hb3 HNEW HBB2 HB2
  have hn60' : n ≤ 60 := by omega
  have hn300 : n2 ≤ 300 := by omega
  clear hn60 hp300
  go_wp2_with fail
  go_loopw [10, 35, 36, 37, 38, 39, 40, 41, 42, 43, 44, 45, 46, 47, 48, 49, 50, 51, 52] (fun q _ _ _ _ _ _ _ _ _ _ _ _ _ _ _ _ _ _ wr => ∃ (j : Nat) (m : BM), j ≤ n ∧ q = .int .i64 (j : Int) ∧ CB w wr b K ⟨N, T, Kk, E, Room⟩ m ∧ m.free ∧ m.v.session ≤ j ∧ m.pw.writes ≤ 2000 * j) (fun q _ _ _ _ _ _ _ _ _ _ _ _ _ _ _ _ _ _ _ => n - (intOf q).toNat)
  case atStart => exact ⟨0, BM.new N, by omega, rfl, HC3.out, BM.new_free N, Int.le_refl _, Nat.zero_le _⟩
  case round =>
    obtain ⟨j, m, hj, rfl, hcb, hf, hs, hw⟩ := hrel
    have HCB := Lib.hid hcb; have HW := Lib.hid hw; have HF := Lib.hid hf; have HS := Lib.hid hs
    clear hcb hw hf hs
    by_cases hjn : j < n
    · have hjn' : (j : Int) < (n : Int) := by omega
      have hlk := HL.out.below HCB.out.below
      obtain ⟨ad, rfl, had, hall⟩ := hlk.at_ (by omega)
      obtain ⟨q, hq⟩ : ∃ q, qs[j]? = some q := ⟨_, List.getElem?_eq_getElem (by have := HLN.out; omega)⟩
      obtain ⟨hcell, hqo⟩ := hall j q hq
      have hbr : b ≤ wr.heap.size := Nat.le_of_lt HCB.out.prm.lt
      have HCE := Lib.hid hcell
      have HDO := Lib.hid (do_any wr (fun k => b < k) K ⟨N, T, Kk, E, Room⟩ m q.o q.A q.c HCB.out.kb (by have := HW.out; omega) (hqo.rd.more hbr) hqo.len hqo.n1)
      have kc : wr.cell? (ad.add (j * 5)) = some (.int .i64 q.o.k) := by
        have hc0 := hcell 0 (.int .i64 q.o.k) rfl
        rw [Addr.add_zero'] at hc0
        exact hc0
      clear hlk hall hq hcell hqo hbr
      obtain ⟨qk, hqk⟩ : ∃ qk, qk = q.o.k := ⟨_, rfl⟩
      rw [← hqk] at kc
      have HQK := Lib.hid hqk
      clear hqk
      by_cases hk7 : qk < 7
      · go_upto_region 8 with (fail)
        clear kc
        go_wp2_with (refine wpList_load_at rfl 38 (.tmp 50) rfl (ad.add (j * 5)) rfl q.arr _ HCE.out Try.underlying38 rfl (by kernel_rfl) ?_)
        refine HDO.out.mono ?_
        rintro e w4 ⟨rr, M, hdo, rfl, hk4, hkp4⟩
        have hcb4 := HCB.out.step hk4 hkp4
        have hrose := dor_rose HCB.out.kb.good hdo
        obtain ⟨hf4, hs4⟩ := dor_free HF.out hdo (by rw [← HQK.out]; exact hk7)
        have HC4 := Lib.hid hcb4; have HF4 := Lib.hid hf4; have HS4 := Lib.hid (show M.v.session ≤ ((j + 1 : Nat) : Int) by have := HS.out; omega); have HW4 := Lib.hid (show M.pw.writes ≤ 2000 * (j + 1) by have := hrose.writes; have := HW.out; omega)
        clear hk4 hkp4 hcb4 hrose hf4 hs4 hdo HDO
        go_wp2_with fail
        go_roundw
        case rel => exact ⟨j + 1, M, by omega, by go_num, HC4.out, HF4.out, HS4.out, HW4.out⟩
        case measure => simp [intOf]; omega
      · go_wp2_with fail
        go_roundw
        case rel => exact ⟨j + 1, m, by omega, by go_num, HCB.out, HF.out, by have := HS.out; omega, by have := HW.out; omega⟩
        case measure => simp [intOf]; omega
    · obtain rfl : j = n := by omega
      have HS1 := Lib.hid (show m.v.session ≤ 60 by have := HS.out; omega)
      have HW1 := Lib.hid (show m.pw.writes ≤ 120000 by have := HW.out; omega)
      clear HS HW
      cases pb with
      | true =>
        obtain ⟨Z, hZ⟩ : ∃ Z, Z = m.change (deleteV [122, 122]) := ⟨_, rfl⟩
        have hdel := BDelete_any wr (fun k => b < k) K ⟨N, T, Kk, E, Room⟩ m [122, 122] HCB.out.kb (by have := HW1.out; omega)
        have hfd := free_delete HF.out [122, 122]
        have hwd := BM.change_writes m N HCB.out.kb.good (deleteV [122, 122]) (deleteV_good HCB.out.kb.good.kv.good _)
        rw [← hZ] at hdel hfd hwd
        have HD := Lib.hid hdel; have HFD := Lib.hid hfd; have HWD := Lib.hid hwd
        clear hdel hfd hwd hZ
        go_upto_region 11 with (go_at_call 21; refine HD.out.mono ?_; rintro e w4 ⟨rfl, hk4, hkp4⟩)
        have HC4 := Lib.hid (HCB.out.step hk4 hkp4)
        obtain ⟨m2, hm2⟩ : ∃ m2, m2 = Z.2 := ⟨_, rfl⟩
        rw [← hm2] at HC4 HFD HWD
        have HF4 := Lib.hid HFD.out.1; have HS4 := Lib.hid (show m2.v.session ≤ 61 by have := HFD.out.2; have := HS1.out; omega); have HW4 := Lib.hid (show m2.pw.writes ≤ 122000 by have := HWD.out; have := HW1.out; omega)
        clear hk4 hkp4 hm2 HD HFD HWD HS1 HW1 HF HCB
        obtain ⟨Y, hY⟩ : ∃ Y, Y = m2.change nextV := ⟨_, rfl⟩
        have hbeg := Begin_any w4 (fun k => b < k) K ⟨N, T, Kk, E, Room⟩ m2 HC4.out.kb (by have := HW4.out; omega)
        have hfb := free_begin HF4.out (by have := HS4.out; omega)
        have hwb := BM.change_writes m2 N HC4.out.kb.good nextV (nextV_good HC4.out.kb.good.kv.good)
        rw [← hY] at hbeg hfb hwb
        obtain ⟨z1, hf1, hv1⟩ := hfb
        rw [z1, if_pos rfl] at hbeg
        obtain ⟨s, hs⟩ : ∃ s, s = m2.v.session + 1 := ⟨_, rfl⟩
        rw [← hs] at hbeg hv1
        obtain ⟨m1, hm1⟩ : ∃ m1, m1 = Y.2 := ⟨_, rfl⟩
        rw [← hm1] at hbeg hf1 hv1 hwb
        have HBEG := Lib.hid hbeg; have HF1 := Lib.hid hf1; have HV1 := Lib.hid (show m1.v.session = s by rw [hv1]); have HW5 := Lib.hid (show m1.pw.writes ≤ 124000 by have := hwb; have := HW4.out; omega)
        clear hbeg hf1 hv1 hwb z1 hY hs hm1 HF4 HS4 HW4
        go_upto_region 12 with (go_at_call 22; refine HBEG.out.mono ?_; rintro e w5 ⟨rfl, hk5, hkp5⟩)
        have HC5 := Lib.hid (HC4.out.step hk5 hkp5)
        clear hk5 hkp5 HBEG HC4
        have HG1 := Lib.hid HC5.out.kb.good.kv.good
        obtain ⟨v1, hv1e⟩ : ∃ v1, v1 = m1.v := ⟨_, rfl⟩
        have hview := View_any w5 _ K _ m1 HC5.out.kb
        rw [← hv1e] at hview HV1 HG1
        have HVW := Lib.hid hview; have HE1 := Lib.hid hv1e
        clear hview hv1e
        go_wp2_with (fail)
        refine HVW.out.mono ?_
        rintro e w6 ⟨Ad, Au, Ac, cd, cu, cc, rfl, ho, hb6⟩
        obtain ⟨G, hGe⟩ : ∃ G, G = w6.heap.size := ⟨_, rfl⟩
        have hV0 := Blk.new w6 44 (bookCells v1 Ad Au Ac cd cu cc)
        have hal0 := below1 w6 (.cells (bookCells v1 Ad Au Ac cd cu cc) 44)
        obtain ⟨w7, hw7⟩ : ∃ w7, w7 = w6.alloc (.cells (bookCells v1 Ad Au Ac cd cu cc) 44) := ⟨_, rfl⟩
        rw [← hw7] at hV0 hal0
        rw [← hGe] at hV0
        have hgl : w5.heap.size ≤ G := by rw [hGe]; exact hb6.size
        have HGL := Lib.hid hgl
        have HK7 := Lib.hid ((HC5.out.kb.tight.below hb6).below hal0)
        have HC7 := Lib.hid ((HC5.out.under hb6).under hal0); have HG7 := Lib.hid hV0
        have HRD := Lib.hid (ho.rd.below hal0)
        have hw7' : w6.alloc (.cells #[.int .i64 v1.session, .int .i64 v1.decided, .int .i64 v1.epoch, .slice Ad v1.dir.length cd, .slice Au v1.up.length cu, .slice Ac v1.commit.length cc] 44) = w7 := hw7.symm
        have HW7 := Lib.hid hw7'; have HGE := Lib.hid hGe
        clear hV0 hal0 hw7 hw7' hGe ho hb6 hgl HVW HC5
        go_upto_region 13 with (fail)
        rw [HW7.out, ← HGE.out]
        clear HW7 HGE
        obtain ⟨Y2, hY2⟩ : ∃ Y2, Y2 = m1.change (putV ⟨[122, 122], 0⟩ l2) := ⟨_, rfl⟩
        have hr7 := (HL2.out.below HC7.out.below).more (Nat.le_of_lt HC7.out.prm.lt)
        have hput := BPut_any w7 (fun k => b < k ∧ k < w5.heap.size) K ⟨N, T, Kk, E, Room⟩ m1 ⟨[122, 122], 0⟩ A2 n2 c2 l2 hr7 hn2 HK7.out (by have := HW5.out; omega)
        have hcnt := cnt_put (N := N) HF1.out (by rw [← HE1.out]; exact HG1.out) ⟨[122, 122], 0⟩ l2
        rw [← hY2] at hput hcnt
        have HPUT := Lib.hid hput; have HCNT := Lib.hid hcnt
        clear hput hcnt hr7 hY2
        go_upto_region 17 with (go_at_call 23; refine HPUT.out.mono ?_; rintro e w8 ⟨rfl, hk8, hkp8⟩)
        obtain ⟨e2, he2⟩ : ∃ e2, e2 = Y2.1 := ⟨_, rfl⟩
        obtain ⟨m2', hm2'⟩ : ∃ m2', m2' = Y2.2 := ⟨_, rfl⟩
        rw [← he2] at HCNT ⊢
        rw [← hm2'] at hk8 HCNT
        have hkp8' : Keeps (fun k => b < k) w7 w8 := hkp8.weaken (fun _ _ e => e.1)
        have HC8 := Lib.hid (HC7.out.step (hk8.weaken (fun k e => by rcases e with e | e; exact Or.inl e.1; exact Or.inr e)) hkp8')
        have HG8 := Lib.hid (HG7.out.keeps hkp8 (fun e => by have := HGL.out; have := e.2; omega))
        have HRD8 := Lib.hid (HRD.out.off hkp8 (fun k e f => by have : w5.heap.size ≤ k := e; have := f.2; omega))
        clear hkp8 hkp8' hk8 he2 hm2' HPUT HC7 HG7 HRD HK7 HGL
        have HG2 := Lib.hid HC8.out.kb.good.kv.good
        obtain ⟨v2, hv2e⟩ : ∃ v2, v2 = m2'.v := ⟨_, rfl⟩
        have hview := View_any w8 _ K _ m2' HC8.out.kb
        rw [← hv2e] at hview HG2 HCNT
        have HVW := Lib.hid hview
        clear hview hv2e
        go_wp2_with (fail)
        refine HVW.out.mono ?_
        rintro e w9 ⟨Bd, Bu, Bc, dd, du, dc, rfl, ho, hb9⟩
        obtain ⟨G2, hG2e⟩ : ∃ G2, G2 = w9.heap.size := ⟨_, rfl⟩
        have hV2 := Blk.new w9 44 (bookCells v2 Bd Bu Bc dd du dc)
        have hal2 := below1 w9 (.cells (bookCells v2 Bd Bu Bc dd du dc) 44)
        obtain ⟨w10, hw10⟩ : ∃ w10, w10 = w9.alloc (.cells (bookCells v2 Bd Bu Bc dd du dc) 44) := ⟨_, rfl⟩
        rw [← hw10] at hV2 hal2
        rw [← hG2e] at hV2
        have HC10 := Lib.hid ((HC8.out.under hb9).under hal2); have HGG := Lib.hid ((HG8.out.below hb9 HG8.out.lt).below hal2 (HG8.out.below hb9 HG8.out.lt).lt); have HGG2 := Lib.hid hV2
        have HRX := Lib.hid ((HRD8.out.below hb9).below hal2); have HRY := Lib.hid (ho.rd.below hal2)
        have hw10' : w9.alloc (.cells #[.int .i64 v2.session, .int .i64 v2.decided, .int .i64 v2.epoch, .slice Bd v2.dir.length dd, .slice Bu v2.up.length du, .slice Bc v2.commit.length dc] 44) = w10 := hw10.symm
        have HW10 := Lib.hid hw10'; have HGE2 := Lib.hid hG2e
        clear hV2 hal2 hw10 hw10' hG2e ho hb9 HVW HC8 HG8 HRD8
        go_upto_region 18 with (fail)
        rw [HW10.out, ← HGE2.out]
        clear HW10 HGE2
        have hbw : b ≤ w10.heap.size := Nat.le_of_lt HC10.out.prm.lt
        have HBW := Lib.hid hbw
        clear hbw
        rcases HCNT.out.2 with ⟨hne, hveq⟩ | ⟨rfl, hct⟩
        · have hne' : ¬ (e2 = 0) := hne
          rw [← HE1.out] at hveq
          clear hne
          go_upto_region 19 with (fail)
          go_wp2_with (fail)
          refine (answers19_any w10).mono ?_
          rintro e w11 ⟨rfl, hb11⟩
          have HB11 := Lib.hid hb11
          have HGa := Lib.hid (HGG.out.below hb11 HGG.out.lt); have HGb := Lib.hid (HGG2.out.below hb11 HGG2.out.lt)
          have hsame := Same_any w11 v1 v2 _ _ Ad Au Ac Bd Bu Bc cd cu cc dd du dc (HRX.out.below hb11) (HRY.out.below hb11) (by have := HG1.out.cost HNN.out; omega) (by have := HG2.out.cost HNN.out; omega)
          rw [decide_eq_true (by rw [hveq])] at hsame
          have HSM := Lib.hid hsame
          clear hb11 hsame hveq
          go_wp2_with (first | (refine wpList_wantedB rfl ?_; refine wpList_load_row rfl 44 (.tmp 13) rfl G rfl _ _ _ _ HGa.out Try.underlying44 rfl (by kernel_rfl) ?_) | (refine wpList_wantedB rfl ?_; refine wpList_load_row rfl 44 (.tmp 15) rfl G2 rfl _ _ _ _ HGb.out Try.underlying44 rfl (by kernel_rfl) ?_))
          refine HSM.out.mono ?_
          rintro e w12 ⟨rfl, hb12⟩
          go_wp2
          go_ret
          rw [← HBE.out]
          exact ⟨rfl, HC10.out.below.trans ((HB11.out.mono HBW.out).trans (hb12.mono (Nat.le_trans HBW.out HB11.out.size)))⟩
        · rw [← HE1.out] at hct
          have l1 := HG1.out.ul; have l2' := HG1.out.cl; have l3 := HG2.out.ul; have l4 := HG2.out.cl
          have g4 : w10.cell? ⟨G, 4, none⟩ = some (.slice Au N cu) := by rw [← l1]; exact (HGG.out.cell 4).trans rfl
          have g5 : w10.cell? ⟨G, 5, none⟩ = some (.slice Ac N cc) := by rw [← l2']; exact (HGG.out.cell 5).trans rfl
          have k4 : w10.cell? ⟨G2, 4, none⟩ = some (.slice Bu N du) := by rw [← l3]; exact (HGG2.out.cell 4).trans rfl
          have k5 : w10.cell? ⟨G2, 5, none⟩ = some (.slice Bc N dc) := by rw [← l4]; exact (HGG2.out.cell 5).trans rfl
          have p0 : w10.cell? ⟨b, 0, none⟩ = some (.int .i64 (N : Int)) := (HC10.out.prm.cell 0).trans rfl
          have hdec := hct.dec
          rw [HV1.out] at hdec
          have k1 : w10.cell? ⟨G2, 1, none⟩ = some (.int .i64 s) := by rw [← hdec]; exact (HGG2.out.cell 1).trans rfl
          have HCT := Lib.hid hct
          have K1 := Lib.hid k1
          clear l1 l2' l3 l4 hct hdec k1 HCNT
          go_wp2_with fail
          have HG4 := Lib.hid g4; have HG5 := Lib.hid g5; have HK4 := Lib.hid k4; have HK5 := Lib.hid k5; have HP0 := Lib.hid p0
          clear g4 g5 k4 k5 p0
          go_loopw [16, 17, 18, 111, 112, 113, 114, 115, 116, 117, 118, 119, 120, 121, 122, 123, 124, 125, 126, 127, 128, 129, 130, 131, 132, 133, 134, 135, 136, 137, 138, 139, 140, 141, 142, 143, 144, 145, 146, 147, 148, 149, 150, 151, 152, 153, 154, 155, 156, 157, 158, 159, 160, 161, 162, 163, 164, 165, 166, 167, 168, 169, 170, 171, 172, 173, 174] (fun q _ _ _ _ _ _ _ _ _ _ _ _ _ _ _ _ _ _ _ _ _ _ _ _ _ _ _ _ _ _ _ _ _ _ _ _ _ _ _ _ _ _ _ _ _ _ _ _ _ _ _ _ _ _ _ _ _ _ _ _ _ _ _ _ _ _ wr => ∃ i : Nat, i ≤ N ∧ q = .int .i64 (i : Int) ∧ Below w10.heap.size w10 wr) (fun q _ _ _ _ _ _ _ _ _ _ _ _ _ _ _ _ _ _ _ _ _ _ _ _ _ _ _ _ _ _ _ _ _ _ _ _ _ _ _ _ _ _ _ _ _ _ _ _ _ _ _ _ _ _ _ _ _ _ _ _ _ _ _ _ _ _ _ => N - (intOf q).toNat)
          case atStart => exact ⟨0, by omega, rfl, Below.refl _ _⟩
          case' round =>
            obtain ⟨i, hi, rfl, hbi⟩ := hrel
            have HBI := Lib.hid hbi
            have p0 := (hbi.cell (cell_lt HP0.out)).trans HP0.out
            clear hbi
            by_cases hiN : i < N
            · have hiN' : (i : Int) < (N : Int) := by omega
              go_wp2_with fail
              go_loopw [17, 18, 117, 118, 119, 120, 121, 122, 123, 124, 125, 126, 127, 128, 129, 130, 131] (fun x q _ _ _ _ _ _ _ _ _ _ _ _ _ _ _ wi => ∃ j : Nat, j ≤ n2 ∧ q = .int .i64 (j : Int) ∧ x = .bool ((l2.take j).contains (i : Int)) ∧ wi = wr) (fun _ q _ _ _ _ _ _ _ _ _ _ _ _ _ _ _ _ => n2 - (intOf q).toNat)
              case atStart => exact ⟨0, by omega, rfl, rfl, rfl⟩
              case' round =>
                obtain ⟨j, hj, rfl, rfl, rfl⟩ := hrel
                by_cases hj2 : j < n2
                · have hj2' : (j : Int) < (n2 : Int) := by omega
                  have hri := HL2.out.below (HC10.out.below.trans (HBI.out.mono HBW.out))
                  obtain ⟨ad, rfl, _, hc⟩ := hri.at_ hj2
                  have htk : l2.take (j + 1) = l2.take j ++ [l2.getD j 0] := by
                    have hlt : j < l2.length := by have := HLE.out; omega
                    rw [List.take_succ_eq_append_getElem hlt, List.getD_eq_getElem?_getD, List.getElem?_eq_getElem hlt]; rfl
                  generalize l2.getD j 0 = y at hc htk
                  have HT := Lib.hid htk
                  clear hri htk
                  cases hx : (l2.take j).contains (i : Int) with
                  | true =>
                    have hnx : (l2.take (j + 1)).contains (i : Int) = true := by rw [HT.out, List.contains_append, hx]; rfl
                    have HX := Lib.hid hnx
                    clear hnx
                    go_wp2_with fail
                    go_roundw
                    case rel => exact ⟨j + 1, by omega, by go_num, by rw [HX.out], by trivial⟩
                    case measure => simp [intOf]; omega
                  | false =>
                    by_cases hy : y = (i : Int)
                    · have hnx : (l2.take (j + 1)).contains (i : Int) = true := by rw [HT.out, List.contains_append, hx, hy]; simp
                      have HX := Lib.hid hnx
                      subst hy
                      clear hnx
                      go_wp2_with fail
                      go_roundw
                      case rel => exact ⟨j + 1, by omega, by go_num, by rw [HX.out], by trivial⟩
                      case measure => simp [intOf]; omega
                    · have hnx : (l2.take (j + 1)).contains (i : Int) = false := by rw [HT.out, List.contains_append, hx]; simp; omega
                      have HX := Lib.hid hnx
                      clear hnx
                      go_wp2_with fail
                      go_roundw
                      case rel => exact ⟨j + 1, by omega, by go_num, by rw [HX.out, beq_eq_false_iff_ne.2 hy], by trivial⟩
                      case measure => simp [intOf]; omega
                · obtain rfl : j = n2 := by omega
                  rw [show l2.take j = l2 by rw [HLE.out, List.take_length]]
                  obtain ⟨ub, hu1, hu2⟩ := HCT.out.up i hiN
                  obtain ⟨cm, hc1, hc2⟩ := HCT.out.cm i hiN
                  rw [HV1.out] at hc2
                  obtain ⟨a1, rfl, c1⟩ := up_get HRX.out hu1
                  obtain ⟨a2, rfl, c2'⟩ := up_get HRY.out hu2
                  obtain ⟨a3, rfl, c3⟩ := com_get HRX.out hc1
                  obtain ⟨a4, rfl, c4⟩ := com_get HRY.out hc2
                  have f1 := (HBI.out.cell (cell_lt c1)).trans c1
                  have f2 := (HBI.out.cell (cell_lt c2')).trans c2'
                  have f3 := (HBI.out.cell (cell_lt c3)).trans c3
                  have f4 := (HBI.out.cell (cell_lt c4)).trans c4
                  have g4 := (HBI.out.cell (cell_lt HG4.out)).trans HG4.out
                  have g5 := (HBI.out.cell (cell_lt HG5.out)).trans HG5.out
                  have k4 := (HBI.out.cell (cell_lt HK4.out)).trans HK4.out
                  have k5 := (HBI.out.cell (cell_lt HK5.out)).trans HK5.out
                  have hN255 := HNN.out
                  clear c1 c2' c3 c4 hu1 hu2 hc1 hc2 hjn hj2
                  generalize l2.contains (i : Int) = inb at f2 f4 ⊢
                  cases inb with
                  | true =>
                    rw [if_pos rfl] at f4
                    cases ub with
                    | true =>
                      replace f2 : wr.cell? (a2.add i) = some (.bool true) := f2
                      go_upto_region 30 with (fail)
                      refine wp_region_q (by kernel_rfl) (by kernel_rfl) ?_
                      repeat (first | go_big_quiet_skip | (go_big_quiet_want; go_big_quiet_op; first | go_big_quiet_on))
                      refine wpQuiet_nil ?_
                      go_wp2_with fail
                      go_roundw
                      case rel => exact ⟨i + 1, by omega, by go_num, HBI.out.drew⟩
                      case measure => simp [intOf]; omega
                    | false =>
                      replace f2 : wr.cell? (a2.add i) = some (.bool false) := f2
                      go_upto_region 30 with (fail)
                      refine wp_region_q (by kernel_rfl) (by kernel_rfl) ?_
                      repeat (first | go_big_quiet_skip | (go_big_quiet_want; go_big_quiet_op; first | go_big_quiet_on))
                      refine wpQuiet_nil ?_
                      go_wp2_with fail
                      go_roundw
                      case rel => exact ⟨i + 1, by omega, by go_num, HBI.out.drew⟩
                      case measure => simp [intOf]; omega
                  | false =>
                    rw [if_neg Bool.false_ne_true] at f4
                    cases ub with
                    | true =>
                      replace f2 : wr.cell? (a2.add i) = some (.bool false) := f2
                      go_upto_region 30 with (fail)
                      refine wp_region_q (by kernel_rfl) (by kernel_rfl) ?_
                      repeat (first | go_big_quiet_skip | (go_big_quiet_want; go_big_quiet_op; first | go_big_quiet_on))
                      refine wpQuiet_nil ?_
                      go_wp2_with fail
                      go_roundw
                      case rel => exact ⟨i + 1, by omega, by go_num, HBI.out.drew⟩
                      case measure => simp [intOf]; omega
                    | false =>
                      replace f2 : wr.cell? (a2.add i) = some (.bool false) := f2
                      go_upto_region 30 with (fail)
                      refine wp_region_q (by kernel_rfl) (by kernel_rfl) ?_
                      repeat (first | go_big_quiet_skip | (go_big_quiet_want; go_big_quiet_op; first | go_big_quiet_on))
                      refine wpQuiet_nil ?_
                      go_wp2_with fail
                      go_roundw
                      case rel => exact ⟨i + 1, by omega, by go_num, HBI.out.drew⟩
                      case measure => simp [intOf]; omega
            · obtain rfl : i = N := by omega
              have k1 := (HBI.out.cell (cell_lt K1.out)).trans K1.out
              have K1i := Lib.hid k1
              clear k1
              go_wp2_with fail
              refine (answers19_any _).mono ?_
              rintro e w11 ⟨rfl, hb11⟩
              have k1' := (hb11.cell (cell_lt K1i.out)).trans K1i.out
              go_wp2_with fail
              go_ret
              rw [← HBE.out]
              exact ⟨rfl, HC10.out.below.trans ((HBI.out.mono HBW.out).trans (hb11.mono (Nat.le_trans HBW.out HBI.out.size)))⟩
      | false =>
        have HC4 := HCB; have HF4 := HF; have HS4 := Lib.hid (show m.v.session ≤ 61 by have := HS1.out; omega); have HW4 := Lib.hid (show m.pw.writes ≤ 122000 by have := HW1.out; omega)
        clear HCB HF HS1 HW1
        obtain ⟨Y, hY⟩ : ∃ Y, Y = m.change nextV := ⟨_, rfl⟩
        have hbeg := Begin_any wr (fun k => b < k) K ⟨N, T, Kk, E, Room⟩ m HC4.out.kb (by have := HW4.out; omega)
        have hfb := free_begin HF4.out (by have := HS4.out; omega)
        have hwb := BM.change_writes m N HC4.out.kb.good nextV (nextV_good HC4.out.kb.good.kv.good)
        rw [← hY] at hbeg hfb hwb
        obtain ⟨z1, hf1, hv1⟩ := hfb
        rw [z1, if_pos rfl] at hbeg
        obtain ⟨s, hs⟩ : ∃ s, s = m.v.session + 1 := ⟨_, rfl⟩
        rw [← hs] at hbeg hv1
        obtain ⟨m1, hm1⟩ : ∃ m1, m1 = Y.2 := ⟨_, rfl⟩
        rw [← hm1] at hbeg hf1 hv1 hwb
        have HBEG := Lib.hid hbeg; have HF1 := Lib.hid hf1; have HV1 := Lib.hid (show m1.v.session = s by rw [hv1]); have HW5 := Lib.hid (show m1.pw.writes ≤ 124000 by have := hwb; have := HW4.out; omega)
        clear hbeg hf1 hv1 hwb z1 hY hs hm1 HF4 HS4 HW4
        go_upto_region 12 with (go_at_call 22; refine HBEG.out.mono ?_; rintro e w5 ⟨rfl, hk5, hkp5⟩)
        have HC5 := Lib.hid (HC4.out.step hk5 hkp5)
        clear hk5 hkp5 HBEG HC4
        have HG1 := Lib.hid HC5.out.kb.good.kv.good
        obtain ⟨v1, hv1e⟩ : ∃ v1, v1 = m1.v := ⟨_, rfl⟩
        have hview := View_any w5 _ K _ m1 HC5.out.kb
        rw [← hv1e] at hview HV1 HG1
        have HVW := Lib.hid hview; have HE1 := Lib.hid hv1e
        clear hview hv1e
        go_wp2_with (fail)
        refine HVW.out.mono ?_
        rintro e w6 ⟨Ad, Au, Ac, cd, cu, cc, rfl, ho, hb6⟩
        obtain ⟨G, hGe⟩ : ∃ G, G = w6.heap.size := ⟨_, rfl⟩
        have hV0 := Blk.new w6 44 (bookCells v1 Ad Au Ac cd cu cc)
        have hal0 := below1 w6 (.cells (bookCells v1 Ad Au Ac cd cu cc) 44)
        obtain ⟨w7, hw7⟩ : ∃ w7, w7 = w6.alloc (.cells (bookCells v1 Ad Au Ac cd cu cc) 44) := ⟨_, rfl⟩
        rw [← hw7] at hV0 hal0
        rw [← hGe] at hV0
        have hgl : w5.heap.size ≤ G := by rw [hGe]; exact hb6.size
        have HGL := Lib.hid hgl
        have HK7 := Lib.hid ((HC5.out.kb.tight.below hb6).below hal0)
        have HC7 := Lib.hid ((HC5.out.under hb6).under hal0); have HG7 := Lib.hid hV0
        have HRD := Lib.hid (ho.rd.below hal0)
        have hw7' : w6.alloc (.cells #[.int .i64 v1.session, .int .i64 v1.decided, .int .i64 v1.epoch, .slice Ad v1.dir.length cd, .slice Au v1.up.length cu, .slice Ac v1.commit.length cc] 44) = w7 := hw7.symm
        have HW7 := Lib.hid hw7'; have HGE := Lib.hid hGe
        clear hV0 hal0 hw7 hw7' hGe ho hb6 hgl HVW HC5
        go_upto_region 13 with (fail)
        rw [HW7.out, ← HGE.out]
        clear HW7 HGE
        obtain ⟨Y2, hY2⟩ : ∃ Y2, Y2 = m1.change (refreshV l2) := ⟨_, rfl⟩
        have hr7 := (HL2.out.below HC7.out.below).more (Nat.le_of_lt HC7.out.prm.lt)
        have hput := Refresh_any w7 (fun k => b < k ∧ k < w5.heap.size) K ⟨N, T, Kk, E, Room⟩ m1 A2 n2 c2 l2 hr7 hn2 HK7.out (by have := HW5.out; omega)
        have hcnt := cnt_refresh (N := N) HF1.out (by rw [← HE1.out]; exact HG1.out) l2
        rw [← hY2] at hput hcnt
        have HPUT := Lib.hid hput; have HCNT := Lib.hid hcnt
        clear hput hcnt hr7 hY2
        go_upto_region 17 with (go_at_call 24; refine HPUT.out.mono ?_; rintro e w8 ⟨rfl, hk8, hkp8⟩)
        obtain ⟨e2, he2⟩ : ∃ e2, e2 = Y2.1 := ⟨_, rfl⟩
        obtain ⟨m2', hm2'⟩ : ∃ m2', m2' = Y2.2 := ⟨_, rfl⟩
        rw [← he2] at HCNT ⊢
        rw [← hm2'] at hk8 HCNT
        have hkp8' : Keeps (fun k => b < k) w7 w8 := hkp8.weaken (fun _ _ e => e.1)
        have HC8 := Lib.hid (HC7.out.step (hk8.weaken (fun k e => by rcases e with e | e; exact Or.inl e.1; exact Or.inr e)) hkp8')
        have HG8 := Lib.hid (HG7.out.keeps hkp8 (fun e => by have := HGL.out; have := e.2; omega))
        have HRD8 := Lib.hid (HRD.out.off hkp8 (fun k e f => by have : w5.heap.size ≤ k := e; have := f.2; omega))
        clear hkp8 hkp8' hk8 he2 hm2' HPUT HC7 HG7 HRD HK7 HGL
        have HG2 := Lib.hid HC8.out.kb.good.kv.good
        obtain ⟨v2, hv2e⟩ : ∃ v2, v2 = m2'.v := ⟨_, rfl⟩
        have hview := View_any w8 _ K _ m2' HC8.out.kb
        rw [← hv2e] at hview HG2 HCNT
        have HVW := Lib.hid hview
        clear hview hv2e
        go_wp2_with (fail)
        refine HVW.out.mono ?_
        rintro e w9 ⟨Bd, Bu, Bc, dd, du, dc, rfl, ho, hb9⟩
        obtain ⟨G2, hG2e⟩ : ∃ G2, G2 = w9.heap.size := ⟨_, rfl⟩
        have hV2 := Blk.new w9 44 (bookCells v2 Bd Bu Bc dd du dc)
        have hal2 := below1 w9 (.cells (bookCells v2 Bd Bu Bc dd du dc) 44)
        obtain ⟨w10, hw10⟩ : ∃ w10, w10 = w9.alloc (.cells (bookCells v2 Bd Bu Bc dd du dc) 44) := ⟨_, rfl⟩
        rw [← hw10] at hV2 hal2
        rw [← hG2e] at hV2
        have HC10 := Lib.hid ((HC8.out.under hb9).under hal2); have HGG := Lib.hid ((HG8.out.below hb9 HG8.out.lt).below hal2 (HG8.out.below hb9 HG8.out.lt).lt); have HGG2 := Lib.hid hV2
        have HRX := Lib.hid ((HRD8.out.below hb9).below hal2); have HRY := Lib.hid (ho.rd.below hal2)
        have hw10' : w9.alloc (.cells #[.int .i64 v2.session, .int .i64 v2.decided, .int .i64 v2.epoch, .slice Bd v2.dir.length dd, .slice Bu v2.up.length du, .slice Bc v2.commit.length dc] 44) = w10 := hw10.symm
        have HW10 := Lib.hid hw10'; have HGE2 := Lib.hid hG2e
        clear hV2 hal2 hw10 hw10' hG2e ho hb9 HVW HC8 HG8 HRD8
        go_upto_region 18 with (fail)
        rw [HW10.out, ← HGE2.out]
        clear HW10 HGE2
        have hbw : b ≤ w10.heap.size := Nat.le_of_lt HC10.out.prm.lt
        have HBW := Lib.hid hbw
        clear hbw
        rcases HCNT.out.2 with ⟨hne, hveq⟩ | ⟨rfl, hct⟩
        · have hne' : ¬ (e2 = 0) := hne
          rw [← HE1.out] at hveq
          clear hne
          go_upto_region 19 with (fail)
          go_wp2_with (fail)
          refine (answers19_any w10).mono ?_
          rintro e w11 ⟨rfl, hb11⟩
          have HB11 := Lib.hid hb11
          have HGa := Lib.hid (HGG.out.below hb11 HGG.out.lt); have HGb := Lib.hid (HGG2.out.below hb11 HGG2.out.lt)
          have hsame := Same_any w11 v1 v2 _ _ Ad Au Ac Bd Bu Bc cd cu cc dd du dc (HRX.out.below hb11) (HRY.out.below hb11) (by have := HG1.out.cost HNN.out; omega) (by have := HG2.out.cost HNN.out; omega)
          rw [decide_eq_true (by rw [hveq])] at hsame
          have HSM := Lib.hid hsame
          clear hb11 hsame hveq
          go_wp2_with (first | (refine wpList_wantedB rfl ?_; refine wpList_load_row rfl 44 (.tmp 13) rfl G rfl _ _ _ _ HGa.out Try.underlying44 rfl (by kernel_rfl) ?_) | (refine wpList_wantedB rfl ?_; refine wpList_load_row rfl 44 (.tmp 15) rfl G2 rfl _ _ _ _ HGb.out Try.underlying44 rfl (by kernel_rfl) ?_))
          refine HSM.out.mono ?_
          rintro e w12 ⟨rfl, hb12⟩
          go_wp2
          go_ret
          rw [← HBE.out]
          exact ⟨rfl, HC10.out.below.trans ((HB11.out.mono HBW.out).trans (hb12.mono (Nat.le_trans HBW.out HB11.out.size)))⟩
        · rw [← HE1.out] at hct
          have l1 := HG1.out.ul; have l2' := HG1.out.cl; have l3 := HG2.out.ul; have l4 := HG2.out.cl
          have g4 : w10.cell? ⟨G, 4, none⟩ = some (.slice Au N cu) := by rw [← l1]; exact (HGG.out.cell 4).trans rfl
          have g5 : w10.cell? ⟨G, 5, none⟩ = some (.slice Ac N cc) := by rw [← l2']; exact (HGG.out.cell 5).trans rfl
          have k4 : w10.cell? ⟨G2, 4, none⟩ = some (.slice Bu N du) := by rw [← l3]; exact (HGG2.out.cell 4).trans rfl
          have k5 : w10.cell? ⟨G2, 5, none⟩ = some (.slice Bc N dc) := by rw [← l4]; exact (HGG2.out.cell 5).trans rfl
          have p0 : w10.cell? ⟨b, 0, none⟩ = some (.int .i64 (N : Int)) := (HC10.out.prm.cell 0).trans rfl
          have hdec := hct.dec
          rw [HV1.out] at hdec
          have k1 : w10.cell? ⟨G2, 1, none⟩ = some (.int .i64 s) := by rw [← hdec]; exact (HGG2.out.cell 1).trans rfl
          have HCT := Lib.hid hct
          have K1 := Lib.hid k1
          clear l1 l2' l3 l4 hct hdec k1 HCNT
          go_wp2_with fail
          have HG4 := Lib.hid g4; have HG5 := Lib.hid g5; have HK4 := Lib.hid k4; have HK5 := Lib.hid k5; have HP0 := Lib.hid p0
          clear g4 g5 k4 k5 p0
          go_loopw [16, 17, 18, 111, 112, 113, 114, 115, 116, 117, 118, 119, 120, 121, 122, 123, 124, 125, 126, 127, 128, 129, 130, 131, 132, 133, 134, 135, 136, 137, 138, 139, 140, 141, 142, 143, 144, 145, 146, 147, 148, 149, 150, 151, 152, 153, 154, 155, 156, 157, 158, 159, 160, 161, 162, 163, 164, 165, 166, 167, 168, 169, 170, 171, 172, 173, 174] (fun q _ _ _ _ _ _ _ _ _ _ _ _ _ _ _ _ _ _ _ _ _ _ _ _ _ _ _ _ _ _ _ _ _ _ _ _ _ _ _ _ _ _ _ _ _ _ _ _ _ _ _ _ _ _ _ _ _ _ _ _ _ _ _ _ _ _ wr => ∃ i : Nat, i ≤ N ∧ q = .int .i64 (i : Int) ∧ Below w10.heap.size w10 wr) (fun q _ _ _ _ _ _ _ _ _ _ _ _ _ _ _ _ _ _ _ _ _ _ _ _ _ _ _ _ _ _ _ _ _ _ _ _ _ _ _ _ _ _ _ _ _ _ _ _ _ _ _ _ _ _ _ _ _ _ _ _ _ _ _ _ _ _ _ => N - (intOf q).toNat)
          case atStart => exact ⟨0, by omega, rfl, Below.refl _ _⟩
          case' round =>
            obtain ⟨i, hi, rfl, hbi⟩ := hrel
            have HBI := Lib.hid hbi
            have p0 := (hbi.cell (cell_lt HP0.out)).trans HP0.out
            clear hbi
            by_cases hiN : i < N
            · have hiN' : (i : Int) < (N : Int) := by omega
              go_wp2_with fail
              go_loopw [17, 18, 117, 118, 119, 120, 121, 122, 123, 124, 125, 126, 127, 128, 129, 130, 131] (fun x q _ _ _ _ _ _ _ _ _ _ _ _ _ _ _ wi => ∃ j : Nat, j ≤ n2 ∧ q = .int .i64 (j : Int) ∧ x = .bool ((l2.take j).contains (i : Int)) ∧ wi = wr) (fun _ q _ _ _ _ _ _ _ _ _ _ _ _ _ _ _ _ => n2 - (intOf q).toNat)
              case atStart => exact ⟨0, by omega, rfl, rfl, rfl⟩
              case' round =>
                obtain ⟨j, hj, rfl, rfl, rfl⟩ := hrel
                by_cases hj2 : j < n2
                · have hj2' : (j : Int) < (n2 : Int) := by omega
                  have hri := HL2.out.below (HC10.out.below.trans (HBI.out.mono HBW.out))
                  obtain ⟨ad, rfl, _, hc⟩ := hri.at_ hj2
                  have htk : l2.take (j + 1) = l2.take j ++ [l2.getD j 0] := by
                    have hlt : j < l2.length := by have := HLE.out; omega
                    rw [List.take_succ_eq_append_getElem hlt, List.getD_eq_getElem?_getD, List.getElem?_eq_getElem hlt]; rfl
                  generalize l2.getD j 0 = y at hc htk
                  have HT := Lib.hid htk
                  clear hri htk
                  cases hx : (l2.take j).contains (i : Int) with
                  | true =>
                    have hnx : (l2.take (j + 1)).contains (i : Int) = true := by rw [HT.out, List.contains_append, hx]; rfl
                    have HX := Lib.hid hnx
                    clear hnx
                    go_wp2_with fail
                    go_roundw
                    case rel => exact ⟨j + 1, by omega, by go_num, by rw [HX.out], by trivial⟩
                    case measure => simp [intOf]; omega
                  | false =>
                    by_cases hy : y = (i : Int)
                    · have hnx : (l2.take (j + 1)).contains (i : Int) = true := by rw [HT.out, List.contains_append, hx, hy]; simp
                      have HX := Lib.hid hnx
                      subst hy
                      clear hnx
                      go_wp2_with fail
                      go_roundw
                      case rel => exact ⟨j + 1, by omega, by go_num, by rw [HX.out], by trivial⟩
                      case measure => simp [intOf]; omega
                    · have hnx : (l2.take (j + 1)).contains (i : Int) = false := by rw [HT.out, List.contains_append, hx]; simp; omega
                      have HX := Lib.hid hnx
                      clear hnx
                      go_wp2_with fail
                      go_roundw
                      case rel => exact ⟨j + 1, by omega, by go_num, by rw [HX.out, beq_eq_false_iff_ne.2 hy], by trivial⟩
                      case measure => simp [intOf]; omega
                · obtain rfl : j = n2 := by omega
                  rw [show l2.take j = l2 by rw [HLE.out, List.take_length]]
                  obtain ⟨ub, hu1, hu2⟩ := HCT.out.up i hiN
                  obtain ⟨cm, hc1, hc2⟩ := HCT.out.cm i hiN
                  rw [HV1.out] at hc2
                  obtain ⟨a1, rfl, c1⟩ := up_get HRX.out hu1
                  obtain ⟨a2, rfl, c2'⟩ := up_get HRY.out hu2
                  obtain ⟨a3, rfl, c3⟩ := com_get HRX.out hc1
                  obtain ⟨a4, rfl, c4⟩ := com_get HRY.out hc2
                  have f1 := (HBI.out.cell (cell_lt c1)).trans c1
                  have f2 := (HBI.out.cell (cell_lt c2')).trans c2'
                  have f3 := (HBI.out.cell (cell_lt c3)).trans c3
                  have f4 := (HBI.out.cell (cell_lt c4)).trans c4
                  have g4 := (HBI.out.cell (cell_lt HG4.out)).trans HG4.out
                  have g5 := (HBI.out.cell (cell_lt HG5.out)).trans HG5.out
                  have k4 := (HBI.out.cell (cell_lt HK4.out)).trans HK4.out
                  have k5 := (HBI.out.cell (cell_lt HK5.out)).trans HK5.out
                  have hN255 := HNN.out
                  clear c1 c2' c3 c4 hu1 hu2 hc1 hc2 hjn hj2
                  generalize l2.contains (i : Int) = inb at f2 f4 ⊢
                  cases inb with
                  | true =>
                    rw [if_pos rfl] at f4
                    cases ub with
                    | true =>
                      replace f2 : wr.cell? (a2.add i) = some (.bool true) := f2
                      go_upto_region 30 with (fail)
                      refine wp_region_q (by kernel_rfl) (by kernel_rfl) ?_
                      repeat (first | go_big_quiet_skip | (go_big_quiet_want; go_big_quiet_op; first | go_big_quiet_on))
                      refine wpQuiet_nil ?_
                      go_wp2_with fail
                      go_roundw
                      case rel => exact ⟨i + 1, by omega, by go_num, HBI.out.drew⟩
                      case measure => simp [intOf]; omega
                    | false =>
                      replace f2 : wr.cell? (a2.add i) = some (.bool false) := f2
                      go_upto_region 30 with (fail)
                      refine wp_region_q (by kernel_rfl) (by kernel_rfl) ?_
                      repeat (first | go_big_quiet_skip | (go_big_quiet_want; go_big_quiet_op; first | go_big_quiet_on))
                      refine wpQuiet_nil ?_
                      go_wp2_with fail
                      go_roundw
                      case rel => exact ⟨i + 1, by omega, by go_num, HBI.out.drew⟩
                      case measure => simp [intOf]; omega
                  | false =>
                    rw [if_neg Bool.false_ne_true] at f4
                    cases ub with
                    | true =>
                      replace f2 : wr.cell? (a2.add i) = some (.bool false) := f2
                      go_upto_region 30 with (fail)
                      refine wp_region_q (by kernel_rfl) (by kernel_rfl) ?_
                      repeat (first | go_big_quiet_skip | (go_big_quiet_want; go_big_quiet_op; first | go_big_quiet_on))
                      refine wpQuiet_nil ?_
                      go_wp2_with fail
                      go_roundw
                      case rel => exact ⟨i + 1, by omega, by go_num, HBI.out.drew⟩
                      case measure => simp [intOf]; omega
                    | false =>
                      replace f2 : wr.cell? (a2.add i) = some (.bool false) := f2
                      go_upto_region 30 with (fail)
                      refine wp_region_q (by kernel_rfl) (by kernel_rfl) ?_
                      repeat (first | go_big_quiet_skip | (go_big_quiet_want; go_big_quiet_op; first | go_big_quiet_on))
                      refine wpQuiet_nil ?_
                      go_wp2_with fail
                      go_roundw
                      case rel => exact ⟨i + 1, by omega, by go_num, HBI.out.drew⟩
                      case measure => simp [intOf]; omega
            · obtain rfl : i = N := by omega
              have k1 := (HBI.out.cell (cell_lt K1.out)).trans K1.out
              have K1i := Lib.hid k1
              clear k1
              go_wp2_with fail
              refine (answers19_any _).mono ?_
              rintro e w11 ⟨rfl, hb11⟩
              have k1' := (hb11.cell (cell_lt K1i.out)).trans K1i.out
              go_wp2_with fail
              go_ret
              rw [← HBE.out]
              exact ⟨rfl, HC10.out.below.trans ((HBI.out.mono HBW.out).trans (hb11.mono (Nat.le_trans HBW.out HBI.out.size)))⟩
end Go.Proofs.Ytlabebapjhhkaaa
