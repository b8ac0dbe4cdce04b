/- The walk of layer 17's law NetFull. Condition: the message is no great one. -/
import Derived.Test.YtoekmgpnmhknoaaLaw17
namespace Go.Proofs.Ytoekmgpnmhknoaa
open Go.RowKit
theorem full_E {its : List (List UInt8)} {s : WS} (h : 4096 ≤ its.length) (hb : s.bad = false) : sendE its s = 8 := by
  unfold sendE; rw [hb]; simp only [Bool.false_eq_true, if_false]; rw [if_pos h]
theorem full_N {its : List (List UInt8)} {s : WS} (h : 4096 ≤ its.length) : sendN its s = its := by
  unfold sendN; rw [if_pos h]; split <;> rfl
theorem full_twice {its : List (List UInt8)} (k : Int) (h : 4096 ≤ its.length) : twiceB its k = false ∧ twiceN its k = its := by
  refine ⟨?_, ?_⟩
  · unfold twiceB sendE
    rw [if_pos h]
    cases (atN its k).2
    · rfl
    · split <;> rfl
  · unfold twiceN
    rw [full_N h]; split <;> rfl
theorem ok_twice {its : List (List UInt8)} {k : Int} {m : MsgV} (hat : atN its k = (m, true)) (hb : (WS.msg ⟨[], false⟩ m).bad = false) (h : its.length < 4096) : twiceB its k = true ∧ twiceN its k = its ++ [(WS.msg ⟨[], false⟩ m).out] := by
  refine ⟨?_, ?_⟩
  · unfold twiceB; rw [hat]; show (true && _) = true; rw [sendE_ok hb h]; rfl
  · unfold twiceN; rw [hat, if_pos rfl]; exact sendN_ok hb h
theorem rep_at {m : MsgV} {out : List UInt8} (hd : decode out = (m, true)) (n : Nat) (k : Int) (h0 : 0 ≤ k) (h1 : k < (n : Int)) : atN (List.replicate n out) k = (m, true) := by
  unfold atN
  rw [if_pos ⟨h0, by simpa using h1⟩, List.getD_eq_getElem?_getD, List.getElem?_eq_getElem (by simp; omega), List.getElem_replicate]
  exact hd
theorem rep_take {m : MsgV} {out : List UInt8} (hd : decode out = (m, true)) (n : Nat) (k : Int) (h0 : 0 ≤ k) (h1 : k < (n : Int)) : takeN (List.replicate n out) k = List.replicate (n - 1) out := by
  unfold takeN
  rw [rep_at hd n k h0 h1, if_pos rfl, List.eraseIdx_replicate, if_pos (by omega)]
set_option maxRecDepth 100000 in
set_option maxHeartbeats 4000000 in
theorem NetFull_any (m : MsgV) (Ah Ad Ap Ax : Option Addr) (ch cd cp cx : Nat) (n : UInt8) (w : World) (hs : m.cost ≤ 67108864) (hr : MsgRd w w.heap.size m Ah Ad Ap Ax) :
    Calls Try.prog 5 #[.agg (msgCells m Ah Ad Ap Ax ch cd cp cx), .int .u8 (n.toNat : Int)] w fun e w' => e = .returned (.bool true) ∧ Below w.heap.size w w' := by
  have hn8 : n.toNat < 256 := n.toNat_lt
  have hn8' : (n.toNat : Int) < 256 := by omega
  generalize hne : (n.toNat : Int) = k at hn8' ⊢
  have hk0 : 0 ≤ k := by omega
  have HK0 := Lib.hid (And.intro hk0 hn8')
  clear hne hn8
  have hb1 : Below w.heap.size w (w.alloc (.cells (msgCells m Ah Ad Ap Ax ch cd cp cx) 31)) := (Below.refl _ _).alloc (Nat.le_refl _) _
  have HM1 := Lib.hid (Blk.new w 31 (msgCells m Ah Ad Ap Ax ch cd cp cx))
  have HR1 := Lib.hid ((hr.below hb1 (Nat.le_refl _)).more hb1.size); have HB1 := Lib.hid hb1
  have HC := Lib.hid (show m.cost ≤ 140737488200000 by omega)
  clear hb1 hr hs
  go_enter Try.func5, Try.ntmps5
  go_upto_region 1 with (fail)
  generalize hQe : w.heap.size = Q at HM1 ⊢
  obtain ⟨w1, hw1⟩ : ∃ w1, w1 = w.alloc (.cells (msgCells m Ah Ad Ap Ax ch cd cp cx) 31) := ⟨_, rfl⟩
  rw [← hw1] at HM1 HR1 HB1 ⊢
  have HQE := Lib.hid hQe
  clear hw1 hQe
  go_wp2_with (refine wpList_load_row rfl 31 (.tmp 2) rfl Q rfl _ _ _ _ HM1.out Try.underlying31 rfl (by kernel_rfl) ?_)
  refine (RefMsg_any w1 m Ah Ad Ap Ax ch cd cp cx HR1.out HC.out).mono ?_
  rintro e w2 ⟨v2, rfl, ⟨A2, c2, rfl, hrd2, _⟩, hb2⟩
  have hde := fun h => decode_enc (m := m) h
  generalize hsm : WS.msg ⟨[], false⟩ m = s at hrd2 hde ⊢
  have HSM := Lib.hid hsm; have HDE := Lib.hid hde
  have HM2 := Lib.hid (HM1.out.below hb2 HM1.out.lt); have HR2 := Lib.hid ((HR1.out.below hb2 (Nat.le_refl _)).more hb2.size); have HB2 := Lib.hid (HB1.out.trans (hb2.mono HB1.out.size))
  clear hb2 hrd2 hsm hde HM1 HR1 HB1
  cases hbad : s.bad
  · by_cases hl : s.out.length ≤ 200
    · have hl' : ¬ (200 : Int) < (s.out.length : Int) := by omega
      have HBAD := Lib.hid hbad; have HDE2 := Lib.hid (HDE.out hbad)
      have HLL := Lib.hid (show s.out.length ≤ 67108864 by omega)
      clear hbad HDE
      go_wp2_with fail
      refine (NNew_G w2 w2.heap.size (Nat.le_refl _)).mono ?_
      rintro e w3 ⟨D, rfl, hn3, hb3⟩
      generalize hBe : w2.heap.size = B at hn3 hb3
      have HN3 := Lib.hid hn3; have HB3 := Lib.hid hb3
      have HM2' := Lib.hid (show Q < B from hBe ▸ HM2.out.lt)
      have HR2' := Lib.hid (show MsgRd w2 B m Ah Ad Ap Ax from hBe ▸ HR2.out)
      have HBW := Lib.hid (show w.heap.size ≤ B ∧ B ≤ w2.heap.size by have := HB2.out.size; omega)
      clear hn3 hb3 hBe HR2
      go_wp2_with fail
      go_loopw [8] (fun q wr => ∃ i : Nat, i ≤ 4096 ∧ q = .int .i64 (i : Int) ∧ NetG wr B D (List.replicate i s.out) ∧ Below B w2 wr) (fun q _ => 4096 - (intOf q).toNat)
      case atStart => exact ⟨0, by omega, rfl, HN3.out, HB3.out⟩
      case round =>
        obtain ⟨i, hi, rfl, hN, hB⟩ := hrel
        have HN := Lib.hid hN; have HB := Lib.hid hB
        have HM := Lib.hid (HM2.out.below hB HM2'.out); have HR := Lib.hid ((HR2'.out.below hB HBW.out.2).more (Nat.le_trans HBW.out.2 hB.size))
        have HBwr := Lib.hid (Nat.le_trans HBW.out.2 hB.size)
        clear hN hB
        by_cases hil : i < 4096
        · have hil' : (i : Int) < 4096 := by omega
          go_wp2_with (refine wpList_load_row rfl 31 (.tmp 2) rfl Q rfl _ _ _ _ HM.out Try.underlying31 rfl (by kernel_rfl) ?_)
          refine (Send_G wr B D (List.replicate i s.out) m Ah Ad Ap Ax ch cd cp cx HN.out HBwr.out HR.out HC.out (by simp; omega)).mono ?_
          rintro e w4 ⟨rfl, hn4, hb4⟩
          rw [HSM.out] at hn4 ⊢
          rw [sendE_ok HBAD.out (by simpa using hil)]
          rw [sendN_ok HBAD.out (by simpa using hil)] at hn4
          have HN4 := Lib.hid (show NetG w4 B D (List.replicate (i + 1) s.out) from by rw [List.replicate_succ']; exact hn4); have HB4 := Lib.hid (HB.out.trans hb4)
          clear hn4 hb4
          go_wp2
          go_roundw
          case rel => exact ⟨i + 1, by omega, by go_num, HN4.out, HB4.out⟩
          case measure => simp [intOf]; omega
        · obtain rfl : i = 4096 := by omega
          have h1 : ∀ k : Int, 0 ≤ k → k < 4096 → atN (List.replicate 4096 s.out) k = (m, true) ∧ takeN (List.replicate 4096 s.out) k = List.replicate 4095 s.out := fun k a b => ⟨rep_at HDE2.out 4096 k a b, rep_take HDE2.out 4096 k a b⟩
          have h2 : (List.replicate 4096 s.out).length = 4096 := List.length_replicate
          have h3 : ∀ b ∈ List.replicate 4096 s.out, b.length ≤ 67108864 := fun b hb => by rw [List.eq_of_mem_replicate hb]; exact HLL.out
          have h4 : atN (List.replicate 4095 s.out) 0 = (m, true) := rep_at HDE2.out 4095 0 (by omega) (by omega)
          have h5 : (List.replicate 4095 s.out).length = 4095 := List.length_replicate
          have h6 : ∀ b ∈ List.replicate 4095 s.out, b.length ≤ 67108864 := fun b hb => by rw [List.eq_of_mem_replicate hb]; exact HLL.out
          generalize List.replicate 4096 s.out = L at HN h1 h2 h3
          generalize List.replicate 4095 s.out = L' at h1 h4 h5 h6
          have H1 := Lib.hid h1; have H2 := Lib.hid h2; have H3 := Lib.hid h3; have H4 := Lib.hid h4; have H5 := Lib.hid h5; have H6 := Lib.hid h6
          clear h1 h2 h3 h4 h5 h6 hil hi
          go_wp2_with (refine wpList_load_row rfl 31 (.tmp 2) rfl Q rfl _ _ _ _ HM.out Try.underlying31 rfl (by kernel_rfl) ?_)
          refine (Send_G wr B D L m Ah Ad Ap Ax ch cd cp cx HN.out HBwr.out HR.out HC.out (Nat.le_of_eq H2.out)).mono ?_
          rintro e w4 ⟨rfl, hn4, hb4⟩
          rw [HSM.out, full_E (Nat.le_of_eq H2.out.symm) HBAD.out]
          rw [full_N (Nat.le_of_eq H2.out.symm)] at hn4
          have HN4 := Lib.hid hn4; have HB4 := Lib.hid (HB.out.trans hb4)
          clear hn4 hb4 HM HR
          go_wp2_with fail
          refine (show Calls Try.prog 13 #[_, .int .i64 k] w4 _ from Twice_G w4 B D L k HN4.out (Nat.le_trans HBW.out.2 HB4.out.size) H3.out (Nat.le_of_eq H2.out)).mono ?_
          rintro e w5 ⟨rfl, hn5, hb5⟩
          rw [(full_twice k (Nat.le_of_eq H2.out.symm)).1]
          rw [(full_twice k (Nat.le_of_eq H2.out.symm)).2] at hn5
          have HN5 := Lib.hid hn5; have HB5 := Lib.hid (HB4.out.trans hb5)
          clear hn5 hb5
          go_wp2_with fail
          refine (Len_G w5 B D L HN5.out).mono ?_
          rintro e w5 ⟨rfl, rfl⟩
          rw [H2.out]
          go_wp2_with fail
          refine (show Calls Try.prog 12 #[_, .int .i64 k] w5 _ from Take_G w5 B D L k HN5.out (Nat.le_trans HBW.out.2 HB5.out.size) H3.out (by rw [H2.out]; decide)).mono ?_
          rintro e w6 ⟨⟨Bh, Bd, Bp, Bx, eh, ed, ep, ex, rfl, _⟩, hn6, hb6⟩
          rw [(H1.out k HK0.out.1 (by have := HK0.out.2; omega)).1]
          rw [(H1.out k HK0.out.1 (by have := HK0.out.2; omega)).2] at hn6
          have hbq : Below w6.heap.size w6 (w6.alloc (.cells (msgCells m Bh Bd Bp Bx eh ed ep ex) 31)) := (Below.refl _ _).alloc (Nat.le_refl _) _
          have HN6 := Lib.hid (hn6.below hbq); have HB6 := Lib.hid ((HB5.out.trans hb6).trans (hbq.mono (Nat.le_trans HBW.out.2 (HB5.out.trans hb6).size)))
          clear hn6 hb6 hbq
          go_upto_region 13 with (fail)
          obtain ⟨w7, hw7⟩ : ∃ w7, w7 = w6.alloc (.cells (msgCells m Bh Bd Bp Bx eh ed ep ex) 31) := ⟨_, rfl⟩
          rw [← hw7] at HN6 HB6 ⊢
          generalize w6.heap.size = Z
          clear hw7
          go_wp2_with fail
          refine (answers17_any w7).mono ?_
          rintro e w8 ⟨rfl, hb8⟩
          have HN8 := Lib.hid (HN6.out.below hb8); have HB8 := Lib.hid (HB6.out.trans (hb8.mono (Nat.le_trans HBW.out.2 HB6.out.size)))
          clear hb8
          go_wp2_with fail
          refine (Twice_G w8 B D L' 0 HN8.out (Nat.le_trans HBW.out.2 HB8.out.size) H6.out (by rw [H5.out]; decide)).mono ?_
          rintro e w9 ⟨rfl, hn9, hb9⟩
          have hok := ok_twice (its := L') (k := 0) H4.out (by rw [HSM.out]; exact HBAD.out) (by rw [H5.out]; decide)
          rw [hok.1]
          rw [hok.2] at hn9
          have h7 : (L' ++ [(WS.msg ⟨[], false⟩ m).out]).length = 4096 := by rw [List.length_append, H5.out]; rfl
          have h8 : ∀ b ∈ L' ++ [(WS.msg ⟨[], false⟩ m).out], b.length ≤ 67108864 := fun b hb => by
            rcases List.mem_append.1 hb with hb | hb
            · exact H6.out b hb
            · rw [List.mem_singleton.1 hb, HSM.out]; exact HLL.out
          generalize L' ++ [(WS.msg ⟨[], false⟩ m).out] = L2 at hn9 h7 h8
          have HN9 := Lib.hid hn9; have HB9 := Lib.hid (HB8.out.trans hb9); have H7 := Lib.hid h7; have H8 := Lib.hid h8
          clear hn9 hb9 hok h7 h8
          go_wp2_with fail
          refine (Twice_G w9 B D L2 0 HN9.out (Nat.le_trans HBW.out.2 HB9.out.size) H8.out (Nat.le_of_eq H7.out)).mono ?_
          rintro e w10 ⟨rfl, hn10, hb10⟩
          rw [(full_twice 0 (Nat.le_of_eq H7.out.symm)).1]
          rw [(full_twice 0 (Nat.le_of_eq H7.out.symm)).2] at hn10
          have HN10 := Lib.hid hn10; have HB10 := Lib.hid (HB9.out.trans hb10)
          clear hn10 hb10
          go_wp2_with fail
          refine (Len_G w10 B D L2 HN10.out).mono ?_
          rintro e w10 ⟨rfl, rfl⟩
          rw [H7.out]
          have HFIN := Lib.hid (HB2.out.trans (HB10.out.mono HBW.out.1))
          go_wp2_with fail
          go_ret
          exact ⟨rfl, HFIN.out⟩
    · have hl' : (200 : Int) < (s.out.length : Int) := by omega
      clear hbad HDE
      go_wp2_with fail
      refine (answers17_any w2).mono ?_
      rintro e w3 ⟨rfl, hb3⟩
      have HB3 := Lib.hid (HB2.out.trans (hb3.mono HB2.out.size))
      clear hb3
      go_wp2
      go_ret
      exact ⟨rfl, HB3.out⟩
  · clear hbad HDE
    go_wp2_with fail
    refine (answers17_any w2).mono ?_
    rintro e w3 ⟨rfl, hb3⟩
    have HB3 := Lib.hid (HB2.out.trans (hb3.mono HB2.out.size))
    clear hb3
    go_wp2
    go_ret
    exact ⟨rfl, HB3.out⟩
end Go.Proofs.Ytoekmgpnmhknoaa
