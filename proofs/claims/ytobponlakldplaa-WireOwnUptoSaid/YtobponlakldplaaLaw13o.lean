/- The walk of layer 13's law WireOwn. Condition: the message is no great one. -/
import Derived.Test.YtobponlakldplaaLaw13r
namespace Go.Proofs.Ytobponlakldplaa
open Go.RowKit
theorem MsgRd.offs {w w' : World} {F : Nat → Prop} {B : Nat} {m : MsgV} {Ah Ad Ap Ax : Option Addr} (h : MsgRd w B m Ah Ad Ap Ax) (hk : Keeps F w w') (hB : B ≤ w.heap.size)
    (hoff : ∀ ad, (Ah = some ad ∨ Ad = some ad ∨ Ap = some ad ∨ Ax = some ad) → ¬ F ad.block) : MsgRd w' B m Ah Ad Ap Ax :=
  ⟨h.heads.off hk hB (fun ad e _ => hoff ad (Or.inl e)), reads_off2 h.dealers hk hB (fun ad e _ => hoff ad (Or.inr (Or.inl e))), reads_off2 h.parts hk hB (fun ad e _ => hoff ad (Or.inr (Or.inr (Or.inl e)))), rd_off h.data hk hB (fun ad e _ => hoff ad (Or.inr (Or.inr (Or.inr e))))⟩
/-- Bytes at the front of a block, of which the first i are done with. -/
def Rest (out : List UInt8) (i : Nat) (cs : Array Value) : Prop := out.length ≤ cs.size ∧ ∀ k, i ≤ k → k < out.length → cs[k]? = some (.int .u8 ((out.getD k 0).toNat : Int))
theorem Rest.set_ {out : List UInt8} {i : Nat} {cs : Array Value} (h : Rest out i cs) (v : Value) : Rest out (i + 1) (cs.setIfInBounds i v) :=
  ⟨by simpa using h.1, fun k h1 h2 => by rw [Array.getElem?_setIfInBounds_ne (by omega)]; exact h.2 k (by omega) h2⟩
set_option maxRecDepth 100000 in
set_option maxHeartbeats 4000000 in
theorem WireOwn_any (m : MsgV) (Ah Ad Ap Ax : Option Addr) (ch cd cp cx : Nat) (w : World) (hs : m.cost ≤ 67108864) (hr : MsgRd w w.heap.size m Ah Ad Ap Ax) :
    Calls Try.prog 11 #[.agg (msgCells m Ah Ad Ap Ax ch cd cp cx)] w fun e w' => e = .returned (.bool true) ∧ Below w.heap.size w w' := by
  have hln : m.heads.length ≤ 9223372036854775807 := by have := costH_ge m.heads; unfold MsgV.cost at hs; omega
  have hlen := msg_len m
  have hb1 : Below w.heap.size w (w.alloc (.cells (msgCells m Ah Ad Ap Ax ch cd cp cx) 51)) := (Below.refl _ _).alloc (Nat.le_refl _) _
  have hr1 := (hr.below hb1 (Nat.le_refl _)).more hb1.size
  have HB1 := Lib.hid hb1; have HR1 := Lib.hid hr1
  clear hb1 hr1 hr
  go_enter Try.func11, Try.ntmps11
  go_wp2_with fail
  refine (Encode_any _ m Ah Ad Ap Ax ch cd cp cx HR1.out (by omega) hln).mono ?_
  rintro e w2 ⟨v1, rfl, hf1, hb2, hwb⟩
  have hg1 := HB1.out.size
  have hb02 := HB1.out.trans (hb2.mono HB1.out.size)
  have h60 := fun h => (msg_enc (m := m) h).2 ▸ (enc_lens m).2.2.2
  have hde := fun h => decode_enc (m := m) h
  generalize hsm : WS.msg ⟨[], false⟩ m = s at hf1 hlen h60 hde ⊢
  obtain ⟨A1, c1, rfl, hrd1, hfr1⟩ := hf1
  cases hbad : s.bad
  · have h60 := h60 hbad
    have hde := hde hbad
    rw [hbad] at hrd1 hwb
    simp only [Bool.false_eq_true, if_false, Bool.not_false] at hrd1 hwb ⊢
    have HSM := Lib.hid (show (WS.msg ⟨[], false⟩ m).bad = false ∧ (WS.msg ⟨[], false⟩ m).out = s.out from ⟨by rw [hsm]; exact hbad, by rw [hsm]⟩)
    generalize s.out = out at hrd1 hwb h60 hde hlen HSM ⊢
    clear hsm hbad
    obtain ⟨ad, hA, had, _⟩ := hrd1.at_ (k := 0) (by omega)
    obtain ⟨hc1, hc2, hbk⟩ := hwb A1 out.length c1 rfl
    obtain ⟨g, cur, rfl, hB, hcs⟩ := hbk ad hA
    subst hA
    have hgw : w.heap.size ≤ g := by have := hfr1 _ rfl; simp only at this; omega
    have hR0 : Rest out 0 cur := ⟨hcs, fun k _ hk => by
      obtain ⟨ad, e, _, hc⟩ := hrd1.at_ hk
      cases e
      have ha : (⟨g, 0, none⟩ : Addr).add k = ⟨g, k, none⟩ := by unfold Addr.add; split <;> simp_all
      rw [ha, hB.cell] at hc
      exact hc⟩
    have hgl := hB.lt
    have HR0 := Lib.hid hR0; have HRD1 := Lib.hid hrd1; have HB2 := Lib.hid hb02; have HDE := Lib.hid hde; have HBK := Lib.hid hB; have HG := Lib.hid (And.intro hgw hgl); have HL := Lib.hid (And.intro hlen h60)
    clear hR0 hrd1 hb02 hde hB hgw hgl hlen h60 hb2 hwb hfr1 had hcs hbk hc1 hc2 hg1
    go_wp2_with (refine wpList_str rfl 26 9 5 (.tmp 19) rfl (some ⟨g, 0, none⟩) _ c1 out rfl Try.underlying26 Try.underlying5 Try.underlying9 _ HRD1.out ?_)
    refine (Decode_any w2 (some ⟨g, 0, none⟩) out.length c1 out (by have := HL.out; omega) HRD1.out).mono ?_
    rintro e w3 ⟨Bh, Bd, Bp, Bx, eh, ed, ep, ex, rfl, hm3, hfr3, hb3⟩
    rw [HDE.out] at hm3 ⊢
    dsimp only at hm3 ⊢
    have hbq : Below w3.heap.size w3 (w3.alloc (.cells (msgCells m Bh Bd Bp Bx eh ed ep ex) 51)) := (Below.refl _ _).alloc (Nat.le_refl _) _
    have hm4 := (hm3.below hbq (Nat.le_refl _)).more hbq.size
    have hb04 := (HB2.out.trans (hb3.mono HB2.out.size)).trans (hbq.mono (Nat.le_trans HB2.out.size hb3.size))
    have hM4 := Blk.new w3 51 (msgCells m Bh Bd Bp Bx eh ed ep ex)
    have hB4 := (HBK.out.below hb3 HG.out.2).below hbq (Nat.lt_of_lt_of_le HG.out.2 hb3.size)
    have hrd4 := (HRD1.out.below hb3).below (hbq.mono hb3.size)
    have hfr4 : ∀ ad, (Bh = some ad ∨ Bd = some ad ∨ Bp = some ad ∨ Bx = some ad) → ¬ ad.block = g := fun ad e => by have := hfr3 ad e; have := HG.out.2; omega
    have hgN : ¬ w3.heap.size = g := by have := HG.out.2; have := hb3.size; omega
    have hd : decide (out = out) = true := by simp
    have HM4 := Lib.hid hm4; have HB4 := Lib.hid hb04; have HMB := Lib.hid hM4; have HBK4 := Lib.hid hB4; have HRD4 := Lib.hid hrd4; have HFR := Lib.hid hfr4; have HGN := Lib.hid hgN
    clear hbq hm4 hb04 hM4 hB4 hrd4 hfr4 hgN hm3 hfr3 hb3 HRD1 HB2 HDE HBK
    go_wp2_with (first | (refine wpList_str rfl 26 9 5 (.tmp 26) rfl (some ⟨g, 0, none⟩) _ c1 out rfl Try.underlying26 Try.underlying5 Try.underlying9 _ (HRD4.out) ?_) | (refine wpList_neq rfl 9 9 (.tmp 27) (.tmp 28) rfl out out rfl rfl ?_; rw [hd]))
    generalize hw4 : w3.alloc (.cells (msgCells m Bh Bd Bp Bx eh ed ep ex) 51) = w4 at *
    generalize w3.heap.size = N at *
    clear hw4
    go_loopw [8] (fun q wr => ∃ (i : Nat) (cs : Array Value), i ≤ out.length ∧ q = .int .i64 (i : Int) ∧ Blk wr g 5 cs ∧ Rest out i cs ∧ Keeps (fun k => k = g) w4 wr) (fun q _ => out.length - (intOf q).toNat)
    case atStart => exact ⟨0, cur, by omega, rfl, HBK4.out, HR0.out, Keeps.refl _ _⟩
    case round =>
      obtain ⟨i, cs, hi, rfl, hB, hR, hk⟩ := hrel
      have hol : out.length ≤ 67108864 := by have := HL.out; omega
      by_cases hil : i < out.length
      · have hci : wr.cell? ⟨g, i, none⟩ = some (.int .u8 ((out.getD i 0).toNat : Int)) := (hB.cell i).trans (hR.2 i (Nat.le_refl _) hil)
        have hfz := hB.frozen i
        have HB := Lib.hid hB; have HR := Lib.hid hR; have HK := Lib.hid hk
        clear hB hR hk
        go_wp2
        go_roundw
        case rel => exact ⟨i + 1, _, by omega, by go_num, HB.out.set_ i _, HR.out.set_ _, HK.out.setCell (p := ⟨g, i, none⟩) rfl _⟩
        case measure => simp [intOf]; omega
      · obtain rfl : i = out.length := by omega
        have HMB' := Lib.hid (HMB.out.keeps hk HGN.out); have HM' := Lib.hid ((HM4.out.offs hk (Nat.le_refl _) HFR.out).more hk.size)
        have HBe := Lib.hid (HB4.out.trans (hk.below (fun k e => e ▸ HG.out.1) HB4.out.size))
        clear hk hB hR hil
        go_wp2_with (refine wpList_load_row rfl 51 (.tmp 6) rfl N rfl _ _ _ _ HMB'.out Try.underlying51 rfl (by kernel_rfl) ?_)
        refine (RefMsg_any wr m Bh Bd Bp Bx eh ed ep ex HM'.out (by omega)).mono ?_
        rintro e w6 ⟨v6, rfl, ⟨A6, c6, rfl, hrd6, _⟩, hb6⟩
        rw [HSM.out.1, HSM.out.2]
        rw [HSM.out.2] at hrd6
        have HRD6 := Lib.hid hrd6; have HB6 := Lib.hid (HBe.out.trans (hb6.mono HBe.out.size))
        clear hrd6 hb6
        go_wp2_with fail
        refine (answers13_any w6).mono ?_
        rintro e w7 ⟨rfl, hb7⟩
        have HRD7 := Lib.hid (HRD6.out.below hb7); have HB7 := Lib.hid (HB6.out.trans (hb7.mono HB6.out.size))
        clear hb7
        go_wp2_with (first | (refine wpList_str rfl 26 9 5 (.tmp 57) rfl A6 _ c6 out rfl Try.underlying26 Try.underlying5 Try.underlying9 _ HRD7.out ?_) | (refine wpList_eql rfl _ _ _ _ rfl out out rfl rfl ?_))
        go_ret
        exact ⟨rfl, HB7.out⟩
  · have HB2 := Lib.hid hb02
    clear hb02 hb2 hwb hde h60 hlen hsm hrd1 hfr1 hg1
    go_wp2_with fail
    refine (answers13_any w2).mono ?_
    rintro e w3 ⟨rfl, hb3⟩
    have HB3 := Lib.hid (HB2.out.trans (hb3.mono HB2.out.size))
    clear hb3
    go_wp2
    go_ret
    exact ⟨rfl, HB3.out⟩
end Go.Proofs.Ytobponlakldplaa
