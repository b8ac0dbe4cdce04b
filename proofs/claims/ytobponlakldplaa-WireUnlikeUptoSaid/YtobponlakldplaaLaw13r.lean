/- The walk of layer 13's law WireReads. Condition: the bytes are no great number. -/
import Derived.Test.YtobponlakldplaaLaw13
namespace Go.Proofs.Ytobponlakldplaa
open Go.RowKit
theorem eH_len (l : List HeadV) : (l.flatMap eH).length = costH l := by
  induction l with
  | nil => rfl
  | cons x r ih => rw [List.flatMap_cons, List.length_append, ih]; simp only [eH, List.length_append, eB_len, eI_len, costH]; omega
theorem eI_lens (l : List Int) : (l.flatMap eI).length = 4 * l.length := by
  induction l with
  | nil => rfl
  | cons x r ih => rw [List.flatMap_cons, List.length_append, ih, eI_len, List.length_cons]; omega
theorem enc_cost (m : MsgV) : m.enc.length = m.cost := by
  unfold MsgV.enc MsgV.cost
  simp only [List.length_append, eI_len, eB_len, eI_lens, eH_len, List.length_cons, List.length_nil]
  omega
theorem decode_cost {b : List UInt8} : (decode b).1.cost ≤ 60 + b.length := by
  cases h : (decode b).2
  · rw [decode_no h]; show 60 ≤ _; omega
  · obtain ⟨h1, h2⟩ := decode_ok h
    rw [← enc_cost, ← (msg_enc h1).2, h2]; omega
set_option maxRecDepth 100000 in
set_option maxHeartbeats 4000000 in
theorem WireReads_any (A : Option Addr) (n c : Nat) (w : World) (b : List UInt8) (hn : n ≤ 1048576) (hr : Rd w w.heap.size A n b) :
    Calls Try.prog 8 #[.slice A n c] w fun e w' => e = .returned (.bool true) ∧ Below w.heap.size w w' := by
  have hbl := Lib.hid hr.len
  have HR := Lib.hid hr
  clear hr
  go_enter Try.func8, Try.ntmps8
  go_wp2_with fail
  refine (Decode_any w A n c b (by omega) HR.out).mono ?_
  rintro e w1 ⟨Bh, Bd, Bp, Bx, eh, ed, ep, ex, rfl, hm1, _, hb1⟩
  have hok1 := fun h => decode_ok (b := b) h
  have hno1 := fun h => decode_no (b := b) h
  have hcost := Lib.hid (decode_cost (b := b))
  generalize (decode b).1 = m at hm1 hok1 hno1 hcost ⊢
  generalize (decode b).2 = ok at hok1 hno1 ⊢
  have HOK := Lib.hid hok1; have HNO := Lib.hid hno1
  clear hok1 hno1
  have hbq : Below w1.heap.size w1 (w1.alloc (.cells (msgCells m Bh Bd Bp Bx eh ed ep ex) 51)) := (Below.refl _ _).alloc (Nat.le_refl _) _
  have hm2 := (hm1.below hbq (Nat.le_refl _)).more hbq.size
  have hb2 := hb1.trans (hbq.mono hb1.size)
  have hrb := (HR.out.below hb2)
  have HM2 := Lib.hid hm2; have HB2 := Lib.hid hb2; have HRB := Lib.hid (hrb.more hb2.size); 
  clear hm1 hbq hm2 hb1 hb2 hrb
  go_wp2_with fail
  refine (RefMsg_any _ m Bh Bd Bp Bx eh ed ep ex HM2.out (by have := hbl.out; have := hcost.out; omega)).mono ?_
  rintro e w3 ⟨v3, rfl, ⟨A3, c3, rfl, hrd3, _⟩, hb3⟩
  have hb03 := HB2.out.trans (hb3.mono HB2.out.size)
  have hrb3 := (HRB.out.below hb3).more hb3.size
  have HRD3 := Lib.hid hrd3; have HB3 := Lib.hid hb03; have HRB3 := Lib.hid hrb3
  clear hrd3 hb3 hb03 hrb3
  cases ok
  · obtain rfl := HNO.out rfl
    clear HOK HNO hcost
    go_wp2_with fail
    refine (RefMsg_any w3 MsgV.zero none none none none 0 0 0 0 (MsgRd.nil_ _ _ _ _ _ _ rfl rfl rfl Rd.nil_) (by decide)).mono ?_
    rintro e w4 ⟨v4, rfl, ⟨A4, c4, rfl, hrd4, _⟩, hb4⟩
    generalize WS.msg ⟨[], false⟩ MsgV.zero = s at *
    have hrd34 := (HRD3.out.below hb4).more hb4.size
    have HRD4 := Lib.hid hrd4; have HRD34 := Lib.hid hrd34; have HB4 := Lib.hid (HB3.out.trans (hb4.mono HB3.out.size))
    clear hrd4 hrd34 hb4
    go_wp2_with fail
    refine (answers13_any w4).mono ?_
    rintro e w5 ⟨rfl, hb5⟩
    have H1 := Lib.hid (HRD34.out.below hb5); have H2 := Lib.hid (HRD4.out.below hb5); have HB5 := Lib.hid (HB4.out.trans (hb5.mono HB4.out.size))
    generalize s.out = out at *
    have hd : decide (out = out) = true := by simp
    clear hb5
    go_wp2_with (first | (refine wpList_str rfl 26 9 5 (.tmp 28) rfl A3 _ c3 out rfl Try.underlying26 Try.underlying5 Try.underlying9 _ H1.out ?_) | (refine wpList_str rfl 26 9 5 (.tmp 30) rfl A4 _ c4 out rfl Try.underlying26 Try.underlying5 Try.underlying9 _ H2.out ?_) | (refine wpList_eql rfl _ _ _ _ rfl out out rfl rfl ?_))
    go_ret
    exact ⟨rfl, HB5.out⟩
  · obtain ⟨hbad, hout⟩ := HOK.out rfl
    rw [hbad]
    have hrd := HRD3.out
    rw [hout] at hrd ⊢
    have HRDB := Lib.hid hrd
    clear HOK HNO hcost hrd hbad hout HRD3
    go_wp2_with fail
    refine (answers13_any w3).mono ?_
    rintro e w5 ⟨rfl, hb5⟩
    have H1 := Lib.hid (HRDB.out.below hb5); have H2 := Lib.hid (HRB3.out.below hb5); have HB5 := Lib.hid (HB3.out.trans (hb5.mono HB3.out.size))
    have hd : decide (b = b) = true := by simp
    clear hb5
    go_wp2_with (first | (refine wpList_str rfl 26 9 5 (.tmp 39) rfl A3 _ c3 b rfl Try.underlying26 Try.underlying5 Try.underlying9 _ H1.out ?_) | (refine wpList_str rfl 26 9 5 (.tmp 41) rfl A n c b rfl Try.underlying26 Try.underlying5 Try.underlying9 _ H2.out ?_) | (refine wpList_eql rfl _ _ _ _ rfl b b rfl rfl ?_))
    go_ret
    exact ⟨rfl, HB5.out⟩
end Go.Proofs.Ytobponlakldplaa
