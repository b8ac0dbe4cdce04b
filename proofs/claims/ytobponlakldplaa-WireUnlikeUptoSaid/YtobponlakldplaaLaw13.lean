/- The walks of the laws' own answers, layer 13, and of the document's Same. No conditions. -/
import Derived.Test.YtobponlakldplaaWire6
import Derived.Test.YtobponlakldplaaWire3
namespace Go.Proofs.Ytobponlakldplaa
open Go.RowKit
theorem decode_lt {b : List UInt8} (h : b.length < 60) : decode b = (MsgV.zero, false) := by
  cases hd : (decode b).2
  · rw [← decode_no hd, ← hd]
  · obtain ⟨h1, h2⟩ := decode_ok hd
    obtain ⟨_, e1⟩ := msg_enc h1
    have := (enc_lens (decode b).1).2.2.2
    rw [← e1, h2] at this
    omega
def msg39 : MsgV := { MsgV.zero with kind := 3, data := [9] }
theorem msg39_bad : (WS.msg ⟨[], false⟩ msg39).bad = false := by rfl
theorem msg39_len : (WS.msg ⟨[], false⟩ msg39).out.length = 61 := by rfl
theorem MsgRd.nil_ (w : World) (B : Nat) {m : MsgV} (Ah Ad Ap Ax : Option Addr) (h1 : m.heads = []) (h2 : m.dealers = []) (h3 : m.parts = []) (h4 : Rd w B Ax m.data.length m.data) : MsgRd w B m Ah Ad Ap Ax :=
  ⟨fun h => by rw [h1] at h; simp at h, ⟨by simp, fun h => by rw [h2] at h; simp at h⟩, ⟨by simp, fun h => by rw [h3] at h; simp at h⟩, h4⟩
set_option maxRecDepth 100000 in
set_option maxHeartbeats 2000000 in
theorem answers13_any (w : World) : Calls Try.prog 27 #[] w fun e w' => e = .returned (.bool true) ∧ Below w.heap.size w w' := by
  go_enter Try.func27, Try.ntmps27
  go_wp2_with fail
  have hb1 : Below w.heap.size w (w.alloc (.cells #[.int .u8 9] 5)) := (Below.refl _ _).alloc (Nat.le_refl _) _
  have hr1 : Rd (w.alloc (.cells #[.int .u8 9] 5)) (w.alloc (.cells #[.int .u8 9] 5)).heap.size (some ⟨w.heap.size, 0, none⟩) 1 [9] := (Rd.new_ w [9] _ rfl 1 rfl).more (by simp)
  refine (Encode_any _ msg39 none none none (some ⟨w.heap.size, 0, none⟩) 0 0 0 1 (MsgRd.nil_ _ _ _ _ _ _ rfl rfl rfl hr1) (by decide) (by decide)).mono ?_
  rintro e w1 ⟨v1, rfl, hf1, hb2, _⟩
  rw [msg39_bad] at hf1 ⊢
  simp only [Bool.false_eq_true, if_false] at hf1
  have hlen := msg39_len
  have hdec := decode_enc msg39_bad
  generalize (WS.msg ⟨[], false⟩ msg39).out = out at hf1 hlen hdec
  obtain ⟨A1, c1, rfl, hrd, _⟩ := hf1
  have hb01 := hb1.trans (hb2.mono hb1.size)
  have HLEN := Lib.hid hlen; have HDEC := Lib.hid hdec; have HB := Lib.hid hb01
  clear hlen hdec hb01 hb1 hb2 hr1
  go_wp2_with fail
  refine (Decode_any w1 A1 _ c1 out (by rw [HLEN.out]; omega) hrd).mono ?_
  rintro e w2 ⟨Ah, Ad, Ap, Ax, ch, cd, cp, cx, rfl, hm2, _, hb2⟩
  rw [HDEC.out] at hm2 ⊢
  have hb12 := HB.out.trans (hb2.mono HB.out.size)
  have hx2 := hm2.data
  have HB2 := Lib.hid hb12; have HX2 := Lib.hid hx2
  clear hm2 hb2 hb12 hrd hx2
  have hbx := Blk.new w2 51 (msgCells msg39 Ah Ad Ap Ax ch cd cp cx)
  have hbb : Below w2.heap.size w2 (w2.alloc (.cells (msgCells msg39 Ah Ad Ap Ax ch cd cp cx) 51)) := (Below.refl _ _).alloc (Nat.le_refl _) _
  have HBX := Lib.hid hbx; have HBBX := Lib.hid hbb
  clear hbx hbb
  go_wp2_with fail
  obtain ⟨q, hq⟩ : ∃ q, q = w2.heap.size := ⟨_, rfl⟩
  rw [← hq] at HBX ⊢
  have HQ := Lib.hid hq; clear hq
  refine (Decode_any _ none 0 0 [] (by omega) Rd.nil_).mono ?_
  rintro e w4 ⟨Bh, Bd, Bp, Bx, eh, ed, ep, ex, rfl, _, _, hb4⟩
  rw [decode_lt (b := []) (by simp)] at *
  have hbx4 := HBX.out.below hb4 (by have := HQ.out; simp; omega)
  have c0 : ∀ o, (w4.alloc o).cell? ⟨q, 0, none⟩ = some (.int .i64 msg39.kind) := fun o => ((hbx4.alloc o).cell 0).trans rfl
  have c15 : ∀ o, (w4.alloc o).cell? ⟨q, 15, none⟩ = some (.slice Ax msg39.data.length cx) := fun o => ((hbx4.alloc o).cell 15).trans rfl
  have hb24 := HBBX.out.trans (hb4.mono HBBX.out.size)
  have hrx4 : Rd w4 w2.heap.size Ax msg39.data.length msg39.data := HX2.out.below hb24
  have hkind : (msg39.kind == 3) = true := rfl
  have hdat : decide (msg39.data = [9]) = true := rfl
  have hl61 : ((out.length : Int) == 61) = true := by rw [HLEN.out]; rfl
  have HRX := Lib.hid (fun o => hrx4.alloc (o := o) (by have := hb24.size; omega)); have HB4 := Lib.hid (HB2.out.trans (hb24.mono HB2.out.size))
  clear hbx4 hrx4 hb24 hb4
  go_wp2_with (first | (refine wpList_str rfl 26 9 5 (.tmp 38) rfl Ax _ cx msg39.data rfl Try.underlying26 Try.underlying5 Try.underlying9 _ (HRX.out _) ?_) | (refine wpList_eql rfl _ _ _ _ rfl msg39.data [9] rfl rfl ?_))
  go_ret
  exact ⟨rfl, HB4.out.alloc HB4.out.size _⟩
theorem Same_no (w : World) (A1 A2 : Option Addr) (n1 c1 n2 c2 : Nat) : Calls Try.prog 26 #[.slice A1 n1 c1, .bool false, .slice A2 n2 c2, .bool false] w fun e w' => e = .returned (.bool true) ∧ w' = w := by
  go_enter Try.func26, Try.ntmps26
  go_wp2
  go_ret
  exact ⟨rfl, rfl⟩
theorem Same_yes (w : World) (A1 A2 : Option Addr) (n1 c1 n2 c2 : Nat) (l : List UInt8) (h1 : Rd w w.heap.size A1 n1 l) (h2 : Rd w w.heap.size A2 n2 l) : Calls Try.prog 26 #[.slice A1 n1 c1, .bool true, .slice A2 n2 c2, .bool true] w fun e w' => e = .returned (.bool true) ∧ w' = w := by
  have H1 := Lib.hid h1; have H2 := Lib.hid h2
  have hd : decide (l = l) = true := by simp
  clear h1 h2
  go_enter Try.func26, Try.ntmps26
  go_wp2_with (first | (refine wpList_str rfl 26 9 5 (.tmp 16) rfl A1 n1 c1 l rfl Try.underlying26 Try.underlying5 Try.underlying9 _ H1.out ?_) | (refine wpList_str rfl 26 9 5 (.tmp 18) rfl A2 n2 c2 l rfl Try.underlying26 Try.underlying5 Try.underlying9 _ H2.out ?_) | (refine wpList_eql rfl _ _ _ _ rfl l l rfl rfl ?_))
  go_ret
  exact ⟨rfl, rfl⟩
theorem msg_len (m : MsgV) : (WS.msg ⟨[], false⟩ m).out.length ≤ m.cost := by
  unfold WS.msg MsgV.cost
  have h1 := ints_len [m.kind, m.from_, m.to_, m.session, m.decided, m.commit, m.epoch] ⟨[], false⟩
  generalize (⟨[], false⟩ : WS).ints [m.kind, m.from_, m.to_, m.session, m.decided, m.commit, m.epoch] = s1 at h1 ⊢
  have h2 := heads_len2 s1 m.heads
  generalize s1.heads m.heads = s2 at h2 ⊢
  have h3 := bytes_len s2 m.id
  generalize s2.bytes m.id = s3 at h3 ⊢
  have h4 := ints_len [m.size, m.sort, m.target] s3
  generalize s3.ints [m.size, m.sort, m.target] = s4 at h4 ⊢
  have h5 := list_len s4 m.dealers
  generalize s4.list m.dealers = s5 at h5 ⊢
  have h6 := list_len s5 m.parts
  generalize s5.list m.parts = s6 at h6 ⊢
  have h7 := int_len s6 m.code
  generalize s6.int m.code = s7 at h7 ⊢
  have h8 := bytes_len s7 m.data
  simp only [List.length_cons, List.length_nil] at h1 h4
  omega
end Go.Proofs.Ytobponlakldplaa
