/- The walk of layer 13's law WireShort. Condition: the message is no great one. -/
import Derived.Test.YtobponlakldplaaLaw13r
namespace Go.Proofs.Ytobponlakldplaa
open Go.RowKit
theorem wpList_slice_h {P : Program} {ops : Array Oper} {Q : Exit → Act → World → Prop} {rest : List Oper} {o : Oper} {a : Act} {w : World} (hw : Region.wanted o (yielded ops a.tmps) = true) (ty : TypeId) (x y : Operand) (ho : o.op = .slice ty x none (some y) none) (xv v : Value) (hi : Int) (hx : a.eval x = xv) (hy : a.eval y = .int .i64 hi)
    (hs : (Instr.sliceAt ty xv none (some (.int .i64 hi)) none).run P w = .ok v w) (h : wpList P ops Q rest (a.put o.dst v) w) : wpList P ops Q (o :: rest) a w := by
  have hq : o.quiet P a (fun W => W = w) (fun a' => a' = a.put o.dst v) := by
    refine ⟨_, fun W hW => ?_, rfl⟩
    unfold Oper.quietAt execOp
    subst hW
    simp only [ho, hx, hy, Option.map_some, Option.map_none, Sem.run_bind, hs, Result.andThen_ok, Sem.run_pure, Oper.quietUpon, and_self]
  exact wpList_quiet hw hq (fun f args w' => no_enter a.eval o (by rw [ho]; rfl) w f args w') (fun a' e => e ▸ h)
theorem run_front (W : World) (A : Option Addr) (L c k : Nat) (hk : k ≤ c) (hi : Int) (hhi : hi = (k : Int)) :
    (Instr.sliceAt 26 (.slice A L c) none (some (.int .i64 hi)) none).run Try.prog W = .ok (.slice A k c) W := by
  have e : ∀ W, (sizeOf (Try.prog.elem 26)).run Try.prog W = .ok 1 W := fun _ => by kernel_rfl
  rw [run_sliceAt_slice W _ _ _ _ _ (by kernel_rfl), run_slice_h W 26 _ _ _ (by kernel_rfl) .i64 hi (by omega) (by omega), e W, hhi]
  simp [sliced, Result.andThen]
  intro _
  cases A with
  | none => rfl
  | some a => exact congrArg some (Addr.add_zero' a)
set_option maxRecDepth 100000 in
set_option maxHeartbeats 4000000 in
theorem WireShort_any (m : MsgV) (Ah Ad Ap Ax : Option Addr) (ch cd cp cx : Nat) (x y : UInt8) (w : World) (hs : m.cost ≤ 67108000) (hr : MsgRd w w.heap.size m Ah Ad Ap Ax) :
    Calls Try.prog 9 #[.agg (msgCells m Ah Ad Ap Ax ch cd cp cx), .int .u8 (x.toNat : Int), .int .u8 (y.toNat : Int)] w fun e w' => e = .returned (.bool true) ∧ Below w.heap.size w w' := by
  have hln : m.heads.length ≤ 9223372036854775807 := by have := costH_ge m.heads; unfold MsgV.cost at hs; omega
  have hlen := msg_len m
  have hb1 : Below w.heap.size w (w.alloc (.cells (msgCells m Ah Ad Ap Ax ch cd cp cx) 51)) := (Below.refl _ _).alloc (Nat.le_refl _) _
  have hr1 := (hr.below hb1 (Nat.le_refl _)).more hb1.size
  have HB1 := Lib.hid hb1; have HR1 := Lib.hid hr1
  have hxl := x.toNat_lt
  clear hb1 hr1 hr
  go_enter Try.func9, Try.ntmps9
  go_wp2_with fail
  refine (Encode_any _ m Ah Ad Ap Ax ch cd cp cx HR1.out (by omega) hln).mono ?_
  rintro e w2 ⟨v1, rfl, hf1, hb2, hwb⟩
  have hb02 := HB1.out.trans (hb2.mono HB1.out.size)
  have h60 := fun h => (msg_enc (m := m) h).2 ▸ (enc_lens m).2.2.2
  have hsh := fun h => decode_short (m := m) h
  have hlo := fun h => decode_long (m := m) h
  generalize WS.msg ⟨[], false⟩ m = s at hf1 hlen h60 hsh hlo ⊢
  obtain ⟨A1, c1, rfl, hrd1, _⟩ := hf1
  cases hbad : s.bad
  · have h60 := h60 hbad
    have hsh := hsh hbad
    have hlo := hlo hbad y
    rw [hbad] at hrd1 hwb
    simp only [Bool.false_eq_true, if_false, Bool.not_false] at hrd1 hwb ⊢
    generalize s.out = out at hrd1 hwb h60 hsh hlo hlen ⊢
    obtain ⟨hc1, hc2, _⟩ := hwb A1 out.length c1 rfl
    have h60' : ((out.length : Int) < 60) = False := eq_false (by omega)
    obtain ⟨k, hk⟩ : ∃ k : Nat, (k : Int) = (out.length : Int) - 1 - (x.toNat : Int) % 60 := ⟨((out.length : Int) - 1 - (x.toNat : Int) % 60).toNat, by omega⟩
    have hkl : k < out.length := by omega
    have hsl := fun W => run_front W A1 out.length c1 k (by omega) _ hk.symm
    have HSL := Lib.hid hsl; have HRD1 := Lib.hid hrd1; have HB2 := Lib.hid hb02; have HSH := Lib.hid (hsh k hkl); have HLO := Lib.hid hlo; have HRK := Lib.hid (hrd1.front (k := k) (by omega))
    clear hsl hrd1 hb02 hsh hlo hb2 hbad hk hwb
    go_wp2_with (refine wpList_slice_h rfl 26 (.tmp 31) (.tmp 38) rfl _ _ _ rfl rfl (HSL.out _) ?_)
    refine (Decode_any _ A1 k c1 (out.take k) (by omega) HRK.out).mono ?_
    rintro e w3 ⟨Bh, Bd, Bp, Bx, eh, ed, ep, ex, rfl, _, _, hb3⟩
    rw [HSH.out]
    generalize (decode (out.take k)).1 = m2
    have hbq : Below w3.heap.size w3 (w3.alloc (.cells (msgCells m2 Bh Bd Bp Bx eh ed ep ex) 51)) := (Below.refl _ _).alloc (Nat.le_refl _) _
    have hb03 := HB2.out.trans (hb3.mono HB2.out.size)
    have hb04 := hb03.trans (hbq.mono hb03.size)
    have hrd4 := ((HRD1.out.below hb3).below (hbq.mono hb3.size)).more (Nat.le_trans hb3.size hbq.size)
    have HB4 := Lib.hid hb04; have HRD4 := Lib.hid hrd4
    clear hbq hb03 hb04 hrd4 hb3 HSL HRD1 HB2 HSH HRK hkl
    have hown0 : Own ((w3.alloc (.cells (msgCells m2 Bh Bd Bp Bx eh ed ep ex) 51)).alloc (.cells #[] 5)) (w3.heap.size + 1) (.slice (some ⟨w3.heap.size + 1, 0, none⟩) 0 0) [] := by
      have := Own.new_ (w3.alloc (.cells (msgCells m2 Bh Bd Bp Bx eh ed ep ex) 51)) _ (Nat.le_refl _) [] (by simp) #[] rfl
      simpa using this
    have HOWN0 := Lib.hid hown0
    clear hown0
    go_wp2_with (first
      | (at_builtin; refine app_bytes rfl (.tmp 44) (.tmp 45) rfl (w3.heap.size + 1) (.slice (some ⟨w3.heap.size + 1, 0, none⟩) 0 0) [] rfl HOWN0.out _ A1 out.length c1 out rfl (HRD4.out.alloc (Nat.le_refl _) _) (by simp only [List.length_nil]; omega) (by simp) ?_; intro v1 w5 hown1 hg1 _)
      | (at_builtin; refine app_bytes rfl (.tmp 46) (.tmp 48) rfl (w3.heap.size + 1) v1 _ rfl (hown1.alloc _) (w5.heap.size + 1) _ 1 1 [y] rfl (Rd.new_ w5 [y] _ rfl 1 rfl) (by simp; omega) (by have := hg1.size; simp at this ⊢; omega) ?_; intro v2 w6 hown2 hg2 _)
      | fail)
    have hb5 : Below (w3.heap.size + 1) (w3.alloc (.cells (msgCells m2 Bh Bd Bp Bx eh ed ep ex) 51)) w5 := below_app ((Below.refl _ _).alloc (by simp) _) HOWN0.out (by simp) hg1
    have hb6 := below_app (hb5.alloc (by have := hb5.size; simpa using this) _) (hown1.alloc _) (by have := hb5.size; simp at this ⊢; omega) hg2
    have hb06 := HB4.out.trans (hb6.mono (by have := HB4.out.size; simpa using this))
    rw [List.nil_append] at hown2
    obtain ⟨A6, c6, rfl⟩ := hown2.shape
    have hrd6 := hown2.rd
    have HB6 := Lib.hid hb06; have HRD6 := Lib.hid hrd6
    clear hb5 hb6 hb06 hg1 hg2 hown1 hown2 hrd6
    refine (Decode_any w6 A6 (out ++ [y]).length c6 (out ++ [y]) (by simp; omega) HRD6.out).mono ?_
    rintro e w7 ⟨Dh, Dd, Dp, Dx, fh, fd, fp, fx, rfl, _, _, hb7⟩
    rw [HLO.out]
    generalize (decode (out ++ [y])).1 = m3
    have hbq : Below w7.heap.size w7 (w7.alloc (.cells (msgCells m3 Dh Dd Dp Dx fh fd fp fx) 51)) := (Below.refl _ _).alloc (Nat.le_refl _) _
    have hb07 := HB6.out.trans (hb7.mono HB6.out.size)
    have HB8 := Lib.hid (hb07.trans (hbq.mono hb07.size))
    clear hbq hb07 hb7
    go_wp2_with fail
    refine (answers13_any _).mono ?_
    rintro e w9 ⟨rfl, hb9⟩
    have HB9 := Lib.hid (HB8.out.trans (hb9.mono HB8.out.size))
    clear hb9
    go_wp2
    go_ret
    exact ⟨rfl, HB9.out⟩
  · have HB2 := Lib.hid hb02
    clear hb02 hb2 hwb h60 hsh hlo hlen hrd1 HB1 HR1
    go_wp2_with fail
    refine (answers13_any w2).mono ?_
    rintro e w3 ⟨rfl, hb3⟩
    have HB3 := Lib.hid (HB2.out.trans (hb3.mono HB2.out.size))
    clear hb3
    go_wp2
    go_ret
    exact ⟨rfl, HB3.out⟩
end Go.Proofs.Ytobponlakldplaa
