/- The walk of layer 17's law NetNone: a net that is none. Condition: the message is no great one. -/
import Derived.Test.YtoekmgpnmhknoaaLaw17
namespace Go.Proofs.Ytoekmgpnmhknoaa
open Go.RowKit
theorem take_fin0 {w w1 : World} {F : Nat → Prop} {r : MsgV × Bool} {R : Nat} {a : Act} {old : Array Value} {Ah Ad Ap Ax : Option Addr} {ch cd cp cx : Nat} (hR : Blk w1 R 31 old) (hb : Keeps F w w1) (hRw : w.heap.size ≤ R)
    (hMR : MsgRd w1 w1.heap.size r.1 Ah Ad Ap Ax) (hfr : ∀ ad, (Ah = some ad ∨ Ad = some ad ∨ Ap = some ad ∨ Ax = some ad) → R < ad.block) (cs : Array Value) (hcs : cs = msgCells r.1 Ah Ad Ap Ax ch cd cp cx)
    (h2 : a.tmps.getD 4 undef = .pointer (some ⟨R, 0, none⟩)) (h3 : a.tmps.getD 5 undef = .bool r.2) (h0 : a.defers = []) (hF : ∀ k, ¬ F k) : bodyPost Try.prog Try.f12 (AtPost w r) .ret a (w1.setRow R cs) := by
  have hR' := setRow_heap w1 R _ cs _ _ hR
  have hcz : cs.size = 16 := by rw [hcs]; rfl
  have hrow := run_loadVar_row (P := Try.prog) (w1.setRow R cs) R 31 31 cs (0, 0) _ hR' Try.underlying31 rfl (by rw [hcz]; kernel_rfl)
  have hk : Keeps (fun k => k = R) w1 (w1.setRow R cs) := ⟨rfl, rfl, rfl, by simp, fun k _ hn => setRow_other w1 R k cs hn⟩
  have hsz : (w1.setRow R cs).heap.size = w1.heap.size := by simp
  have hkb : Keeps F w (w1.setRow R cs) := ⟨hb.os, hb.tape, hb.output, by rw [hsz]; exact hb.size, fun k hk2 hn => (setRow_other w1 R k cs (by omega)).trans (hb.block k hk2 hn)⟩
  refine bodyPost_ret (v := .tuple #[.agg cs, .bool r.2]) ?_ h0 ?_
  · rw [results_cell_tmp rfl, h2, h3]
    simp only [asAddr, Sem.run_pure, Result.andThen_ok, hrow]
  · refine ⟨Ah, Ad, Ap, Ax, ch, cd, cp, cx, by rw [hcs], ?_, fun ad e => by have := hfr ad e; omega, hkb.below (B := w.heap.size) (fun k e => absurd e (hF k)) (Nat.le_refl _)⟩
    rw [hsz]
    exact ⟨hMR.heads.off hk (Nat.le_refl _) (fun ad e _ e2 => by have := hfr ad (Or.inl e); omega), reads_off2 hMR.dealers hk (Nat.le_refl _) (fun ad e _ e2 => by have := hfr ad (Or.inr (Or.inl e)); omega),
      reads_off2 hMR.parts hk (Nat.le_refl _) (fun ad e _ e2 => by have := hfr ad (Or.inr (Or.inr (Or.inl e))); omega), rd_off hMR.data hk (Nat.le_refl _) (fun ad e _ e2 => by have := hfr ad (Or.inr (Or.inr (Or.inr e))); omega)⟩
set_option maxRecDepth 100000 in
theorem At_nil (w : World) (k : Int) : Calls Try.prog 11 #[.pointer none, .int .i64 k] w (AtPost w (MsgV.zero, false)) := by
  have HR1 := Lib.hid (Blk.new w 31 zeroMsg); have HB1 := Lib.hid ((Below.refl w.heap.size w).alloc (Nat.le_refl _) (.cells zeroMsg 31))
  go_enter Try.func11, Try.ntmps11
  go_wp2_with (refine wpList_store_row rfl 31 (.tmp 4) (.tmp 16) rfl w.heap.size zeroMsg (by rfl) (by rfl) _ _ HR1.out (by kernel_rfl) rfl (by kernel_rfl) ?_)
  exact at_fin (r := (MsgV.zero, false)) (Ah := none) (Ad := none) (Ap := none) (Ax := none) (ch := 0) (cd := 0) (cp := 0) (cx := 0) HR1.out (Keeps.of_below (F := fun _ => False) HB1.out) (Nat.le_refl _) (MsgRd.zero_ _ _) (fun ad e => by rcases e with e | e | e | e <;> cases e) _ rfl (by rfl) (by rfl) (by rfl) (fun _ => id)
set_option maxRecDepth 100000 in
theorem Take_nil (w : World) (k : Int) : Calls Try.prog 12 #[.pointer none, .int .i64 k] w (AtPost w (MsgV.zero, false)) := by
  have HR1 := Lib.hid (Blk.new w 31 zeroMsg); have HB1 := Lib.hid ((Below.refl w.heap.size w).alloc (Nat.le_refl _) (.cells zeroMsg 31))
  go_enter Try.func12, Try.ntmps12
  go_upto_region 1 with (fail)
  obtain ⟨R, hRe⟩ : ∃ R, R = w.heap.size := ⟨_, rfl⟩
  rw [← hRe] at HR1 ⊢
  obtain ⟨w1, hw1⟩ : ∃ w1, w1 = w.alloc (.cells zeroMsg 31) := ⟨_, rfl⟩
  rw [← hw1] at HR1 HB1 ⊢
  have HRE := Lib.hid hRe; clear hRe hw1
  go_wp2_with fail
  refine (At_nil w1 k).mono ?_
  rintro e w2 ⟨Bh, Bd, Bp, Bx, eh, ed, ep, ex, rfl, hm, hnew, hb2⟩
  have HR2 := Lib.hid (HR1.out.below hb2 HR1.out.lt); have HM := Lib.hid hm; have HNEW := Lib.hid hnew; have HB2 := Lib.hid (HB1.out.trans (hb2.mono HB1.out.size)); have HRL := Lib.hid HR1.out.lt
  have HL12 := Lib.hid hb2.size
  clear hm hnew hb2
  go_upto_region 2 with (fail)
  have hbq : Below w2.heap.size w2 (w2.alloc (.cells (msgCells MsgV.zero Bh Bd Bp Bx eh ed ep ex) 31)) := (Below.refl _ _).alloc (Nat.le_refl _) _
  have HQ := Lib.hid (Blk.new w2 31 (msgCells MsgV.zero Bh Bd Bp Bx eh ed ep ex))
  have HR3 := Lib.hid (HR2.out.below hbq HR2.out.lt); have HM3 := Lib.hid ((HM.out.below hbq (Nat.le_refl _)).more hbq.size); have HB3 := Lib.hid (HB2.out.trans (hbq.mono HB2.out.size))
  have HQN := Lib.hid (show ∀ ad, (Bh = some ad ∨ Bd = some ad ∨ Bp = some ad ∨ Bx = some ad) → R < ad.block from fun ad e => by have h1 := HNEW.out ad e; have h2 := HRL.out; omega)
  generalize hQe : w2.heap.size = Q at HQ ⊢
  obtain ⟨w3, hw3⟩ : ∃ w3, w3 = w2.alloc (.cells (msgCells MsgV.zero Bh Bd Bp Bx eh ed ep ex) 31) := ⟨_, rfl⟩
  rw [← hw3] at HQ HR3 HM3 HB3 ⊢
  clear hbq hQe hw3 HR2 HM HB2
  go_wp2_with (first | (refine wpList_load_row rfl 31 (.tmp 6) rfl Q rfl _ _ _ _ HQ.out Try.underlying31 rfl (by kernel_rfl) ?_) | (refine wpList_store_row rfl 31 (.tmp 4) (.tmp 20) rfl R _ (by rfl) (by rfl) _ _ HR3.out (by kernel_rfl) (by rfl) (by simp [Value.oneCell']) ?_))
  exact take_fin0 (F := fun _ => False) (r := (MsgV.zero, false)) HR3.out (Keeps.of_below HB3.out) (by have := HRE.out; omega) HM3.out HQN.out _ rfl (by rfl) (by rfl) (by rfl) (fun _ => id)
set_option maxRecDepth 100000 in
theorem Twice_nil (w : World) (k : Int) : Calls Try.prog 13 #[.pointer none, .int .i64 k] w fun e w' => e = .returned (.bool false) ∧ Below w.heap.size w w' := by
  go_enter Try.func13, Try.ntmps13
  go_wp2_with fail
  refine (At_nil w k).mono ?_
  rintro e w2 ⟨Bh, Bd, Bp, Bx, eh, ed, ep, ex, rfl, hm, hnew, hb2⟩
  have hbq : Below w2.heap.size w2 (w2.alloc (.cells (msgCells MsgV.zero Bh Bd Bp Bx eh ed ep ex) 31)) := (Below.refl _ _).alloc (Nat.le_refl _) _
  have HB := Lib.hid (hb2.trans (hbq.mono hb2.size))
  clear hm hnew hb2 hbq
  go_wp2
  go_ret
  exact ⟨rfl, HB.out⟩
set_option maxRecDepth 100000 in
theorem Len_nil (w : World) : Calls Try.prog 15 #[.pointer none] w fun e w' => e = .returned (.int .i64 0) ∧ w' = w := by
  go_enter Try.func15, Try.ntmps15
  go_wp2
  go_ret
  exact ⟨rfl, rfl⟩
set_option maxRecDepth 100000 in
set_option maxHeartbeats 2000000 in
theorem Send_nil (w : World) (m : MsgV) (Ah Ad Ap Ax : Option Addr) (ch cd cp cx : Nat) (hr : MsgRd w w.heap.size m Ah Ad Ap Ax) (hs : m.cost ≤ 140737488200000) :
    Calls Try.prog 10 #[.pointer none, .agg (msgCells m Ah Ad Ap Ax ch cd cp cx)] w fun e w' => e = .returned (.int .i64 1) ∧ Below w.heap.size w w' := by
  have hln : m.heads.length ≤ 9223372036854775807 := by have := costH_ge m.heads; unfold MsgV.cost at hs; omega
  have hM := Blk.new w 31 (msgCells m Ah Ad Ap Ax ch cd cp cx)
  have hb1 : Below w.heap.size w (w.alloc (.cells (msgCells m Ah Ad Ap Ax ch cd cp cx) 31)) := (Below.refl _ _).alloc (Nat.le_refl _) _
  have hr1 := (hr.below hb1 (Nat.le_refl _)).more hb1.size
  have HM := Lib.hid hM; have HB1 := Lib.hid hb1; have HR1 := Lib.hid hr1
  clear hM hb1 hr1 hr
  generalize hss : WS.msg ⟨[], false⟩ m = s
  have HSS := Lib.hid hss; clear hss
  go_enter Try.func10, Try.ntmps10
  go_wp2_with (refine wpList_load_row rfl 31 (.tmp 3) rfl w.heap.size rfl _ _ _ _ HM.out Try.underlying31 rfl (by kernel_rfl) ?_)
  refine (Encode_any _ m Ah Ad Ap Ax ch cd cp cx HR1.out hs hln).mono ?_
  rintro e w2 ⟨v1, rfl, hf1, hb2, _⟩
  have HB2 := Lib.hid (HB1.out.trans (hb2.mono HB1.out.size))
  clear hb2 hf1 HM HR1
  generalize (!(WS.msg ⟨[], false⟩ m).bad) = bb
  go_wp2
  go_ret
  exact ⟨rfl, HB2.out⟩
end Go.Proofs.Ytoekmgpnmhknoaa
