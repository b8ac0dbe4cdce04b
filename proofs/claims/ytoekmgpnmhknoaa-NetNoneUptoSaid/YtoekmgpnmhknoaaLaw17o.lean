/- The walk of layer 17's law NetNone. Condition: the message is no great one. -/
import Derived.Test.YtoekmgpnmhknoaaLaw17n
namespace Go.Proofs.Ytoekmgpnmhknoaa
open Go.RowKit
set_option maxRecDepth 100000 in
set_option maxHeartbeats 2000000 in
theorem NetNone_any (m : MsgV) (Ah Ad Ap Ax : Option Addr) (ch cd cp cx : Nat) (k : Int) (w : World) (hs : m.cost ≤ 67108864) (_h1 : -9223372036854775808 ≤ k) (_h2 : k ≤ 9223372036854775807) (hr : MsgRd w w.heap.size m Ah Ad Ap Ax) :
    Calls Try.prog 6 #[.agg (msgCells m Ah Ad Ap Ax ch cd cp cx), .int .i64 k] w fun e w' => e = .returned (.bool true) ∧ Below w.heap.size w w' := by
  clear _h1 _h2
  have hb1 : Below w.heap.size w (w.alloc (.cells (msgCells m Ah Ad Ap Ax ch cd cp cx) 31)) := (Below.refl _ _).alloc (Nat.le_refl _) _
  have HM1 := Lib.hid (Blk.new w 31 (msgCells m Ah Ad Ap Ax ch cd cp cx))
  have HR1 := Lib.hid ((hr.below hb1 (Nat.le_refl _)).more hb1.size); have HB1 := Lib.hid hb1
  have HC := Lib.hid (show m.cost ≤ 140737488200000 by omega)
  clear hb1 hr hs
  go_enter Try.func6, Try.ntmps6
  go_upto_region 2 with (fail)
  generalize hQe : w.heap.size = Q at HM1 ⊢
  obtain ⟨w1, hw1⟩ : ∃ w1, w1 = w.alloc (.cells (msgCells m Ah Ad Ap Ax ch cd cp cx) 31) := ⟨_, rfl⟩
  rw [← hw1] at HM1 HR1 HB1 ⊢
  have HQE := Lib.hid hQe
  clear hw1 hQe
  go_wp2_with fail
  refine (At_nil w1 k).mono ?_
  rintro e w2 ⟨Bh, Bd, Bp, Bx, eh, ed, ep, ex, rfl, hm, _, hb2⟩
  go_upto_region 3 with (fail)
  have hbq : Below w2.heap.size w2 (w2.alloc (.cells (msgCells MsgV.zero Bh Bd Bp Bx eh ed ep ex) 31)) := (Below.refl _ _).alloc (Nat.le_refl _) _
  have hbz : Below w1.heap.size w1 (w2.alloc (.cells (msgCells MsgV.zero Bh Bd Bp Bx eh ed ep ex) 31)) := hb2.trans (hbq.mono hb2.size)
  have HA3 := Lib.hid (Blk.new w2 31 (msgCells MsgV.zero Bh Bd Bp Bx eh ed ep ex))
  have HMA3 := Lib.hid ((hm.below hbq (Nat.le_refl _)).more hbq.size)
  have HM3 := Lib.hid (HM1.out.below hbz HM1.out.lt); have HR3 := Lib.hid ((HR1.out.below hbz (Nat.le_refl _)).more hbz.size); have HB3 := Lib.hid (HB1.out.trans (hbz.mono HB1.out.size))
  generalize w2.heap.size = A at HA3 ⊢
  obtain ⟨w3, hw3⟩ : ∃ w3, w3 = w2.alloc (.cells (msgCells MsgV.zero Bh Bd Bp Bx eh ed ep ex) 31) := ⟨_, rfl⟩
  rw [← hw3] at HA3 HMA3 HM3 HR3 HB3 ⊢
  clear hbq hbz hw3 hm hb2 HM1 HR1 HB1
  go_wp2_with fail
  refine (Take_nil w3 k).mono ?_
  rintro e w4 ⟨Ch, Cd, Cp, Cx, fh, fd, fp, fx, rfl, hm, _, hb2⟩
  go_upto_region 4 with (fail)
  have hbq : Below w4.heap.size w4 (w4.alloc (.cells (msgCells MsgV.zero Ch Cd Cp Cx fh fd fp fx) 31)) := (Below.refl _ _).alloc (Nat.le_refl _) _
  have hbz : Below w3.heap.size w3 (w4.alloc (.cells (msgCells MsgV.zero Ch Cd Cp Cx fh fd fp fx) 31)) := hb2.trans (hbq.mono hb2.size)
  have HC5 := Lib.hid (Blk.new w4 31 (msgCells MsgV.zero Ch Cd Cp Cx fh fd fp fx))
  have HMC5 := Lib.hid ((hm.below hbq (Nat.le_refl _)).more hbq.size)
  have HA5 := Lib.hid (HA3.out.below hbz HA3.out.lt); have HMA5 := Lib.hid ((HMA3.out.below hbz (Nat.le_refl _)).more hbz.size)
  have HM5 := Lib.hid (HM3.out.below hbz HM3.out.lt); have HR5 := Lib.hid ((HR3.out.below hbz (Nat.le_refl _)).more hbz.size); have HB5 := Lib.hid (HB3.out.trans (hbz.mono HB3.out.size))
  generalize w4.heap.size = C at HC5 ⊢
  obtain ⟨w5, hw5⟩ : ∃ w5, w5 = w4.alloc (.cells (msgCells MsgV.zero Ch Cd Cp Cx fh fd fp fx) 31) := ⟨_, rfl⟩
  rw [← hw5] at HA5 HMA5 HM5 HR5 HB5 HC5 HMC5 ⊢
  clear hbq hbz hw5 hm hb2 HM3 HR3 HB3 HA3 HMA3
  go_wp2_with fail
  refine (answers17_any w5).mono ?_
  rintro e w6 ⟨rfl, hb6⟩
  have HA6 := Lib.hid (HA5.out.below hb6 HA5.out.lt); have HMA6 := Lib.hid ((HMA5.out.below hb6 (Nat.le_refl _)).more hb6.size)
  have HC6 := Lib.hid (HC5.out.below hb6 HC5.out.lt); have HMC6 := Lib.hid ((HMC5.out.below hb6 (Nat.le_refl _)).more hb6.size)
  have HM6 := Lib.hid (HM5.out.below hb6 HM5.out.lt); have HR6 := Lib.hid ((HR5.out.below hb6 (Nat.le_refl _)).more hb6.size); have HB6 := Lib.hid (HB5.out.trans (hb6.mono HB5.out.size))
  clear hb6 HM5 HR5 HB5 HA5 HMA5 HC5 HMC5
  go_wp2_with (refine wpList_wantedN rfl ?_; refine wpList_load_row rfl 31 (.tmp 2) rfl Q rfl _ _ _ _ HM6.out Try.underlying31 rfl (by kernel_rfl) ?_)
  refine (Send_nil w6 m Ah Ad Ap Ax ch cd cp cx HR6.out HC.out).mono ?_
  rintro e w7 ⟨rfl, hb7⟩
  have HA7 := Lib.hid (HA6.out.below hb7 HA6.out.lt); have HMA7 := Lib.hid ((HMA6.out.below hb7 (Nat.le_refl _)).more hb7.size)
  have HC7 := Lib.hid (HC6.out.below hb7 HC6.out.lt); have HMC7 := Lib.hid ((HMC6.out.below hb7 (Nat.le_refl _)).more hb7.size)
  have HB7 := Lib.hid (HB6.out.trans (hb7.mono HB6.out.size))
  clear hb7 HM6 HR6 HB6 HA6 HMA6 HC6 HMC6
  go_wp2_with fail
  refine (Len_nil w7).mono ?_
  rintro e w7 ⟨rfl, rfl⟩
  go_wp2_with (refine wpList_wantedN rfl ?_; refine wpList_load_row rfl 31 (.tmp 6) rfl A rfl _ _ _ _ HA7.out Try.underlying31 rfl (by kernel_rfl) ?_)
  refine (show Calls Try.prog 14 #[_, .agg (msgCells MsgV.zero none none none none 0 0 0 0)] _ _ from same_any w7 MsgV.zero _ _ _ _ _ _ _ _ MsgV.zero none none none none 0 0 0 0 HMA7.out (MsgRd.zero_ _ _) (by decide) (by decide)).mono ?_
  rintro e w8 ⟨rfl, hb8⟩
  rw [decide_eq_true rfl]
  have HC8 := Lib.hid (HC7.out.below hb8 HC7.out.lt); have HMC8 := Lib.hid ((HMC7.out.below hb8 (Nat.le_refl _)).more hb8.size)
  have HB8 := Lib.hid (HB7.out.trans (hb8.mono HB7.out.size))
  clear hb8 HB7 HC7 HMC7 HA7 HMA7
  go_wp2_with (refine wpList_wantedN rfl ?_; refine wpList_load_row rfl 31 (.tmp 8) rfl C rfl _ _ _ _ HC8.out Try.underlying31 rfl (by kernel_rfl) ?_)
  refine (show Calls Try.prog 14 #[_, .agg (msgCells MsgV.zero none none none none 0 0 0 0)] _ _ from same_any w8 MsgV.zero _ _ _ _ _ _ _ _ MsgV.zero none none none none 0 0 0 0 HMC8.out (MsgRd.zero_ _ _) (by decide) (by decide)).mono ?_
  rintro e w9 ⟨rfl, hb9⟩
  rw [decide_eq_true rfl]
  have HB9 := Lib.hid (HB8.out.trans (hb9.mono HB8.out.size))
  clear hb9 HB8
  go_wp2_with fail
  refine (Twice_nil w9 k).mono ?_
  rintro e w10 ⟨rfl, hb10⟩
  have HB10 := Lib.hid (HB9.out.trans (hb10.mono HB9.out.size))
  clear hb10
  go_wp2_with fail
  go_ret
  exact ⟨rfl, HB10.out⟩
end Go.Proofs.Ytoekmgpnmhknoaa
