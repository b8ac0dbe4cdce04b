/- The walks of the laws' own answers, layer 17, and of their same. No conditions. -/
import Derived.Test.YtoekmgpnmhknoaaNet4
import Derived.Test.YtoekmgpnmhknoaaStr
namespace Go.Proofs.Ytoekmgpnmhknoaa
open Go.RowKit
/-- A net that lies beyond B. -/
def NetG (w : World) (B D : Nat) (its : List (List UInt8)) : Prop := ∃ F, NetIs w F D its ∧ ∀ k, F k → B ≤ k ∧ k < w.heap.size
theorem NetG.below {w w' : World} {B D : Nat} {its : List (List UInt8)} (h : NetG w B D its) (hb : Below w.heap.size w w') : NetG w' B D its := by
  obtain ⟨F, h1, h2⟩ := h
  exact ⟨F, h1.below hb, fun k e => ⟨(h2 k e).1, Nat.lt_of_lt_of_le (h2 k e).2 hb.size⟩⟩
theorem NNew_G (w : World) (B : Nat) (hB : B ≤ w.heap.size) : Calls Try.prog 8 #[] w fun e w' => ∃ D, e = .returned (.pointer (some ⟨D, 0, none⟩)) ∧ NetG w' B D [] ∧ Below w.heap.size w w' :=
  (NNew_any w).mono fun e w' ⟨D, h1, h2, h3, h4⟩ => ⟨D, h1, ⟨_, h2.tight, fun k e => by obtain ⟨rfl, e2⟩ := e; exact ⟨by omega, e2⟩⟩, h4⟩
theorem Send_G (w : World) (B D : Nat) (its : List (List UInt8)) (m : MsgV) (Ah Ad Ap Ax : Option Addr) (ch cd cp cx : Nat) (h : NetG w B D its) (hB : B ≤ w.heap.size) (hr : MsgRd w w.heap.size m Ah Ad Ap Ax) (hs : m.cost ≤ 140737488200000) (hn : its.length ≤ 4096) :
    Calls Try.prog 10 #[.pointer (some ⟨D, 0, none⟩), .agg (msgCells m Ah Ad Ap Ax ch cd cp cx)] w fun e w' => e = .returned (.int .i64 (sendE its (WS.msg ⟨[], false⟩ m))) ∧ NetG w' B D (sendN its (WS.msg ⟨[], false⟩ m)) ∧ Below B w w' := by
  obtain ⟨F, h1, h2⟩ := h
  refine (Send_any w F D its m Ah Ad Ap Ax ch cd cp cx h1 hr hs hn).mono fun e w' ⟨g1, g2, g3⟩ => ⟨g1, ⟨_, g2.tight, fun k e => ⟨?_, e.2⟩⟩, g3.below (fun k e => (h2 k e).1) hB⟩
  rcases e.1 with e1 | e1
  · exact (h2 k e1).1
  · omega
theorem Twice_G (w : World) (B D : Nat) (its : List (List UInt8)) (k : Int) (h : NetG w B D its) (hB : B ≤ w.heap.size) (hl : ∀ b ∈ its, b.length ≤ 67108864) (hn : its.length ≤ 4096) :
    Calls Try.prog 13 #[.pointer (some ⟨D, 0, none⟩), .int .i64 k] w fun e w' => e = .returned (.bool (twiceB its k)) ∧ NetG w' B D (twiceN its k) ∧ Below B w w' := by
  obtain ⟨F, h1, h2⟩ := h
  refine (Twice_any w F D its k h1 hl hn).mono fun e w' ⟨g1, g2, g3⟩ => ⟨g1, ⟨_, g2.tight, fun k e => ⟨?_, e.2⟩⟩, g3.below (fun k e => (h2 k e).1) hB⟩
  rcases e.1 with e1 | e1
  · exact (h2 k e1).1
  · omega
theorem Take_G (w : World) (B D : Nat) (its : List (List UInt8)) (k : Int) (h : NetG w B D its) (hB : B ≤ w.heap.size) (hl : ∀ b ∈ its, b.length ≤ 67108864) (hn : its.length ≤ 67108864) :
    Calls Try.prog 12 #[.pointer (some ⟨D, 0, none⟩), .int .i64 k] w fun e w' => (∃ (Ah Ad Ap Ax : Option Addr) (ch cd cp cx : Nat), e = .returned (.tuple #[.agg (msgCells (atN its k).1 Ah Ad Ap Ax ch cd cp cx), .bool (atN its k).2]) ∧ MsgRd w' w'.heap.size (atN its k).1 Ah Ad Ap Ax) ∧ NetG w' B D (takeN its k) ∧ Below B w w' := by
  obtain ⟨F, h1, h2⟩ := h
  refine (Take_any w F D its k h1 (fun k e => (h2 k e).2) hl hn).mono fun e w' ⟨Ah, Ad, Ap, Ax, ch, cd, cp, cx, g1, g2, _, g3, g4⟩ => ⟨⟨Ah, Ad, Ap, Ax, ch, cd, cp, cx, g1, g2⟩, ⟨_, g3.tight, fun k e => ⟨(h2 k e.1).1, e.2⟩⟩, g4.below (fun k e => (h2 k e).1) hB⟩
theorem At_G (w : World) (B D : Nat) (its : List (List UInt8)) (k : Int) (h : NetG w B D its) (hB : B ≤ w.heap.size) (hl : ∀ b ∈ its, b.length ≤ 67108864) :
    Calls Try.prog 11 #[.pointer (some ⟨D, 0, none⟩), .int .i64 k] w fun e w' => (∃ (Ah Ad Ap Ax : Option Addr) (ch cd cp cx : Nat), e = .returned (.tuple #[.agg (msgCells (atN its k).1 Ah Ad Ap Ax ch cd cp cx), .bool (atN its k).2]) ∧ MsgRd w' w'.heap.size (atN its k).1 Ah Ad Ap Ax) ∧ NetG w' B D its ∧ Below B w w' := by
  obtain ⟨F, h1, h2⟩ := h
  exact (At_any w F D its k h1 hl).mono fun e w' ⟨Ah, Ad, Ap, Ax, ch, cd, cp, cx, g1, g2, _, g4⟩ => ⟨⟨Ah, Ad, Ap, Ax, ch, cd, cp, cx, g1, g2⟩, ⟨F, h1.below g4, fun k e => ⟨(h2 k e).1, Nat.lt_of_lt_of_le (h2 k e).2 g4.size⟩⟩, g4.mono hB⟩
theorem Len_G (w : World) (B D : Nat) (its : List (List UInt8)) (h : NetG w B D its) :
    Calls Try.prog 15 #[.pointer (some ⟨D, 0, none⟩)] w fun e w' => e = .returned (.int .i64 (its.length : Int)) ∧ w' = w := by
  obtain ⟨F, h1, _⟩ := h
  exact Len_any w F D its h1
theorem sendE_ok {its : List (List UInt8)} {s : WS} (h : s.bad = false) (hl : its.length < 4096) : sendE its s = 0 := by
  unfold sendE; rw [h]; simp only [Bool.false_eq_true, if_false]; rw [if_neg (by omega)]
theorem sendN_ok {its : List (List UInt8)} {s : WS} (h : s.bad = false) (hl : its.length < 4096) : sendN its s = its ++ [s.out] := by
  unfold sendN; rw [h]; simp only [Bool.false_eq_true, if_false]; rw [if_neg (by omega)]
set_option maxRecDepth 100000 in
theorem same_any (w : World) (m : MsgV) (Ah Ad Ap Ax : Option Addr) (ch cd cp cx : Nat) (n : MsgV) (Bh Bd Bp Bx : Option Addr) (eh ed ep ex : Nat) (hr : MsgRd w w.heap.size m Ah Ad Ap Ax) (hr2 : MsgRd w w.heap.size n Bh Bd Bp Bx) (hs : m.cost ≤ 140737488000000) (hs2 : n.cost ≤ 140737488000000) :
    Calls Try.prog 14 #[.agg (msgCells m Ah Ad Ap Ax ch cd cp cx), .agg (msgCells n Bh Bd Bp Bx eh ed ep ex)] w fun e w' => e = .returned (.bool (decide ((WS.msg ⟨[], false⟩ m).out = (WS.msg ⟨[], false⟩ n).out))) ∧ Below w.heap.size w w' := by
  have hb1 : Below w.heap.size w ((w.alloc (.cells (msgCells m Ah Ad Ap Ax ch cd cp cx) 31)).alloc (.cells (msgCells n Bh Bd Bp Bx eh ed ep ex) 31)) := ((Below.refl _ _).alloc (Nat.le_refl _) _).alloc (by simp) _
  have HM1 := Lib.hid ((Blk.new w 31 (msgCells m Ah Ad Ap Ax ch cd cp cx)).alloc (.cells (msgCells n Bh Bd Bp Bx eh ed ep ex) 31))
  have HM2 := Lib.hid (show Blk ((w.alloc (.cells (msgCells m Ah Ad Ap Ax ch cd cp cx) 31)).alloc (.cells (msgCells n Bh Bd Bp Bx eh ed ep ex) 31)) (w.heap.size + 1) 31 (msgCells n Bh Bd Bp Bx eh ed ep ex) from Blk.new' (by simp))
  have HR1 := Lib.hid ((hr.below hb1 (Nat.le_refl _)).more hb1.size); have HR2 := Lib.hid ((hr2.below hb1 (Nat.le_refl _)).more hb1.size); have HB1 := Lib.hid hb1
  clear hb1 hr hr2
  obtain ⟨s1, hs1⟩ : ∃ s, s = WS.msg ⟨[], false⟩ m := ⟨_, rfl⟩
  obtain ⟨s2, hs2'⟩ : ∃ s, s = WS.msg ⟨[], false⟩ n := ⟨_, rfl⟩
  rw [← hs1, ← hs2']
  have HS1 := Lib.hid hs1; have HS2 := Lib.hid hs2'
  clear hs1 hs2'
  go_enter Try.func14, Try.ntmps14
  go_wp2_with (refine wpList_load_row rfl 31 (.tmp 2) rfl w.heap.size rfl _ _ _ _ HM1.out Try.underlying31 rfl (by kernel_rfl) ?_)
  refine (RefMsg_any _ m Ah Ad Ap Ax ch cd cp cx HR1.out (by omega)).mono ?_
  rintro e w2 ⟨v2, rfl, ⟨A2, c2, rfl, hrd2, _⟩, hb2⟩
  rw [← HS1.out] at hrd2 ⊢
  have HM22 := Lib.hid (HM2.out.below hb2 HM2.out.lt); have HR22 := Lib.hid ((HR2.out.below hb2 (Nat.le_refl _)).more hb2.size); have HB2 := Lib.hid (HB1.out.trans (hb2.mono HB1.out.size)); have HRD2 := Lib.hid hrd2
  clear hb2 hrd2 HM1 HM2 HR1 HR2
  go_wp2_with (refine wpList_load_row rfl 31 (.tmp 3) rfl (w.heap.size + 1) rfl _ _ _ _ HM22.out Try.underlying31 rfl (by kernel_rfl) ?_)
  refine (RefMsg_any w2 n Bh Bd Bp Bx eh ed ep ex HR22.out (by omega)).mono ?_
  rintro e w3 ⟨v3, rfl, ⟨A3, c3, rfl, hrd3, _⟩, hb3⟩
  rw [← HS2.out] at hrd3 ⊢
  have HR23 := Lib.hid (HRD2.out.below hb3); have HRD3 := Lib.hid hrd3; have HB3 := Lib.hid (HB2.out.trans (hb3.mono HB2.out.size))
  clear hb3 hrd3
  go_wp2_with (first | (refine wpList_str rfl 29 9 5 (.tmp 19) rfl A2 _ c2 s1.out rfl Try.underlying29 Try.underlying5 Try.underlying9 _ HR23.out ?_) | (refine wpList_str rfl 29 9 5 (.tmp 21) rfl A3 _ c3 s2.out rfl Try.underlying29 Try.underlying5 Try.underlying9 _ HRD3.out ?_) | (refine wpList_eql rfl _ _ _ _ rfl s1.out s2.out rfl rfl ?_))
  go_ret
  exact ⟨rfl, HB3.out⟩
def msgK (k : Int) : MsgV := { MsgV.zero with kind := k }
theorem msg1_bad : (WS.msg ⟨[], false⟩ (msgK 1)).bad = false := by rfl
theorem msg2_bad : (WS.msg ⟨[], false⟩ (msgK 2)).bad = false := by rfl
theorem msg1_len : (WS.msg ⟨[], false⟩ (msgK 1)).out.length ≤ 100 := by decide
theorem msg2_len : (WS.msg ⟨[], false⟩ (msgK 2)).out.length ≤ 100 := by decide
theorem MsgRd.zeroK (w : World) (B : Nat) (k : Int) : MsgRd w B (msgK k) none none none none := ⟨fun h => by simp [msgK, MsgV.zero] at h, ⟨rfl, fun h => by simp [msgK, MsgV.zero] at h⟩, ⟨rfl, fun h => by simp [msgK, MsgV.zero] at h⟩, ⟨rfl, fun h => by simp [msgK, MsgV.zero] at h⟩⟩
set_option maxRecDepth 100000 in
set_option maxHeartbeats 2000000 in
theorem answers17_any (w : World) : Calls Try.prog 16 #[] w fun e w' => e = .returned (.bool true) ∧ Below w.heap.size w w' := by
  have b1 := msg1_bad; have b2 := msg2_bad
  have l1 := msg1_len; have l2 := msg2_len
  have d1 := decode_enc b1
  have HC1 := Lib.hid (show (msgK 1).cost ≤ 140737488200000 by decide); have HC2 := Lib.hid (show (msgK 2).cost ≤ 140737488200000 by decide)
  generalize hs1 : WS.msg ⟨[], false⟩ (msgK 1) = s1 at b1 l1 d1
  generalize hs2 : WS.msg ⟨[], false⟩ (msgK 2) = s2 at b2 l2
  have HS1 := Lib.hid hs1; have HS2 := Lib.hid hs2; have HB1 := Lib.hid b1; have HB2 := Lib.hid b2; have HL1 := Lib.hid l1; have HL2 := Lib.hid l2; have HD1 := Lib.hid d1
  clear hs1 hs2 b1 b2 l1 l2 d1
  have hat0 : ∀ r, atN (s1.out :: r) 0 = (msgK 1, true) := fun r => by unfold atN; rw [if_pos ⟨by omega, by simp⟩]; exact HD1.out
  have hat1 : atN [s2.out, s1.out] 1 = (msgK 1, true) := by unfold atN; rw [if_pos ⟨by omega, by simp⟩]; exact HD1.out
  have HAT0 := Lib.hid hat0; have HAT1 := Lib.hid hat1
  clear hat0 hat1
  go_enter Try.func16, Try.ntmps16
  go_wp2_with fail
  refine (NNew_G w w.heap.size (Nat.le_refl _)).mono ?_
  rintro e w1 ⟨D, rfl, hn1, hb1⟩
  have N1 := Lib.hid hn1; have BB1 := Lib.hid hb1
  clear hn1 hb1
  go_wp2_with fail
  refine (Send_G w1 w.heap.size D [] (msgK 1) none none none none 0 0 0 0 N1.out BB1.out.size (MsgRd.zeroK _ _ _) HC1.out (by simp)).mono ?_
  rintro e w2 ⟨rfl, hn2, hb2⟩
  rw [HS1.out, sendE_ok HB1.out (by simp)]
  rw [HS1.out, sendN_ok HB1.out (by simp)] at hn2
  have N2 := Lib.hid hn2; have BB2 := Lib.hid (BB1.out.trans hb2)
  clear hn2 hb2
  go_wp2_with fail
  refine (Send_G w2 w.heap.size D _ (msgK 2) none none none none 0 0 0 0 N2.out BB2.out.size (MsgRd.zeroK _ _ _) HC2.out (by simp)).mono ?_
  rintro e w3 ⟨rfl, hn3, hb3⟩
  rw [HS2.out, sendN_ok HB2.out (by simp)] at hn3
  have N3 := Lib.hid (show NetG w3 w.heap.size D [s1.out, s2.out] from hn3); have BB3 := Lib.hid (BB2.out.trans hb3)
  clear hn3 hb3
  have htw : twiceB [s1.out, s2.out] 0 = true := by unfold twiceB; rw [HAT0.out, HS1.out, sendE_ok HB1.out (by simp)]; rfl
  have htn : twiceN [s1.out, s2.out] 0 = [s1.out, s2.out, s1.out] := by unfold twiceN; rw [HAT0.out, HS1.out, sendN_ok HB1.out (by simp)]; rfl
  have HTW := Lib.hid htw; have HTN := Lib.hid htn
  clear htw htn
  go_wp2_with fail
  refine (Twice_G w3 w.heap.size D [s1.out, s2.out] 0 N3.out BB3.out.size (by intro b hb; have h1 := HL1.out; have h2 := HL2.out; have h3 : b = s1.out ∨ b = s2.out := (by simp only [List.mem_cons, List.not_mem_nil, or_false] at hb; first | exact hb | exact hb.symm | (rcases hb with e | e | e; exact Or.inl e; exact Or.inr e; exact Or.inl e)); rcases h3 with rfl | rfl <;> omega) (by simp)).mono ?_
  rintro e w4 ⟨rfl, hn4, hb4⟩
  rw [HTW.out]
  rw [HTN.out] at hn4
  have N4 := Lib.hid hn4; have BB4 := Lib.hid (BB3.out.trans hb4)
  clear hn4 hb4
  have htk : takeN [s1.out, s2.out, s1.out] 0 = [s2.out, s1.out] := by unfold takeN; rw [HAT0.out]; rfl
  have HTK := Lib.hid htk; clear htk
  go_wp2_with fail
  refine (Take_G w4 w.heap.size D [s1.out, s2.out, s1.out] 0 N4.out BB4.out.size (by intro b hb; have h1 := HL1.out; have h2 := HL2.out; have h3 : b = s1.out ∨ b = s2.out := (by simp only [List.mem_cons, List.not_mem_nil, or_false] at hb; first | exact hb | exact hb.symm | (rcases hb with e | e | e; exact Or.inl e; exact Or.inr e; exact Or.inl e)); rcases h3 with rfl | rfl <;> omega) (by simp)).mono ?_
  rintro e w5 ⟨⟨Bh, Bd, Bp, Bx, eh, ed, ep, ex, rfl, _⟩, hn5, hb5⟩
  rw [HAT0.out]
  rw [HTK.out] at hn5
  have hbq : Below w5.heap.size w5 (w5.alloc (.cells (msgCells (msgK 1) Bh Bd Bp Bx eh ed ep ex) 31)) := (Below.refl _ _).alloc (Nat.le_refl _) _
  have HQ := Lib.hid (Blk.new w5 31 (msgCells (msgK 1) Bh Bd Bp Bx eh ed ep ex)); have N5 := Lib.hid (hn5.below hbq)
  have BB5 := Lib.hid (BB4.out.trans hb5); have BB5' := Lib.hid ((BB4.out.trans hb5).trans (hbq.mono (BB4.out.trans hb5).size))
  clear hn5 hb5 hbq
  go_upto_region 6 with (fail)
  generalize hQe : w5.heap.size = Q at HQ ⊢
  obtain ⟨w6, hw6⟩ : ∃ w6, w6 = w5.alloc (.cells (msgCells (msgK 1) Bh Bd Bp Bx eh ed ep ex) 31) := ⟨_, rfl⟩
  rw [← hw6] at HQ N5 BB5' ⊢
  have HQE := Lib.hid hQe
  clear hQe hw6
  go_wp2_with fail
  obtain ⟨F6, g6, k6⟩ := N5.out
  refine (At_any w6 F6 D [s2.out, s1.out] 1 g6 (by intro b hb; have h1 := HL1.out; have h2 := HL2.out; have h3 : b = s1.out ∨ b = s2.out := (by simp only [List.mem_cons, List.not_mem_nil, or_false] at hb; first | exact hb | exact hb.symm | (rcases hb with e | e | e; exact Or.inl e; exact Or.inr e; exact Or.inl e)); rcases h3 with rfl | rfl <;> omega)).mono ?_
  rintro e w7 ⟨Ch, Cd, Cp, Cx, fh, fd, fp, fx, rfl, _, _, hb7⟩
  rw [HAT1.out]
  have hbq : Below w7.heap.size w7 (w7.alloc (.cells (msgCells (msgK 1) Ch Cd Cp Cx fh fd fp fx) 31)) := (Below.refl _ _).alloc (Nat.le_refl _) _
  have hq7 := (HQ.out.below hb7 HQ.out.lt).below hbq (HQ.out.below hb7 HQ.out.lt).lt
  have hr7 := Blk.new w7 31 (msgCells (msgK 1) Ch Cd Cp Cx fh fd fp fx)
  have N7 := Lib.hid (N5.out.below (hb7.trans (hbq.mono hb7.size))); have BB7 := Lib.hid (BB5'.out.trans ((hb7.trans (hbq.mono hb7.size)).mono BB5'.out.size))
  have c0 : (w7.alloc (.cells (msgCells (msgK 1) Ch Cd Cp Cx fh fd fp fx) 31)).cell? ⟨Q, 0, none⟩ = some (.int .i64 1) := (hq7.cell 0).trans rfl
  have c1 : (w7.alloc (.cells (msgCells (msgK 1) Ch Cd Cp Cx fh fd fp fx) 31)).cell? ⟨w7.heap.size, 0, none⟩ = some (.int .i64 1) := (hr7.cell 0).trans rfl
  clear hb7 hbq hq7 hr7 g6 k6
  go_wp2_with fail
  refine (Len_G _ w.heap.size D [s2.out, s1.out] N7.out).mono ?_
  rintro e w8 ⟨rfl, rfl⟩
  go_wp2_with fail
  go_ret
  exact ⟨rfl, BB7.out⟩
end Go.Proofs.Ytoekmgpnmhknoaa
