/- The walks of the document's lists and of its messages. Condition: what is written is no great thing. Printed by mkref.py. -/
import Derived.Test.YtoekmgpnmhknoaaWire2
import Derived.Test.YtoekmgpnmhknoaaBook3
namespace Go.Proofs.Ytoekmgpnmhknoaa
open Go.RowKit
theorem BkIs.skip {F : Nat → Prop} {w w' : World} {D : Nat} {s : WS} (h : BkIs w F D s) (hb : Below w.heap.size w w') : BkIs w' (Off F w w') D s := by
  obtain ⟨v, h1, h2, h3⟩ := h
  exact ⟨v, h1.keeps (Keeps.of_below (F := fun _ => False) hb) (fun e => e) (fun _ _ e => e), ⟨h2, Or.inl h1.cells.lt⟩, fun k hk => ⟨h3 k hk, Or.inl (h1.own.lt k hk).2⟩⟩
/-- Numbers out of a row of the call's own. -/
theorem Put_row (w : World) (F : Nat → Prop) (D : Nat) (s : WS) (xs : List Int) (hu : Up F w) (h : BkIs w F D s) (hs : s.out.length + 4 * xs.length ≤ 140737488355000) (hx : xs.length ≤ 9223372036854775807) :
    Calls Try.prog 17 #[.pointer (some ⟨D, 0, none⟩), .slice (some ⟨w.heap.size, 0, none⟩) xs.length xs.length] (w.alloc (.cells (xs.map (Value.int .i64)).toArray 3)) fun e w' => e = .returned (.tuple #[]) ∧ BkIs w' F D (s.ints xs) ∧ Keeps F w w' := by
  have hb : Below w.heap.size w (w.alloc (.cells (xs.map (Value.int .i64)).toArray 3)) := (Below.refl _ _).alloc (Nat.le_refl _) _
  have hB := Blk.new w 3 (xs.map (Value.int .i64)).toArray
  have hsz : (w.alloc (.cells (xs.map (Value.int .i64)).toArray 3)).heap.size = w.heap.size + 1 := by simp
  refine (Put_any _ (Off F w _) D s (some ⟨w.heap.size, 0, none⟩) xs.length xs.length xs (h.skip hb) (fun _ hk => ?_) hs hx).mono fun _ _ ⟨h1, h2, h3⟩ => ⟨h1, (h2.weaken (fun k e => ?_)), Keeps.off hb h3⟩
  · have hB' := hB.keeps hk (fun e => by have := e.2; omega)
    refine ⟨by simp, fun _ => ⟨_, rfl, by rw [hsz]; exact Nat.lt_succ_self _, fun j u hu => ?_⟩⟩
    have ha : (⟨w.heap.size, 0, none⟩ : Addr).add j = ⟨w.heap.size, j, none⟩ := by unfold Addr.add; split <;> simp_all
    rw [ha, hB'.cell j, List.getElem?_toArray]
    exact hu
  · rcases e with e | e
    · exact e.1
    · exact hu k (by omega)
theorem Put_in (w : World) (F : Nat → Prop) (D : Nat) (s : WS) (A : Option Addr) (n c : Nat) (xs : List Int) (hu : Up F w) (h : BkIs w F D s) (hr : Reads w w.heap.size 1 A n (xs.map (Value.int .i64))) (hoff : ∀ ad, A = some ad → 0 < n → ¬ F ad.block) (hs : s.out.length + 4 * n ≤ 140737488355000) (hx : n ≤ 9223372036854775807) :
    Calls Try.prog 17 #[.pointer (some ⟨D, 0, none⟩), .slice A n c] w fun e w' => e = .returned (.tuple #[]) ∧ BkIs w' F D (s.ints xs) ∧ Keeps F w w' :=
  (Put_any w F D s A n c xs h (fun _ hk => reads_off hr hk (Nat.le_refl _) hoff) hs hx).mono fun _ _ ⟨h1, h2, h3⟩ => ⟨h1, h2.weaken hu.grown, h3⟩
theorem Lay_up (w : World) (F : Nat → Prop) (D : Nat) (s : WS) (A : Option Addr) (n c : Nat) (l : List UInt8) (hu : Up F w) (h : BkIs w F D s) (hn : n ≤ 140737488351232) (hr : Rd w w.heap.size A n l) (hs : s.out.length + 65537 ≤ 140737488355328) :
    Calls Try.prog 19 #[.pointer (some ⟨D, 0, none⟩), .slice A n c] w fun e w' => e = .returned (.tuple #[]) ∧ BkIs w' F D (s.bytes l) ∧ Keeps F w w' :=
  (Lay_any w F D s A n c l h hn hr hs).mono fun _ _ ⟨h1, h2, h3⟩ => ⟨h1, h2.weaken hu.grown, h3⟩
theorem RefInts_any (w : World) (F : Nat → Prop) (D : Nat) (s : WS) (A : Option Addr) (n c : Nat) (xs : List Int) (hu : Up F w) (h : BkIs w F D s) (hr : Reads w w.heap.size 1 A n (xs.map (Value.int .i64))) (hoff : ∀ ad, A = some ad → 0 < n → ¬ F ad.block) (hs : s.out.length + 4 * n + 4 ≤ 140737488355000) (hx : n ≤ 9223372036854775807) :
    Calls Try.prog 20 #[.pointer (some ⟨D, 0, none⟩), .slice A n c] w fun e w' => e = .returned (.tuple #[]) ∧ BkIs w' F D (s.list xs) ∧ Keeps F w w' := by
  have hln : xs.length = n := by have := hr.1; simpa using this
  have HLN := Lib.hid hln
  have hl2 := int_len s n
  clear hln
  go_enter Try.func20, Try.ntmps20
  go_wp2_with fail
  refine (Put_row w F D s [(n : Int)] hu h (by simp; omega) (by simp)).mono ?_
  rintro e w1 ⟨rfl, h1, hk1⟩
  go_wp2_with fail
  refine (Put_in w1 F D (s.int n) A n c xs (hu.keeps hk1) h1 (reads_off hr hk1 (Nat.le_refl _) hoff |>.more hk1.size) hoff (by omega) hx).mono ?_
  rintro e w2 ⟨rfl, h2, hk2⟩
  have H2 := Lib.hid h2; have HK2 := Lib.hid (hk1.trans hk2 (fun _ _ e => e))
  clear h2 hk2 hk1 h1 h hr
  go_wp2
  go_end0
  refine ⟨rfl, ?_, HK2.out⟩
  unfold WS.list
  rw [HLN.out]
  exact H2.out
theorem costH_mem (l : List HeadV) : ∀ (j : Nat) (hj : j < l.length), l[j].id.length ≤ costH l := by
  induction l with
  | nil => intro j hj; cases hj
  | cons x r ih =>
    intro j hj
    cases j with
    | zero => simp only [List.getElem_cons_zero, costH]; omega
    | succ j => simp only [List.getElem_cons_succ, costH]; have := ih j (by simpa using hj); omega
set_option maxRecDepth 100000 in
theorem RefHeads_any (w : World) (F : Nat → Prop) (D : Nat) (s : WS) (A : Option Addr) (c : Nat) (hs_ : List HeadV) (hu : Up F w) (h : BkIs w F D s) (hr : HeadsRd w w.heap.size A hs_) (hoff : ∀ ad, A = some ad → ad.block < w.heap.size → 0 < hs_.length → ¬ F ad.block) (hs : s.out.length + costH hs_ + 70000 ≤ 140737488355000) (hx : hs_.length ≤ 9223372036854775807) :
    Calls Try.prog 18 #[.pointer (some ⟨D, 0, none⟩), .slice A hs_.length c] w fun e w' => e = .returned (.tuple #[]) ∧ BkIs w' F D (s.heads hs_) ∧ Keeps F w w' := by
  go_enter Try.func18, Try.ntmps18
  go_wp2_with fail
  refine (Put_row w F D s [(hs_.length : Int)] hu h (by simp; omega) (by simp)).mono ?_
  rintro e w1 ⟨rfl, h1, hk1⟩
  have hl2 := int_len s hs_.length
  have h1' : BkIs w1 F D (s.int hs_.length) := h1
  generalize hs1 : s.int hs_.length = s1 at h1' hl2
  have HS1 := Lib.hid hs1; have H1 := Lib.hid h1'; have HK1 := Lib.hid hk1; have HU := Lib.hid hu; have HR := Lib.hid hr; have HOFF := Lib.hid hoff
  clear hs1 h1 h1' hk1 hu hr hoff h
  go_wp2_with fail
  go_loopw [4] (fun q wr => ∃ j : Nat, j ≤ hs_.length ∧ q = .int .i64 (j : Int) ∧ BkIs wr F D ((hs_.take j).foldl WS.head s1) ∧ Keeps F w wr) (fun q _ => hs_.length - (intOf q).toNat)
  case atStart => exact ⟨0, by omega, rfl, H1.out, HK1.out⟩
  case round =>
    obtain ⟨j, hj, rfl, hw, hk⟩ := hrel
    have HW := Lib.hid hw; have HK := Lib.hid hk
    clear hw hk
    by_cases hjn : j < hs_.length
    · have hjn' : (j : Int) < (hs_.length : Int) := by omega
      have hrr := HR.out.off HK.out (Nat.le_refl _) (fun ad e hB => HOFF.out ad e hB (by omega))
      obtain ⟨ad, rfl, hadB, hc⟩ := hrr (by omega)
      obtain ⟨c0, c1⟩ := hc j _ (List.getElem?_eq_getElem hjn)
      have hst := heads_snoc s1 hs_ j hjn
      have hlen := heads_len (hs_.take j) s1
      have hlen2 := costH_take hs_ j
      have hcj : ∃ x, x = hs_[j] := ⟨_, rfl⟩
      have hxl : hs_[j].id.length ≤ costH hs_ := costH_mem hs_ j hjn
      generalize hs_[j] = x at c0 c1 hst hxl
      have HST := Lib.hid hst
      clear hst hrr hc hcj
      go_wp2_with (refine wpList_bytes rfl 9 29 5 (.tmp 21) rfl x.id rfl Try.underlying9 Try.underlying29 Try.underlying5 ?_; intro cc W hbW hlW hrW)
      have hiW := HW.out.skip hbW
      have huW := (HU.out.keeps HK.out).off hbW
      refine (Lay_up W _ D _ _ _ cc x.id huW hiW (by omega) hrW (by omega)).mono ?_
      rintro e wy ⟨rfl, hy, hky⟩
      have hlen3 := bytes_len2 (List.foldl WS.head s1 (hs_.take j)) x.id
      have hky' := Keeps.off hbW hky
      have hnF : ¬ F ad.block := HOFF.out ad rfl hadB (by omega)
      have c1' : wy.cell? ⟨(ad.add (j * 2)).block, (ad.add (j * 2)).off + 1, none⟩ = some (.int .i64 x.size) := (World.cell?_of_block (a := ⟨(ad.add (j * 2)).block, (ad.add (j * 2)).off + 1, none⟩) (by show _ = wr.heap[(ad.add (j * 2)).block]?; rw [block_of_add]; exact hky'.block _ (Nat.lt_of_lt_of_le hadB HK.out.size) hnF)).trans c1
      have HY := Lib.hid (hy.weaken (G := F) (fun k e => e.1)); have HKY := Lib.hid (HK.out.trans hky' (fun _ _ e => e))
      clear hy hky hky' huW hbW hiW hlW hrW c0 c1 hnF
      go_wp2_with fail
      refine (Put_row wy F D _ [x.size] (HU.out.keeps HKY.out) HY.out (by simp; omega) (by simp)).mono ?_
      rintro e wz ⟨rfl, hz, hkz⟩
      have HZ := Lib.hid (show BkIs wz F D ((List.foldl WS.head s1 (hs_.take j)).head x) from hz); have HKZ := Lib.hid (HKY.out.trans hkz (fun _ _ e => e))
      clear hz hkz c1' hlen hlen2 hlen3
      go_wp2_with fail
      go_roundw
      case rel => exact ⟨j + 1, by omega, by go_num, by rw [← HST.out]; exact HZ.out, HKZ.out⟩
      case measure => simp [intOf]; omega
    · obtain rfl : j = hs_.length := by omega
      have h9 := HW.out
      rw [List.take_length] at h9
      have H9 := Lib.hid h9
      clear h9
      go_wp2
      go_end0
      refine ⟨rfl, ?_, HK.out⟩
      unfold WS.heads
      rw [HS1.out]
      exact H9.out
theorem heads_len2 (s : WS) (l : List HeadV) : (s.heads l).out.length ≤ s.out.length + (4 + costH l) := by
  have h1 := heads_len l (s.int l.length)
  have h2 := int_len s l.length
  unfold WS.heads
  omega
theorem costH_ge (l : List HeadV) : l.length ≤ costH l := by
  induction l with
  | nil => exact Nat.le_refl _
  | cons x r ih => simp only [List.length_cons, costH]; omega
theorem BkIs.weaken' {w : World} {F G : Nat → Prop} {D : Nat} {s : WS} (h : BkIs w F D s) (hn : ∀ k, F k → G k) : BkIs w G D s := h.weaken hn
/-- What a message's bytes are, to the document. -/
def RefPost (w : World) (s : WS) (e : Ending) (w' : World) : Prop := ∃ v', e = .returned (.tuple #[v', .bool (!s.bad)]) ∧ Fresh w' w.heap.size v' s.out ∧ Below w.heap.size w w'
set_option maxRecDepth 100000 in
set_option maxHeartbeats 4000000 in
theorem RefMsg_any (w : World) (m : MsgV) (Ah Ad Ap Ax : Option Addr) (ch cd cp cx : Nat) (hr : MsgRd w w.heap.size m Ah Ad Ap Ax) (hs : m.cost ≤ 140737488200000) :
    Calls Try.prog 9 #[.agg (msgCells m Ah Ad Ap Ax ch cd cp cx)] w (RefPost w (WS.msg ⟨[], false⟩ m)) := by
  go_enter Try.func9, Try.ntmps9
  go_upto_region 1 with (fail)
  have hb1 : Below w.heap.size w (w.alloc (.cells (msgCells m Ah Ad Ap Ax ch cd cp cx) 31)) := (Below.refl _ _).alloc (Nat.le_refl _) _
  have hM := Blk.new w 31 (msgCells m Ah Ad Ap Ax ch cd cp cx)
  have hr1 := hr.below hb1 (Nat.le_refl _)
  have hsz : (w.alloc (.cells (msgCells m Ah Ad Ap Ax ch cd cp cx) 31)).heap.size = w.heap.size + 1 := by simp
  obtain ⟨M, hMe⟩ : ∃ M, M = w.heap.size := ⟨_, rfl⟩
  rw [← hMe] at hM hsz ⊢
  generalize w.alloc (.cells (msgCells m Ah Ad Ap Ax ch cd cp cx) 31) = w1 at hb1 hM hr1 hsz ⊢
  have HME := Lib.hid hMe; clear hMe
  have HSZ := Lib.hid hsz; clear hsz
  go_upto_region 2 with (fail)
  have hb3 : Below w1.heap.size w1 (w1.alloc (.cells #[.slice none 0 0, .bool false] 57)) := (Below.refl _ _).alloc (Nat.le_refl _) _
  have hBK := Blk.new w1 57 #[.slice none 0 0, .bool false]
  have h3 : BkIs (w1.alloc (.cells #[.slice none 0 0, .bool false] 57)) (fun k => w1.heap.size ≤ k) w1.heap.size ⟨[], false⟩ :=
    ⟨.slice none 0 0, ⟨hBK, Own.nil_ _ _, fun _ e => by cases e⟩, Nat.le_refl _, fun _ e => by cases e⟩
  have hM3 := hM.alloc (.cells #[.slice none 0 0, .bool false] 57)
  have hr3 := hr1.below (hb3.mono (by have := HME.out; have := HSZ.out; omega)) (by have := HME.out; have := HSZ.out; omega)
  have hb03 := hb1.trans (hb3.mono (by have := HME.out; have := HSZ.out; omega))
  have hu3 : Up (fun k => w1.heap.size ≤ k) (w1.alloc (.cells #[.slice none 0 0, .bool false] 57)) := fun k hk => by simp at hk; omega
  obtain ⟨D, hDe⟩ : ∃ D, D = w1.heap.size := ⟨_, rfl⟩
  rw [← hDe] at h3 hu3 ⊢
  generalize w1.alloc (.cells #[.slice none 0 0, .bool false] 57) = w3 at h3 hM3 hr3 hb03 hu3 ⊢
  obtain ⟨F, hF⟩ : ∃ F : Nat → Prop, F = fun k => D ≤ k := ⟨_, rfl⟩
  rw [← hF] at h3 hu3
  have hFM : ¬ F M := by rw [hF]; intro e; have := HSZ.out; omega
  have hFB : ∀ k, k < w.heap.size → ¬ F k := by rw [hF]; intro k hk e; have := HME.out; have := HSZ.out; omega
  have hFB' : ∀ k, F k → w.heap.size ≤ k := by rw [hF]; intro k e; have := HME.out; have := HSZ.out; omega
  have h3l : w.heap.size ≤ w3.heap.size := hb03.size
  have HS := Lib.hid hs
  unfold MsgV.cost at hs
  have H3 := Lib.hid h3; have HU := Lib.hid hu3; have HM3 := Lib.hid hM3; have HR3 := Lib.hid hr3; have HB03 := Lib.hid hb03; have HFM := Lib.hid hFM; have HFB := Lib.hid hFB; have HFB' := Lib.hid hFB'
  have HK3 := Lib.hid (Keeps.refl F w3)
  clear h3 hu3 hM3 hr3 hb03 hFM hFB hFB' hF hDe hb3 hb1 hM hr1 hr hBK
  have hl3 : (⟨[], false⟩ : WS).out.length ≤ 0 := Nat.le_refl _
  obtain ⟨s3, hs3⟩ : ∃ x, x = (⟨[], false⟩ : WS) := ⟨_, rfl⟩
  rw [← hs3] at H3 hl3
  have HS3 := Lib.hid hs3
  clear hs3
  have m0 : w3.cell? ⟨M, 0, none⟩ = some (msgCells m Ah Ad Ap Ax ch cd cp cx)[0] := ((HM3.out.keeps HK3.out HFM.out).cell 0).trans rfl
  have m1 : w3.cell? ⟨M, 1, none⟩ = some (msgCells m Ah Ad Ap Ax ch cd cp cx)[1] := ((HM3.out.keeps HK3.out HFM.out).cell 1).trans rfl
  have m2 : w3.cell? ⟨M, 2, none⟩ = some (msgCells m Ah Ad Ap Ax ch cd cp cx)[2] := ((HM3.out.keeps HK3.out HFM.out).cell 2).trans rfl
  have m3 : w3.cell? ⟨M, 3, none⟩ = some (msgCells m Ah Ad Ap Ax ch cd cp cx)[3] := ((HM3.out.keeps HK3.out HFM.out).cell 3).trans rfl
  have m4 : w3.cell? ⟨M, 4, none⟩ = some (msgCells m Ah Ad Ap Ax ch cd cp cx)[4] := ((HM3.out.keeps HK3.out HFM.out).cell 4).trans rfl
  have m5 : w3.cell? ⟨M, 5, none⟩ = some (msgCells m Ah Ad Ap Ax ch cd cp cx)[5] := ((HM3.out.keeps HK3.out HFM.out).cell 5).trans rfl
  have m6 : w3.cell? ⟨M, 6, none⟩ = some (msgCells m Ah Ad Ap Ax ch cd cp cx)[6] := ((HM3.out.keeps HK3.out HFM.out).cell 6).trans rfl
  simp only [List.getElem_toArray, List.getElem_cons_succ, List.getElem_cons_zero] at m0 m1 m2 m3 m4 m5 m6
  go_wp2_with fail
  refine (Put_row w3 F D s3 [m.kind, m.from_, m.to_, m.session, m.decided, m.commit, m.epoch] (HU.out.keeps HK3.out) H3.out (by simp; omega) (by simp)).mono ?_
  rintro e w4 ⟨rfl, h4, hk4⟩
  have H4 := Lib.hid h4; have HK4 := Lib.hid (HK3.out.trans hk4 (fun _ _ e => e))
  clear h4 hk4 m0 m1 m2 m3 m4 m5 m6
  have hl4 : (s3.ints [m.kind, m.from_, m.to_, m.session, m.decided, m.commit, m.epoch]).out.length ≤ s3.out.length + 28 := ints_len [m.kind, m.from_, m.to_, m.session, m.decided, m.commit, m.epoch] s3
  obtain ⟨s4, hs4⟩ : ∃ x, x = (s3.ints [m.kind, m.from_, m.to_, m.session, m.decided, m.commit, m.epoch]) := ⟨_, rfl⟩
  have h4' : BkIs w4 F D s4 := by rw [hs4]; exact H4.out
  rw [← hs4] at hl4
  clear H4
  have H4 := Lib.hid h4'
  have HS4 := Lib.hid hs4
  clear hs4 h4'

  have m7 : w4.cell? ⟨M, 7, none⟩ = some (msgCells m Ah Ad Ap Ax ch cd cp cx)[7] := ((HM3.out.keeps HK4.out HFM.out).cell 7).trans rfl
  simp only [List.getElem_toArray, List.getElem_cons_succ, List.getElem_cons_zero] at m7
  go_wp2_with fail
  have hrr := HR3.out.heads.off HK4.out h3l (fun _ _ e => HFB.out _ e)
  refine (RefHeads_any w4 F D s4 Ah ch m.heads (HU.out.keeps HK4.out) H4.out (fun hn => by obtain ⟨ad, e, hB, hc⟩ := hrr hn; exact ⟨ad, e, Nat.lt_of_lt_of_le hB (Nat.le_trans h3l HK4.out.size), hc⟩) (fun ad e _ h0 => by obtain ⟨ad', e', hB, _⟩ := hrr h0; rw [e] at e'; injection e' with e'; subst e'; exact HFB.out _ hB) (by omega) (by have := costH_ge m.heads; omega)).mono ?_
  clear hrr
  rintro e w6 ⟨rfl, h6, hk6⟩
  have H6 := Lib.hid h6; have HK6 := Lib.hid (HK4.out.trans hk6 (fun _ _ e => e))
  clear h6 hk6 m7
  have hl6 : (s4.heads m.heads).out.length ≤ s4.out.length + (4 + costH m.heads) := heads_len2 s4 m.heads
  obtain ⟨s6, hs6⟩ : ∃ x, x = (s4.heads m.heads) := ⟨_, rfl⟩
  have h6' : BkIs w6 F D s6 := by rw [hs6]; exact H6.out
  rw [← hs6] at hl6
  clear H6
  have H6 := Lib.hid h6'
  have HS6 := Lib.hid hs6
  clear hs6 h6'

  have m8 : w6.cell? ⟨M, 8, none⟩ = some (msgCells m Ah Ad Ap Ax ch cd cp cx)[8] := ((HM3.out.keeps HK6.out HFM.out).cell 8).trans rfl
  simp only [List.getElem_toArray, List.getElem_cons_succ, List.getElem_cons_zero] at m8
  go_wp2_with (refine wpList_bytes rfl 9 29 5 (.tmp 30) rfl m.id rfl Try.underlying9 Try.underlying29 Try.underlying5 ?_; intro cc W hbW hlW hrW)
  clear m8
  have hiW := H6.out.skip hbW
  have huW := (HU.out.keeps HK6.out).off hbW
  refine (Lay_up W _ D s6 _ _ cc m.id huW hiW (by omega) hrW (by omega)).mono ?_
  rintro e w7 ⟨rfl, h7, hk7⟩
  have H7 := Lib.hid (h7.weaken (G := F) (fun k e => e.1)); have HK7 := Lib.hid (HK6.out.trans (Keeps.off hbW hk7) (fun _ _ e => e))
  clear h7 hk7 hiW huW hbW hlW hrW
  have hl7 : (s6.bytes m.id).out.length ≤ s6.out.length + (2 + m.id.length) := bytes_len s6 m.id
  obtain ⟨s7, hs7⟩ : ∃ x, x = (s6.bytes m.id) := ⟨_, rfl⟩
  have h7' : BkIs w7 F D s7 := by rw [hs7]; exact H7.out
  rw [← hs7] at hl7
  clear H7
  have H7 := Lib.hid h7'
  have HS7 := Lib.hid hs7
  clear hs7 h7'

  have m9 : w7.cell? ⟨M, 9, none⟩ = some (msgCells m Ah Ad Ap Ax ch cd cp cx)[9] := ((HM3.out.keeps HK7.out HFM.out).cell 9).trans rfl
  have m10 : w7.cell? ⟨M, 10, none⟩ = some (msgCells m Ah Ad Ap Ax ch cd cp cx)[10] := ((HM3.out.keeps HK7.out HFM.out).cell 10).trans rfl
  have m11 : w7.cell? ⟨M, 11, none⟩ = some (msgCells m Ah Ad Ap Ax ch cd cp cx)[11] := ((HM3.out.keeps HK7.out HFM.out).cell 11).trans rfl
  simp only [List.getElem_toArray, List.getElem_cons_succ, List.getElem_cons_zero] at m9 m10 m11
  go_wp2_with fail
  refine (Put_row w7 F D s7 [m.size, m.sort, m.target] (HU.out.keeps HK7.out) H7.out (by simp; omega) (by simp)).mono ?_
  rintro e w8 ⟨rfl, h8, hk8⟩
  have H8 := Lib.hid h8; have HK8 := Lib.hid (HK7.out.trans hk8 (fun _ _ e => e))
  clear h8 hk8 m9 m10 m11
  have hl8 : (s7.ints [m.size, m.sort, m.target]).out.length ≤ s7.out.length + 12 := ints_len [m.size, m.sort, m.target] s7
  obtain ⟨s8, hs8⟩ : ∃ x, x = (s7.ints [m.size, m.sort, m.target]) := ⟨_, rfl⟩
  have h8' : BkIs w8 F D s8 := by rw [hs8]; exact H8.out
  rw [← hs8] at hl8
  clear H8
  have H8 := Lib.hid h8'
  have HS8 := Lib.hid hs8
  clear hs8 h8'

  have m12 : w8.cell? ⟨M, 12, none⟩ = some (msgCells m Ah Ad Ap Ax ch cd cp cx)[12] := ((HM3.out.keeps HK8.out HFM.out).cell 12).trans rfl
  simp only [List.getElem_toArray, List.getElem_cons_succ, List.getElem_cons_zero] at m12
  go_wp2_with fail
  have hrr := reads_off2 HR3.out.dealers HK8.out h3l (fun _ _ e => HFB.out _ e)
  refine (RefInts_any w8 F D s8 Ad _ cd m.dealers (HU.out.keeps HK8.out) H8.out (hrr.more (Nat.le_trans h3l HK8.out.size)) (fun ad e h0 => by obtain ⟨ad', e', hB, _⟩ := hrr.2 h0; rw [e] at e'; injection e' with e'; subst e'; exact HFB.out _ hB) (by omega) (by omega)).mono ?_
  clear hrr
  rintro e w9 ⟨rfl, h9, hk9⟩
  have H9 := Lib.hid h9; have HK9 := Lib.hid (HK8.out.trans hk9 (fun _ _ e => e))
  clear h9 hk9 m12
  have hl9 : (s8.list m.dealers).out.length ≤ s8.out.length + (4 + 4 * m.dealers.length) := list_len s8 m.dealers
  obtain ⟨s9, hs9⟩ : ∃ x, x = (s8.list m.dealers) := ⟨_, rfl⟩
  have h9' : BkIs w9 F D s9 := by rw [hs9]; exact H9.out
  rw [← hs9] at hl9
  clear H9
  have H9 := Lib.hid h9'
  have HS9 := Lib.hid hs9
  clear hs9 h9'

  have m13 : w9.cell? ⟨M, 13, none⟩ = some (msgCells m Ah Ad Ap Ax ch cd cp cx)[13] := ((HM3.out.keeps HK9.out HFM.out).cell 13).trans rfl
  simp only [List.getElem_toArray, List.getElem_cons_succ, List.getElem_cons_zero] at m13
  go_wp2_with fail
  have hrr := reads_off2 HR3.out.parts HK9.out h3l (fun _ _ e => HFB.out _ e)
  refine (RefInts_any w9 F D s9 Ap _ cp m.parts (HU.out.keeps HK9.out) H9.out (hrr.more (Nat.le_trans h3l HK9.out.size)) (fun ad e h0 => by obtain ⟨ad', e', hB, _⟩ := hrr.2 h0; rw [e] at e'; injection e' with e'; subst e'; exact HFB.out _ hB) (by omega) (by omega)).mono ?_
  clear hrr
  rintro e w10 ⟨rfl, h10, hk10⟩
  have H10 := Lib.hid h10; have HK10 := Lib.hid (HK9.out.trans hk10 (fun _ _ e => e))
  clear h10 hk10 m13
  have hl10 : (s9.list m.parts).out.length ≤ s9.out.length + (4 + 4 * m.parts.length) := list_len s9 m.parts
  obtain ⟨s10, hs10⟩ : ∃ x, x = (s9.list m.parts) := ⟨_, rfl⟩
  have h10' : BkIs w10 F D s10 := by rw [hs10]; exact H10.out
  rw [← hs10] at hl10
  clear H10
  have H10 := Lib.hid h10'
  have HS10 := Lib.hid hs10
  clear hs10 h10'

  have m14 : w10.cell? ⟨M, 14, none⟩ = some (msgCells m Ah Ad Ap Ax ch cd cp cx)[14] := ((HM3.out.keeps HK10.out HFM.out).cell 14).trans rfl
  simp only [List.getElem_toArray, List.getElem_cons_succ, List.getElem_cons_zero] at m14
  go_wp2_with fail
  refine (Put_row w10 F D s10 [m.code] (HU.out.keeps HK10.out) H10.out (by simp; omega) (by simp)).mono ?_
  rintro e w11 ⟨rfl, h11, hk11⟩
  have H11 := Lib.hid h11; have HK11 := Lib.hid (HK10.out.trans hk11 (fun _ _ e => e))
  clear h11 hk11 m14
  have hl11 : (s10.int m.code).out.length ≤ s10.out.length + 4 := int_len s10 _
  obtain ⟨s11, hs11⟩ : ∃ x, x = (s10.int m.code) := ⟨_, rfl⟩
  have h11' : BkIs w11 F D s11 := by rw [hs11]; exact H11.out
  rw [← hs11] at hl11
  clear H11
  have H11 := Lib.hid h11'
  have HS11 := Lib.hid hs11
  clear hs11 h11'

  have m15 : w11.cell? ⟨M, 15, none⟩ = some (msgCells m Ah Ad Ap Ax ch cd cp cx)[15] := ((HM3.out.keeps HK11.out HFM.out).cell 15).trans rfl
  simp only [List.getElem_toArray, List.getElem_cons_succ, List.getElem_cons_zero] at m15
  go_wp2_with fail
  have hrr := rd_off HR3.out.data HK11.out h3l (fun _ _ e => HFB.out _ e)
  refine (Lay_up w11 F D s11 Ax _ cx m.data (HU.out.keeps HK11.out) H11.out (by omega) (hrr.more (Nat.le_trans h3l HK11.out.size)) (by omega)).mono ?_
  clear hrr
  rintro e w12 ⟨rfl, h12, hk12⟩
  have H12 := Lib.hid h12; have HK12 := Lib.hid (HK11.out.trans hk12 (fun _ _ e => e))
  clear h12 hk12 m15
  have hl12 : (s11.bytes m.data).out.length ≤ s11.out.length + (2 + m.data.length) := bytes_len s11 m.data
  obtain ⟨s12, hs12⟩ : ∃ x, x = (s11.bytes m.data) := ⟨_, rfl⟩
  have h12' : BkIs w12 F D s12 := by rw [hs12]; exact H12.out
  rw [← hs12] at hl12
  clear H12
  have H12 := Lib.hid h12'
  have HS12 := Lib.hid hs12
  clear hs12 h12'

  obtain ⟨v, hv, hFD, hFv⟩ := H12.out
  have c0 := hv.c0
  have c1 := hv.c1
  have hms : s12 = WS.msg ⟨[], false⟩ m := by
    rw [HS12.out, HS11.out, HS10.out, HS9.out, HS8.out, HS7.out, HS6.out, HS4.out, HS3.out]
    rfl
  have hbF := HB03.out.trans (HK12.out.below HFB'.out h3l)
  obtain ⟨Av, cv, rfl⟩ := hv.own.shape
  have hfr : Fresh w12.drew w.heap.size (.slice Av s12.out.length cv) s12.out := ⟨Av, cv, rfl, hv.own.rd.drew, fun ad e => by
    obtain ⟨_, _, _, hcap⟩ := hv.own.cap
    subst e
    exact HFB'.out _ (hFv _ (by obtain ⟨_, _, g, hg⟩ := hcap ad rfl; rw [hg]; rfl))⟩
  have hfin : RefPost w (WS.msg ⟨[], false⟩ m) (.returned (.tuple #[.slice Av s12.out.length cv, .bool (!s12.bad)])) w12.drew := by
    rw [← hms]
    exact ⟨_, rfl, hfr, hbF.drew⟩
  have HFIN := Lib.hid hfin
  clear hv hbF hms hfr hfin
  go_wp2_with fail
  refine wp_region_q (by kernel_rfl) (by kernel_rfl) ?_
  repeat (first | go_big_quiet_skip | (go_big_quiet_want; go_big_quiet_op; first | go_big_quiet_on))
  refine wpQuiet_nil ?_
  go_wp2
  go_ret2
  exact HFIN.out
end Go.Proofs.Ytoekmgpnmhknoaa
