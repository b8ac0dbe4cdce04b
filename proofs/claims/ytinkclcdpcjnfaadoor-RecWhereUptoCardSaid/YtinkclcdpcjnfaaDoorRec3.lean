/- The walks of rec's EncodeState and EncodeBook. Condition: what is written is no great thing. Printed by mkrec3.py. -/
import Derived.Test.YtinkclcdpcjnfaaDoorRec2
namespace Go.Proofs.YtinkclcdpcjnfaaDoor
open Go.RowKit
abbrev stateCells (x : StateV) (Ao Ap : Option Addr) (co cp : Nat) : Array Value :=
  #[.int .i64 x.epoch, .int .i64 x.decided, .int .i64 x.dealt, .slice Ao x.objs.length co, .int .i64 x.psession, .int .i64 x.pkind, .int .i64 x.pepoch, .slice Ap x.pobjs.length cp]
structure StateRd (w : World) (S : Nat → Prop) (x : StateV) (Ao Ap : Option Addr) : Prop where
  objs : ObjsRd w S Ao x.objs
  pobjs : ObjsRd w S Ap x.pobjs
theorem StateRd.off {w w' : World} {F S : Nat → Prop} {x : StateV} {Ao Ap : Option Addr} (h : StateRd w S x Ao Ap) (hk : Keeps F w w') (hS : ∀ k, S k → ¬ F k) : StateRd w' S x Ao Ap := ⟨h.objs.off hk hS, h.pobjs.off hk hS⟩
theorem StateRd.below {w w' : World} {S : Nat → Prop} {x : StateV} {Ao Ap : Option Addr} (h : StateRd w S x Ao Ap) (hb : Below w.heap.size w w') : StateRd w' S x Ao Ap := h.off (Keeps.of_below (F := fun _ => False) hb) (fun _ _ e => e)
theorem StateRd.weaken {w : World} {S S' : Nat → Prop} {x : StateV} {Ao Ap : Option Addr} (h : StateRd w S x Ao Ap) (hS : ∀ k, S k → S' k) : StateRd w S' x Ao Ap := ⟨h.objs.weaken hS, h.pobjs.weaken hS⟩
theorem objs_len2 (s : WS) (l : List ObjV) : (s.objs l).out.length ≤ s.out.length + (4 + costO l) := by
  have h1 := objs_len l (s.int l.length)
  have h2 := int_len s l.length
  unfold WS.objs; omega
theorem costO_ge (l : List ObjV) : l.length ≤ costO l := by
  induction l with
  | nil => exact Nat.le_refl _
  | cons x r ih => simp only [List.length_cons, costO]; omega
theorem reads_row {w : World} {q : Nat} {t : TypeId} {cs : List Value} {size n : Nat} (h : Blk w q t cs.toArray) (hn : cs.length = n * size) : Reads w w.heap.size size (some ⟨q, 0, none⟩) n cs := by
  refine ⟨hn, fun _ => ⟨_, rfl, h.lt, fun j u hu => ?_⟩⟩
  have ha : (⟨q, 0, none⟩ : Addr).add j = ⟨q, j, none⟩ := by unfold Addr.add; split <;> simp_all
  rw [ha, h.cell j, List.getElem?_toArray]
  exact hu
set_option maxRecDepth 100000 in
set_option maxHeartbeats 4000000 in
theorem EncodeState_any (w : World) (S : Nat → Prop) (x : StateV) (Ao Ap : Option Addr) (co cp : Nat) (hr : StateRd w S x Ao Ap) (hS : ∀ k, S k → k < w.heap.size) (hs : x.cost ≤ 140737488000000) :
    Calls Tryd.prog 9 #[.agg (stateCells x Ao Ap co cp)] w (EncPost w (WS.state ⟨[], false⟩ x)) := by
  go_enter Tryd.func9, Tryd.ntmps9
  go_wp2_with fail
  have hb1 : Below w.heap.size w (w.alloc (.cells (stateCells x Ao Ap co cp) 26)) := (Below.refl _ _).alloc (Nat.le_refl _) _
  have hM := Blk.new w 26 (stateCells x Ao Ap co cp)
  have hr1 := hr.below hb1
  have hsz : (w.alloc (.cells (stateCells x Ao Ap co cp) 26)).heap.size = w.heap.size + 1 := by simp
  obtain ⟨M, hMe⟩ : ∃ M, M = w.heap.size := ⟨_, rfl⟩
  rw [← hMe] at hM hsz ⊢
  generalize w.alloc (.cells (stateCells x Ao Ap co cp) 26) = w1 at hb1 hM hr1 hsz ⊢
  have HME := Lib.hid hMe; clear hMe
  refine (WNew_any w1).mono ?_
  rintro e w2 ⟨D, rfl, hw2, hb2⟩
  have hM2 := hM.below hb2 (by omega)
  have hb2' : Below w.heap.size w1 w2 := hb2.mono (by have := HME.out; omega)
  have hr2 := hr1.below hb2
  have hb02 := hb1.trans hb2'
  have hb3 : Below w2.heap.size w2 (w2.alloc (.cells #[.pointer (some ⟨D, 0, none⟩)] 57)) := (Below.refl _ _).alloc (Nat.le_refl _) _
  have hP3 := Blk.new w2 57 #[.pointer (some ⟨D, 0, none⟩)]
  have hM3 := hM2.alloc (.cells #[.pointer (some ⟨D, 0, none⟩)] 57)
  have h3 := hw2.skip hb3
  have hu2 : Up (fun k => w1.heap.size ≤ k) w2 := fun k hk => Nat.le_trans hb2.size hk
  have hu3 := hu2.off hb3
  have hr3 := hr2.below hb3
  have hb03 := hb02.trans (hb3.mono hb02.size)
  have hsz3 : (w2.alloc (.cells #[.pointer (some ⟨D, 0, none⟩)] 57)).heap.size = w2.heap.size + 1 := by simp
  have hM2l : M < w2.heap.size := hM2.lt
  have hb2s := hb2.size
  go_upto_region 2 with (fail)
  obtain ⟨P, hPe⟩ : ∃ P, P = w2.heap.size := ⟨_, rfl⟩
  rw [← hPe] at hP3 hsz3 hM2l hb2s ⊢
  obtain ⟨w3, hw3⟩ : ∃ w3, w3 = w2.alloc (.cells #[.pointer (some ⟨D, 0, none⟩)] 57) := ⟨_, rfl⟩
  rw [← hw3] at h3 hu3 hb3 hP3 hM3 hr3 hb03 hsz3 ⊢
  obtain ⟨F, hF⟩ : ∃ F, F = Off (fun k => w1.heap.size ≤ k) w2 w3 := ⟨_, rfl⟩
  have hFP : ¬ F P := by rw [hF]; intro e; have := e.2; omega
  have hFM : ¬ F M := by rw [hF]; intro e; have := e.1; omega
  have hFS : ∀ k, S k → ¬ F k := by rw [hF]; intro k hk e; have := hS k hk; have := e.1; have := HME.out; omega
  have hFB' : ∀ k, F k → w.heap.size ≤ k := by rw [hF]; intro k e; have := e.1; have := HME.out; omega
  rw [← hF] at h3 hu3
  have h3l : w.heap.size ≤ w3.heap.size := hb03.size
  have HS := Lib.hid hs
  unfold StateV.cost at hs
  have hge1 := costO_ge x.objs
  have hge2 := costO_ge x.pobjs
  have H3 := Lib.hid h3; have HU := Lib.hid hu3; have HP3 := Lib.hid hP3; have HM3 := Lib.hid hM3; have HR3 := Lib.hid hr3; have HB03 := Lib.hid hb03; have HFP := Lib.hid hFP; have HFM := Lib.hid hFM; have HFS := Lib.hid hFS; have HFB' := Lib.hid hFB'
  have HK3 := Lib.hid (Keeps.refl F w3)
  clear h3 hu3 hP3 hM3 hr3 hb03 hFP hFM hFS hFB' hF hw3 hPe hsz3 hb3 hu2 hw2 hb2 hr2 hb02 hb1 hsz hM hM2 hr1 hb2' hr hM2l hb2s hS
  have hl3 : (⟨[], false⟩ : WS).out.length ≤ 0 := Nat.le_refl _
  obtain ⟨s3, hs3⟩ : ∃ ss, ss = (⟨[], false⟩ : WS) := ⟨_, rfl⟩
  rw [← hs3] at H3 hl3
  have HS3 := Lib.hid hs3
  clear hs3
  have m0 : w3.cell? ⟨M, 0, none⟩ = some (stateCells x Ao Ap co cp)[0] := ((HM3.out.keeps HK3.out HFM.out).cell 0).trans rfl
  have m1 : w3.cell? ⟨M, 1, none⟩ = some (stateCells x Ao Ap co cp)[1] := ((HM3.out.keeps HK3.out HFM.out).cell 1).trans rfl
  have m2 : w3.cell? ⟨M, 2, none⟩ = some (stateCells x Ao Ap co cp)[2] := ((HM3.out.keeps HK3.out HFM.out).cell 2).trans rfl
  simp only [List.getElem_toArray, List.getElem_cons_succ, List.getElem_cons_zero] at m0 m1 m2
  go_wp2_with (first | (refine wpList_load_row rfl 57 (.tmp 4) rfl P rfl _ _ _ _ (HP3.out.keeps HK3.out HFP.out) Tryd.underlying57 rfl (by kernel_rfl) ?_) | fail)
  clear m0 m1 m2
  have hR := Blk.new w3 3 #[.int .i64 x.epoch, .int .i64 x.decided, .int .i64 x.dealt]
  have hbR : Below w3.heap.size w3 (w3.alloc (.cells #[.int .i64 x.epoch, .int .i64 x.decided, .int .i64 x.dealt] 3)) := (Below.refl _ _).alloc (Nat.le_refl _) _
  have hi := H3.out.skip hbR
  have hui := (HU.out.keeps HK3.out).off hbR
  have hszR : (w3.alloc (.cells #[.int .i64 x.epoch, .int .i64 x.decided, .int .i64 x.dealt] 3)).heap.size = w3.heap.size + 1 := by simp
  have hrow : Reads (w3.alloc (.cells #[.int .i64 x.epoch, .int .i64 x.decided, .int .i64 x.dealt] 3)) (w3.alloc (.cells #[.int .i64 x.epoch, .int .i64 x.decided, .int .i64 x.dealt] 3)).heap.size 1 (some ⟨w3.heap.size, 0, none⟩) 3 (([x.epoch, x.decided, x.dealt]).map (Value.int .i64)) := reads_row (cs := ([x.epoch, x.decided, x.dealt]).map (Value.int .i64)) hR rfl
  refine (PenInts_any _ (Off F w3 (w3.alloc (.cells #[.int .i64 x.epoch, .int .i64 x.decided, .int .i64 x.dealt] 3))) D s3 (some ⟨w3.heap.size, 0, none⟩) 3 3 [x.epoch, x.decided, x.dealt] hui hi (by omega) hrow (fun ad e _ hg => by injection e with e; subst e; have := hg.2; dsimp only at this; omega) (by omega)).mono ?_
  rintro e w4 ⟨rfl, h4, hk4⟩
  have H4 := Lib.hid (h4.weaken (G := F) (fun k e => e.1)); have HK4 := Lib.hid (HK3.out.trans (Keeps.off hbR hk4) (fun _ _ e => e))
  clear h4 hk4 hrow hszR hui hi hbR hR
  have hl4 : (s3.ints [x.epoch, x.decided, x.dealt]).out.length ≤ s3.out.length + 12 := ints_len [x.epoch, x.decided, x.dealt] s3
  obtain ⟨s4, hs4⟩ : ∃ ss, ss = (s3.ints [x.epoch, x.decided, x.dealt]) := ⟨_, rfl⟩
  rw [← hs4] at H4 hl4
  have HS4 := Lib.hid hs4
  clear hs4
  have m3 : w4.cell? ⟨M, 3, none⟩ = some (stateCells x Ao Ap co cp)[3] := ((HM3.out.keeps HK4.out HFM.out).cell 3).trans rfl
  simp only [List.getElem_toArray, List.getElem_cons_succ, List.getElem_cons_zero] at m3
  go_wp2_with (first | (refine wpList_load_row rfl 57 (.tmp 4) rfl P rfl _ _ _ _ (HP3.out.keeps HK4.out HFP.out) Tryd.underlying57 rfl (by kernel_rfl) ?_) | fail)
  clear m3
  refine (PenObjs_any w4 F S D s4 Ao co x.objs (HU.out.keeps HK4.out) H4.out (HR3.out.off HK4.out HFS.out).objs HFS.out (by omega) (by omega)).mono ?_
  rintro e w5 ⟨rfl, h5, hk5⟩
  have H5 := Lib.hid h5; have HK5 := Lib.hid (HK4.out.trans hk5 (fun _ _ e => e))
  clear h5 hk5
  have hl5 : (s4.objs x.objs).out.length ≤ s4.out.length + (4 + costO x.objs) := objs_len2 s4 x.objs
  obtain ⟨s5, hs5⟩ : ∃ ss, ss = (s4.objs x.objs) := ⟨_, rfl⟩
  rw [← hs5] at H5 hl5
  have HS5 := Lib.hid hs5
  clear hs5
  have m4 : w5.cell? ⟨M, 4, none⟩ = some (stateCells x Ao Ap co cp)[4] := ((HM3.out.keeps HK5.out HFM.out).cell 4).trans rfl
  have m5 : w5.cell? ⟨M, 5, none⟩ = some (stateCells x Ao Ap co cp)[5] := ((HM3.out.keeps HK5.out HFM.out).cell 5).trans rfl
  have m6 : w5.cell? ⟨M, 6, none⟩ = some (stateCells x Ao Ap co cp)[6] := ((HM3.out.keeps HK5.out HFM.out).cell 6).trans rfl
  simp only [List.getElem_toArray, List.getElem_cons_succ, List.getElem_cons_zero] at m4 m5 m6
  go_wp2_with (first | (refine wpList_load_row rfl 57 (.tmp 4) rfl P rfl _ _ _ _ (HP3.out.keeps HK5.out HFP.out) Tryd.underlying57 rfl (by kernel_rfl) ?_) | fail)
  clear m4 m5 m6
  have hR := Blk.new w5 3 #[.int .i64 x.psession, .int .i64 x.pkind, .int .i64 x.pepoch]
  have hbR : Below w5.heap.size w5 (w5.alloc (.cells #[.int .i64 x.psession, .int .i64 x.pkind, .int .i64 x.pepoch] 3)) := (Below.refl _ _).alloc (Nat.le_refl _) _
  have hi := H5.out.skip hbR
  have hui := (HU.out.keeps HK5.out).off hbR
  have hszR : (w5.alloc (.cells #[.int .i64 x.psession, .int .i64 x.pkind, .int .i64 x.pepoch] 3)).heap.size = w5.heap.size + 1 := by simp
  have hrow : Reads (w5.alloc (.cells #[.int .i64 x.psession, .int .i64 x.pkind, .int .i64 x.pepoch] 3)) (w5.alloc (.cells #[.int .i64 x.psession, .int .i64 x.pkind, .int .i64 x.pepoch] 3)).heap.size 1 (some ⟨w5.heap.size, 0, none⟩) 3 (([x.psession, x.pkind, x.pepoch]).map (Value.int .i64)) := reads_row (cs := ([x.psession, x.pkind, x.pepoch]).map (Value.int .i64)) hR rfl
  refine (PenInts_any _ (Off F w5 (w5.alloc (.cells #[.int .i64 x.psession, .int .i64 x.pkind, .int .i64 x.pepoch] 3))) D s5 (some ⟨w5.heap.size, 0, none⟩) 3 3 [x.psession, x.pkind, x.pepoch] hui hi (by omega) hrow (fun ad e _ hg => by injection e with e; subst e; have := hg.2; dsimp only at this; omega) (by omega)).mono ?_
  rintro e w6 ⟨rfl, h6, hk6⟩
  have H6 := Lib.hid (h6.weaken (G := F) (fun k e => e.1)); have HK6 := Lib.hid (HK5.out.trans (Keeps.off hbR hk6) (fun _ _ e => e))
  clear h6 hk6 hrow hszR hui hi hbR hR
  have hl6 : (s5.ints [x.psession, x.pkind, x.pepoch]).out.length ≤ s5.out.length + 12 := ints_len [x.psession, x.pkind, x.pepoch] s5
  obtain ⟨s6, hs6⟩ : ∃ ss, ss = (s5.ints [x.psession, x.pkind, x.pepoch]) := ⟨_, rfl⟩
  rw [← hs6] at H6 hl6
  have HS6 := Lib.hid hs6
  clear hs6
  have m7 : w6.cell? ⟨M, 7, none⟩ = some (stateCells x Ao Ap co cp)[7] := ((HM3.out.keeps HK6.out HFM.out).cell 7).trans rfl
  simp only [List.getElem_toArray, List.getElem_cons_succ, List.getElem_cons_zero] at m7
  go_wp2_with (first | (refine wpList_load_row rfl 57 (.tmp 4) rfl P rfl _ _ _ _ (HP3.out.keeps HK6.out HFP.out) Tryd.underlying57 rfl (by kernel_rfl) ?_) | fail)
  clear m7
  refine (PenObjs_any w6 F S D s6 Ap cp x.pobjs (HU.out.keeps HK6.out) H6.out (HR3.out.off HK6.out HFS.out).pobjs HFS.out (by omega) (by omega)).mono ?_
  rintro e w7 ⟨rfl, h7, hk7⟩
  have H7 := Lib.hid h7; have HK7 := Lib.hid (HK6.out.trans hk7 (fun _ _ e => e))
  clear h7 hk7
  have hl7 : (s6.objs x.pobjs).out.length ≤ s6.out.length + (4 + costO x.pobjs) := objs_len2 s6 x.pobjs
  obtain ⟨s7, hs7⟩ : ∃ ss, ss = (s6.objs x.pobjs) := ⟨_, rfl⟩
  rw [← hs7] at H7 hl7
  have HS7 := Lib.hid hs7
  clear hs7
  have p0 : w7.cell? ⟨P, 0, none⟩ = some (.pointer (some ⟨D, 0, none⟩)) := ((HP3.out.keeps HK7.out HFP.out).cell 0).trans rfl
  go_wp2_with fail
  clear p0
  obtain ⟨v, hv, hFD, _⟩ := H7.out
  refine (WOut_own w7 D v s7 hv (by omega)).mono ?_
  rintro e wE ⟨v', rfl, hf, hb, hwb⟩
  have hms : s7 = WS.state ⟨[], false⟩ x := by
    rw [HS7.out, HS6.out, HS5.out, HS4.out, HS3.out]
    rfl
  rw [hms] at hf ⊢
  have hbF := HB03.out.trans (HK7.out.below HFB'.out h3l)
  have hfin : EncPost w (WS.state ⟨[], false⟩ x) (.returned (.tuple #[v', .bool (!(WS.state ⟨[], false⟩ x).bad)])) wE := ⟨_, rfl, hf.mono hbF.size, hbF.trans (hb.mono hbF.size), hwb⟩
  have HFIN := Lib.hid hfin
  clear hf hb hv hbF hms hfin
  go_wp2
  go_ret2
  exact HFIN.out
theorem HeadsRd.more {w : World} {B B' : Nat} {A : Option Addr} {hs : List HeadV} (h : HeadsRd w B A hs) (hB : B ≤ B') : HeadsRd w B' A hs := fun hn => by
  obtain ⟨ad, e, hb, hc⟩ := h hn
  exact ⟨ad, e, by omega, hc⟩
abbrev bookCells (k : BookV) (Ad Au Ac : Option Addr) (cd cu cc : Nat) : Array Value :=
  #[.int .i64 k.session, .int .i64 k.decided, .int .i64 k.epoch, .slice Ad k.dir.length cd, .slice Au k.up.length cu, .slice Ac k.commit.length cc]
structure BookRd (w : World) (S : Nat → Prop) (k : BookV) (Ad Au Ac : Option Addr) : Prop where
  dir : HeadsRd w w.heap.size Ad k.dir
  up : Reads w w.heap.size 1 Au k.up.length (k.up.map Value.bool)
  commit : Reads w w.heap.size 1 Ac k.commit.length (k.commit.map (Value.int .i64))
  inS : ∀ ad, (Ad = some ad ∧ 0 < k.dir.length ∨ Au = some ad ∧ 0 < k.up.length ∨ Ac = some ad ∧ 0 < k.commit.length) → S ad.block
theorem BookRd.off {w w' : World} {F S : Nat → Prop} {k : BookV} {Ad Au Ac : Option Addr} (h : BookRd w S k Ad Au Ac) (hk : Keeps F w w') (hS : ∀ k, S k → ¬ F k) : BookRd w' S k Ad Au Ac :=
  ⟨fun hn => (HeadsRd.more (h.dir.off hk (Nat.le_refl _) (fun ad e _ => hS _ (h.inS ad (Or.inl ⟨e, hn⟩)))) hk.size) hn,
    (reads_off h.up hk (Nat.le_refl _) (fun ad e h0 => hS _ (h.inS ad (Or.inr (Or.inl ⟨e, h0⟩))))).more hk.size,
    (reads_off h.commit hk (Nat.le_refl _) (fun ad e h0 => hS _ (h.inS ad (Or.inr (Or.inr ⟨e, h0⟩))))).more hk.size, h.inS⟩
theorem BookRd.below {w w' : World} {S : Nat → Prop} {k : BookV} {Ad Au Ac : Option Addr} (h : BookRd w S k Ad Au Ac) (hb : Below w.heap.size w w') : BookRd w' S k Ad Au Ac := h.off (Keeps.of_below (F := fun _ => False) hb) (fun _ _ e => e)
theorem costH_ge (l : List HeadV) : l.length ≤ costH l := by
  induction l with
  | nil => exact Nat.le_refl _
  | cons x r ih => simp only [List.length_cons, costH]; omega
set_option maxRecDepth 100000 in
theorem flag_any (w : World) (b : Bool) : Calls Tryd.prog 33 #[.bool b] w fun e w' => e = .returned (.int .i64 (flagI b)) ∧ w' = w := by
  go_enter Tryd.func33, Tryd.ntmps33
  cases b
  · go_wp2
    go_ret
    exact ⟨rfl, rfl⟩
  · go_wp2
    go_ret
    exact ⟨rfl, rfl⟩
set_option maxRecDepth 100000 in
set_option maxHeartbeats 4000000 in
theorem EncodeBook_any (w : World) (S : Nat → Prop) (k : BookV) (Ad Au Ac : Option Addr) (cd cu cc : Nat) (hr : BookRd w S k Ad Au Ac) (hS : ∀ k, S k → k < w.heap.size) (hs : k.cost ≤ 140737488000000) :
    Calls Tryd.prog 14 #[.agg (bookCells k Ad Au Ac cd cu cc)] w (EncPost w (WS.book ⟨[], false⟩ k)) := by
  go_enter Tryd.func14, Tryd.ntmps14
  go_wp2_with fail
  have hb1 : Below w.heap.size w (w.alloc (.cells (bookCells k Ad Au Ac cd cu cc) 39)) := (Below.refl _ _).alloc (Nat.le_refl _) _
  have hM := Blk.new w 39 (bookCells k Ad Au Ac cd cu cc)
  have hr1 := hr.below hb1
  have hsz : (w.alloc (.cells (bookCells k Ad Au Ac cd cu cc) 39)).heap.size = w.heap.size + 1 := by simp
  obtain ⟨M, hMe⟩ : ∃ M, M = w.heap.size := ⟨_, rfl⟩
  rw [← hMe] at hM hsz ⊢
  generalize w.alloc (.cells (bookCells k Ad Au Ac cd cu cc) 39) = w1 at hb1 hM hr1 hsz ⊢
  have HME := Lib.hid hMe; clear hMe
  refine (WNew_any w1).mono ?_
  rintro e w2 ⟨D, rfl, hw2, hb2⟩
  have hM2 := hM.below hb2 (by omega)
  have hb2' : Below w.heap.size w1 w2 := hb2.mono (by have := HME.out; omega)
  have hr2 := hr1.below hb2
  have hb02 := hb1.trans hb2'
  have hb3 : Below w2.heap.size w2 (w2.alloc (.cells #[.pointer (some ⟨D, 0, none⟩)] 57)) := (Below.refl _ _).alloc (Nat.le_refl _) _
  have hP3 := Blk.new w2 57 #[.pointer (some ⟨D, 0, none⟩)]
  have hM3 := hM2.alloc (.cells #[.pointer (some ⟨D, 0, none⟩)] 57)
  have h3 := hw2.skip hb3
  have hu2 : Up (fun k => w1.heap.size ≤ k) w2 := fun k hk => Nat.le_trans hb2.size hk
  have hu3 := hu2.off hb3
  have hr3 := hr2.below hb3
  have hb03 := hb02.trans (hb3.mono hb02.size)
  have hsz3 : (w2.alloc (.cells #[.pointer (some ⟨D, 0, none⟩)] 57)).heap.size = w2.heap.size + 1 := by simp
  have hM2l : M < w2.heap.size := hM2.lt
  have hb2s := hb2.size
  go_upto_region 2 with (fail)
  obtain ⟨P, hPe⟩ : ∃ P, P = w2.heap.size := ⟨_, rfl⟩
  rw [← hPe] at hP3 hsz3 hM2l hb2s ⊢
  obtain ⟨w3, hw3⟩ : ∃ w3, w3 = w2.alloc (.cells #[.pointer (some ⟨D, 0, none⟩)] 57) := ⟨_, rfl⟩
  rw [← hw3] at h3 hu3 hb3 hP3 hM3 hr3 hb03 hsz3 ⊢
  obtain ⟨F, hF⟩ : ∃ F, F = Off (fun k => w1.heap.size ≤ k) w2 w3 := ⟨_, rfl⟩
  have hFP : ¬ F P := by rw [hF]; intro e; have := e.2; omega
  have hFM : ¬ F M := by rw [hF]; intro e; have := e.1; omega
  have hFS : ∀ k, S k → ¬ F k := by rw [hF]; intro k hk e; have := hS k hk; have := e.1; have := HME.out; omega
  have hFB' : ∀ k, F k → w.heap.size ≤ k := by rw [hF]; intro k e; have := e.1; have := HME.out; omega
  rw [← hF] at h3 hu3
  have h3l : w.heap.size ≤ w3.heap.size := hb03.size
  have HS := Lib.hid hs
  unfold BookV.cost at hs
  have hge1 := costH_ge k.dir
  have H3 := Lib.hid h3; have HU := Lib.hid hu3; have HP3 := Lib.hid hP3; have HM3 := Lib.hid hM3; have HR3 := Lib.hid hr3; have HB03 := Lib.hid hb03; have HFP := Lib.hid hFP; have HFM := Lib.hid hFM; have HFS := Lib.hid hFS; have HFB' := Lib.hid hFB'
  have HK3 := Lib.hid (Keeps.refl F w3)
  clear h3 hu3 hP3 hM3 hr3 hb03 hFP hFM hFS hFB' hF hw3 hPe hsz3 hb3 hu2 hw2 hb2 hr2 hb02 hb1 hsz hM hM2 hr1 hb2' hr hM2l hb2s hS
  have hl3 : (⟨[], false⟩ : WS).out.length ≤ 0 := Nat.le_refl _
  obtain ⟨s3, hs3⟩ : ∃ ss, ss = (⟨[], false⟩ : WS) := ⟨_, rfl⟩
  rw [← hs3] at H3 hl3
  have HS3 := Lib.hid hs3
  clear hs3
  have m0 : w3.cell? ⟨M, 0, none⟩ = some (bookCells k Ad Au Ac cd cu cc)[0] := ((HM3.out.keeps HK3.out HFM.out).cell 0).trans rfl
  have m1 : w3.cell? ⟨M, 1, none⟩ = some (bookCells k Ad Au Ac cd cu cc)[1] := ((HM3.out.keeps HK3.out HFM.out).cell 1).trans rfl
  have m2 : w3.cell? ⟨M, 2, none⟩ = some (bookCells k Ad Au Ac cd cu cc)[2] := ((HM3.out.keeps HK3.out HFM.out).cell 2).trans rfl
  have m3 : w3.cell? ⟨M, 3, none⟩ = some (bookCells k Ad Au Ac cd cu cc)[3] := ((HM3.out.keeps HK3.out HFM.out).cell 3).trans rfl
  simp only [List.getElem_toArray, List.getElem_cons_succ, List.getElem_cons_zero] at m0 m1 m2 m3
  go_wp2_with (first | (refine wpList_load_row rfl 57 (.tmp 4) rfl P rfl _ _ _ _ (HP3.out.keeps HK3.out HFP.out) Tryd.underlying57 rfl (by kernel_rfl) ?_) | fail)
  clear m0 m1 m2 m3
  have hR := Blk.new w3 3 #[.int .i64 k.session, .int .i64 k.decided, .int .i64 k.epoch, .int .i64 (k.dir.length : Int)]
  have hbR : Below w3.heap.size w3 (w3.alloc (.cells #[.int .i64 k.session, .int .i64 k.decided, .int .i64 k.epoch, .int .i64 (k.dir.length : Int)] 3)) := (Below.refl _ _).alloc (Nat.le_refl _) _
  have hi := H3.out.skip hbR
  have hui := (HU.out.keeps HK3.out).off hbR
  have hszR : (w3.alloc (.cells #[.int .i64 k.session, .int .i64 k.decided, .int .i64 k.epoch, .int .i64 (k.dir.length : Int)] 3)).heap.size = w3.heap.size + 1 := by simp
  have hrow : Reads (w3.alloc (.cells #[.int .i64 k.session, .int .i64 k.decided, .int .i64 k.epoch, .int .i64 (k.dir.length : Int)] 3)) (w3.alloc (.cells #[.int .i64 k.session, .int .i64 k.decided, .int .i64 k.epoch, .int .i64 (k.dir.length : Int)] 3)).heap.size 1 (some ⟨w3.heap.size, 0, none⟩) 4 (([k.session, k.decided, k.epoch, (k.dir.length : Int)]).map (Value.int .i64)) := reads_row (cs := ([k.session, k.decided, k.epoch, (k.dir.length : Int)]).map (Value.int .i64)) hR rfl
  refine (PenInts_any _ (Off F w3 (w3.alloc (.cells #[.int .i64 k.session, .int .i64 k.decided, .int .i64 k.epoch, .int .i64 (k.dir.length : Int)] 3))) D s3 (some ⟨w3.heap.size, 0, none⟩) 4 4 [k.session, k.decided, k.epoch, (k.dir.length : Int)] hui hi (by omega) hrow (fun ad e _ hg => by injection e with e; subst e; have := hg.2; dsimp only at this; omega) (by omega)).mono ?_
  rintro e w4 ⟨rfl, h4, hk4⟩
  have H4 := Lib.hid (h4.weaken (G := F) (fun k e => e.1)); have HK4 := Lib.hid (HK3.out.trans (Keeps.off hbR hk4) (fun _ _ e => e))
  clear h4 hk4 hrow hszR hui hi hbR hR
  have hl4 : (s3.ints [k.session, k.decided, k.epoch, (k.dir.length : Int)]).out.length ≤ s3.out.length + 16 := ints_len [k.session, k.decided, k.epoch, (k.dir.length : Int)] s3
  obtain ⟨s4, hs4⟩ : ∃ ss, ss = (s3.ints [k.session, k.decided, k.epoch, (k.dir.length : Int)]) := ⟨_, rfl⟩
  rw [← hs4] at H4 hl4
  have HS4 := Lib.hid hs4
  clear hs4
  have m3 : w4.cell? ⟨M, 3, none⟩ = some (bookCells k Ad Au Ac cd cu cc)[3] := ((HM3.out.keeps HK4.out HFM.out).cell 3).trans rfl
  simp only [List.getElem_toArray, List.getElem_cons_succ, List.getElem_cons_zero] at m3
  go_wp2_with fail
  clear m3
  go_loopw [26] (fun q wr => ∃ j : Nat, j ≤ k.dir.length ∧ q = .int .i64 (j : Int) ∧ WrIs wr F D ((k.dir.take j).foldl WS.head s4) ∧ Keeps F w3 wr) (fun q _ => k.dir.length - (intOf q).toNat)
  case atStart => exact ⟨0, by omega, rfl, H4.out, HK4.out⟩
  case' round =>
    obtain ⟨j, hj, rfl, hw, hk⟩ := hrel
    have HW := Lib.hid hw; have HK := Lib.hid hk
    clear hw hk
    by_cases hjn : j < k.dir.length
    · have hjn' : (j : Int) < (k.dir.length : Int) := by omega
      obtain ⟨ad, rfl, _, hc⟩ := (HR3.out.off HK.out HFS.out).dir (by omega)
      obtain ⟨c0, c1⟩ := hc j _ (List.getElem?_eq_getElem hjn)
      have hst := heads_snoc s4 k.dir j hjn
      have hlen := heads_len (k.dir.take j) s4
      have hlen2 := costH_take k.dir j
      generalize k.dir[j] = x at c0 c1 hst
      have HST := Lib.hid hst
      have p0 : wr.cell? ⟨P, 0, none⟩ = some (.pointer (some ⟨D, 0, none⟩)) := ((HP3.out.keeps HK.out HFP.out).cell 0).trans rfl
      have hPl : P < wr.heap.size := (HP3.out.keeps HK.out HFP.out).lt
      clear hst hc
      have hbx := Blk.new wr 72 #[.string ⟨x.id.toArray⟩, .int .i64 x.size]
      have hbb : Below wr.heap.size wr (wr.alloc (.cells #[.string ⟨x.id.toArray⟩, .int .i64 x.size] 72)) := (Below.refl _ _).alloc (Nat.le_refl _) _
      have HBX := Lib.hid hbx; have HBB := Lib.hid hbb
      have hPH : P ≠ wr.heap.size := by omega
      clear hbx hbb
      go_wp2_with (refine wpList_bytes rfl 9 27 5 (.tmp 33) rfl x.id rfl Tryd.underlying9 Tryd.underlying27 Tryd.underlying5 ?_; intro cc W hbW hlW hrW)
      clear p0 c0 c1
      have hbW' := HBB.out.trans (hbW.mono HBB.out.size)
      have hiW := HW.out.skip hbW'
      have huW := (HU.out.keeps HK.out).off hbW'
      have hbxW := HBX.out.below hbW (by simp)
      have hpW : Blk W P 57 #[.pointer (some ⟨D, 0, none⟩)] := (HP3.out.keeps HK.out HFP.out).below hbW' hPl
      have hsz : (wr.alloc (.cells #[.string ⟨x.id.toArray⟩, .int .i64 x.size] 72)).heap.size = wr.heap.size + 1 := by simp
      simp only [hsz] at hlW hrW ⊢
      refine (WBytes_up W _ D _ _ _ _ x.id huW hiW hrW (fun ad e _ hg => by injection e with e; subst e; have := hg.2; dsimp only at this; omega) (by omega)).mono ?_
      rintro e wy ⟨rfl, hy, hky⟩
      have hlen3 := bytes_len2 (List.foldl WS.head s4 (k.dir.take j)) x.id
      have hbxy := hbxW.keeps hky (fun hg => by have := hg.2; omega)
      have hpy := hpW.keeps hky (fun hg => HFP.out hg.1)
      have q1 : wy.cell? ⟨wr.heap.size, 1, none⟩ = some (.int .i64 x.size) := (hbxy.cell 1).trans rfl
      have p0 : wy.cell? ⟨P, 0, none⟩ = some (.pointer (some ⟨D, 0, none⟩)) := (hpy.cell 0).trans rfl
      have HY := Lib.hid hy; have HKY := Lib.hid hky; have HUW := Lib.hid huW; have HBW := Lib.hid hbW'
      clear hy hky huW hbW hbW' hiW hbxW hpW hbxy hpy hsz hlW hrW
      go_wp2_with fail
      refine (WInt_up wy _ D _ x.size (HUW.out.keeps HKY.out) HY.out (by omega)).mono ?_
      rintro e wz ⟨rfl, hz, hkz⟩
      have HZ := Lib.hid (hz.weaken (G := F) (fun k e => e.1)); have HKZ := Lib.hid (HK.out.trans (Keeps.off HBW.out (HKY.out.trans hkz (fun _ _ e => e))) (fun _ _ e => e))
      clear hz hkz q1 p0 hlen hlen2 hlen3
      go_wp2_with fail
      go_roundw
      case rel => exact ⟨j + 1, by omega, by go_num, by rw [← HST.out]; exact HZ.out, HKZ.out⟩
      case measure => simp [intOf]; omega
  obtain rfl : j = k.dir.length := by omega
  have hw5 := HW.out
  rw [List.take_length] at hw5
  have H5 := Lib.hid hw5
  have HK5 := Lib.hid HK.out
  obtain ⟨w5, hwr⟩ : ∃ wx, wx = wr := ⟨_, rfl⟩
  subst hwr
  clear hw5 HW HK hj hjn
  have hl5 : (k.dir.foldl WS.head s4).out.length ≤ s4.out.length + costH k.dir := heads_len k.dir s4
  obtain ⟨s5, hs5⟩ : ∃ ss, ss = (k.dir.foldl WS.head s4) := ⟨_, rfl⟩
  rw [← hs5] at H5 hl5
  have HS5 := Lib.hid hs5
  clear hs5
  have m4 : w5.cell? ⟨M, 4, none⟩ = some (bookCells k Ad Au Ac cd cu cc)[4] := ((HM3.out.keeps HK5.out HFM.out).cell 4).trans rfl
  simp only [List.getElem_toArray, List.getElem_cons_succ, List.getElem_cons_zero] at m4
  have p0 : w5.cell? ⟨P, 0, none⟩ = some (.pointer (some ⟨D, 0, none⟩)) := ((HP3.out.keeps HK5.out HFP.out).cell 0).trans rfl
  go_wp2_with fail
  clear p0 m4
  refine (WInt_up w5 F D s5 (k.up.length : Int) (HU.out.keeps HK5.out) H5.out (by omega)).mono ?_
  rintro e w6 ⟨rfl, h6, hk6⟩
  have H6 := Lib.hid h6; have HK6 := Lib.hid (HK5.out.trans hk6 (fun _ _ e => e))
  clear h6 hk6
  have hl6 : (s5.int (k.up.length : Int)).out.length ≤ s5.out.length + 4 := int_len s5 (k.up.length : Int)
  obtain ⟨s6, hs6⟩ : ∃ ss, ss = (s5.int (k.up.length : Int)) := ⟨_, rfl⟩
  rw [← hs6] at H6 hl6
  have HS6 := Lib.hid hs6
  clear hs6
  have m4 : w6.cell? ⟨M, 4, none⟩ = some (bookCells k Ad Au Ac cd cu cc)[4] := ((HM3.out.keeps HK6.out HFM.out).cell 4).trans rfl
  simp only [List.getElem_toArray, List.getElem_cons_succ, List.getElem_cons_zero] at m4
  go_wp2_with fail
  clear m4
  go_loopw [51] (fun q wr => ∃ j : Nat, j ≤ k.up.length ∧ q = .int .i64 (j : Int) ∧ WrIs wr F D (s6.ints ((k.up.map flagI).take j)) ∧ Keeps F w3 wr) (fun q _ => k.up.length - (intOf q).toNat)
  case atStart => exact ⟨0, by omega, rfl, H6.out, HK6.out⟩
  case' round =>
    obtain ⟨j, hj, rfl, hw, hk⟩ := hrel
    have HW := Lib.hid hw; have HK := Lib.hid hk
    clear hw hk
    by_cases hjn : j < k.up.length
    · have hjn' : (j : Int) < (k.up.length : Int) := by omega
      obtain ⟨ad, u, rfl, _, hx, hc⟩ := Reads.at_ (HR3.out.off HK.out HFS.out).up hjn
      rw [List.getElem?_map, List.getElem?_eq_getElem hjn] at hx
      simp only [Option.map_some, Option.some.injEq] at hx
      have hjl : j < (k.up.map flagI).length := by simpa using hjn
      have hst := ints_snoc s6 (k.up.map flagI) j hjl
      rw [List.getElem_map] at hst
      have hlen := ints_len ((k.up.map flagI).take j) s6
      rw [List.length_take, List.length_map] at hlen
      generalize k.up[j] = x at hx hst
      subst hx
      have HST := Lib.hid hst
      have p0 : wr.cell? ⟨P, 0, none⟩ = some (.pointer (some ⟨D, 0, none⟩)) := ((HP3.out.keeps HK.out HFP.out).cell 0).trans rfl
      clear hst
      go_wp2_with fail
      refine wp_region_qt 4 (by kernel_rfl) (by kernel_rfl) ?_
      simp only [List.take_succ_cons, List.take_zero, List.drop_succ_cons, List.drop_zero]
      repeat (first | go_big_quiet_skip | (go_big_quiet_want; go_big_quiet_op; first | go_big_quiet_on | (apply Exists.intro; refine ⟨?_, ?_⟩; (exact flag_any _ _); go_big_quiet_on)))
      refine wpQuiet_nil ?_
      go_wp2_with fail
      refine (WInt_up _ F D _ (flagI x) (HU.out.keeps HK.out.drew) (HW.out.below (Below.refl _ wr).drew) (by omega)).mono ?_
      rintro e wy ⟨rfl, hy, hky⟩
      rw [HST.out] at hy
      have HY := Lib.hid hy; have HKY := Lib.hid (HK.out.drew.trans hky (fun _ _ e => e))
      clear hy hky hlen
      go_wp2_with fail
      go_roundw
      case rel => exact ⟨j + 1, by omega, by go_num, HY.out, HKY.out⟩
      case measure => simp [intOf]; omega
  obtain rfl : j = k.up.length := by omega
  have hw7 := HW.out
  rw [List.take_of_length_le (by simp)] at hw7
  have H7 := Lib.hid hw7
  have HK7 := Lib.hid HK.out
  obtain ⟨w7, hwr⟩ : ∃ wx, wx = wr := ⟨_, rfl⟩
  subst hwr
  clear hw7 HW HK hj hjn
  have hl7 : (s6.ints (k.up.map flagI)).out.length ≤ s6.out.length + 4 * k.up.length := (by have := ints_len (k.up.map flagI) s6; rwa [List.length_map] at this)
  obtain ⟨s7, hs7⟩ : ∃ ss, ss = (s6.ints (k.up.map flagI)) := ⟨_, rfl⟩
  rw [← hs7] at H7 hl7
  have HS7 := Lib.hid hs7
  clear hs7
  have m5 : w7.cell? ⟨M, 5, none⟩ = some (bookCells k Ad Au Ac cd cu cc)[5] := ((HM3.out.keeps HK7.out HFM.out).cell 5).trans rfl
  simp only [List.getElem_toArray, List.getElem_cons_succ, List.getElem_cons_zero] at m5
  have p0 : w7.cell? ⟨P, 0, none⟩ = some (.pointer (some ⟨D, 0, none⟩)) := ((HP3.out.keeps HK7.out HFP.out).cell 0).trans rfl
  go_wp2_with fail
  clear p0 m5
  refine (WInt_up w7 F D s7 (k.commit.length : Int) (HU.out.keeps HK7.out) H7.out (by omega)).mono ?_
  rintro e w8 ⟨rfl, h8, hk8⟩
  have H8 := Lib.hid h8; have HK8 := Lib.hid (HK7.out.trans hk8 (fun _ _ e => e))
  clear h8 hk8
  have hl8 : (s7.int (k.commit.length : Int)).out.length ≤ s7.out.length + 4 := int_len s7 (k.commit.length : Int)
  obtain ⟨s8, hs8⟩ : ∃ ss, ss = (s7.int (k.commit.length : Int)) := ⟨_, rfl⟩
  rw [← hs8] at H8 hl8
  have HS8 := Lib.hid hs8
  clear hs8
  have m5 : w8.cell? ⟨M, 5, none⟩ = some (bookCells k Ad Au Ac cd cu cc)[5] := ((HM3.out.keeps HK8.out HFM.out).cell 5).trans rfl
  simp only [List.getElem_toArray, List.getElem_cons_succ, List.getElem_cons_zero] at m5
  go_wp2_with (first | (refine wpList_load_row rfl 57 (.tmp 4) rfl P rfl _ _ _ _ (HP3.out.keeps HK8.out HFP.out) Tryd.underlying57 rfl (by kernel_rfl) ?_) | fail)
  clear m5
  refine (PenInts_any w8 F D s8 Ac _ cc k.commit (HU.out.keeps HK8.out) H8.out (by omega) (HR3.out.off HK8.out HFS.out).commit (fun ad e h0 => HFS.out _ (HR3.out.inS ad (Or.inr (Or.inr ⟨e, h0⟩)))) (by omega)).mono ?_
  rintro e w9 ⟨rfl, h9, hk9⟩
  have H9 := Lib.hid h9; have HK9 := Lib.hid (HK8.out.trans hk9 (fun _ _ e => e))
  clear h9 hk9
  have hl9 : (s8.ints k.commit).out.length ≤ s8.out.length + 4 * k.commit.length := ints_len k.commit s8
  obtain ⟨s9, hs9⟩ : ∃ ss, ss = (s8.ints k.commit) := ⟨_, rfl⟩
  rw [← hs9] at H9 hl9
  have HS9 := Lib.hid hs9
  clear hs9
  have p0 : w9.cell? ⟨P, 0, none⟩ = some (.pointer (some ⟨D, 0, none⟩)) := ((HP3.out.keeps HK9.out HFP.out).cell 0).trans rfl
  go_wp2_with fail
  clear p0
  obtain ⟨v, hv, hFD, _⟩ := H9.out
  refine (WOut_own w9 D v s9 hv (by omega)).mono ?_
  rintro e wE ⟨v', rfl, hf, hb, hwb⟩
  have hms : s9 = WS.book ⟨[], false⟩ k := by
    rw [HS9.out, HS8.out, HS7.out, HS6.out, HS5.out, HS4.out, HS3.out]
    rfl
  rw [hms] at hf ⊢
  have hbF := HB03.out.trans (HK9.out.below HFB'.out h3l)
  have hfin : EncPost w (WS.book ⟨[], false⟩ k) (.returned (.tuple #[v', .bool (!(WS.book ⟨[], false⟩ k).bad)])) wE := ⟨_, rfl, hf.mono hbF.size, hbF.trans (hb.mono hbF.size), hwb⟩
  have HFIN := Lib.hid hfin
  clear hf hb hv hbF hms hfin
  go_wp2
  go_ret2
  exact HFIN.out
end Go.Proofs.YtinkclcdpcjnfaaDoor
