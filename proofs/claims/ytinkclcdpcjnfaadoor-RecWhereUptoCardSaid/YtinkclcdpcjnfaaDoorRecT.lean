/- The walk of rec's Tag. Condition: sha's constants are there. -/
import Derived.Test.YtinkclcdpcjnfaaDoorRec9
import Derived.Test.YtinkclcdpcjnfaaDoorMac3
namespace Go.Proofs.YtinkclcdpcjnfaaDoor
open Go.RowKit
def outS (s : WS) : List UInt8 := if s.bad then [] else s.out
def tagV (hd ep : Int) (o : ObjV) : List UInt8 := (mac (outS ((⟨[], false⟩ : WS).int hd)) (outS (((⟨[], false⟩ : WS).int ep).obj o))).take 8
theorem WrIs.tight {w : World} {F : Nat → Prop} {D : Nat} {s : WS} (h : WrIs w F D s) : WrIs w (fun k => F k ∧ k < w.heap.size) D s := by
  obtain ⟨v, h1, h2, h3⟩ := h
  exact ⟨v, h1, ⟨h2, h1.cells.lt⟩, fun k e => ⟨h3 k e, (h1.own.lt k e).2⟩⟩
set_option maxRecDepth 100000 in
set_option maxHeartbeats 4000000 in
theorem Tag_any (w : World) (hk : Consts w) (hd ep : Int) (o : ObjV) (As At : Option Addr) (cs ct : Nat) (hr : Rd w w.heap.size As o.share.length o.share) :
    Calls Tryd.prog 17 #[.int .i64 hd, .int .i64 ep, .agg (objCells o As At cs ct)] w fun e w' => ∃ A c, e = .returned (.slice A 8 c) ∧ Rd w' w'.heap.size A 8 (tagV hd ep o) ∧ (∀ ad, A = some ad → w.heap.size ≤ ad.block) ∧ Below w.heap.size w w' := by
  have hb1 : Below w.heap.size w (w.alloc (.cells (objCells o As At cs ct) 47)) := (Below.refl _ _).alloc (Nat.le_refl _) _
  have hO := Blk.new w 47 (objCells o As At cs ct)
  have hr1 := (hr.below hb1).more hb1.size
  have hsz : (w.alloc (.cells (objCells o As At cs ct) 47)).heap.size = w.heap.size + 1 := by simp
  have hB0 : 0 < w.heap.size := by have := World.block_lt_of_cell? w _ (hk 0 (by omega)); omega
  have hk1 := hk.below hb1 hB0
  have HO := Lib.hid hO; have HR := Lib.hid hr1; have HB1 := Lib.hid hb1; have HSZ := Lib.hid hsz; have HK1 := Lib.hid hk1
  clear hO hr1 hsz hb1 hr hk1
  go_enter Tryd.func17, Tryd.ntmps17
  go_upto_region 1 with (fail)
  obtain ⟨p, hp⟩ : ∃ p, p = w.heap.size := ⟨_, rfl⟩
  rw [← hp] at HO HSZ HB1 ⊢
  have HP := Lib.hid hp; clear hp
  obtain ⟨w1, hw1⟩ : ∃ w1, w1 = w.alloc (.cells (objCells o As At cs ct) 47) := ⟨_, rfl⟩
  rw [← hw1] at HO HR HB1 HSZ HK1 ⊢
  clear hw1
  go_wp2_with fail
  refine (WNew_any w1).mono ?_
  rintro e w2 ⟨D1, rfl, h1, hb2⟩
  have H1 := Lib.hid h1.tight; have HB2 := Lib.hid hb2
  clear h1 hb2
  go_wp2_with fail
  refine (WNew_any w2).mono ?_
  rintro e w3 ⟨D2, rfl, h2, hb3⟩
  have H2 := Lib.hid h2.tight; have HB3 := Lib.hid hb3
  clear h2 hb3
  go_upto_region 2 with (fail)
  have hbE : Below w3.heap.size w3 (w3.alloc (.cells #[.pointer (some ⟨D2, 0, none⟩)] 57)) := (Below.refl _ _).alloc (Nat.le_refl _) _
  have hE := Blk.new w3 57 #[.pointer (some ⟨D2, 0, none⟩)]
  have s12 := HB2.out.size; have s23 := HB3.out.size
  have hO3 := ((HO.out.below HB2.out HO.out.lt).below HB3.out (HO.out.below HB2.out HO.out.lt).lt).below hbE ((HO.out.below HB2.out HO.out.lt).below HB3.out (HO.out.below HB2.out HO.out.lt).lt).lt
  have h14 := (H1.out.below HB3.out).below hbE
  have h24 := H2.out.below hbE
  have hb04 : Below w.heap.size w (w3.alloc (.cells #[.pointer (some ⟨D2, 0, none⟩)] 57)) := by
    have h0 := HB1.out.size; have h9 := HP.out
    have e1 : Below w.heap.size w w1 := by rw [← h9]; exact HB1.out
    have e2 := e1.trans (HB2.out.mono e1.size)
    have e3 := e2.trans (HB3.out.mono e2.size)
    exact e3.trans (hbE.mono e3.size)
  have hr4 : Rd (w3.alloc (.cells #[.pointer (some ⟨D2, 0, none⟩)] 57)) w1.heap.size As o.share.length o.share := ((HR.out.below HB2.out).below (HB3.out.mono s12)).below (hbE.mono (by omega))
  have hsz4 : (w3.alloc (.cells #[.pointer (some ⟨D2, 0, none⟩)] 57)).heap.size = w3.heap.size + 1 := by simp
  have hp1 := HO.out.lt
  obtain ⟨E, hEe⟩ : ∃ E, E = w3.heap.size := ⟨_, rfl⟩
  rw [← hEe] at hE hsz4 ⊢
  obtain ⟨w4, hw4⟩ : ∃ w4, w4 = w3.alloc (.cells #[.pointer (some ⟨D2, 0, none⟩)] 57) := ⟨_, rfl⟩
  rw [← hw4] at hE hO3 h14 h24 hb04 hr4 hsz4 ⊢
  have HE := Lib.hid hE; have HO3 := Lib.hid hO3; have H14 := Lib.hid h14; have H24 := Lib.hid h24; have HB04 := Lib.hid hb04; have HR4 := Lib.hid hr4
  have HS := Lib.hid (show w1.heap.size = p + 1 ∧ w1.heap.size ≤ w2.heap.size ∧ w2.heap.size ≤ w3.heap.size ∧ w3.heap.size = E ∧ w4.heap.size = E + 1 ∧ p < w1.heap.size ∧ p = w.heap.size from ⟨HSZ.out, s12, s23, hEe.symm, hsz4, hp1, HP.out⟩)
  clear hbE hE s12 s23 hO3 h14 h24 hb04 hr4 hsz4 hp1 hEe hw4 HO HR HB1 HSZ HK1 HB2 HB3 H1 H2 HP
  go_wp2_with fail
  have hbnd : ∀ (s : WS), s.out.length ≤ 8 → s.out.length + 4 ≤ 140737488355328 := fun s h => by omega
  refine (WInt_any w4 _ D1 ⟨[], false⟩ hd H14.out (by simp)).mono ?_
  rintro e w5 ⟨rfl, h15, hk5⟩
  have s45 := hk5.size
  have h15' : WrIs w5 (fun k => (w1.heap.size ≤ k ∧ k < w2.heap.size) ∨ (w4.heap.size ≤ k ∧ k < w5.heap.size)) D1 ((⟨[], false⟩ : WS).int hd) := h15.tight.weaken (fun k e => by
    have h := HS.out
    rcases e.1 with e1 | e1
    · exact Or.inl e1
    · exact Or.inr ⟨e1, e.2⟩)
  have h25 : WrIs w5 (fun k => w2.heap.size ≤ k ∧ k < w3.heap.size) D2 ⟨[], false⟩ := H24.out.keeps hk5 (fun k e e2 => by have := e.1; have := e2.2; omega)
  have hE5 := HE.out.keeps hk5 (fun e => by have h := HS.out; have := e.2; omega)
  have hO5 := HO3.out.keeps hk5 (fun e => by have h := HS.out; have := e.1; omega)
  have hr5 := reads_off HR4.out hk5 (by have h := HS.out; omega) (fun ad e h0 hf => by obtain ⟨ad', e', hb, _⟩ := HR4.out.2 h0; rw [e] at e'; injection e' with e'; subst e'; have := hf.1; omega)
  have hb05 := HB04.out.trans (hk5.below (B := w.heap.size) (fun k e => by have h := HS.out; have := e.1; omega) (by have h := HS.out; omega))
  have H15 := Lib.hid h15'; have H25 := Lib.hid h25; have HE5 := Lib.hid hE5; have HO5 := Lib.hid hO5; have HR5 := Lib.hid hr5; have HB05 := Lib.hid hb05; have HS5 := Lib.hid s45
  clear hk5 s45 h15 h15' h25 hE5 hO5 hr5 hb05 hbnd H14 H24 HE HO3 HR4 HB04
  obtain ⟨F, hF⟩ : ∃ F, F = (fun k => (w2.heap.size ≤ k ∧ k < w3.heap.size) ∨ w5.heap.size ≤ k) := ⟨_, rfl⟩
  have hu5 : Up F w5 := by rw [hF]; exact fun k hk => Or.inr hk
  have h25 : WrIs w5 F D2 ⟨[], false⟩ := H25.out.weaken (fun k e => by rw [hF]; exact Or.inl e)
  have HF1 := Lib.hid (show ∀ k, (w1.heap.size ≤ k ∧ k < w2.heap.size) ∨ (w4.heap.size ≤ k ∧ k < w5.heap.size) → ¬ F k by rw [hF]; intro k e e2; have h := HS.out; have h5 := HS5.out; omega)
  have HFE := Lib.hid (show ¬ F E by rw [hF]; intro e; have h := HS.out; have h5 := HS5.out; omega)
  have HFP := Lib.hid (show ∀ k, k ≤ p → ¬ F k by rw [hF]; intro k hk e; have h := HS.out; have h5 := HS5.out; omega)
  have HFB := Lib.hid (show ∀ k, F k → w.heap.size ≤ k by rw [hF]; intro k e; have h := HS.out; have h5 := HS5.out; omega)
  have HU5 := Lib.hid hu5; have H25 := Lib.hid h25
  clear hF hu5 h25
  have p0 : w5.cell? ⟨E, 0, none⟩ = some (.pointer (some ⟨D2, 0, none⟩)) := (HE5.out.cell 0).trans rfl
  go_wp2_with fail
  clear p0
  refine (WInt_up w5 F D2 ⟨[], false⟩ ep HU5.out H25.out (by simp)).mono ?_
  rintro e w6 ⟨rfl, h26, hk6⟩
  have hlen6 := int_len ⟨[], false⟩ ep
  generalize hse : (⟨[], false⟩ : WS).int ep = sE at h26 hlen6
  have HSE := Lib.hid hse
  have HE6 := Lib.hid (HE5.out.keeps hk6 HFE.out); have HO6 := Lib.hid (HO5.out.keeps hk6 (HFP.out p (Nat.le_refl _))); have H16 := Lib.hid (H15.out.keeps hk6 HF1.out); have H26 := Lib.hid h26
  have HOF := Lib.hid (show ∀ ad, As = some ad → 0 < o.share.length → ¬ F ad.block from fun ad e h0 => by obtain ⟨ad', e', hb, _⟩ := HR5.out.2 h0; rw [e] at e'; injection e' with e'; subst e'; exact HFP.out _ (by have h := HS.out; omega))
  have HR6 := Lib.hid ((reads_off HR5.out hk6 (by have h := HS.out; have := HS5.out; omega) HOF.out).more (Nat.le_trans (by have h := HS.out; have := HS5.out; omega : w1.heap.size ≤ w5.heap.size) hk6.size))
  have HB06 := Lib.hid (HB05.out.trans (hk6.below (B := w.heap.size) HFB.out (by have h := HS.out; have := HS5.out; omega)))
  have HU6 := Lib.hid (HU5.out.keeps hk6); have HS6 := Lib.hid hk6.size
  clear h26 hk6 hse
  have hl0 : sE.out.length ≤ 4 := hlen6
  clear hlen6
  go_wp2_with (first | (refine wpList_load_row rfl 57 (.tmp 8) rfl E rfl _ _ _ _ HE6.out Tryd.underlying57 rfl (by kernel_rfl) ?_) | (refine wpList_load_row rfl 47 (.tmp 5) rfl p rfl _ _ _ _ HO6.out Tryd.underlying47 rfl (by kernel_rfl) ?_))
  refine (PenObj_any w6 F D2 sE o As At cs ct HU6.out H26.out HR6.out HOF.out (by omega)).mono ?_
  rintro e w7 ⟨rfl, h27, hk7⟩
  have hlen7 := obj_len2 sE o
  generalize hso : sE.obj o = sO at h27 hlen7
  have HSO := Lib.hid hso
  have HE7 := Lib.hid (HE6.out.keeps hk7 HFE.out); have H17 := Lib.hid (H16.out.keeps hk7 HF1.out); have H27 := Lib.hid h27
  have HB07 := Lib.hid (HB06.out.trans (hk7.below (B := w.heap.size) HFB.out HB06.out.size)); have HS7 := Lib.hid hk7.size
  clear h27 hk7 hso
  go_wp2_with fail
  have hlk := int_len ⟨[], false⟩ hd
  generalize hsk : (⟨[], false⟩ : WS).int hd = sK at H17 hlk
  have HSK := Lib.hid hsk; clear hsk
  have hlk0 : sK.out.length ≤ 4 := hlk
  obtain ⟨vk, hvk, _, _⟩ := H17.out
  refine (WOut_any w7 D1 vk sK hvk (by omega)).mono ?_
  rintro e w8 ⟨v8, rfl, hf8, hb8⟩
  have HF8 := Lib.hid hf8; have HE8 := Lib.hid (HE7.out.below hb8 HE7.out.lt); have H28 := Lib.hid (H27.out.below hb8); have HB08 := Lib.hid (HB07.out.trans (hb8.mono HB07.out.size))
  clear hf8 hb8 hvk
  have p0 : w8.cell? ⟨E, 0, none⟩ = some (.pointer (some ⟨D2, 0, none⟩)) := (HE8.out.cell 0).trans rfl
  go_wp2_with fail
  clear p0
  obtain ⟨vo, hvo, _, _⟩ := H28.out
  refine (WOut_any w8 D2 vo sO hvo (by omega)).mono ?_
  rintro e w9 ⟨v9, rfl, hf9, hb9⟩
  obtain ⟨Ak, ck, rfl, hrk, _⟩ := HF8.out
  obtain ⟨Ao, co, rfl, hro, _⟩ := hf9
  have hrk9 := (hrk.below hb9).more hb9.size
  have HB09 := Lib.hid (HB08.out.trans (hb9.mono HB08.out.size))
  have hlkk : (if sK.bad = true then [] else sK.out).length ≤ 140737488351232 := by split; exact Nat.zero_le _; omega
  have hloo : (if sO.bad = true then [] else sO.out).length ≤ 140737488351232 := by split; exact Nat.zero_le _; omega
  obtain ⟨lk, hlk2⟩ : ∃ lk, lk = (if sK.bad = true then [] else sK.out) := ⟨_, rfl⟩
  obtain ⟨lo, hlo2⟩ : ∃ lo, lo = (if sO.bad = true then [] else sO.out) := ⟨_, rfl⟩
  rw [← hlk2] at hrk9 hlkk ⊢
  rw [← hlo2] at hro hloo ⊢
  have htag : tagV hd ep o = (mac lk lo).take 8 := by
    unfold tagV outS
    rw [HSK.out, HSE.out, HSO.out, ← hlk2, ← hlo2]
  have HT := Lib.hid htag; have HRK := Lib.hid hrk9; have HRO := Lib.hid hro
  have HK9 := Lib.hid (show Consts w9 from hk.below HB09.out hB0)
  clear htag hrk9 hro hrk hb9 hlk2 hlo2 hvo HF8
  go_wp2_with fail
  refine (Mac_any Ak _ ck Ao _ co w9 lk lo HK9.out (by omega) hloo HRK.out HRO.out).mono ?_
  rintro e w10 ⟨vm, rfl, hom, hbm⟩
  obtain ⟨Am, cm, rfl⟩ := hom.shape
  obtain ⟨_, hle, hcm, had⟩ := hom.cap
  have hml : (mac lk lo).length = 32 := mac_len _ _
  have hrm := hom.rd
  rw [hml] at hrm hle ⊢
  have hrf := hrm.front (k := 8) (by omega)
  have HRF := Lib.hid hrf; have HAD := Lib.hid had; have HB10 := Lib.hid (HB09.out.trans (hbm.mono HB09.out.size))
  have h8c : 8 ≤ cm := by omega
  clear hom hrm hrf had hbm hml
  go_wp2_with fail
  refine (Clip_any Am 8 cm w10 h8c).mono ?_
  rintro e w11 ⟨rfl, rfl⟩
  go_wp2
  go_ret
  exact ⟨_, _, rfl, by rw [HT.out]; exact HRF.out, fun ad e => Nat.le_trans HB09.out.size (HAD.out ad e).1, HB10.out⟩
end Go.Proofs.YtinkclcdpcjnfaaDoor
