/- The walk of the document's Tag. Condition: the object is no great one. -/
import Derived.Test.YtinkclcdpcjnfaaDoorRecT
import Derived.Test.YtinkclcdpcjnfaaDoorRec4
import Derived.Test.YtinkclcdpcjnfaaDoorRefMac
namespace Go.Proofs.YtinkclcdpcjnfaaDoor
open Go.RowKit
theorem BkIs.tight {w : World} {F : Nat → Prop} {D : Nat} {s : WS} (h : BkIs w F D s) : BkIs w (fun k => F k ∧ k < w.heap.size) D s := by
  obtain ⟨v, h1, h2, h3⟩ := h
  exact ⟨v, h1, ⟨h2, h1.cells.lt⟩, fun k e => ⟨h3 k e, (h1.own.lt k e).2⟩⟩
set_option maxRecDepth 100000 in
set_option maxHeartbeats 4000000 in
theorem RefTag_any (w : World) (hd ep : Int) (o : ObjV) (As At : Option Addr) (cs ct : Nat) (hr : Rd w w.heap.size As o.share.length o.share) (hi : o.id.length ≤ 100000) (hsl : o.share.length ≤ 100000) :
    Calls Tryd.prog 18 #[.int .i64 hd, .int .i64 ep, .agg (objCells o As At cs ct)] w fun e w' => ∃ A c, e = .returned (.slice A 8 c) ∧ Rd w' w'.heap.size A 8 ((mac ((⟨[], false⟩ : WS).int hd).out (((⟨[], false⟩ : WS).int ep).obj o).out).take 8) ∧ Below w.heap.size w w' := by
  have hb1 : Below w.heap.size w (w.alloc (.cells (objCells o As At cs ct) 47)) := (Below.refl _ _).alloc (Nat.le_refl _) _
  have hM := Blk.new w 47 (objCells o As At cs ct)
  have hr1 := hr.below hb1
  have hsz : (w.alloc (.cells (objCells o As At cs ct) 47)).heap.size = w.heap.size + 1 := by simp
  go_enter Tryd.func18, Tryd.ntmps18
  go_upto_region 1 with (fail)
  obtain ⟨M, hMe⟩ : ∃ M, M = w.heap.size := ⟨_, rfl⟩
  rw [← hMe] at hM hsz ⊢
  obtain ⟨w1, hw1⟩ : ∃ w1, w1 = w.alloc (.cells (objCells o As At cs ct) 47) := ⟨_, rfl⟩
  rw [← hw1] at hb1 hM hr1 hsz ⊢
  clear hw1
  have HME := Lib.hid hMe; clear hMe
  have HSZ := Lib.hid hsz; clear hsz
  go_upto_region 2 with (fail)
  have hb3 : Below w1.heap.size w1 (w1.alloc (.cells #[.slice none 0 0, .bool false] 63)) := (Below.refl _ _).alloc (Nat.le_refl _) _
  have hBK := Blk.new w1 63 #[.slice none 0 0, .bool false]
  have h3 : BkIs (w1.alloc (.cells #[.slice none 0 0, .bool false] 63)) (fun k => w1.heap.size ≤ k) w1.heap.size ⟨[], false⟩ :=
    ⟨.slice none 0 0, ⟨hBK, Own.nil_ _ _, fun _ e => by cases e⟩, Nat.le_refl _, fun _ e => by cases e⟩
  have hM3 := hM.alloc (.cells #[.slice none 0 0, .bool false] 63)
  have hr3 := hr1.below (hb3.mono (by have := HME.out; have := HSZ.out; omega))
  have hb03 := hb1.trans (hb3.mono (by have := HME.out; have := HSZ.out; omega))
  have hu3 : Up (fun k => w1.heap.size ≤ k) (w1.alloc (.cells #[.slice none 0 0, .bool false] 63)) := fun k hk => by simp at hk; omega
  obtain ⟨D, hDe⟩ : ∃ D, D = w1.heap.size := ⟨_, rfl⟩
  rw [← hDe] at h3 hu3 ⊢
  obtain ⟨w3, hw3⟩ : ∃ w3, w3 = w1.alloc (.cells #[.slice none 0 0, .bool false] 63) := ⟨_, rfl⟩
  rw [← hw3] at h3 hM3 hr3 hb03 hu3 ⊢
  clear hw3
  obtain ⟨F, hF⟩ : ∃ F : Nat → Prop, F = fun k => D ≤ k := ⟨_, rfl⟩
  rw [← hF] at h3 hu3
  have HFM := Lib.hid (show ¬ F M by rw [hF]; intro e; have := HSZ.out; omega)
  have HFB := Lib.hid (show ∀ k, F k → w.heap.size ≤ k by rw [hF]; intro k e; have := HME.out; have := HSZ.out; omega)
  have HOF := Lib.hid (show ∀ ad, As = some ad → 0 < o.share.length → ¬ F ad.block by
    rw [hF]; intro ad e h0 e2
    obtain ⟨ad', e', hb, _⟩ := hr3.2 h0
    rw [e] at e'; injection e' with e'; subst e'
    have := HME.out; have := HSZ.out; omega)
  have H3 := Lib.hid h3; have HU := Lib.hid hu3; have HM3 := Lib.hid hM3; have HR3 := Lib.hid hr3; have HB03 := Lib.hid hb03
  clear h3 hu3 hM3 hr3 hb03 hF hDe hb3 hb1 hM hr1 hr hBK HSZ HME
  go_wp2_with fail
  refine (Put_row w3 F D ⟨[], false⟩ [ep] HU.out H3.out (by simp) (by simp)).mono ?_
  rintro e w4 ⟨rfl, h4, hk4⟩
  have hl4 := int_len ⟨[], false⟩ ep
  have h4' : BkIs w4 F D ((⟨[], false⟩ : WS).int ep) := h4
  generalize hs4 : (⟨[], false⟩ : WS).int ep = s4 at h4' hl4
  have hl4' : s4.out.length ≤ 4 := hl4
  have H4 := Lib.hid h4'; have HK4 := Lib.hid hk4; have HS4 := Lib.hid hs4
  clear h4 h4' hk4 hs4 hl4
  have m0 : w4.cell? ⟨M, 0, none⟩ = some (.string ⟨o.id.toArray⟩) := ((HM3.out.keeps HK4.out HFM.out).cell 0).trans rfl
  go_wp2_with (refine wpList_bytes rfl 9 27 5 (.tmp 17) rfl o.id rfl Tryd.underlying9 Tryd.underlying27 Tryd.underlying5 ?_; intro cc W hbW hlW hrW)
  clear m0
  have hd5 := bytes_len2 s4 o.id
  refine (Lay_up W _ D s4 _ _ cc o.id ((HU.out.keeps HK4.out).off hbW) (H4.out.skip hbW) (by omega) hrW (by omega)).mono ?_
  rintro e w5 ⟨rfl, h5, hk5⟩
  have H5 := Lib.hid (h5.weaken (G := F) (fun k e => e.1)); have HK5 := Lib.hid (HK4.out.trans (Keeps.off hbW hk5) (fun _ _ e => e))
  generalize hs5 : s4.bytes o.id = s5 at H5 hd5
  have HS5 := Lib.hid hs5
  clear h5 hk5 hbW hlW hrW hs5
  have m1 : w5.cell? ⟨M, 1, none⟩ = some (.int .i64 o.size) := ((HM3.out.keeps HK5.out HFM.out).cell 1).trans rfl
  go_wp2_with fail
  clear m1
  have hd6 := int_len s5 o.size
  refine (Put_row w5 F D s5 [o.size] (HU.out.keeps HK5.out) H5.out (by simp; omega) (by simp)).mono ?_
  rintro e w6 ⟨rfl, h6, hk6⟩
  have h6' : BkIs w6 F D (s5.int o.size) := h6
  generalize hs6 : s5.int o.size = s6 at h6' hd6
  have H6 := Lib.hid h6'; have HK6 := Lib.hid (HK5.out.trans hk6 (fun _ _ e => e)); have HS6 := Lib.hid hs6
  clear h6 h6' hk6 hs6
  have m2 : w6.cell? ⟨M, 2, none⟩ = some (.slice As o.share.length cs) := ((HM3.out.keeps HK6.out HFM.out).cell 2).trans rfl
  go_wp2_with fail
  clear m2
  have hd7 := bytes_len2 s6 o.share
  have hrr := reads_off HR3.out HK6.out HB03.out.size HOF.out
  refine (Lay_up w6 F D s6 As _ cs o.share (HU.out.keeps HK6.out) H6.out (by omega) (hrr.more (Nat.le_trans HB03.out.size HK6.out.size)) (by omega)).mono ?_
  rintro e w7 ⟨rfl, h7, hk7⟩
  generalize hs7 : s6.bytes o.share = s7 at h7 hd7
  have H7 := Lib.hid h7.tight; have HK7 := Lib.hid (HK6.out.trans hk7 (fun _ _ e => e)); have HS7 := Lib.hid hs7
  clear h7 hk7 hs7 hrr
  have HB07 := Lib.hid (HB03.out.trans (HK7.out.below (B := w.heap.size) HFB.out HB03.out.size))
  go_upto_region 7 with (fail)
  have hb8 : Below w7.heap.size w7 (w7.alloc (.cells #[.slice none 0 0, .bool false] 63)) := (Below.refl _ _).alloc (Nat.le_refl _) _
  have hBK := Blk.new w7 63 #[.slice none 0 0, .bool false]
  have h8 : BkIs (w7.alloc (.cells #[.slice none 0 0, .bool false] 63)) (fun k => w7.heap.size ≤ k) w7.heap.size ⟨[], false⟩ :=
    ⟨.slice none 0 0, ⟨hBK, Own.nil_ _ _, fun _ e => by cases e⟩, Nat.le_refl _, fun _ e => by cases e⟩
  have hu8 : Up (fun k => w7.heap.size ≤ k) (w7.alloc (.cells #[.slice none 0 0, .bool false] 63)) := fun k hk => by simp at hk; omega
  have h78 : BkIs (w7.alloc (.cells #[.slice none 0 0, .bool false] 63)) (fun k => F k ∧ k < w7.heap.size) D s7 := by
    obtain ⟨v, g1, g2, g3⟩ := H7.out
    exact ⟨v, g1.keeps (Keeps.of_below (F := fun _ => False) hb8) (fun e => e) (fun _ _ e => e), g2, g3⟩
  obtain ⟨D2, hDe⟩ : ∃ D2, D2 = w7.heap.size := ⟨_, rfl⟩
  rw [← hDe] at h8 hu8 h78 ⊢
  have hb08 := HB07.out.trans (hb8.mono HB07.out.size)
  obtain ⟨w8, hw8⟩ : ∃ w8, w8 = w7.alloc (.cells #[.slice none 0 0, .bool false] 63) := ⟨_, rfl⟩
  rw [← hw8] at h8 hu8 h78 hb08 ⊢
  clear hw8
  have H8 := Lib.hid h8; have HU8 := Lib.hid hu8; have H78 := Lib.hid h78; have HB08 := Lib.hid hb08; have HD2 := Lib.hid hDe
  clear h8 hu8 h78 hb08 hb8 hBK hDe
  go_wp2_with fail
  refine (Put_row w8 _ D2 ⟨[], false⟩ [hd] HU8.out H8.out (by simp) (by simp)).mono ?_
  rintro e w9 ⟨rfl, h9, hk9⟩
  have hl9 := int_len ⟨[], false⟩ hd
  have h9' : BkIs w9 (fun k => D2 ≤ k) D2 ((⟨[], false⟩ : WS).int hd) := h9
  generalize hs9 : (⟨[], false⟩ : WS).int hd = s9 at h9' hl9 ⊢
  have hl9' : s9.out.length ≤ 4 := hl9
  have h79 : BkIs w9 (fun k => F k ∧ k < D2) D s7 := by
    obtain ⟨v, g1, g2, g3⟩ := H78.out
    exact ⟨v, g1.keeps hk9 (fun e => by have := g2.2; omega) (fun k e e2 => by have := (g3 k e).2; omega), g2, g3⟩
  have HB09 := Lib.hid (HB08.out.trans (hk9.below (B := w.heap.size) (fun k e => by have := HD2.out; have := HB07.out.size; omega) HB08.out.size))
  obtain ⟨v9, g9, _, _⟩ := h9'
  obtain ⟨v7, g7, _, _⟩ := h79
  obtain ⟨A9, c9, rfl⟩ := g9.own.shape
  obtain ⟨A7, c7, rfl⟩ := g7.own.shape
  have p9 := g9.c0
  have p7 := g7.c0
  have HR9 := Lib.hid g9.own.rd; have HR7 := Lib.hid g7.own.rd
  have hmm : (mac s9.out (((⟨[], false⟩ : WS).int ep).obj o).out) = mac s9.out s7.out := by
    unfold WS.obj
    rw [HS4.out, HS5.out, HS6.out, HS7.out]
  have HMM := Lib.hid hmm; have HS9 := Lib.hid hs9
  clear h9 hk9 g9 g7 hmm hs9
  have hlb : s7.out.length ≤ 140737488351232 := by omega
  go_wp2_with fail
  refine wp_region_qt 8 (by kernel_rfl) (by kernel_rfl) ?_
  simp only [List.take_succ_cons, List.take_zero, List.drop_succ_cons, List.drop_zero]
  repeat (first | go_big_quiet_skip | (go_big_quiet_want; go_big_quiet_op; first | go_big_quiet_on))
  refine wpQuiet_nil ?_
  go_wp2_with fail
  refine (RefMac_any A9 _ c9 A7 _ c7 w9.drew s9.out s7.out (by omega) hlb HR9.out.drew HR7.out.drew).mono ?_
  rintro e w10 ⟨vm, rfl, hom, hbm⟩
  obtain ⟨Am, cm, rfl⟩ := hom.shape
  obtain ⟨_, hle, hcm, had⟩ := hom.cap
  have hml : (mac s9.out s7.out).length = 32 := mac_len _ _
  have hrm := hom.rd
  rw [hml] at hrm hle ⊢
  have hrf := hrm.front (k := 8) (by omega)
  have HRF := Lib.hid hrf; have HB10 := Lib.hid (HB09.out.drew.trans (hbm.mono HB09.out.size))
  have h8c : 8 ≤ cm := by omega
  clear hom hrm hrf had hbm hml p9 p7
  go_wp2_with fail
  go_ret
  exact ⟨_, _, rfl, by rw [HS9.out, HMM.out]; exact HRF.out, HB10.out⟩
end Go.Proofs.YtinkclcdpcjnfaaDoor
