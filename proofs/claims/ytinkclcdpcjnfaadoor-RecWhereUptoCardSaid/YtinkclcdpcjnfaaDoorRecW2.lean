/- The walk of rec's Where. Condition: the state is no great one. -/
import Derived.Test.YtinkclcdpcjnfaaDoorRecW
namespace Go.Proofs.YtinkclcdpcjnfaaDoor
open Go.RowKit
theorem costO_snoc (l : List ObjV) (j : Nat) (hj : j < l.length) : costO (l.take (j + 1)) = costO (l.take j) + (10 + l[j].id.length + l[j].share.length + l[j].tag.length) := by
  have app : ∀ (a b : List ObjV), costO (a ++ b) = costO a + costO b := by
    intro a b
    induction a with
    | nil => simp [costO]
    | cons x r ih => simp only [List.cons_append, costO, ih]; omega
  rw [List.take_succ_eq_append_getElem hj, app]
  simp [costO]
def whereS (x : StateV) (id : List UInt8) (p : Int) : Int × Bool := if (WS.state ⟨[], false⟩ x).bad then (0, false) else whereV id p 16 x.objs
set_option maxRecDepth 100000 in
set_option maxHeartbeats 4000000 in
theorem Where_any (w : World) (S : Nat → Prop) (x : StateV) (Ao Ap : Option Addr) (co cp : Nat) (id : List UInt8) (p : Int) (hr : StateRd w S x Ao Ap) (hS : ∀ k, S k → k < w.heap.size) (hs : x.cost ≤ 67108864) (hp : -9223372036854775808 ≤ p ∧ p ≤ 9223372036854775807) :
    Calls Tryd.prog 19 #[.agg (stateCells x Ao Ap co cp), .string ⟨id.toArray⟩, .int .i64 p] w fun e w' => e = .returned (.tuple #[.int .i64 (whereS x id p).1, .bool (whereS x id p).2]) ∧ Below w.heap.size w w' := by
  have hM := Blk.new w 26 (stateCells x Ao Ap co cp)
  have hb1 : Below w.heap.size w (w.alloc (.cells (stateCells x Ao Ap co cp) 26)) := (Below.refl _ _).alloc (Nat.le_refl _) _
  have hr1 := hr.below hb1
  have HM := Lib.hid hM; have HB1 := Lib.hid hb1; have HR1 := Lib.hid hr1; have HS := Lib.hid hS
  clear hM hb1 hr1 hr hS
  go_enter Tryd.func19, Tryd.ntmps19
  go_wp2_with (refine wpList_load_row rfl 26 (.tmp 3) rfl w.heap.size rfl _ _ _ _ HM.out Tryd.underlying26 rfl (by kernel_rfl) ?_)
  refine (EncodeState_any _ _ x Ao Ap co cp HR1.out (fun k e => Nat.lt_of_lt_of_le (HS.out k e) HB1.out.size) (by omega)).mono ?_
  rintro e w2 ⟨v1, rfl, _, hb2, _⟩
  have HM2 := Lib.hid (HM.out.below hb2 HM.out.lt); have HR2 := Lib.hid (HR1.out.below hb2); have HB2 := Lib.hid (HB1.out.trans (hb2.mono HB1.out.size))
  clear hb2 HM HR1
  have hw : whereS x id p = if (WS.state ⟨[], false⟩ x).bad then (0, false) else whereV id p 16 x.objs := rfl
  generalize (WS.state ⟨[], false⟩ x).bad = bad at hw ⊢
  cases bad
  · simp only [Bool.false_eq_true, if_false] at hw
    simp only [Bool.not_false]
    have HW := Lib.hid hw; clear hw
    have HMs := Lib.hid (show w.heap.size < w2.heap.size from HM2.out.lt)
    obtain ⟨M, hMe⟩ : ∃ M, M = w.heap.size := ⟨_, rfl⟩
    rw [← hMe] at HM2 HMs ⊢
    have HME := Lib.hid hMe; clear hMe
    have p3 : w2.cell? ⟨M, 3, none⟩ = some (.slice Ao x.objs.length co) := (HM2.out.cell 3).trans rfl
    have hlen := costO_ge x.objs
    unfold StateV.cost at hs
    go_wp2_with fail
    clear p3
    go_loopw [10, 23] (fun pl q wr => ∃ j : Nat, j ≤ x.objs.length ∧ q = .int .i64 (j : Int) ∧ pl = .int .i64 (((16 + costO (x.objs.take j) : Nat)) : Int) ∧ whereV id p 16 x.objs = whereV id p (((16 + costO (x.objs.take j) : Nat)) : Int) (x.objs.drop j) ∧ Keeps (fun _ => False) w2 wr) (fun _ q _ => x.objs.length - (intOf q).toNat)
    case atStart => exact ⟨0, by omega, rfl, rfl, rfl, Keeps.refl _ _⟩
    case round =>
      obtain ⟨j, hj, rfl, rfl, hwh, hkp⟩ := hrel
      have HWH := Lib.hid hwh; have HK := Lib.hid hkp
      clear hwh hkp
      by_cases hjn : j < x.objs.length
      · have hjn' : (j : Int) < (x.objs.length : Int) := by omega
        obtain ⟨ad, rfl, _, _, hc⟩ := (HR2.out.objs.off HK.out (fun _ _ e => e)) (by omega)
        obtain ⟨As, At, cs, ct, c0, c1, c2, c3, _⟩ := hc j _ (List.getElem?_eq_getElem hjn)
        have hsn := costO_snoc x.objs j hjn
        have htk := costO_take x.objs (j + 1)
        have hdr : whereV id p (((16 + costO (x.objs.take j) : Nat)) : Int) (x.objs.drop j) = if x.objs[j].id = id then (if p < 0 ∨ (x.objs[j].share.length : Int) ≤ p then (0, false) else ((((16 + costO (x.objs.take j) : Nat)) : Int) + (8 + x.objs[j].id.length) + p, true)) else whereV id p ((((16 + costO (x.objs.take j) : Nat)) : Int) + (10 + x.objs[j].id.length + x.objs[j].share.length + x.objs[j].tag.length)) (x.objs.drop (j + 1)) := by
          rw [List.drop_eq_getElem_cons hjn]; rfl
        generalize x.objs[j] = o at c0 c1 c2 c3 hsn hdr
        generalize costO (x.objs.take j) = cj at hsn hdr HWH ⊢
        have HDR := Lib.hid hdr; have HSN := Lib.hid hsn
        have hbd : cj + (10 + o.id.length + o.share.length + o.tag.length) ≤ 67108864 := by omega
        clear hdr hsn hc htk
        go_upto_region 8 with (fail)
        have hN := Blk.new wr 47 (objCells o As At cs ct)
        have hk3 := HK.out.alloc (.cells (objCells o As At cs ct) 47)
        generalize hNe : wr.heap.size = N at hN ⊢
        obtain ⟨w3, hw3⟩ : ∃ w3, w3 = wr.alloc (.cells (objCells o As At cs ct) 47) := ⟨_, rfl⟩
        rw [← hw3] at hN hk3 ⊢
        clear hw3 hNe c0 c1 c2 c3
        have n0 : w3.cell? ⟨N, 0, none⟩ = some (.string ⟨o.id.toArray⟩) := (hN.cell 0).trans rfl
        have n2 : w3.cell? ⟨N, 2, none⟩ = some (.slice As o.share.length cs) := (hN.cell 2).trans rfl
        have n3 : w3.cell? ⟨N, 3, none⟩ = some (.slice At o.tag.length ct) := (hN.cell 3).trans rfl
        have HK3 := Lib.hid hk3
        clear hN hk3
        by_cases hid : o.id = id
        · have hde : decide (o.id = id) = true := decide_eq_true hid
          have hdr := HDR.out
          rw [if_pos hid] at hdr
          by_cases hlo : p < 0
          · rw [if_pos (Or.inl hlo)] at hdr
            have HF := Lib.hid (show whereS x id p = (0, false) by rw [HW.out, HWH.out, hdr])
            clear hdr hid
            go_wp2_with (refine wpList_eql rfl _ _ _ _ rfl o.id id rfl rfl ?_; rw [hde])
            go_ret2
            exact ⟨by rw [HF.out]; rfl, HB2.out.trans (HK3.out.below (B := w.heap.size) (fun _ e => e.elim) HB2.out.size)⟩
          · by_cases hhi : (o.share.length : Int) ≤ p
            · rw [if_pos (Or.inr hhi)] at hdr
              have HF := Lib.hid (show whereS x id p = (0, false) by rw [HW.out, HWH.out, hdr])
              clear hdr hid
              go_wp2_with (refine wpList_eql rfl _ _ _ _ rfl o.id id rfl rfl ?_; rw [hde])
              go_ret2
              exact ⟨by rw [HF.out]; rfl, HB2.out.trans (HK3.out.below (B := w.heap.size) (fun _ e => e.elim) HB2.out.size)⟩
            · rw [if_neg (by omega)] at hdr
              have HF := Lib.hid (show whereS x id p = _ by rw [HW.out, HWH.out, hdr])
              clear hdr hid
              go_wp2_with (refine wpList_eql rfl _ _ _ _ rfl o.id id rfl rfl ?_; rw [hde])
              go_ret2
              refine ⟨?_, HB2.out.trans (HK3.out.below (B := w.heap.size) (fun _ e => e.elim) HB2.out.size)⟩
              rw [HF.out]
              refine congrArg (fun z => Ending.returned (.tuple #[.int .i64 z, .bool true])) ?_
              omega
        · have hde : decide (o.id = id) = false := decide_eq_false hid
          have hdr := HDR.out
          rw [if_neg hid] at hdr
          have HF := Lib.hid (HWH.out.trans hdr)
          clear hdr hid
          go_wp2_with (refine wpList_eql rfl _ _ _ _ rfl o.id id rfl rfl ?_; rw [hde])
          go_roundw
          case rel => exact ⟨j + 1, by omega, by go_num, by rw [HSN.out]; congr 1; omega, by rw [HF.out, HSN.out]; congr 1; omega, HK3.out⟩
          case measure => simp [intOf]; omega
      · obtain rfl : j = x.objs.length := by omega
        have HF := Lib.hid (show whereS x id p = (0, false) by rw [HW.out, HWH.out, List.drop_length]; rfl)
        go_wp2
        go_ret2
        exact ⟨by rw [HF.out]; rfl, HB2.out.trans (HK.out.below (B := w.heap.size) (fun _ e => e.elim) HB2.out.size)⟩
  · simp only [if_true] at hw
    simp only [Bool.not_true]
    have HW := Lib.hid hw; clear hw
    go_wp2
    go_ret2
    exact ⟨by rw [HW.out]; rfl, HB2.out⟩
end Go.Proofs.YtinkclcdpcjnfaaDoor
