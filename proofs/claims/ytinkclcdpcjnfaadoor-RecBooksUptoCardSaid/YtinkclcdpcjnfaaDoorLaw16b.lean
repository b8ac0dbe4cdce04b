/- The walk of layer 16's law RecBooks. Condition: what is written is no great thing. -/
import Derived.Test.YtinkclcdpcjnfaaDoorLaw16
import Derived.Test.YtinkclcdpcjnfaaDoorRec4
namespace Go.Proofs.YtinkclcdpcjnfaaDoor
open Go.RowKit
set_option maxRecDepth 100000 in
set_option maxHeartbeats 4000000 in
theorem RecBooks_any (m : BookV) (Ad Au Ac : Option Addr) (cd cu cc : Nat) (w : World) (hk : Consts w) (hs : m.cost ≤ 67108864) (hr : BookRd w (fun k => k < w.heap.size) m Ad Au Ac) :
    Calls Tryd.prog 4 #[.agg (bookCells m Ad Au Ac cd cu cc)] w fun e w' => e = .returned (.bool true) ∧ Below w.heap.size w w' := by
  have hB0 : 0 < w.heap.size := by have := World.block_lt_of_cell? w _ (hk 0 (by omega)); omega
  have hlen := book_len m
  have hM := Blk.new w 39 (bookCells m Ad Au Ac cd cu cc)
  have hb1 : Below w.heap.size w (w.alloc (.cells (bookCells m Ad Au Ac cd cu cc) 39)) := (Below.refl _ _).alloc (Nat.le_refl _) _
  have hr1 := hr.below hb1
  have HM := Lib.hid hM; have HB1 := Lib.hid hb1; have HR1 := Lib.hid hr1; have HR := Lib.hid hr; have HK := Lib.hid hk
  clear hM hb1 hr1 hr hk
  go_enter Tryd.func4, Tryd.ntmps4
  go_wp2_with (refine wpList_load_row rfl 39 (.tmp 1) rfl w.heap.size rfl _ _ _ _ HM.out Tryd.underlying39 rfl (by kernel_rfl) ?_)
  refine (EncodeBook_any _ _ m Ad Au Ac cd cu cc HR1.out (fun k e => Nat.lt_of_lt_of_le e HB1.out.size) (by omega)).mono ?_
  rintro e w2 ⟨v1, rfl, hf1, hb2, _⟩
  have HM2 := Lib.hid (HM.out.below hb2 (by simp))
  have hb02 := HB1.out.trans (hb2.mono HB1.out.size)
  have hr2 := HR.out.below hb02
  have hdec := fun h => decB_enc (k := m) h
  have href := RefDir_any w2 _ m Ad Au Ac cd cu cc hr2 (fun k e => Nat.lt_of_lt_of_le e hb02.size) (by omega)
  have href2 := fun W S Bd Bu Bc ed eu ec h hS => RefDir_any W S m Bd Bu Bc ed eu ec h hS (by omega)
  generalize WS.book ⟨[], false⟩ m = s at hf1 hlen hdec href href2 ⊢
  obtain ⟨A1, c1, rfl, hrd1, _⟩ := hf1
  have HRD1 := Lib.hid hrd1; have HB2 := Lib.hid hb02; have HREF := Lib.hid href; have HREF2 := Lib.hid href2
  clear hrd1 hb2 hb02 hr2 href href2
  cases hbad : s.bad
  · rw [hbad] at HRD1
    simp only [Bool.false_eq_true, if_false, Bool.not_false] at HRD1 ⊢
    have hdec := hdec hbad
    obtain ⟨out, hout⟩ : ∃ o, o = s.out := ⟨_, rfl⟩
    rw [← hout] at HRD1 hdec hlen ⊢
    have HDEC := Lib.hid hdec; have HBAD := Lib.hid hbad; have HOUT := Lib.hid hout
    clear hdec hbad hout
    go_wp2_with (refine wpList_load_row rfl 39 (.tmp 1) rfl w.heap.size rfl _ _ _ _ HM2.out Tryd.underlying39 rfl (by kernel_rfl) ?_)
    refine HREF.out.mono ?_
    rintro e w3 ⟨v2, rfl, ⟨A2, c2, rfl, hrd2, _⟩, hb3⟩
    rw [HBAD.out, ← HOUT.out]
    rw [← HOUT.out] at hrd2
    have hrd13 := HRD1.out.below hb3
    have HRD13 := Lib.hid (hrd13.more hb3.size); have HRD2 := Lib.hid hrd2; have HB3 := Lib.hid (HB2.out.trans (hb3.mono HB2.out.size))
    clear hrd13 hrd2 hb3
    go_wp2_with fail
    refine (Same_yes w3 A1 A2 _ c1 _ c2 out HRD13.out HRD2.out).mono ?_
    rintro e w4 ⟨rfl, rfl⟩
    go_wp2_with fail
    refine (DecodeBook_any _ A1 _ c1 out (by omega) HRD13.out).mono ?_
    rintro e w5 ⟨Bd, Bu, Bc, ed, eu, ec, rfl, hm5, hb5⟩
    rw [HDEC.out] at hm5 ⊢
    dsimp only at hm5 ⊢
    have hrd5 := HRD2.out.below hb5
    have HRD5 := Lib.hid (hrd5.more hb5.size); have HM5 := Lib.hid hm5; have HB5 := Lib.hid (HB3.out.trans (hb5.mono HB3.out.size))
    have hbq : Below w5.heap.size w5 (w5.alloc (.cells (bookCells m Bd Bu Bc ed eu ec) 39)) := (Below.refl _ _).alloc (Nat.le_refl _) _
    have hm6 := hm5.below hbq
    have hq6 := Blk.new w5 39 (bookCells m Bd Bu Bc ed eu ec)
    have HM6 := Lib.hid hm6; have HB6 := Lib.hid (HB5.out.trans (hbq.mono HB5.out.size)); have HRD6 := Lib.hid ((HRD5.out.below hbq).more hbq.size); have HQ6 := Lib.hid hq6; have HBQ := Lib.hid hbq
    clear hrd5 hm5 hb5 hbq hm6 hq6
    go_wp2_with (refine wpList_load_row rfl 39 (.tmp 7) rfl w5.heap.size rfl _ _ _ _ HQ6.out Tryd.underlying39 rfl (by kernel_rfl) ?_)
    refine (HREF2.out _ _ Bd Bu Bc ed eu ec HM6.out (fun k e => Nat.lt_of_lt_of_le e.2 HBQ.out.size)).mono ?_
    rintro e w7 ⟨v7, rfl, ⟨A7, c7, rfl, hrd7, _⟩, hb7⟩
    rw [HBAD.out, ← HOUT.out]
    rw [← HOUT.out] at hrd7
    have HRD7 := Lib.hid hrd7; have HB7 := Lib.hid (HB6.out.trans (hb7.mono HB6.out.size)); have HRD8 := Lib.hid ((HRD6.out.below hb7).more hb7.size)
    clear hrd7 hb7
    go_wp2_with fail
    refine (answers16_any w7 (HK.out.below HB7.out hB0)).mono ?_
    rintro e w8 ⟨rfl, hb8⟩
    have H9 := Lib.hid ((HRD7.out.below hb8)); have H10 := Lib.hid (HRD8.out.below hb8); have HB8 := Lib.hid (HB7.out.trans (hb8.mono HB7.out.size))
    have hd : decide (out = out) = true := by simp
    clear hb8
    go_wp2_with (first | (refine wpList_str rfl 27 9 5 (.tmp 50) rfl A7 _ c7 out rfl Tryd.underlying27 Tryd.underlying5 Tryd.underlying9 _ H9.out ?_) | (refine wpList_str rfl 27 9 5 (.tmp 52) rfl A2 _ c2 out rfl Tryd.underlying27 Tryd.underlying5 Tryd.underlying9 _ H10.out ?_) | (refine wpList_eql rfl _ _ _ _ rfl out out rfl rfl ?_))
    go_ret
    exact ⟨rfl, HB8.out⟩
  · rw [hbad] at HRD1
    simp only [if_true, Bool.not_true, List.length_nil] at HRD1 ⊢
    have HBAD := Lib.hid hbad
    clear hbad
    go_wp2_with (refine wpList_load_row rfl 39 (.tmp 1) rfl w.heap.size rfl _ _ _ _ HM2.out Tryd.underlying39 rfl (by kernel_rfl) ?_)
    refine HREF.out.mono ?_
    rintro e w3 ⟨v2, rfl, ⟨A2, c2, rfl, _, _⟩, hb3⟩
    rw [HBAD.out]
    have HB3 := Lib.hid (HB2.out.trans (hb3.mono HB2.out.size))
    clear hb3
    go_wp2_with fail
    refine (Same_no w3 A1 A2 _ c1 _ c2).mono ?_
    rintro e w4 ⟨rfl, rfl⟩
    go_wp2_with fail
    refine (answers16_any _ (HK.out.below HB3.out hB0)).mono ?_
    rintro e w8 ⟨rfl, hb8⟩
    have HB8 := Lib.hid (HB3.out.trans (hb8.mono HB3.out.size))
    clear hb8
    go_wp2
    go_ret
    exact ⟨rfl, HB8.out⟩
end Go.Proofs.YtinkclcdpcjnfaaDoor
