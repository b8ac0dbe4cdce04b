/- The walk of layer 16's law RecReads. Condition: the bytes are no great number. -/
import Derived.Test.YtinkclcdpcjnfaaDoorLaw16
import Derived.Test.YtinkclcdpcjnfaaDoorRec4
namespace Go.Proofs.YtinkclcdpcjnfaaDoor
open Go.RowKit
theorem eO_lens (l : List ObjV) : (l.flatMap eO).length = costO l := by
  induction l with
  | nil => rfl
  | cons x r ih => rw [List.flatMap_cons, List.length_append, ih]; simp only [eO, List.length_append, eB_len, eI_len, costO]; omega
theorem eH_lens (l : List HeadV) : (l.flatMap eH).length = costH l := by
  induction l with
  | nil => rfl
  | cons x r ih => rw [List.flatMap_cons, List.length_append, ih]; simp only [eH, List.length_append, eB_len, eI_len, costH]; omega
theorem eI_lens (l : List Int) : (l.flatMap eI).length = 4 * l.length := by
  induction l with
  | nil => rfl
  | cons x r ih => rw [List.flatMap_cons, List.length_append, ih, eI_len, List.length_cons]; omega
theorem encS_cost (m : StateV) : m.enc.length = m.cost := by
  unfold StateV.enc StateV.cost
  simp only [List.length_append, eI_len, eI_lens, eO_lens, List.length_cons, List.length_nil]
  omega
theorem encB_cost (m : BookV) : m.enc.length = m.cost := by
  unfold BookV.enc BookV.cost
  simp only [List.length_append, eI_len, eI_lens, eH_lens, List.length_cons, List.length_nil, List.length_map]
  omega
theorem decS_cost {b : List UInt8} : (decS b).1.cost ≤ 32 + b.length := by
  cases h : (decS b).2
  · rw [decS_no h]; show 32 ≤ _; omega
  · obtain ⟨h1, h2⟩ := decS_ok h
    rw [← encS_cost, ← (state_enc h1).2, h2]; omega
theorem decB_cost {b : List UInt8} : (decB b).1.cost ≤ 24 + b.length := by
  cases h : (decB b).2
  · rw [decB_no h]; show 24 ≤ _; omega
  · obtain ⟨h1, h2⟩ := decB_ok h
    rw [← encB_cost, ← (book_enc h1).2, h2]; omega
set_option maxRecDepth 100000 in
set_option maxHeartbeats 8000000 in
theorem RecReads_any (A : Option Addr) (n c : Nat) (w : World) (b : List UInt8) (hk : Consts w) (hn : n ≤ 1048576) (hr : Rd w w.heap.size A n b) :
    Calls Tryd.prog 5 #[.slice A n c] w fun e w' => e = .returned (.bool true) ∧ Below w.heap.size w w' := by
  have hB0 : 0 < w.heap.size := by have := World.block_lt_of_cell? w _ (hk 0 (by omega)); omega
  have hbl := Lib.hid hr.len
  have HR := Lib.hid hr; have HK := Lib.hid hk
  clear hr hk
  go_enter Tryd.func5, Tryd.ntmps5
  go_wp2_with fail
  refine (DecodeState_any w A n c b (by omega) HR.out).mono ?_
  rintro e w1 ⟨Bo, Bp, eo, ep, rfl, hm1, hb1⟩
  have hok1 := fun h => decS_ok (b := b) h
  have hno1 := fun h => decS_no (b := b) h
  have hc1 := Lib.hid (decS_cost (b := b))
  generalize (decS b).1 = x at hm1 hok1 hno1 hc1 ⊢
  generalize (decS b).2 = ok at hok1 hno1 ⊢
  have HOK := Lib.hid hok1; have HNO := Lib.hid hno1
  clear hok1 hno1
  have hq1 := Blk.new w1 26 (stateCells x Bo Bp eo ep)
  have hbq : Below w1.heap.size w1 (w1.alloc (.cells (stateCells x Bo Bp eo ep) 26)) := (Below.refl _ _).alloc (Nat.le_refl _) _
  have hm2 := hm1.below hbq
  have hs2 := hbq.size
  have hb2 := hb1.trans (hbq.mono hb1.size)
  have HQ1 := Lib.hid hq1; have HM2 := Lib.hid hm2; have HB2 := Lib.hid hb2; have HS2 := Lib.hid hs2
  clear hq1 hbq hm2 hb2 hb1 hm1 hs2
  go_upto_region 2 with (fail)
  obtain ⟨q, hq⟩ : ∃ q, q = w1.heap.size := ⟨_, rfl⟩
  rw [← hq] at HQ1 HM2 HS2 ⊢
  obtain ⟨w2, hw2⟩ : ∃ w2, w2 = w1.alloc (.cells (stateCells x Bo Bp eo ep) 26) := ⟨_, rfl⟩
  rw [← hw2] at HQ1 HM2 HB2 HS2 ⊢
  clear hw2
  have HWQ := Lib.hid hq; clear hq
  go_wp2_with fail
  refine (DecodeBook_any w2 A n c b (by omega) ((HR.out.below HB2.out).more HB2.out.size)).mono ?_
  rintro e w3 ⟨Bd, Bu, Bc, ed, eu, ec, rfl, hm3, hb3⟩
  have hok2 := fun h => decB_ok (b := b) h
  have hno2 := fun h => decB_no (b := b) h
  have hc2 := Lib.hid (decB_cost (b := b))
  generalize (decB b).1 = k at hm3 hok2 hno2 hc2 ⊢
  generalize (decB b).2 = yes at hok2 hno2 ⊢
  have HOK2 := Lib.hid hok2; have HNO2 := Lib.hid hno2
  clear hok2 hno2
  have hq2 := Blk.new w3 39 (bookCells k Bd Bu Bc ed eu ec)
  have hbq : Below w3.heap.size w3 (w3.alloc (.cells (bookCells k Bd Bu Bc ed eu ec) 39)) := (Below.refl _ _).alloc (Nat.le_refl _) _
  have hm4 := hm3.below hbq
  have hb24 := hb3.trans (hbq.mono hb3.size)
  have hb4 := HB2.out.trans (hb24.mono HB2.out.size)
  have hx4 := HM2.out.below hb24
  have hq14 := HQ1.out.below hb24 HQ1.out.lt
  have HQ2 := Lib.hid hq2; have HM4 := Lib.hid hm4; have HB4 := Lib.hid hb4; have HX4 := Lib.hid hx4; have HQ14 := Lib.hid hq14
  have HS4 := Lib.hid (And.intro hb24.size hbq.size)
  clear hq2 hbq hm4 hb4 hb24 hb3 hm3 hx4 hq14 HQ1 HM2
  go_upto_region 3 with (fail)
  obtain ⟨q2, hq⟩ : ∃ q2, q2 = w3.heap.size := ⟨_, rfl⟩
  rw [← hq] at HQ2 HS4 HM4 ⊢
  obtain ⟨w4, hw4⟩ : ∃ w4, w4 = w3.alloc (.cells (bookCells k Bd Bu Bc ed eu ec) 39) := ⟨_, rfl⟩
  rw [← hw4] at HQ2 HM4 HB4 HX4 HQ14 HS4 ⊢
  clear hw4 hq
  go_wp2_with (refine wpList_load_row rfl 26 (.tmp 3) rfl q rfl _ _ _ _ HQ14.out Tryd.underlying26 rfl (by kernel_rfl) ?_)
  refine (RefState_any w4 _ x Bo Bp eo ep HX4.out (fun j e => by have h1 := e.2; have h2 := HWQ.out; have h3 := HS2.out; have h4 := HS4.out.1; omega) (by have h1 := hc1.out; have h2 := hbl.out; omega)).mono ?_
  rintro e w5 ⟨v5, rfl, ⟨A5, c5, rfl, hrd5, _⟩, hb5⟩
  have HR5 := Lib.hid hrd5; have HB5 := Lib.hid (HB4.out.trans (hb5.mono HB4.out.size)); have HQ25 := Lib.hid (HQ2.out.below hb5 HQ2.out.lt); have HM5 := Lib.hid (HM4.out.below hb5); have HS5 := Lib.hid hb5.size
  clear hrd5 hb5
  go_wp2_with (refine wpList_load_row rfl 39 (.tmp 5) rfl q2 rfl _ _ _ _ HQ25.out Tryd.underlying39 rfl (by kernel_rfl) ?_)
  refine (RefDir_any w5 _ k Bd Bu Bc ed eu ec HM5.out (fun j e => by have h1 := e.2; have h3 := HS5.out; have h4 := HS4.out.2; omega) (by have h1 := hc2.out; have h2 := hbl.out; omega)).mono ?_
  rintro e w6 ⟨v6, rfl, ⟨A6, c6, rfl, hrd6, _⟩, hb6⟩
  have HR56 := Lib.hid ((HR5.out.below hb6).more hb6.size); have HR6 := Lib.hid hrd6; have HB6 := Lib.hid (HB5.out.trans (hb6.mono HB5.out.size))
  clear hrd6 hb6
  go_wp2_with fail
  refine (RefState_any w6 (fun _ => False) StateV.zero none none 0 0 (StateRd.nil_ _ _ _ _ rfl rfl) (fun j e => e.elim) (by decide)).mono ?_
  rintro e w7 ⟨v7, rfl, ⟨A7, c7, rfl, hrd7, _⟩, hb7⟩
  have HR57 := Lib.hid ((HR56.out.below hb7).more hb7.size); have HR67 := Lib.hid ((HR6.out.below hb7).more hb7.size); have HR7 := Lib.hid hrd7; have HB7 := Lib.hid (HB6.out.trans (hb7.mono HB6.out.size))
  clear hrd7 hb7
  go_wp2_with fail
  refine (RefDir_any w7 (fun _ => False) BookV.zero none none none 0 0 0 (BookRd.zero_ _ _) (fun j e => e.elim) (by decide)).mono ?_
  rintro e w8 ⟨v8, rfl, ⟨A8, c8, rfl, hrd8, _⟩, hb8⟩
  have HR58 := Lib.hid ((HR57.out.below hb8).more hb8.size); have HR68 := Lib.hid ((HR67.out.below hb8).more hb8.size); have HR78 := Lib.hid ((HR7.out.below hb8).more hb8.size); have HR8 := Lib.hid hrd8; have HB8 := Lib.hid (HB7.out.trans (hb8.mono HB7.out.size))
  clear hrd8 hb8
  go_wp2_with fail
  refine (answers16_any w8 (HK.out.below HB8.out hB0)).mono ?_
  rintro e w9 ⟨rfl, hb9⟩
  have H5 := Lib.hid (HR58.out.below hb9); have H6 := Lib.hid (HR68.out.below hb9); have H7 := Lib.hid (HR78.out.below hb9); have H8 := Lib.hid (HR8.out.below hb9); have HB9 := Lib.hid (HB8.out.trans (hb9.mono HB8.out.size))
  have HA := Lib.hid (HR.out.below HB9.out)
  have hlx : ok = true → (WS.state ⟨[], false⟩ x).out = b := fun e => (HOK.out e).2
  have hlx2 : ok = false → (WS.state ⟨[], false⟩ x).out = (WS.state ⟨[], false⟩ StateV.zero).out := fun e => by rw [HNO.out e]
  have hlk : yes = true → (WS.book ⟨[], false⟩ k).out = b := fun e => (HOK2.out e).2
  have hlk2 : yes = false → (WS.book ⟨[], false⟩ k).out = (WS.book ⟨[], false⟩ BookV.zero).out := fun e => by rw [HNO2.out e]
  generalize (WS.state ⟨[], false⟩ x).out = lc at *
  generalize (WS.book ⟨[], false⟩ k).out = ld at *
  generalize (WS.state ⟨[], false⟩ StateV.zero).out = le at *
  generalize (WS.book ⟨[], false⟩ BookV.zero).out = lf at *
  have HLX := Lib.hid hlx; have HLX2 := Lib.hid hlx2; have HLK := Lib.hid hlk; have HLK2 := Lib.hid hlk2
  clear hlx hlx2 hlk hlk2 hb9 HOK HNO HOK2 HNO2 HQ14 HX4 HQ2 HM4 HM5 HQ25 HR5 HR6 HR7 HR8 HR56 HR57 HR58 HR67 HR68 HR78
  have hdb : decide (b = b) = true := by simp
  have hde : decide (le = le) = true := by simp
  have hdf : decide (lf = lf) = true := by simp
  cases ok
  · obtain rfl := HLX2.out rfl
    cases yes
    · obtain rfl := HLK2.out rfl
      go_wp2_with (first | (refine wpList_str rfl 27 9 5 (.tmp 59) rfl A5 _ c5 lc rfl Tryd.underlying27 Tryd.underlying5 Tryd.underlying9 _ H5.out ?_) | (refine wpList_str rfl 27 9 5 (.tmp 61) rfl A7 _ c7 lc rfl Tryd.underlying27 Tryd.underlying5 Tryd.underlying9 _ H7.out ?_) | (refine wpList_str rfl 27 9 5 (.tmp 80) rfl A6 _ c6 ld rfl Tryd.underlying27 Tryd.underlying5 Tryd.underlying9 _ H6.out ?_) | (refine wpList_str rfl 27 9 5 (.tmp 82) rfl A8 _ c8 ld rfl Tryd.underlying27 Tryd.underlying5 Tryd.underlying9 _ H8.out ?_) | (refine wpList_eql rfl _ _ _ _ rfl lc lc rfl rfl ?_) | (refine wpList_eql rfl _ _ _ _ rfl ld ld rfl rfl ?_))
      go_ret
      exact ⟨rfl, HB9.out⟩
    · obtain rfl := HLK.out rfl
      go_wp2_with (first | (refine wpList_str rfl 27 9 5 (.tmp 59) rfl A5 _ c5 lc rfl Tryd.underlying27 Tryd.underlying5 Tryd.underlying9 _ H5.out ?_) | (refine wpList_str rfl 27 9 5 (.tmp 61) rfl A7 _ c7 lc rfl Tryd.underlying27 Tryd.underlying5 Tryd.underlying9 _ H7.out ?_) | (refine wpList_str rfl 27 9 5 (.tmp 70) rfl A6 _ c6 ld rfl Tryd.underlying27 Tryd.underlying5 Tryd.underlying9 _ H6.out ?_) | (refine wpList_str rfl 27 9 5 (.tmp 72) rfl A n c ld rfl Tryd.underlying27 Tryd.underlying5 Tryd.underlying9 _ HA.out ?_) | (refine wpList_eql rfl _ _ _ _ rfl lc lc rfl rfl ?_) | (refine wpList_eql rfl _ _ _ _ rfl ld ld rfl rfl ?_))
      go_ret
      exact ⟨rfl, HB9.out⟩
  · obtain rfl := HLX.out rfl
    cases yes
    · obtain rfl := HLK2.out rfl
      go_wp2_with (first | (refine wpList_str rfl 27 9 5 (.tmp 49) rfl A5 _ c5 lc rfl Tryd.underlying27 Tryd.underlying5 Tryd.underlying9 _ H5.out ?_) | (refine wpList_str rfl 27 9 5 (.tmp 51) rfl A n c lc rfl Tryd.underlying27 Tryd.underlying5 Tryd.underlying9 _ HA.out ?_) | (refine wpList_str rfl 27 9 5 (.tmp 80) rfl A6 _ c6 ld rfl Tryd.underlying27 Tryd.underlying5 Tryd.underlying9 _ H6.out ?_) | (refine wpList_str rfl 27 9 5 (.tmp 82) rfl A8 _ c8 ld rfl Tryd.underlying27 Tryd.underlying5 Tryd.underlying9 _ H8.out ?_) | (refine wpList_eql rfl _ _ _ _ rfl lc lc rfl rfl ?_) | (refine wpList_eql rfl _ _ _ _ rfl ld ld rfl rfl ?_))
      go_ret
      exact ⟨rfl, HB9.out⟩
    · obtain rfl := HLK.out rfl
      go_wp2_with (first | (refine wpList_str rfl 27 9 5 (.tmp 49) rfl A5 _ c5 ld rfl Tryd.underlying27 Tryd.underlying5 Tryd.underlying9 _ H5.out ?_) | (refine wpList_str rfl 27 9 5 (.tmp 51) rfl A n c ld rfl Tryd.underlying27 Tryd.underlying5 Tryd.underlying9 _ HA.out ?_) | (refine wpList_str rfl 27 9 5 (.tmp 70) rfl A6 _ c6 ld rfl Tryd.underlying27 Tryd.underlying5 Tryd.underlying9 _ H6.out ?_) | (refine wpList_str rfl 27 9 5 (.tmp 72) rfl A n c ld rfl Tryd.underlying27 Tryd.underlying5 Tryd.underlying9 _ HA.out ?_) | (refine wpList_eql rfl _ _ _ _ rfl ld ld rfl rfl ?_))
      go_ret
      exact ⟨rfl, HB9.out⟩
end Go.Proofs.YtinkclcdpcjnfaaDoor
