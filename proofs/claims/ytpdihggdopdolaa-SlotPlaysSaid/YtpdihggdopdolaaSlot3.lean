/- What Start does to a slot. No conditions but the sizes. -/
import Derived.Test.YtpdihggdopdolaaSlot2
namespace Go.Proofs.Ytpdihggdopdolaa
open Go.RowKit
/-- The first j blocks of a side from b on are noughts, the rest is as it was. -/
structure Cleared (s s' : DS) (b j : Nat) : Prop where
  fuse : s'.fuse = -1
  down : s'.down = false
  writes : s'.writes ≤ s.writes + j
  len : s'.bl.length = s.bl.length
  zero : ∀ i, i < j → s'.bl[b + i]? = some zero32
  rest : ∀ k, (∀ i, i < j → k ≠ b + i) → s'.bl[k]? = s.bl[k]?
theorem Cleared.skip {s s' : DS} {b j : Nat} (h : Cleared s s' b j) (hz : s'.bl[b + j]? = some zero32) : Cleared s s' b (j + 1) :=
  ⟨h.fuse, h.down, by have := h.writes; omega, h.len, fun i hi => (by
    by_cases e : i = j
    · rw [e]; exact hz
    · exact h.zero i (by omega)), fun k hk => h.rest k fun i hi => hk i (by omega)⟩
theorem Cleared.write {s s' : DS} {b j : Nat} (h : Cleared s s' b j) (hb : b + j < s.bl.length) : (s'.write ((b + j : Nat) : Int) zero32).1 = 0 ∧ Cleared s (s'.write ((b + j : Nat) : Int) zero32).2 b (j + 1) := by
  have hl := h.len
  have hhas : s'.has ((b + j : Nat) : Int) = true := by unfold DS.has; exact decide_eq_true ⟨by omega, by omega⟩
  have hw : s'.write ((b + j : Nat) : Int) zero32 = (0, { bl := s'.bl.set (b + j) zero32, fuse := s'.fuse, down := false, writes := s'.writes + 1 }) := by
    unfold DS.write
    rw [if_pos ⟨hhas, zero32_len⟩, if_neg (by rw [h.down, h.fuse]; decide), if_neg (by rw [h.fuse]; decide), Int.toNat_natCast]
  rw [hw]
  refine ⟨rfl, h.fuse, rfl, by have := h.writes; show s'.writes + 1 ≤ _; omega, by show (s'.bl.set _ _).length = _; rw [List.length_set]; exact hl, fun i hi => ?_, fun k hk => ?_⟩
  · show (s'.bl.set (b + j) zero32)[b + i]? = _
    rw [List.getElem?_set]
    by_cases e : i = j
    · rw [if_pos (by omega), if_pos (by omega)]
    · rw [if_neg (by omega)]; exact h.zero i (by omega)
  · show (s'.bl.set (b + j) zero32)[k]? = _
    rw [List.getElem?_set, if_neg (fun e => hk j (by omega) e.symm)]
    exact h.rest k fun i hi => hk i (by omega)
theorem run_root_side (a b : Int) (W : World) : Sem.run Try.prog (Instr.field 74 (.agg #[.int .i64 a, .int .i64 b]) 0) W = .ok (.int .i64 a) W := by kernel_rfl
set_option maxRecDepth 100000 in
theorem Start_any (w : World) (F : Nat → Prop) (S room : Nat) (s : DS) (side : Nat) (kept : List UInt8) (h : SlotIs w F S room s) (hok : SOk s room side kept) (hwr : s.writes ≤ 4611686018427380000) :
    Calls Try.prog 29 #[.pointer (some ⟨S, 0, none⟩)] w fun e w' => e = .returned (.tuple #[]) ∧ (∃ s', SlotIs w' (Grown F w) S room s' ∧ Cleared s s' (1 + (1 - side) * room) room) ∧ Keeps F w w' := by
  obtain ⟨o, ho⟩ : ∃ o, o = 1 - side := ⟨_, rfl⟩
  have hoi : (1 : Int) - (side : Int) = (o : Int) := by have := hok.sideLe; omega
  rw [← ho]
  obtain ⟨D, G, hS, hd, h3, h4, h5⟩ := h
  have c0 : w.cell? ⟨S, 0, none⟩ = some (.pointer (some ⟨D, 0, none⟩)) := (hS.cell 0).trans rfl
  have HOK := Lib.hid hok; have HS := Lib.hid hS; have HD := Lib.hid hd; have HO := Lib.hid ho; have HOI := Lib.hid hoi; have HWR := Lib.hid hwr
  clear hok hS hd ho hoi hwr
  go_enter Try.func29, Try.ntmps29
  go_wp2_with fail
  refine (On_any w G D s HD.out).mono ?_
  rintro e w1 ⟨rfl, hd1, hk1⟩
  obtain ⟨hs1, hk1'⟩ := SlotIs.call (F := F) (room := room) HS.out h3 h4 h5 (hd1.weaken fun k e => Or.inl e) hk1
  have H1 := Lib.hid hs1; have HK1 := Lib.hid hk1'
  clear hd1 hk1 hs1 hk1' c0
  go_wp2_with fail
  refine (Root_any w1 _ S room _ side kept.length H1.out HOK.out.root HOK.out.sideLe HOK.out.small).mono ?_
  rintro e w2 ⟨rfl, hb2⟩
  have H2 := Lib.hid (H1.out.below hb2); have HK2 := Lib.hid (HK1.out.trans (Keeps.of_below (F := fun _ => False) hb2) (fun _ _ e => e.elim))
  have c1 : w2.cell? ⟨S, 1, none⟩ = some (.int .i64 (room : Int)) := by obtain ⟨D', G', hS', _⟩ := H2.out; exact (hS'.cell 1).trans rfl
  have hsd := HOK.out.sideLe
  have hfl := run_root_side (side : Int) (kept.length : Int)
  clear hb2 H1 HK1
  go_wp2_with fail
  rw [HOI.out]
  clear hsd c1 hfl
  go_loopw [3, 4, 20] (fun _ _ q wr => ∃ (j : Nat) (sj : DS), j ≤ room ∧ q = .int .i64 (j : Int) ∧ SlotIs wr (Grown F w) S room sj ∧ Cleared s sj (1 + o * room) j ∧ Keeps F w wr) (fun _ _ q _ => room - (intOf q).toNat)
  case atStart => exact ⟨0, _, by omega, rfl, H2.out, ⟨rfl, rfl, Nat.le_refl _, rfl, fun i hi => by omega, fun k _ => rfl⟩, HK2.out⟩
  case round =>
    obtain ⟨j, sj, hj, rfl, hs, hc, hk⟩ := hrel
    by_cases hjr : j < room
    · have hjr' : (j : Int) < (room : Int) := by omega
      have hrm := HOK.out.roomLe
      have ho1 : o ≤ 1 := by have := HO.out; omega
      have hbl : 1 + o * room + j < s.bl.length := by
        rw [HOK.out.len]
        have h9 : o * room ≤ 1 * room := Nat.mul_le_mul_right room ho1
        omega
      have HBL := Lib.hid hbl; have HJ := Lib.hid hs; have HC := Lib.hid hc; have HK := Lib.hid hk; have HO1 := Lib.hid ho1
      obtain ⟨D2, G2, hS2, hd2, g3, g4, g5⟩ := hs
      have HS2 := Lib.hid hS2; have HD2 := Lib.hid hd2
      clear hc hk hbl H2 HK2 hS2 hd2 ho1
      go_wp2_with fail
      refine (block_any S D2 room o j wr hrm (by have := HO1.out; omega) (by omega) HS2.out).mono ?_
      rintro e w3 ⟨rfl, rfl⟩
      generalize hkk : 1 + o * room + j = kk at HBL ⊢
      have HKK := Lib.hid hkk
      clear hkk
      go_wp2_with fail
      have hlen := HC.out.len
      refine (zero_any w3 (Grown F w) S room sj kk HJ.out (by rw [hlen]; exact HBL.out)).mono ?_
      rintro e w4 ⟨rfl, hb4⟩
      have H4 := Lib.hid (HJ.out.below hb4); have HK4 := Lib.hid (HK.out.trans (Keeps.of_below (F := fun _ => False) hb4) (fun _ _ e => e.elim))
      have HS4 := Lib.hid (HS2.out.below hb4 HS2.out.lt); have HD4 := Lib.hid (HD2.out.below hb4)
      have HLEN := Lib.hid hlen
      clear hb4 hlen
      by_cases hz : sj.bl.getD kk [] = zero32
      · rw [decide_eq_true hz]
        have HZ := Lib.hid hz
        clear hz
        go_wp2_with fail
        go_roundw
        case rel =>
          refine ⟨j + 1, sj, hjr, by go_num, H4.out, HC.out.skip ?_, HK4.out⟩
          have h8 : kk < sj.bl.length := by rw [HLEN.out]; exact HBL.out
          have h9 := HZ.out
          rw [HKK.out]
          rw [List.getD_eq_getElem?_getD, List.getElem?_eq_getElem h8] at h9
          rw [List.getElem?_eq_getElem h8]
          exact congrArg some h9
        case measure => simp [intOf]; omega
      · rw [decide_eq_false hz]
        clear hz
        have HSC := Lib.hid (fun W (hW : Below w4.heap.size w4 W) => ((HS4.out.below hW HS4.out.lt).cell 0).trans rfl : ∀ W, Below w4.heap.size w4 W → W.cell? ⟨S, 0, none⟩ = some (.pointer (some ⟨D2, 0, none⟩)))
        have HMK := Lib.hid mk32
        go_wp2_with fail
        have hC0 : Below w4.heap.size w4 w4.drew := (Below.refl _ _).drew
        refine wp_region_anyN (fun W => W.cell? ⟨S, 0, none⟩ = some (.pointer (some ⟨D2, 0, none⟩))) (by kernel_rfl) ?_
        refine anyC_takes (by kernel_rfl) (fun _ _ _ _ _ h => h) [0, 1, 2, 3, 4] 2 _ _ (by kernel_rfl) ?_
        simp only [List.filterMap_cons, List.filterMap_nil, List.getElem?_toArray, List.getElem?_cons_succ, List.getElem?_cons_zero]
        show wpQuiet _ _ _ _ (_ :: _ :: _ :: _ :: _ :: List.nil) _
        repeat (first | go_big_quiet_skip | (go_big_quiet_want; first | (refine quiet_load _ _ rfl ⟨S, 0, none⟩ rfl _ (fun W hW => hW) (fun _ => by kernel_rfl) ?_; simp only [Act.put, List.setIfInBounds_toArray, List.set_cons_succ, List.set_cons_zero]; go_big_quiet_on) | (go_big_quiet_op; first | go_big_quiet_on | (refine ⟨_, fun _ _ => rfl, ?_⟩; go_big_quiet_on))))
        refine wpQuiet_nil ?_
        refine anyC_only (i := 5) rfl (by kernel_rfl) (HSC.out _ hC0) ?_
        have hmk := HMK.out
        go_wp2_with fail
        clear hmk
        have hC5 : Below w4.heap.size w4 (w4.drew.alloc (.cells (zero32.map B8).toArray 5)) := hC0.alloc hC0.size _
        refine anyC_only (i := 6) rfl (by kernel_rfl) (HSC.out _ hC5) ?_
        go_wp2_with fail
        have hwj := HC.out.writes
        refine (Write_any _ G2 D2 sj (kk : Int) _ 32 32 zero32 (by have := HWR.out; omega) (HD4.out.below hC5) ((Rd.new_ w4.drew zero32 _ rfl 32 (by rw [zero32_len])).more (by simp))).mono ?_
        rintro e w6 ⟨rfl, hd6, hk6⟩
        obtain ⟨hs6, hk6'⟩ := SlotIs.call (F := Grown F w) (room := room) (HS4.out.below hC5 HS4.out.lt) g3 g4 g5 hd6 hk6
        have HKW := Lib.hid (HK4.out.trans (Keeps.of_below (F := fun _ => False) hC5) (fun _ _ e => e.elim))
        have HKZ := Lib.hid (HKW.out.trans hk6' (fun k hk e => by rcases e with e | e; exact e; omega))
        have HSZ := Lib.hid (hs6.weaken (G := Grown F w) (fun k e => by rcases e with e | e; exact e; exact Or.inr (Nat.le_trans HKW.out.size e)))
        have HC6 := Lib.hid ((((HS4.out.below hC5 HS4.out.lt).keeps hk6 g3).cell 0).trans rfl : w6.cell? ⟨S, 0, none⟩ = some (.pointer (some ⟨D2, 0, none⟩)))
        clear hd6 hk6 hs6 hk6'
        go_wp2_with fail
        refine ⟨HC6.out, by kernel_rfl, ?_⟩
        go_wp2_with fail
        go_roundw
        case rel =>
          refine ⟨j + 1, _, hjr, by go_num, HSZ.out, ?_, HKZ.out⟩
          rw [← HKK.out]
          exact (HC.out.write (by rw [HKK.out]; exact HBL.out)).2
        case measure => simp [intOf]; omega
    · obtain rfl : j = room := by omega
      go_wp2_with fail
      go_end0
      exact ⟨rfl, ⟨sj, hs, hc⟩, hk⟩
end Go.Proofs.Ytpdihggdopdolaa
