/- What Clean says of a slot. No conditions. -/
import Derived.Test.YtpdihggdopdolaaSlot3
namespace Go.Proofs.Ytpdihggdopdolaa
open Go.RowKit
/-- There is nothing on the disk but what is kept. -/
def CleanP (s : DS) (room side n : Nat) : Prop := ∀ i, i < room → s.bl[1 + (1 - side) * room + i]? = some zero32 ∧ (takesOf n ≤ i → s.bl[1 + side * room + i]? = some zero32)
theorem getD_some {l : List (List UInt8)} {k : Nat} {x : List UInt8} (hk : k < l.length) : l.getD k [] = x ↔ l[k]? = some x := by
  rw [List.getD_eq_getElem?_getD, List.getElem?_eq_getElem hk]
  simp
theorem clean_room {s : DS} {room side o : Nat} {kept : List UInt8} (h : SOk s room side kept) (ho : o ≤ 1) {j : Nat} (hj : j < room) : 1 + o * room + j < s.bl.length := by
  rw [h.len]
  have h9 : o * room ≤ 1 * room := Nat.mul_le_mul_right room ho
  omega
set_option maxRecDepth 100000 in
set_option maxHeartbeats 1000000 in
theorem Clean_any (w : World) (F : Nat → Prop) (S room : Nat) (s : DS) (side : Nat) (kept : List UInt8) (h : SlotIs w F S room s) (hok : SOk s room side kept) :
    Calls Try.prog 30 #[.pointer (some ⟨S, 0, none⟩)] w fun e w' => (∃ b, e = .returned (.bool b) ∧ (b = true ↔ CleanP s room side kept.length)) ∧ Below w.heap.size w w' := by
  obtain ⟨o, ho⟩ : ∃ o, o = 1 - side := ⟨_, rfl⟩
  have hoi : (1 : Int) - (side : Int) = (o : Int) := by have := hok.sideLe; omega
  have HOK := Lib.hid hok; have H := Lib.hid h; have HO := Lib.hid ho; have HOI := Lib.hid hoi
  clear hok h ho hoi
  go_enter Try.func30, Try.ntmps30
  go_wp2_with fail
  refine (Root_any w F S room s side kept.length H.out HOK.out.root HOK.out.sideLe HOK.out.small).mono ?_
  rintro e w1 ⟨rfl, hb1⟩
  have hb1a := hb1.alloc hb1.size (.cells #[.int .i64 (side : Int), .int .i64 (kept.length : Int)] 74)
  have HT := Lib.hid (Blk.new w1 74 #[.int .i64 (side : Int), .int .i64 (kept.length : Int)])
  have H1 := Lib.hid (H.out.below hb1a); have HB1 := Lib.hid hb1a
  have HRL := Lib.hid (show w1.heap.size < (w1.alloc (.cells #[.int .i64 (side : Int), .int .i64 (kept.length : Int)] 74)).heap.size by simp)
  clear hb1 hb1a
  go_upto_region 4 with (fail)
  generalize w1.alloc (.cells #[.int .i64 (side : Int), .int .i64 (kept.length : Int)] 74) = W2 at HT H1 HB1 HRL ⊢
  generalize w1.heap.size = R at HT HRL ⊢
  have c1 : W2.cell? ⟨S, 1, none⟩ = some (.int .i64 (room : Int)) := by obtain ⟨D', G', hS', _⟩ := H1.out; exact (hS'.cell 1).trans rfl
  go_wp2_with fail
  clear c1
  go_loopw [4, 13] (fun _ q wr => ∃ j : Nat, j ≤ room ∧ q = .int .i64 (j : Int) ∧ Below W2.heap.size W2 wr ∧ ∀ i, i < j → s.bl[1 + o * room + i]? = some zero32 ∧ (takesOf kept.length ≤ i → s.bl[1 + side * room + i]? = some zero32)) (fun _ q _ => room - (intOf q).toNat)
  case atStart => exact ⟨0, by omega, rfl, Below.refl _ _, fun i hi => by omega⟩
  case round =>
    obtain ⟨j, hj, rfl, hb, hcl⟩ := hrel
    have hrm := HOK.out.roomLe
    by_cases hjr : j < room
    · have hjr' : (j : Int) < (room : Int) := by omega
      have HB := Lib.hid hb; have HCL := Lib.hid hcl
      have HJ := Lib.hid (H1.out.below hb)
      have HT1 := Lib.hid (HT.out.below hb HRL.out)
      have ho1 : o ≤ 1 := by have := HO.out; omega
      have HBO := Lib.hid (clean_room HOK.out ho1 hjr); have HBS := Lib.hid (clean_room HOK.out HOK.out.sideLe hjr); have HO1 := Lib.hid ho1
      obtain ⟨D2, G2, hS2, _⟩ := HJ.out
      have HS2 := Lib.hid hS2
      have kt0 : wr.cell? ⟨R, 0, none⟩ = some (.int .i64 (side : Int)) := (HT1.out.cell 0).trans rfl
      have hsd := HOK.out.sideLe
      clear hb hcl hS2 ho1
      go_wp2_with fail
      rw [HOI.out]
      refine (block_any S D2 room o j wr hrm (by have := HO1.out; omega) (by omega) HS2.out).mono ?_
      rintro e w3 ⟨rfl, rfl⟩
      generalize hkk : 1 + o * room + j = kk at HBO ⊢
      have HKK := Lib.hid hkk
      clear hkk kt0
      go_wp2_with fail
      refine (zero_any w3 F S room s kk HJ.out HBO.out).mono ?_
      rintro e w4 ⟨rfl, hb4⟩
      have H4 := Lib.hid (HJ.out.below hb4); have HB4 := Lib.hid (HB.out.trans (hb4.mono HB.out.size))
      have HS4 := Lib.hid (HS2.out.below hb4 HS2.out.lt)
      have kt1 : w4.cell? ⟨R, 1, none⟩ = some (.int .i64 (kept.length : Int)) := ((HT.out.below HB4.out HRL.out).cell 1).trans rfl
      have kt0 : w4.cell? ⟨R, 0, none⟩ = some (.int .i64 (side : Int)) := ((HT.out.below HB4.out HRL.out).cell 0).trans rfl
      clear hb4
      by_cases hz : s.bl.getD kk [] = zero32
      · rw [decide_eq_true hz]
        have HZ := Lib.hid ((getD_some HBO.out).1 hz)
        clear hz
        by_cases hT : takesOf kept.length ≤ j
        · have hT' : ((takesOf kept.length : Nat) : Int) ≤ (j : Int) := by omega
          go_wp2_with (go_at_call 38; refine (takes_any kept.length w4 (by have := HOK.out.small; omega)).mono ?_; rintro e w5 ⟨rfl, rfl⟩)
          refine (block_any S D2 room side j w5 hrm (by have := HOK.out.sideLe; omega) (by omega) HS4.out).mono ?_
          rintro e w6 ⟨rfl, rfl⟩
          generalize hkk : 1 + side * room + j = k2 at HBS ⊢
          have HK2 := Lib.hid hkk
          clear hkk kt0 kt1
          go_wp2_with fail
          refine (zero_any w6 F S room s k2 H4.out HBS.out).mono ?_
          rintro e w7 ⟨rfl, hb7⟩
          have HB7 := Lib.hid (HB4.out.trans (hb7.mono HB4.out.size))
          clear hb7
          by_cases hz2 : s.bl.getD k2 [] = zero32
          · rw [decide_eq_true hz2]
            have HZ2 := Lib.hid ((getD_some HBS.out).1 hz2)
            clear hz2
            go_wp2_with fail
            go_roundw
            case rel =>
              refine ⟨j + 1, hjr, by go_num, HB7.out, fun i hi => ?_⟩
              by_cases e : i = j
              · rw [e, HKK.out, HK2.out]; exact ⟨HZ.out, fun _ => HZ2.out⟩
              · exact HCL.out i (by omega)
            case measure => simp [intOf]; omega
          · rw [decide_eq_false hz2]
            have HZ2 := Lib.hid hz2
            clear hz2
            go_wp2_with fail
            go_ret
            refine ⟨⟨_, rfl, ⟨fun e => (by cases e), fun hP => absurd ((getD_some HBS.out).2 ?_) HZ2.out⟩⟩, HB1.out.trans (HB7.out.mono HB1.out.size)⟩
            rw [← HK2.out]
            exact (hP j hjr).2 hT
        · have hT' : ¬ ((takesOf kept.length : Nat) : Int) ≤ (j : Int) := by omega
          go_wp2_with (go_at_call 38; refine (takes_any kept.length w4 (by have := HOK.out.small; omega)).mono ?_; rintro e w5 ⟨rfl, rfl⟩)
          go_roundw
          case rel =>
            refine ⟨j + 1, hjr, by go_num, HB4.out, fun i hi => ?_⟩
            by_cases e : i = j
            · rw [e, HKK.out]; exact ⟨HZ.out, fun h9 => absurd h9 hT⟩
            · exact HCL.out i (by omega)
          case measure => simp [intOf]; omega
      · rw [decide_eq_false hz]
        have HZ := Lib.hid hz
        clear hz
        go_wp2_with fail
        go_ret
        refine ⟨⟨_, rfl, ⟨fun e => (by cases e), fun hP => absurd ((getD_some HBO.out).2 ?_) HZ.out⟩⟩, HB1.out.trans (HB4.out.mono HB1.out.size)⟩
        rw [← HKK.out, HO.out]
        exact (hP j hjr).1
    · obtain rfl : j = room := by omega
      go_wp2_with fail
      go_ret
      refine ⟨⟨_, rfl, ⟨fun _ => ?_, fun _ => rfl⟩⟩, HB1.out.trans (hb.mono HB1.out.size)⟩
      unfold CleanP
      rw [← HO.out]
      exact hcl
end Go.Proofs.Ytpdihggdopdolaa
