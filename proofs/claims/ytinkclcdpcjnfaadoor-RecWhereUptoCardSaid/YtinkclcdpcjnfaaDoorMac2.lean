/- The walk of slices.Concat at two slices of bytes. Condition: both together are what memory bears. -/
import Derived.Test.YtinkclcdpcjnfaaDoorMac1
namespace Go.Proofs.YtinkclcdpcjnfaaDoor
open Go.RowKit
set_option maxRecDepth 100000 in
theorem Concat_any (gs : Nat) (A1 A2 : Option Addr) (n1 c1 n2 c2 : Nat) (l1 l2 : List UInt8) (w : World) (hn1 : n1 ≤ 64) (hn2 : n2 ≤ 140737488351232) (hs : Blk w gs 27 #[.slice A1 n1 c1, .slice A2 n2 c2]) (hr1 : Rd w w.heap.size A1 n1 l1) (hr2 : Rd w w.heap.size A2 n2 l2) :
    Calls Tryd.prog 47 #[.slice (some ⟨gs, 0, none⟩) 2 2] w fun e w' => ∃ v, e = .returned v ∧ Own w' w.heap.size v (l1 ++ l2) ∧ Below w.heap.size w w' := by
  have hgs := hs.lt
  have HL1 := Lib.hid hr1.len
  have HL2 := Lib.hid hr2.len
  have k0 : w.cell? ⟨gs, 0, none⟩ = some (.slice A1 n1 c1) := hs.cell 0
  have k1 : w.cell? ⟨gs, 1, none⟩ = some (.slice A2 n2 c2) := hs.cell 1
  have HS := Lib.hid hs; have HR1 := Lib.hid hr1; have HR2 := Lib.hid hr2
  clear hs hr1 hr2
  have hw1 : wrap64 ((n1 : Int) + (n2 : Int)) = (n1 : Int) + (n2 : Int) := by unfold wrap64; omega
  go_enter Tryd.func47, Tryd.ntmps47
  go_wp2
  go_loopw [3, 11] (fun s q wr => wr = w ∧ ((q = .int .i64 0 ∧ s = .int .i64 0) ∨ (q = .int .i64 1 ∧ s = .int .i64 n1) ∨ (q = .int .i64 2 ∧ s = .int .i64 ((n1 + n2 : Nat) : Int)))) (fun _ q _ => 2 - (intOf q).toNat)
  case atStart => exact ⟨rfl, .inl ⟨rfl, rfl⟩⟩
  case round =>
    obtain ⟨rfl, h⟩ := hrel
    rcases h with ⟨rfl, rfl⟩ | ⟨rfl, rfl⟩ | ⟨rfl, rfl⟩
    · go_wp2
      go_roundw
      case rel => exact ⟨trivial, .inr (.inl ⟨rfl, by go_num⟩)⟩
      case measure => simp [intOf]
    · go_wp2
      go_roundw
      case rel => exact ⟨trivial, .inr (.inr ⟨rfl, by go_num⟩)⟩
      case measure => simp [intOf]
    · obtain ⟨wo, rfl⟩ : ∃ wo : World, wo = wr := ⟨_, rfl⟩
      go_wp2_with fail
      refine (Grow_any (n1 + n2) wo (by omega)).mono ?_
      rintro e w1 ⟨v1, rfl, hown1, hb1⟩
      have k0' : w1.cell? ⟨gs, 0, none⟩ = some (.slice A1 n1 c1) := (hb1.cell hgs).trans k0
      go_wp2_with fail
      clear k0'
      go_loopw [6, 27] (fun v q wr => Below wo.heap.size wo wr ∧ ((q = .int .i64 0 ∧ Own wr wo.heap.size v []) ∨ (q = .int .i64 1 ∧ Own wr wo.heap.size v l1) ∨ (q = .int .i64 2 ∧ Own wr wo.heap.size v (l1 ++ l2)))) (fun _ q _ => 2 - (intOf q).toNat)
      case atStart => exact ⟨hb1, .inl ⟨rfl, hown1⟩⟩
      case round =>
        obtain ⟨hb, h⟩ := hrel
        have k0' : wr.cell? ⟨gs, 0, none⟩ = some (.slice A1 n1 c1) := (hb.cell hgs).trans k0
        have k1' : wr.cell? ⟨gs, 1, none⟩ = some (.slice A2 n2 c2) := (hb.cell hgs).trans k1
        rcases h with ⟨rfl, hown⟩ | ⟨rfl, hown⟩ | ⟨rfl, hown⟩
        · go_wp2_with (at_builtin; refine app_bytes rfl (.tmp 31) (.tmp 32) rfl wo.heap.size u6 [] rfl hown wo.heap.size A1 n1 c1 l1 rfl (HR1.out.below hb) (by simp only [List.length_nil]; omega) hb.size ?_; intro v' w' hown' hg' _)
          have hb' := below_app hb hown hb.size hg'
          clear hg'
          go_roundw
          case rel => exact ⟨hb', .inr (.inl ⟨by go_num, hown'⟩)⟩
          case measure => simp [intOf]
        · go_wp2_with (at_builtin; refine app_bytes rfl (.tmp 31) (.tmp 32) rfl wo.heap.size u6 l1 rfl hown wo.heap.size A2 n2 c2 l2 rfl (HR2.out.below hb) (by have := HL1.out; omega) hb.size ?_; intro v' w' hown' hg' _)
          have hb' := below_app hb hown hb.size hg'
          clear hg'
          go_roundw
          case rel => exact ⟨hb', .inr (.inr ⟨by go_num, hown'⟩)⟩
          case measure => simp [intOf]
        · go_wp2
          go_ret
          exact ⟨_, rfl, hown, hb⟩
end Go.Proofs.YtinkclcdpcjnfaaDoor
