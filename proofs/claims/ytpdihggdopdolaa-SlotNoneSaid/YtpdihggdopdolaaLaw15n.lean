/- The walk of layer 15's law SlotNone. No conditions. -/
import Derived.Test.YtpdihggdopdolaaLaw15
namespace Go.Proofs.Ytpdihggdopdolaa
open Go.RowKit
theorem nStart (w : World) : Calls Try.prog 29 #[.pointer none] w fun e w' => e = .returned (.tuple #[]) ∧ w' = w := by
  go_enter Try.func29, Try.ntmps29
  go_wp2_with fail
  refine bodyPost_ret (results_none rfl _ _ _) rfl ?_
  exact ⟨rfl, rfl⟩
theorem nFuse (w : World) (n : Int) : Calls Try.prog 28 #[.pointer none, .int .i64 n] w fun e w' => e = .returned (.tuple #[]) ∧ w' = w := by
  go_enter Try.func28, Try.ntmps28
  go_wp2_with fail
  go_end0
  exact ⟨rfl, rfl⟩
theorem nLoad (w : World) : Calls Try.prog 27 #[.pointer none] w fun e w' => e = .returned (.slice none 0 0) ∧ w' = w := by
  go_enter Try.func27, Try.ntmps27
  go_wp2_with fail
  go_ret
  exact ⟨rfl, rfl⟩
theorem nDown (w : World) : Calls Try.prog 31 #[.pointer none] w fun e w' => e = .returned (.bool false) ∧ w' = w := by
  go_enter Try.func31, Try.ntmps31
  go_wp2_with fail
  go_ret
  exact ⟨rfl, rfl⟩
theorem nClean (w : World) : Calls Try.prog 30 #[.pointer none] w fun e w' => e = .returned (.bool false) ∧ w' = w := by
  go_enter Try.func30, Try.ntmps30
  go_wp2_with fail
  go_ret
  exact ⟨rfl, rfl⟩
theorem nTurn (w : World) (n y : Int) : Calls Try.prog 35 #[.pointer none, .int .i64 n, .int .u8 y] w fun e w' => e = .returned (.bool false) ∧ w' = w := by
  go_enter Try.func35, Try.ntmps35
  go_wp2_with fail
  go_ret
  exact ⟨rfl, rfl⟩
theorem nDisk (w : World) : Calls Try.prog 34 #[.pointer none] w fun e w' => e = .returned (.pointer none) ∧ w' = w := by
  go_enter Try.func34, Try.ntmps34
  go_wp2_with fail
  go_ret
  exact ⟨rfl, rfl⟩
set_option maxRecDepth 100000 in
theorem nSave (w : World) (A : Option Addr) (n c : Nat) : Calls Try.prog 25 #[.pointer none, .slice A n c] w fun e w' => e = .returned (.int .i64 1) ∧ Below w.heap.size w w' := by
  obtain ⟨W2, hW2⟩ : ∃ W2, W2 = (w.alloc (.cells #[.pointer none] 46)).alloc (.cells #[.int .i64 0] 24) := ⟨_, rfl⟩
  have hb : Below w.heap.size w W2 := by rw [hW2]; exact ((Below.refl _ w).alloc (Nat.le_refl _) _).alloc (by simp) _
  have hc2 : W2.cell? ⟨w.heap.size, 0, none⟩ = some (.pointer none) := by
    rw [hW2]; exact ((Blk.new w 46 #[.pointer none]).alloc _).cell 0
  have hB4 : Blk W2 (w.heap.size + 1) 24 #[.int .i64 0] := by rw [hW2]; exact Blk.new' (by simp)
  have HB := Lib.hid hb; have HB4 := Lib.hid hB4; have HW2 := Lib.hid hW2
  have k4 : W2.cell? ⟨w.heap.size + 1, 0, none⟩ = some (.int .i64 0) := hB4.cell 0
  have f4 : W2.frozen? ⟨w.heap.size + 1, 0, none⟩ = false := hB4.frozen 0
  clear hb hB4 hW2
  go_enter Try.func25, Try.ntmps25
  go_upto_region 1 with fail
  rw [← HW2.out]
  go_wp2_with fail
  refine bodyPost_ret (v := .int .i64 1) (results_cell_one rfl _ _ (w.heap.size + 1) _ rfl ((HB4.out.set_ 0 (.int .i64 1)).cell 0) (by kernel_rfl)) rfl ⟨rfl, ?_⟩
  exact HB.out.setCell (p := ⟨w.heap.size + 1, 0, none⟩) (Nat.le_succ _) _
set_option maxRecDepth 100000 in
theorem SlotNone_any (A : Option Addr) (len c : Nat) (n : Int) (w : World) (l : List UInt8) (_hle : len ≤ 140737488351232) (_h1 : -9223372036854775808 ≤ n) (_h2 : n ≤ 9223372036854775807) (_hr : Rd w w.heap.size A len l) :
    Calls Try.prog 11 #[.slice A len c, .int .i64 n] w fun e w' => e = .returned (.bool true) ∧ Below w.heap.size w w' := by
  clear _hr _hle _h1 _h2
  go_enter Try.func11, Try.ntmps11
  go_wp2_with (first
    | (go_at_call 29; refine (nStart w).mono ?_; rintro e w1 ⟨rfl, rfl⟩)
    | (go_at_call 28; refine (nFuse _ n).mono ?_; rintro e w1 ⟨rfl, rfl⟩))
  refine (answers15_any _).mono ?_
  rintro e w2 ⟨rfl, hb2⟩
  have HB2 := Lib.hid hb2
  clear hb2
  go_wp2_with fail
  refine (nSave w2 A len c).mono ?_
  rintro e w3 ⟨rfl, hb3⟩
  have HB3 := Lib.hid (HB2.out.trans (hb3.mono HB2.out.size))
  clear hb3
  go_wp2_with (first
    | (go_at_call 27; refine (nLoad _).mono ?_; rintro e w4 ⟨rfl, rfl⟩)
    | (go_at_call 31; refine (nDown _).mono ?_; rintro e w4 ⟨rfl, rfl⟩)
    | (go_at_call 30; refine (nClean _).mono ?_; rintro e w4 ⟨rfl, rfl⟩)
    | (go_at_call 35; refine (nTurn _ n 1).mono ?_; rintro e w4 ⟨rfl, rfl⟩)
    | (go_at_call 34; refine (nDisk _).mono ?_; rintro e w4 ⟨rfl, rfl⟩))
  go_ret
  exact ⟨rfl, HB3.out⟩
end Go.Proofs.Ytpdihggdopdolaa
