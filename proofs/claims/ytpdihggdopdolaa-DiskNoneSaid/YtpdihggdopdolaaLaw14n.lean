/- The walk of layer 14's law DiskNone. No conditions. -/
import Derived.Test.YtpdihggdopdolaaLaw14
namespace Go.Proofs.Ytpdihggdopdolaa
open Go.RowKit
theorem there_none (w : World) (n : Int) : Calls Try.prog 36 #[.pointer none, .int .i64 n] w fun e w' => e = .returned (.bool false) ∧ w' = w := by
  go_enter Try.func36, Try.ntmps36
  go_wp2
  go_ret
  exact ⟨rfl, rfl⟩
theorem Fuse_none (w : World) (n : Int) : Calls Try.prog 16 #[.pointer none, .int .i64 n] w fun e w' => e = .returned (.tuple #[]) ∧ w' = w := by
  go_enter Try.func16, Try.ntmps16
  go_wp2
  go_end0
  exact ⟨rfl, rfl⟩
theorem On_none (w : World) : Calls Try.prog 23 #[.pointer none] w fun e w' => e = .returned (.tuple #[]) ∧ w' = w := by
  go_enter Try.func23, Try.ntmps23
  go_wp2
  go_end0
  exact ⟨rfl, rfl⟩
theorem Read_none (w : World) (n : Int) : Calls Try.prog 15 #[.pointer none, .int .i64 n] w fun e w' => e = .returned (.tuple #[.slice none 0 0, .bool false]) ∧ w' = w := by
  go_enter Try.func15, Try.ntmps15
  go_wp2_with (go_at_call 36; refine (there_none w n).mono ?_; rintro e w1 ⟨rfl, rfl⟩)
  go_ret2
  exact ⟨rfl, rfl⟩
theorem Len_none (w : World) : Calls Try.prog 20 #[.pointer none] w fun e w' => e = .returned (.int .i64 0) ∧ w' = w := by
  go_enter Try.func20, Try.ntmps20
  go_wp2
  go_ret
  exact ⟨rfl, rfl⟩
theorem Down_none (w : World) : Calls Try.prog 17 #[.pointer none] w fun e w' => e = .returned (.bool false) ∧ w' = w := by
  go_enter Try.func17, Try.ntmps17
  go_wp2
  go_ret
  exact ⟨rfl, rfl⟩
theorem Writes_none (w : World) : Calls Try.prog 18 #[.pointer none] w fun e w' => e = .returned (.int .i64 0) ∧ w' = w := by
  go_enter Try.func18, Try.ntmps18
  go_wp2
  go_ret
  exact ⟨rfl, rfl⟩
theorem Write_none (w : World) (n : Int) (A : Option Addr) (m c : Nat) : Calls Try.prog 14 #[.pointer none, .int .i64 n, .slice A m c] w fun e w' => e = .returned (.int .i64 1) ∧ w' = w := by
  go_enter Try.func14, Try.ntmps14
  go_wp2_with (go_at_call 36; refine (there_none w n).mono ?_; rintro e w1 ⟨rfl, rfl⟩)
  go_ret
  exact ⟨rfl, rfl⟩
theorem Turn_none (w : World) (n k by_ : Int) : Calls Try.prog 22 #[.pointer none, .int .i64 n, .int .i64 k, .int .u8 by_] w fun e w' => e = .returned (.bool false) ∧ w' = w := by
  go_enter Try.func22, Try.ntmps22
  go_wp2_with (go_at_call 36; refine (there_none w n).mono ?_; rintro e w1 ⟨rfl, rfl⟩)
  go_ret
  exact ⟨rfl, rfl⟩
set_option maxRecDepth 100000 in
theorem DiskNone_any (n : Int) (A : Option Addr) (m c : Nat) (w : World) (l : List UInt8) (_h0 : -9223372036854775808 ≤ n) (_h1 : n ≤ 9223372036854775807) (_hm : m ≤ 140737488351232) (_hr : Rd w w.heap.size A m l) :
    Calls Try.prog 6 #[.int .i64 n, .slice A m c] w fun e w' => e = .returned (.bool true) ∧ Below w.heap.size w w' := by
  go_enter Try.func6, Try.ntmps6
  go_wp2_with fail
  refine (Fuse_none w n).mono ?_
  rintro e w1 ⟨rfl, rfl⟩
  go_wp2_with fail
  refine (On_none _).mono ?_
  rintro e w2 ⟨rfl, rfl⟩
  go_wp2_with fail
  refine (Read_none _ n).mono ?_
  rintro e w3 ⟨rfl, rfl⟩
  go_wp2_with fail
  refine (answers14_any _).mono ?_
  rintro e w4 ⟨rfl, hb⟩
  go_wp2_with (first
    | (go_at_call 20; refine (Len_none _).mono ?_; rintro e w5 ⟨rfl, rfl⟩)
    | (go_at_call 14; refine (Write_none _ n A m c).mono ?_; rintro e w6 ⟨rfl, rfl⟩)
    | (go_at_call 22; refine (Turn_none _ n n 1).mono ?_; rintro e w7 ⟨rfl, rfl⟩)
    | (go_at_call 17; refine (Down_none _).mono ?_; rintro e w8 ⟨rfl, rfl⟩)
    | (go_at_call 18; refine (Writes_none _).mono ?_; rintro e w9 ⟨rfl, rfl⟩)
    | fail)
  go_ret
  exact ⟨rfl, hb⟩
end Go.Proofs.Ytpdihggdopdolaa
