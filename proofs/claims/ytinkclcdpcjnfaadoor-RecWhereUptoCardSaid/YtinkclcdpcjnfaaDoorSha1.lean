/- The walks of bits.RotateLeft32, sha.right, sha.spread. No conditions. -/
import Derived.Test.YtinkclcdpcjnfaaDoorProg
import Derived.Test.YtinkclcdpcjnfaaDoorShaSpec
import Derived.Laws.CopyOwn
namespace Go.Proofs.YtinkclcdpcjnfaaDoor
open Go.RowKit
theorem rot_s (n : Nat) (h0 : 0 < n) (h : n < 32) : bits .and .u64 (IntKind.u64.wrap (-(n : Int))) 31 = ((32 - n : Nat) : Int) := by
  have H : ∀ n : Nat, n < 32 → 0 < n → bits .and .u64 (IntKind.u64.wrap (-(n : Int))) 31 = ((32 - n : Nat) : Int) := by decide
  exact H n h h0
theorem rot_raw (x : UInt32) (n : Nat) (h0 : 0 < n) (h : n < 32) : bits .or .u32 (n32 x * 2 ^ (32 - n) % (4294967296 : Int)) (n32 x / 2 ^ n) = n32 (rotr x n) := by
  have e1 := u32_shl x (32 - n) (by omega)
  rw [wrap_u32] at e1
  rw [e1, u32_shr x n h, u32_or]
  rfl
theorem RotateLeft32_any (x : UInt32) (k : Int) (n : Nat) (hk : k = -(n : Int)) (h0 : 0 < n) (h : n < 32) (w : World) :
    Calls Tryd.prog 59 #[.int .u32 (n32 x), .int .i64 k] w fun e w' => e = .returned (.int .u32 (n32 (rotr x n))) ∧ w' = w := by
  subst hk
  have hs := rot_s n h0 h
  have e3 : (32 : Int) - ((32 - n : Nat) : Int) = (n : Int) := by omega
  go_enter Tryd.func59, Tryd.ntmps59
  go_wp2
  go_ret
  exact ⟨congrArg (fun z => Ending.returned (.int .u32 z)) (rot_raw x n h0 h), rfl⟩
theorem right_any (x : UInt32) (k : Int) (n : Nat) (hk : k = (n : Int)) (h0 : 0 < n) (h : n < 32) (w : World) :
    Calls Tryd.prog 58 #[.int .u32 (n32 x), .int .i64 k] w fun e w' => e = .returned (.int .u32 (n32 (rotr x n))) ∧ w' = w := by
  subst hk
  go_enter Tryd.func58, Tryd.ntmps58
  go_wp2_with (go_at_call 59; refine (RotateLeft32_any x _ n rfl h0 h _).mono ?_; rintro e w' ⟨rfl, rfl⟩)
  go_ret
  exact ⟨rfl, rfl⟩
theorem right_17 (x : UInt32) (w : World) : Calls Tryd.prog 58 #[.int .u32 (n32 x), .int .i64 17] w fun e w' => e = .returned (.int .u32 (n32 (rotr x 17))) ∧ w' = w := right_any x 17 17 rfl (by omega) (by omega) w
theorem right_19 (x : UInt32) (w : World) : Calls Tryd.prog 58 #[.int .u32 (n32 x), .int .i64 19] w fun e w' => e = .returned (.int .u32 (n32 (rotr x 19))) ∧ w' = w := right_any x 19 19 rfl (by omega) (by omega) w
theorem right_7 (x : UInt32) (w : World) : Calls Tryd.prog 58 #[.int .u32 (n32 x), .int .i64 7] w fun e w' => e = .returned (.int .u32 (n32 (rotr x 7))) ∧ w' = w := right_any x 7 7 rfl (by omega) (by omega) w
theorem right_18 (x : UInt32) (w : World) : Calls Tryd.prog 58 #[.int .u32 (n32 x), .int .i64 18] w fun e w' => e = .returned (.int .u32 (n32 (rotr x 18))) ∧ w' = w := right_any x 18 18 rfl (by omega) (by omega) w
theorem right_6 (x : UInt32) (w : World) : Calls Tryd.prog 58 #[.int .u32 (n32 x), .int .i64 6] w fun e w' => e = .returned (.int .u32 (n32 (rotr x 6))) ∧ w' = w := right_any x 6 6 rfl (by omega) (by omega) w
theorem right_11 (x : UInt32) (w : World) : Calls Tryd.prog 58 #[.int .u32 (n32 x), .int .i64 11] w fun e w' => e = .returned (.int .u32 (n32 (rotr x 11))) ∧ w' = w := right_any x 11 11 rfl (by omega) (by omega) w
theorem right_25 (x : UInt32) (w : World) : Calls Tryd.prog 58 #[.int .u32 (n32 x), .int .i64 25] w fun e w' => e = .returned (.int .u32 (n32 (rotr x 25))) ∧ w' = w := right_any x 25 25 rfl (by omega) (by omega) w
theorem right_2 (x : UInt32) (w : World) : Calls Tryd.prog 58 #[.int .u32 (n32 x), .int .i64 2] w fun e w' => e = .returned (.int .u32 (n32 (rotr x 2))) ∧ w' = w := right_any x 2 2 rfl (by omega) (by omega) w
theorem right_13 (x : UInt32) (w : World) : Calls Tryd.prog 58 #[.int .u32 (n32 x), .int .i64 13] w fun e w' => e = .returned (.int .u32 (n32 (rotr x 13))) ∧ w' = w := right_any x 13 13 rfl (by omega) (by omega) w
theorem right_22 (x : UInt32) (w : World) : Calls Tryd.prog 58 #[.int .u32 (n32 x), .int .i64 22] w fun e w' => e = .returned (.int .u32 (n32 (rotr x 22))) ∧ w' = w := right_any x 22 22 rfl (by omega) (by omega) w
set_option maxRecDepth 100000 in
theorem spread_any (g off cap : Nat) (w : World) (l : List UInt8) (hc : ∀ j, j < 64 → w.cell? ⟨g, off + j, none⟩ = some (.int .u8 (l.getD j 0).toNat)) :
    Calls Tryd.prog 57 #[.slice (some ⟨g, off, none⟩) 64 cap] w fun e w' => e = .returned (.agg (arr l 64)) ∧ Below w.heap.size w w' := by
  go_enter Tryd.func57, Tryd.ntmps57
  go_wp2
  go_loopw [7, 4, 5, 6] (fun i _ _ _ wr => ∃ t : Nat, t ≤ 64 ∧ i = .int .i64 t ∧ Below w.heap.size w wr ∧ Blk wr (w.heap.size + 1) 102 (arr l t) ∧ Blk wr w.heap.size 102 zer) (fun i _ _ _ _ => 64 - (intOf i).toNat)
  case atStart => exact ⟨0, by omega, rfl, ((Below.refl _ _).alloc (Nat.le_refl _) _).alloc (by simp) _, by rw [arr_zero]; exact Blk.new' (by simp), (Blk.new _ _ _).alloc _⟩
  case round =>
    obtain ⟨t, ht, rfl, hb, h1, h0⟩ := hrel
    have hgB : g < w.heap.size := World.block_lt_of_cell? w ⟨g, off + 0, none⟩ (hc 0 (by omega))
    by_cases h64 : t < 64
    · have f1 : wr.frozen? ⟨w.heap.size + 1, t, none⟩ = false := h1.frozen t
      have c1 : wr.cell? ⟨w.heap.size + 1, t, none⟩ = some (.int .u32 0) := (h1.cell t).trans (arr_here l t h64)
      by_cases h16 : t < 16
      · have e0 : wr.cell? ⟨g, off + 4 * t, none⟩ = some (.int .u8 ((l.getD (4 * t) 0).toNat)) := (hb.cell hgB).trans (hc _ (by omega))
        have e1 : wr.cell? ⟨g, off + (4 * t + 1), none⟩ = some (.int .u8 ((l.getD (4 * t + 1) 0).toNat)) := (hb.cell hgB).trans (hc _ (by omega))
        have e2 : wr.cell? ⟨g, off + (4 * t + 2), none⟩ = some (.int .u8 ((l.getD (4 * t + 2) 0).toNat)) := (hb.cell hgB).trans (hc _ (by omega))
        have e3 : wr.cell? ⟨g, off + (4 * t + 3), none⟩ = some (.int .u8 ((l.getD (4 * t + 3) 0).toNat)) := (hb.cell hgB).trans (hc _ (by omega))
        have hw : wordAt l t = word4 (l.getD (4 * t) 0) (l.getD (4 * t + 1) 0) (l.getD (4 * t + 2) 0) (l.getD (4 * t + 3) 0) := rfl
        generalize l.getD (4 * t) 0 = b0 at e0 hw
        generalize l.getD (4 * t + 1) 0 = b1 at e1 hw
        generalize l.getD (4 * t + 2) 0 = b2 at e2 hw
        generalize l.getD (4 * t + 3) 0 = b3 at e3 hw
        have HW := Lib.hid hw; clear hw hc
        go_wp2
        refine wp_region_qt 35 (by kernel_rfl) (by kernel_rfl) ?_
        simp only [List.take_succ_cons, List.take_zero, List.drop_succ_cons, List.drop_zero]
        repeat (first | go_big_quiet_skip | (go_big_quiet_want; go_big_quiet_op; first | go_big_quiet_on))
        refine wpQuiet_nil ?_
        go_wp2
        go_roundw
        case rel =>
          refine ⟨t + 1, by omega, by go_num, (hb.setCell (by simp) _).drew, ?_, (h0.far (by simp) _).drew⟩
          rw [word_raw]
          have h2 := (h1.set_ t (.int .u32 (n32 (wordAt l t)))).drew
          rw [arr_step l t h64 _ (by rw [if_pos h16])] at h2
          rw [← HW.out]
          exact h2
        case measure => simp [intOf]; omega
      · have d2 : wr.cell? ⟨w.heap.size + 1, t - 2, none⟩ = some (.int .u32 (n32 ((spreadTo l t).getD (t - 2) 0))) := (h1.cell _).trans (arr_get l t _ (by omega))
        have d7 : wr.cell? ⟨w.heap.size + 1, t - 7, none⟩ = some (.int .u32 (n32 ((spreadTo l t).getD (t - 7) 0))) := (h1.cell _).trans (arr_get l t _ (by omega))
        have d15 : wr.cell? ⟨w.heap.size + 1, t - 15, none⟩ = some (.int .u32 (n32 ((spreadTo l t).getD (t - 15) 0))) := (h1.cell _).trans (arr_get l t _ (by omega))
        have d16 : wr.cell? ⟨w.heap.size + 1, t - 16, none⟩ = some (.int .u32 (n32 ((spreadTo l t).getD (t - 16) 0))) := (h1.cell _).trans (arr_get l t _ (by omega))
        have hw : nextW (spreadTo l t) t = nextOf ((spreadTo l t).getD (t - 2) 0) ((spreadTo l t).getD (t - 7) 0) ((spreadTo l t).getD (t - 15) 0) ((spreadTo l t).getD (t - 16) 0) := rfl
        generalize (spreadTo l t).getD (t - 2) 0 = x2 at d2 hw
        generalize (spreadTo l t).getD (t - 7) 0 = x7 at d7 hw
        generalize (spreadTo l t).getD (t - 15) 0 = x15 at d15 hw
        generalize (spreadTo l t).getD (t - 16) 0 = x16 at d16 hw
        have HW := Lib.hid hw; clear hw hc
        have m16 : ¬ (t : Int) < 16 := by omega
        go_wp2
        refine wp_region_q (by kernel_rfl) (by kernel_rfl) ?_
        repeat (first | go_big_quiet_skip | (go_big_quiet_want; go_big_quiet_op; first | go_big_quiet_on))
        refine wpQuiet_nil ?_
        go_wp2
        refine wp_region_qt 29 (by kernel_rfl) (by kernel_rfl) ?_
        simp only [List.take_succ_cons, List.take_zero, List.drop_succ_cons, List.drop_zero]
        repeat (first | go_big_quiet_skip | (go_big_quiet_want; go_big_quiet_op; first | go_big_quiet_on | (apply Exists.intro; refine ⟨?_, ?_⟩; (with_reducible first | exact right_17 _ _ | exact right_19 _ _ | exact right_7 _ _ | exact right_18 _ _); go_big_quiet_on)))
        refine wpQuiet_nil ?_
        go_wp2
        go_roundw
        case rel =>
          refine ⟨t + 1, by omega, by go_num, (hb.setCell (by simp) _).drew.drew, ?_, (h0.far (by simp) _).drew.drew⟩
          have h2 := (h1.set_ t (.int .u32 (n32 (nextW (spreadTo l t) t)))).drew.drew
          rw [arr_step l t h64 _ (by rw [if_neg h16])] at h2
          rw [HW.out] at h2
          exact h2
        case measure => simp [intOf]; omega
    · obtain rfl : t = 64 := by omega
      go_wp2_with (first | (refine wpList_load_row rfl 102 _ rfl (w.heap.size + 1) rfl 102 _ (0, 0) _ h1 Tryd.underlying102 rfl (by rw [arr_size l 64 (by omega)]; kernel_rfl) ?_) | (refine wpList_store_row rfl 102 _ _ rfl w.heap.size (arr l 64) rfl rfl 102 zer h0 (by rw [arr_size l 64 (by omega)]; kernel_rfl) (by rw [arr_size l 64 (by omega)]; kernel_rfl) (arr_one l 64) ?_))
      refine bodyPost_ret (v := .agg (arr l 64)) (results_cell_row rfl _ _ w.heap.size 102 (arr l 64) (0, 0) _ rfl (setRow_heap wr w.heap.size zer _ _ _ h0) Tryd.underlying102 rfl (by rw [arr_size l 64 (by omega)]; kernel_rfl)) rfl ⟨rfl, below_setRow hb (Nat.le_refl _) _⟩
theorem begin_any (w : World) : Calls Tryd.prog 51 #[] w fun e w' => e = .returned (.agg (st0.map W).toArray) ∧ Below w.heap.size w w' := by
  go_enter Tryd.func51, Tryd.ntmps51
  go_wp2
  refine bodyPost_ret (v := .agg (st0.map W).toArray) (results_cell_row rfl _ _ w.heap.size 94 _ (0, 0) _ rfl (heap_alloc_new w _) Tryd.underlying94 rfl (by kernel_rfl)) rfl ⟨rfl, (Below.refl _ _).alloc (Nat.le_refl _) _⟩
end Go.Proofs.YtinkclcdpcjnfaaDoor
