/- The reference's Do, layer 15: Start, Fuse, Turn, and nothing. Conditions: the sizes. -/
import Derived.Test.YtpdihggdopdolaaLaw15w
namespace Go.Proofs.Ytpdihggdopdolaa
open Go.RowKit
abbrev opCells (k N : Int) (y : Value) (A : Option Addr) (n c : Nat) : Array Value := #[.int .i64 k, .int .i64 N, y, .slice A n c]
section
variable (w : World) (R room : Nat) (p : PW) (dirty : Bool) (v : Value) (A : Option Addr) (n c : Nat) (N : Int) (x : UInt8)
set_option maxRecDepth 100000 in
theorem RefStart_any (h : Blk w R 58 (RCells room p dirty v)) :
    Calls Try.prog 33 #[.pointer (some ⟨R, 0, none⟩), .agg (opCells 2 N (.int .u8 x.toNat) A n c)] w fun e w' => e = .returned (.int .i64 0) ∧
      Blk w' R 58 (RCells room ⟨-1, false, p.writes⟩ false v) ∧ Keeps (fun k => k = R) w w' := by
  obtain ⟨W1, hW1⟩ : ∃ W1, W1 = w.alloc (.cells (opCells 2 N (.int .u8 x.toNat) A n c) 55) := ⟨_, rfl⟩
  have hb1 : Below w.heap.size w W1 := by rw [hW1]; exact (Below.refl _ _).alloc (Nat.le_refl _) _
  have hX : Blk W1 w.heap.size 55 (opCells 2 N (.int .u8 x.toNat) A n c) := by rw [hW1]; exact Blk.new _ _ _
  have hR := h.below hb1 h.lt
  have k0 : W1.cell? ⟨w.heap.size, 0, none⟩ = some (.int .i64 2) := (hX.cell 0).trans rfl
  have k1 : W1.cell? ⟨R, 1, none⟩ = some (.int .i64 p.left) := (hR.cell 1).trans rfl
  have k3 : W1.cell? ⟨R, 3, none⟩ = some (.bool p.gone) := (hR.cell 3).trans rfl
  have k4 : W1.cell? ⟨R, 4, none⟩ = some (.bool dirty) := (hR.cell 4).trans rfl
  have f1 := hR.frozen 1; have f3 := hR.frozen 3; have f4 := hR.frozen 4
  have HB1 := Lib.hid hb1; have HR := Lib.hid hR; have HW1 := Lib.hid hW1
  clear h hb1 hX hR hW1
  go_enter Try.func33, Try.ntmps33
  go_upto_region 1 with fail
  rw [← HW1.out]
  go_wp2_with fail
  go_ret
  exact ⟨rfl, ((HR.out.set_ 1 (.int .i64 (-1))).set_ 3 (.bool false)).set_ 4 (.bool false), (Keeps.of_below HB1.out).trans ((((Keeps.refl (fun k => k = R) W1).setCell (p := ⟨R, 1, none⟩) rfl _).setCell (p := ⟨R, 3, none⟩) rfl _).setCell (p := ⟨R, 4, none⟩) rfl _) (fun _ _ e => e)⟩
set_option maxRecDepth 100000 in
theorem RefFuse_any (h : Blk w R 58 (RCells room p dirty v)) :
    Calls Try.prog 33 #[.pointer (some ⟨R, 0, none⟩), .agg (opCells 3 N (.int .u8 x.toNat) A n c)] w fun e w' => e = .returned (.int .i64 0) ∧
      Blk w' R 58 (RCells room ⟨max N 0, p.gone, p.writes⟩ dirty v) ∧ Keeps (fun k => k = R) w w' := by
  obtain ⟨W1, hW1⟩ : ∃ W1, W1 = w.alloc (.cells (opCells 3 N (.int .u8 x.toNat) A n c) 55) := ⟨_, rfl⟩
  have hb1 : Below w.heap.size w W1 := by rw [hW1]; exact (Below.refl _ _).alloc (Nat.le_refl _) _
  have hX : Blk W1 w.heap.size 55 (opCells 3 N (.int .u8 x.toNat) A n c) := by rw [hW1]; exact Blk.new _ _ _
  have hR := h.below hb1 h.lt
  have hne : w.heap.size ≠ R := by have := h.lt; omega
  have k0 : W1.cell? ⟨w.heap.size, 0, none⟩ = some (.int .i64 3) := (hX.cell 0).trans rfl
  have kn : W1.cell? ⟨w.heap.size, 1, none⟩ = some (.int .i64 N) := (hX.cell 1).trans rfl
  have k1 : W1.cell? ⟨R, 1, none⟩ = some (.int .i64 p.left) := (hR.cell 1).trans rfl
  have f1 := hR.frozen 1
  have kn2 : (W1.setCell ⟨R, 1, none⟩ (.int .i64 N)).cell? ⟨w.heap.size, 1, none⟩ = some (.int .i64 N) := ((hX.far (p := ⟨R, 1, none⟩) hne _).cell 1).trans rfl
  have k12 : (W1.setCell ⟨R, 1, none⟩ (.int .i64 N)).cell? ⟨R, 1, none⟩ = some (.int .i64 N) := ((hR.set_ 1 (.int .i64 N)).cell 1).trans rfl
  have f12 := (hR.set_ 1 (.int .i64 N)).frozen 1
  have HB1 := Lib.hid hb1; have HR := Lib.hid hR; have HW1 := Lib.hid hW1
  clear h hb1 hX hR hW1 hne
  by_cases hN : N < 0
  · have hm : max N 0 = 0 := by omega
    rw [hm]
    clear hm
    go_enter Try.func33, Try.ntmps33
    go_upto_region 1 with fail
    rw [← HW1.out]
    go_wp2_with fail
    go_ret
    exact ⟨rfl, (HR.out.set_ 1 (.int .i64 N)).set_ 1 (.int .i64 0), (Keeps.of_below HB1.out).trans (((Keeps.refl (fun k => k = R) W1).setCell (p := ⟨R, 1, none⟩) rfl _).setCell (p := ⟨R, 1, none⟩) rfl _) (fun _ _ e => e)⟩
  · have hm : max N 0 = N := by omega
    rw [hm]
    clear hm
    go_enter Try.func33, Try.ntmps33
    go_upto_region 1 with fail
    rw [← HW1.out]
    go_wp2_with fail
    go_ret
    exact ⟨rfl, HR.out.set_ 1 (.int .i64 N), (Keeps.of_below HB1.out).trans ((Keeps.refl (fun k => k = R) W1).setCell (p := ⟨R, 1, none⟩) rfl _) (fun _ _ e => e)⟩
set_option maxRecDepth 100000 in
theorem RefNone_any (k : Int) (h1 : k ≠ 1) (h2 : k ≠ 2) (h3 : k ≠ 3) (h4 : k ≠ 4) :
    Calls Try.prog 33 #[.pointer (some ⟨R, 0, none⟩), .agg (opCells k N (.int .u8 x.toNat) A n c)] w fun e w' => e = .returned (.int .i64 0) ∧ Below w.heap.size w w' := by
  obtain ⟨W1, hW1⟩ : ∃ W1, W1 = w.alloc (.cells (opCells k N (.int .u8 x.toNat) A n c) 55) := ⟨_, rfl⟩
  have hb1 : Below w.heap.size w W1 := by rw [hW1]; exact (Below.refl _ _).alloc (Nat.le_refl _) _
  have hX : Blk W1 w.heap.size 55 (opCells k N (.int .u8 x.toNat) A n c) := by rw [hW1]; exact Blk.new _ _ _
  have k0 : W1.cell? ⟨w.heap.size, 0, none⟩ = some (.int .i64 k) := (hX.cell 0).trans rfl
  have HB1 := Lib.hid hb1; have HW1 := Lib.hid hW1
  clear hb1 hX hW1
  go_enter Try.func33, Try.ntmps33
  go_upto_region 1 with fail
  rw [← HW1.out]
  go_wp2_with fail
  go_ret
  exact ⟨rfl, HB1.out⟩
set_option maxRecDepth 100000 in
theorem RefTurn_any (kept : List UInt8) (B : Nat) (h : Blk w R 58 (RCells room p dirty v)) (hv : Own w B v kept) (hvR : v.ownBlock ≠ some R) :
    Calls Try.prog 33 #[.pointer (some ⟨R, 0, none⟩), .agg (opCells 4 N (.int .u8 x.toNat) A n c)] w fun e w' => e = .returned (.int .i64 0) ∧
      Blk w' R 58 (RCells room p dirty v) ∧ Own w' B v (if 0 ≤ N ∧ N < (kept.length : Int) then turned kept N.toNat x else kept) ∧ Keeps (fun k => v.ownBlock = some k) w w' := by
  obtain ⟨W1, hW1⟩ : ∃ W1, W1 = w.alloc (.cells (opCells 4 N (.int .u8 x.toNat) A n c) 55) := ⟨_, rfl⟩
  have hb1 : Below w.heap.size w W1 := by rw [hW1]; exact (Below.refl _ _).alloc (Nat.le_refl _) _
  have hX : Blk W1 w.heap.size 55 (opCells 4 N (.int .u8 x.toNat) A n c) := by rw [hW1]; exact Blk.new _ _ _
  have hR := h.below hb1 h.lt
  have hV := hv.below hb1
  obtain ⟨vA, vc, rfl⟩ := hv.shape
  have k0 : W1.cell? ⟨w.heap.size, 0, none⟩ = some (.int .i64 4) := (hX.cell 0).trans rfl
  have kn : W1.cell? ⟨w.heap.size, 1, none⟩ = some (.int .i64 N) := (hX.cell 1).trans rfl
  have kx : W1.cell? ⟨w.heap.size, 2, none⟩ = some (.int .u8 (x.toNat : Int)) := (hX.cell 2).trans rfl
  have k5 : W1.cell? ⟨R, 5, none⟩ = some (.slice vA kept.length vc) := (hR.cell 5).trans rfl
  have HB1 := Lib.hid hb1; have HR := Lib.hid hR; have HV := Lib.hid hV; have HW1 := Lib.hid hW1; have HVR := Lib.hid hvR
  clear h hv hvR hb1 hX hR hV hW1
  by_cases hin : 0 ≤ N ∧ N < (kept.length : Int)
  · rw [if_pos hin]
    obtain ⟨j, rfl⟩ : ∃ j : Nat, N = j := ⟨N.toNat, by omega⟩
    have hj : j < kept.length := by omega
    have hj' : (j : Int) < (kept.length : Int) := by omega
    rw [Int.toNat_natCast]
    obtain ⟨g, c0, cur, e1, hg, hB, _, hcur⟩ := HV.out.blk (by omega)
    injection e1 with e1 _ e3
    subst e1 e3
    have hc : W1.cell? ⟨g, j, none⟩ = some (.int .u8 ((kept.getD j 0).toNat : Int)) := (hB.cell j).trans (hcur j hj)
    have hf : W1.frozen? ⟨g, j, none⟩ = false := hB.frozen j
    have hxor := bits_xor8 (kept.getD j 0) x
    have HJ := Lib.hid hj
    clear hin hB hcur hg hj
    go_enter Try.func33, Try.ntmps33
    go_upto_region 1 with fail
    rw [← HW1.out]
    go_wp2_with fail
    refine wp_region_q (by kernel_rfl) (by kernel_rfl) ?_
    repeat (first | go_big_quiet_skip | (go_big_quiet_want; go_big_quiet_op; first | go_big_quiet_on))
    refine wpQuiet_nil ?_
    go_wp2_with fail
    refine wp_region_qt 18 (by kernel_rfl) (by kernel_rfl) ?_
    simp only [List.take_succ_cons, List.take_zero, List.drop_succ_cons, List.drop_zero]
    repeat (first | go_big_quiet_skip | (go_big_quiet_want; go_big_quiet_op; first | go_big_quiet_on))
    refine wpQuiet_nil ?_
    go_wp2_with fail
    rw [← List.getD_eq_getElem?_getD, hxor]
    go_ret
    have hgR : R ≠ g := fun e => HVR.out (by rw [e]; rfl)
    refine ⟨rfl, ?_, ?_, (Keeps.of_below HB1.out).trans ((((Keeps.refl (fun k => (Value.slice (some ⟨g, 0, none⟩) kept.length vc).ownBlock = some k) W1).setCell (p := ⟨g, j, none⟩) rfl _).drew).drew) (fun _ _ e => e)⟩
    · exact HR.out.far (p := ⟨g, j, none⟩) hgR _
    · have h9 := HV.out.set8 j (kept.getD j 0 ^^^ x)
      unfold turned
      exact h9.drew.drew
  · rw [if_neg hin]
    by_cases hneg : N < 0
    · have h00 : (0 ≤ N) = False := by simp; omega
      have h01 : decide (0 ≤ N) = false := by simp; omega
      clear hin
      go_enter Try.func33, Try.ntmps33
      go_upto_region 1 with fail
      rw [← HW1.out]
      go_wp2_with fail
      refine wp_region_q (by kernel_rfl) (by kernel_rfl) ?_
      repeat (first | go_big_quiet_skip | (go_big_quiet_want; go_big_quiet_op; first | go_big_quiet_on))
      refine wpQuiet_nil ?_
      go_wp2_with fail
      go_ret
      exact ⟨rfl, HR.out.drew, HV.out.drew, (Keeps.of_below HB1.out).drew⟩
    · have hge : ¬ N < (kept.length : Int) := fun e => hin ⟨by omega, e⟩
      have hn0 : ¬ N < 0 := hneg
      clear hin hneg
      go_enter Try.func33, Try.ntmps33
      go_upto_region 1 with fail
      rw [← HW1.out]
      go_wp2_with fail
      refine wp_region_q (by kernel_rfl) (by kernel_rfl) ?_
      repeat (first | go_big_quiet_skip | (go_big_quiet_want; go_big_quiet_op; first | go_big_quiet_on))
      refine wpQuiet_nil ?_
      go_wp2_with fail
      go_ret
      exact ⟨rfl, HR.out.drew, HV.out.drew, (Keeps.of_below HB1.out).drew⟩
end
end Go.Proofs.Ytpdihggdopdolaa
