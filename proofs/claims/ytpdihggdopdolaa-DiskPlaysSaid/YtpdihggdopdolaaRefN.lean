/- The document's disk: its New. No conditions. -/
import Derived.Test.YtpdihggdopdolaaRefD
namespace Go.Proofs.Ytpdihggdopdolaa
open Go.RowKit
theorem flat_zero (m : Nat) : (List.replicate m zero32).flatten = List.replicate (32 * m) 0 := by
  induction m with
  | zero => rfl
  | succ m ih =>
    rw [List.replicate_succ, List.flatten_cons, ih]
    unfold zero32
    rw [List.replicate_append_replicate]
    congr 1
    omega
theorem ref_made (w : World) (m : Nat) (hm : m ≤ 2048) :
    RefAt ((w.alloc (.cells (madeCells #[.int .u8 0] (32 * m)) 5)).alloc (.cells #[.slice (some ⟨w.heap.size, 0, none⟩) (32 * m) (32 * m), .int .i64 (-1), .int .i64 0, .bool false] 38)) (w.heap.size + 1) w.heap.size { bl := List.replicate m zero32, fuse := -1, down := false, writes := 0 } := by
  have hE := Blk.new' (w := w.alloc (.cells (madeCells #[.int .u8 0] (32 * m)) 5)) (g := w.heap.size + 1) (t := 38) (cs := #[.slice (some ⟨w.heap.size, 0, none⟩) (32 * m) (32 * m), .int .i64 (-1), .int .i64 0, .bool false]) (by simp)
  have hG := (Blk.new w 5 (madeCells #[.int .u8 0] (32 * m))).alloc (.cells #[.slice (some ⟨w.heap.size, 0, none⟩) (32 * m) (32 * m), .int .i64 (-1), .int .i64 0, .bool false] 38)
  refine ⟨by simpa using hE, ?_, ?_, by simpa using hm, by show (-1 : Int) ≤ _; omega, by show _ ≤ (-1 : Int); omega⟩
  · have e : madeCells #[.int .u8 0] (32 * m) = ((List.replicate m zero32).flatten.map B8).toArray := by
      apply Array.toList_inj.1
      rw [toList_madeCells_one, flat_zero, List.map_replicate]
      rfl
    rw [← e]
    exact hG
  · intro l hl
    rw [(List.mem_replicate.1 hl).2]
    simp [zero32]
set_option maxRecDepth 100000 in
theorem RefNew_any (w : World) (n : Int) :
    Calls Try.prog 19 #[.int .i64 n] w fun e w' => ∃ E G, e = .returned (.pointer (some ⟨E, 0, none⟩)) ∧ RefAt w' E G (DS.new n) ∧ w.heap.size ≤ E ∧ w.heap.size ≤ G ∧ Below w.heap.size w w' := by
  by_cases h0 : n < 0
  · have hnew : DS.new n = { bl := List.replicate 0 zero32, fuse := -1, down := false, writes := 0 } := by
      unfold DS.new
      rw [show (min (max n 0) 2048).toNat = 0 by omega]
    have hmk : ∀ W : World, Sem.run Try.prog (Instr.makeSlice 22 (.int .i64 0) (.int .i64 0)) W = .ok (.slice (some ⟨W.heap.size, 0, none⟩) 0 0) (W.alloc (.cells (madeCells #[.int .u8 0] 0) 5)) := fun W => run_make_bytes W 0 (by omega)
    have key := ref_made w 0 (by omega)
    rw [← hnew] at key
    have KEY := Lib.hid key
    clear key hnew
    go_enter Try.func19, Try.ntmps19
    go_wp2
    go_ret
    refine ⟨_, _, rfl, ?_, by omega, Nat.le_refl _, ((Below.refl _ _).alloc (Nat.le_refl _) _).alloc (by simp) _⟩
    simpa using KEY.out
  · by_cases h1 : n > 2048
    · have hnew : DS.new n = { bl := List.replicate 2048 zero32, fuse := -1, down := false, writes := 0 } := by
        unfold DS.new
        rw [show (min (max n 0) 2048).toNat = 2048 by omega]
      have hmk : ∀ W : World, Sem.run Try.prog (Instr.makeSlice 22 (.int .i64 65536) (.int .i64 65536)) W = .ok (.slice (some ⟨W.heap.size, 0, none⟩) 65536 65536) (W.alloc (.cells (madeCells #[.int .u8 0] 65536) 5)) := fun W => run_make_bytes W 65536 (by omega)
      have key := ref_made w 2048 (by omega)
      rw [← hnew] at key
      have KEY := Lib.hid key
      clear key hnew
      go_enter Try.func19, Try.ntmps19
      go_wp2
      go_ret
      first
        | exact ⟨_, rfl, _, KEY.out, by omega, Nat.le_refl _, ((Below.refl _ _).alloc (Nat.le_refl _) _).alloc (by simp) _⟩
        | exact ⟨_, _, rfl, KEY.out, by omega, Nat.le_refl _, ((Below.refl _ _).alloc (Nat.le_refl _) _).alloc (by simp) _⟩
    · obtain ⟨m, rfl⟩ : ∃ m : Nat, n = m := ⟨n.toNat, by omega⟩
      have hnew : DS.new m = { bl := List.replicate m zero32, fuse := -1, down := false, writes := 0 } := by
        unfold DS.new
        rw [show (min (max (m : Int) 0) 2048).toNat = m by omega]
      have hm2 : m ≤ 2048 := by omega
      have hmk := fun W => run_make_bytes W (32 * m) (by omega)
      have hcast : ((32 * m : Nat) : Int) = (m : Int) * 32 := by omega
      rw [hcast] at hmk
      have key := ref_made w m hm2
      rw [← hnew] at key
      have KEY := Lib.hid key
      have h0' : ((m : Int) < 0) = False := eq_false h0
      have h1' : ((m : Int) > 2048) = False := eq_false h1
      clear key hnew hcast h0 h1
      go_enter Try.func19, Try.ntmps19
      go_wp2
      go_ret
      first
        | exact ⟨_, rfl, _, KEY.out, by omega, Nat.le_refl _, ((Below.refl _ _).alloc (Nat.le_refl _) _).alloc (by simp) _⟩
        | exact ⟨_, _, rfl, KEY.out, by omega, Nat.le_refl _, ((Below.refl _ _).alloc (Nat.le_refl _) _).alloc (by simp) _⟩
end Go.Proofs.Ytpdihggdopdolaa
