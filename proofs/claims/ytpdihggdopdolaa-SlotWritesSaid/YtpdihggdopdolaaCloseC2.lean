/- What a row hands a law of this seat, more: a slice of bytes with its room. No conditions. -/
import Derived.Test.YtpdihggdopdolaaCloseB
namespace Go.Proofs.Ytpdihggdopdolaa
open Go.ChangeShapes Go.WideShapes Go.ChangeAt Go.RowKit
theorem cellsB : Try.prog.cellsOf 4 = 1 := by kernel_rfl
/-- A slice of bytes that came in, read. -/
theorem bytes_of2 {H : Type} {enc : TypeId × Value → H} {W : World} {A : Option Addr} {n c : Nat} {d : DataW H} {p : List MemPlace} {ts : List TypeId} {ds : List (DataW H)} {j : Nat}
    (h0 : DataW.Trod enc Try.prog W 0 (fun _ => true) true 22 (.slice A n c) d p) (hsz : (DataW.weightsEach Try.prog ts ds).all (· ≤ reachBytes) = true) (ht : ts[j]? = some 22) (hd : ds[j]? = some d) :
    ∃ l : List UInt8, Rd W W.heap.size A n l ∧ n ≤ 140737488351232 ∧ n ≤ c ∧ c ≤ 9223372036854775807 := by
  obtain ⟨fuel, hf⟩ := h0
  rcases open_ints Try.underlying22 Try.underlying5 cells8 hf with ⟨hcs, _⟩ | ⟨a, len, cap, zs, hcs, _, hl, hm, hz, hx, hcell, hwz⟩
  · simp [Value.cells] at hcs
    obtain ⟨rfl, rfl, rfl⟩ := hcs
    exact ⟨[], Rd.nil_, by omega, by omega, by omega⟩
  · simp [Value.cells] at hcs
    obtain ⟨rfl, rfl, rfl⟩ := hcs
    simp only [Prod.mk.injEq] at hx
    obtain ⟨rfl, rfl⟩ := hx
    simp only [if_true] at hz
    have hreach := sized_slice hsz ht hd Try.underlying22
    rw [bytes8] at hreach
    simp only [lits, List.length_map, List.length_take, List.length_drop, reachBytes] at hreach
    refine ⟨(zs.take n).map fun z => UInt8.ofNat z.toNat, ⟨by simp; omega, fun hn => ⟨a, rfl, ?_, fun j u hu => ?_⟩⟩, by omega, hl, by simpa [maxLen] using hm⟩
    · have := World.block_lt_of_cell? W _ (hcell 0 (by omega))
      rwa [block_of_add] at this
    · rw [List.map_map, List.getElem?_map] at hu
      rcases hj : (zs.take n)[j]? with _ | z
      · rw [hj] at hu; cases hu
      · rw [hj] at hu
        have hjn : j < n := by have := (List.getElem?_eq_some_iff.1 hj).1; simp at this; omega
        rw [List.getElem?_take, if_pos hjn] at hj
        have hjz := (List.getElem?_eq_some_iff.1 hj).1
        have hz0 := hcell j hjz
        rw [List.getD_eq_getElem?_getD, hj] at hz0
        have hb := byte_of (hwz z (List.mem_of_getElem? hj))
        rw [hz0]
        simp only [Option.map_some, Function.comp, B8] at hu
        rw [← hu]
        simp only [Option.getD_some]
        rw [← hb]
end Go.Proofs.Ytpdihggdopdolaa
