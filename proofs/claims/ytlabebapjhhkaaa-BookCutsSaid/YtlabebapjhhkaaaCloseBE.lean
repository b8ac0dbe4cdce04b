/- What a row hands a law of this seat: a slice of bytes, a byte, an int. No conditions. -/
import Derived.Test.YtlabebapjhhkaaaM1
import Derived.Test.YtlabebapjhhkaaaRows
import Derived.WalkKit
import Derived.ProofKit
import Derived.OpenShut
import Derived.ChangeOld
import Derived.SizedLaws
import Derived.WalkArith
import Derived.DataShut
import Derived.LaidLaws
import Derived.Deep.DeepHandedRow
namespace Go.Proofs.Ytlabebapjhhkaaa
open Go.ChangeShapes Go.WideShapes Go.ChangeAt Go.RowKit
theorem own : ownKnob Try.prog.godebug = none := by kernel_rfl
theorem laidOut : laidOutB Try.prog = true := by kernel_rfl
theorem cells8 : Try.prog.cellsOf 5 = 1 := by kernel_rfl
theorem bytes8 : Try.prog.bytesOf 5 = 1 := by kernel_rfl
/-- A byte that fits is a byte. -/
theorem byte_of {z : Int} (h : (Lit.int .u8 z).wf = true) : z = ((UInt8.ofNat z.toNat).toNat : Int) := by
  rw [Lit.wf_int_iff] at h
  have h0 : 0 ≤ z := h.1
  have h1 : z ≤ 255 := h.2
  simp only [UInt8.toNat_ofNat']
  omega
/-- A slice of bytes that came in, read. -/
theorem bytes_of {H : Type} {enc : TypeId × Value → H} {W : World} {A : Option Addr} {n c : Nat} {d : DataW H} {p : List MemPlace} {ts : List TypeId} {ds : List (DataW H)} {j : Nat}
    (h0 : DataW.Trod enc Try.prog W 0 (fun _ => true) true 64 (.slice A n c) d p) (hsz : (DataW.weightsEach Try.prog ts ds).all (· ≤ reachBytes) = true) (ht : ts[j]? = some 64) (hd : ds[j]? = some d) :
    ∃ l : List UInt8, Rd W W.heap.size A n l ∧ n ≤ 140737488351232 := by
  obtain ⟨fuel, hf⟩ := h0
  rcases open_ints Try.underlying64 Try.underlying5 cells8 hf with ⟨hcs, _⟩ | ⟨a, len, cap, zs, hcs, _, hl, hm, hz, hx, hcell, hwz⟩
  · simp [Value.cells] at hcs
    obtain ⟨rfl, rfl, rfl⟩ := hcs
    exact ⟨[], Rd.nil_, by omega⟩
  · simp [Value.cells] at hcs
    obtain ⟨rfl, rfl, rfl⟩ := hcs
    simp only [Prod.mk.injEq] at hx
    obtain ⟨rfl, rfl⟩ := hx
    simp only [if_true] at hz
    have hreach := sized_slice hsz ht hd Try.underlying64
    rw [bytes8] at hreach
    simp only [lits, List.length_map, List.length_take, List.length_drop, reachBytes] at hreach
    refine ⟨(zs.take n).map fun z => UInt8.ofNat z.toNat, ⟨by simp; omega, fun hn => ⟨a, rfl, ?_, fun j u hu => ?_⟩⟩, by omega⟩
    · have := World.block_lt_of_cell? W _ (hcell 0 (by omega))
      rwa [block_of_add] at this
    · rw [List.map_map, List.getElem?_map] at hu
      rcases hj : (zs.take n)[j]? with _ | z
      · rw [hj] at hu; cases hu
      · rw [hj] at hu
        have hjn : j < n := by have := (List.getElem?_eq_some_iff.1 hj).1; simp at this; omega
        rw [List.getElem?_take, if_pos hjn] at hj
        have hjz := (List.getElem?_eq_some_iff.1 hj).1
        have hz0 := hcell j hjz
        rw [List.getD_eq_getElem?_getD, hj] at hz0
        have hb := byte_of (hwz z (List.mem_of_getElem? hj))
        rw [hz0]
        simp only [Option.map_some, Function.comp, B8] at hu
        rw [← hu]
        simp only [Option.getD_some]
        rw [← hb]
/-- A world for the witness: the settled one. -/
noncomputable def laidWorld (os : Os) : World := World.holding Try.prog os ⟨#[], #[], []⟩
/-- An int that fits. -/
theorem int_of {z : Int} (h : (Lit.int .i64 z).wf = true) : -9223372036854775808 ≤ z ∧ z ≤ 9223372036854775807 := by
  rw [Lit.wf_int_iff] at h
  have h0 : (-9223372036854775808 : Int) ≤ z := h.1
  have h1 : z ≤ 9223372036854775807 := h.2
  exact ⟨h0, h1⟩
end Go.Proofs.Ytlabebapjhhkaaa
