/- What a row hands a law of this seat: the table of the constants, a slice of bytes, a byte. No conditions. -/
import Derived.Test.YtinkclcdpcjnfaaDoorSha3
import Derived.Test.YtinkclcdpcjnfaaDoorCards
import Derived.Test.YtinkclcdpcjnfaaDoorTie
import Derived.WalkKit
import Derived.ProofKit
import Derived.OpenShut
import Derived.ChangeOld
import Derived.SizedLaws
import Derived.WalkArith
import Derived.DataShut
import Derived.Deep.DeepHandedRow
import Derived.Lib.LaidTab
namespace Go.Proofs.YtinkclcdpcjnfaaDoor
open Go.ChangeShapes Go.WideShapes Go.ChangeAt Go.RowKit
theorem own : ownKnob Tryd.prog.godebug = none := by kernel_rfl
theorem laidOut : laidOutB Tryd.prog = true := by kernel_rfl
theorem gTab : Tryd.prog.globalNamed "shamrock/sha.constants" = some 0 := by kernel_rfl
theorem gTabType : (Tryd.prog.globals[0]?).map (·.type) = some 102 := by kernel_rfl
theorem cellsTab : Tryd.prog.cellsOf 102 = 64 := by kernel_rfl
theorem cells32 : Tryd.prog.cellsOf 92 = 1 := by kernel_rfl
theorem cells8 : Tryd.prog.cellsOf 5 = 1 := by kernel_rfl
theorem bytes8 : Tryd.prog.bytesOf 5 = 1 := by kernel_rfl
/-- The table's cells hold the numbers. -/
theorem consts_of {W : World} (h : laidMetH Tryd.prog [("shamrock/sha.constants", Rows.laid_shamrock_sha_constants)] W) : Consts W := fun j hj => by
  have ht : Lib.TabIs Tryd.prog W "shamrock/sha.constants" .u32 (ks.map n32) := Lib.tabIs_of_head (rest := []) gTab gTabType Tryd.underlying102 Tryd.underlying92 cells32 cellsTab h
  have hlen : ks.length = 64 := by decide
  have := ht.cell gTab j (by rw [List.length_map, hlen]; exact hj)
  rw [this, List.getD_eq_getElem?_getD, List.getElem?_map, List.getD_eq_getElem?_getD, List.getElem?_eq_getElem (by rw [hlen]; exact hj)]
  rfl
/-- A byte that fits is a byte. -/
theorem byte_of {z : Int} (h : (Lit.int .u8 z).wf = true) : z = ((UInt8.ofNat z.toNat).toNat : Int) := by
  rw [Lit.wf_int_iff] at h
  have h0 : 0 ≤ z := h.1
  have h1 : z ≤ 255 := h.2
  simp only [UInt8.toNat_ofNat']
  omega
/-- A slice of bytes that came in, read. -/
theorem bytes_of {H : Type} {enc : TypeId × Value → H} {W : World} {A : Option Addr} {n c : Nat} {d : DataW H} {p : List MemPlace} {ts : List TypeId} {ds : List (DataW H)} {j : Nat}
    (h0 : DataW.Trod enc Tryd.prog W 0 (fun _ => true) true 27 (.slice A n c) d p) (hsz : (DataW.weightsEach Tryd.prog ts ds).all (· ≤ reachBytes) = true) (ht : ts[j]? = some 27) (hd : ds[j]? = some d) :
    ∃ l : List UInt8, Rd W W.heap.size A n l ∧ n ≤ 140737488351232 := by
  obtain ⟨fuel, hf⟩ := h0
  rcases open_ints Tryd.underlying27 Tryd.underlying5 cells8 hf with ⟨hcs, _⟩ | ⟨a, len, cap, zs, hcs, _, hl, hm, hz, hx, hcell, hwz⟩
  · simp [Value.cells] at hcs
    obtain ⟨rfl, rfl, rfl⟩ := hcs
    exact ⟨[], Rd.nil_, by omega⟩
  · simp [Value.cells] at hcs
    obtain ⟨rfl, rfl, rfl⟩ := hcs
    simp only [Prod.mk.injEq] at hx
    obtain ⟨rfl, rfl⟩ := hx
    simp only [if_true] at hz
    have hreach := sized_slice hsz ht hd Tryd.underlying27
    rw [bytes8] at hreach
    simp only [lits, List.length_map, List.length_take, List.length_drop, reachBytes] at hreach
    refine ⟨(zs.take n).map fun z => UInt8.ofNat z.toNat, ⟨by simp; omega, fun hn => ⟨a, rfl, ?_, fun j u hu => ?_⟩⟩, by omega⟩
    · have := World.block_lt_of_cell? W _ (hcell 0 (by omega))
      rwa [block_of_add] at this
    · rw [List.map_map, List.getElem?_map] at hu
      rcases hj : (zs.take n)[j]? with _ | z
      · rw [hj] at hu; cases hu
      · rw [hj] at hu
        have hjn : j < n := by have := (List.getElem?_eq_some_iff.1 hj).1; simp at this; omega
        rw [List.getElem?_take, if_pos hjn] at hj
        have hjz := (List.getElem?_eq_some_iff.1 hj).1
        have hz0 := hcell j hjz
        rw [List.getD_eq_getElem?_getD, hj] at hz0
        have hb := byte_of (hwz z (List.mem_of_getElem? hj))
        rw [hz0]
        simp only [Option.map_some, Function.comp, B8] at hu
        rw [← hu]
        simp only [Option.getD_some]
        rw [← hb]
/-- A world for the witness: the settled one, the table holding what its initialiser lays. -/
noncomputable def laidWorld (os : Os) : World :=
  { World.holding Tryd.prog os ⟨#[], #[], []⟩ with heap := (World.holding Tryd.prog os ⟨#[], #[], []⟩).heap.modify 0 fun
      | .cells _ t frozen => .cells (ks.map fun x => Value.int .u32 (n32 x)).toArray t frozen
      | o => o }
end Go.Proofs.YtinkclcdpcjnfaaDoor
