/- What a row hands the law DiskPlays: a slice of calls. No conditions. -/
import Derived.Test.YtpdihggdopdolaaCloseS
import Derived.Test.YtpdihggdopdolaaLaw14p
namespace Go.Proofs.Ytpdihggdopdolaa
open Go.ChangeShapes Go.WideShapes Go.ChangeAt Go.RowKit Go.Deep
theorem ops_of {H : Type} {enc : TypeId × Value → H} {W : World} {A : Option Addr} {n c : Nat} {d : DataW H} {p : List MemPlace}
    (h0 : DataW.Trod enc Try.prog W 0 (fun _ => true) true 34 (.slice A n c) d p) :
    ∃ os : List OpV, OpsRd W W.heap.size A n os ∧ n ≤ 9223372036854775807 := by
  obtain ⟨fuel, hf⟩ := h0
  rcases open_slice_fields Try.underlying34 Try.underlying40 (by kernel_rfl) (by kernel_rfl) hf with ⟨hcs, _⟩ | ⟨a, n', cap, m, D, Pl, hcs, _, hl, hm, hmm, hx, hc⟩
  · simp [Value.cells] at hcs
    obtain ⟨rfl, rfl, rfl⟩ := hcs
    exact ⟨[], ⟨rfl, fun h => by omega⟩, by omega⟩
  · simp [Value.cells] at hcs
    obtain ⟨rfl, rfl, rfl⟩ := hcs
    simp only [if_true] at hmm
    have hnm : n ≤ m := by omega
    have each : ∀ i, i < n → ∃ o : OpV, o.n ≤ 9223372036854775807 ∧ ∃ (Ai : Option Addr) (ci : Nat),
        W.cell? (a.add (i * 5)) = some (.int .i64 o.k) ∧ W.cell? (a.add (i * 5 + 1)) = some (.int .i64 o.n) ∧ W.cell? (a.add (i * 5 + 2)) = some (.int .i64 o.at_) ∧ W.cell? (a.add (i * 5 + 3)) = some (.int .u8 (o.x.toNat : Int)) ∧ W.cell? (a.add (i * 5 + 4)) = some (.slice Ai o.b.length ci) ∧
        Rd W W.heap.size Ai o.b.length o.b := by
      intro i hi
      obtain ⟨ys, fu, hD, hP, hyl, hfld⟩ := hc i (by omega)
      obtain ⟨v0, y0, c0, _, t0⟩ := hfld 0 _ rfl
      obtain ⟨v1, y1, c1, _, t1⟩ := hfld 1 _ rfl
      obtain ⟨v2, y2, c2, _, t2⟩ := hfld 2 _ rfl
      obtain ⟨v3, y3, c3, _, t3⟩ := hfld 3 _ rfl
      obtain ⟨v4, y4, c4, _, t4⟩ := hfld 4 _ rfl
      obtain ⟨z0, e0, _⟩ := DataW.trod_int Try.underlying3 t0
      obtain ⟨z1, e1, _, w1⟩ := DataW.trod_int Try.underlying3 t1
      obtain ⟨z2, e2, _⟩ := DataW.trod_int Try.underlying3 t2
      obtain ⟨z3, e3, _, w3⟩ := DataW.trod_int Try.underlying5 t3
      obtain ⟨Ai, ci, l, e4, hr⟩ := bytes_fd t4
      simp at e0 e1 e2 e3
      subst e0 e1 e2 e3 e4
      have hb3 := byte_of w3
      refine ⟨⟨z0, z1, z2, UInt8.ofNat z3.toNat, l⟩, (int_of w1).2, Ai, ci, c0, c1, c2, ?_, c4, hr⟩
      rw [← hb3]
      exact c3
    obtain ⟨os, hos, hall⟩ := list_of each
    refine ⟨os, ⟨hos, fun hn => ⟨a, rfl, ?_, hall⟩⟩, by simp only [maxLen] at hm; omega⟩
    obtain ⟨o, ho⟩ : ∃ o, os[0]? = some o := ⟨_, List.getElem?_eq_getElem (by omega)⟩
    obtain ⟨_, _, _, h1, _⟩ := hall 0 o ho
    have := World.block_lt_of_cell? W _ h1
    rwa [block_of_add] at this
end Go.Proofs.Ytpdihggdopdolaa
