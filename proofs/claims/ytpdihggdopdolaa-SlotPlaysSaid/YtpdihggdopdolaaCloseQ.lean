/- What a row hands the law SlotPlays: a slice of calls, and what the form's own reach says of their bytes. No conditions. -/
import Derived.Test.YtpdihggdopdolaaCloseS
import Derived.Test.YtpdihggdopdolaaLaw15q
namespace Go.Proofs.Ytpdihggdopdolaa
open Go.ChangeShapes Go.WideShapes Go.ChangeAt Go.RowKit Go.Deep
theorem weightsAll_in {H : Type} {P : Program} {e : TypeId} : ∀ {l : List (DataW H)} {d : DataW H}, d ∈ l → ∀ n ∈ d.weights P e, n ∈ DataW.weightsAll P e l
  | d' :: r, d, hd, n, hn => by
    simp only [DataW.weightsAll, List.mem_append]
    rcases List.mem_cons.1 hd with rfl | h
    · exact Or.inl hn
    · exact Or.inr (weightsAll_in h n hn)
/-- A slice of bytes in a cell, read, with its room and its reach. -/
theorem bytes_fd2 {H : Type} {enc : TypeId × Value → H} {W : World} {fuel : Nat} {V : Value} {y : DataW H × List MemPlace}
    (hf : DataW.trod enc Try.prog W 0 (fun _ => true) true fuel 22 [V] = some y) (hsz : ∀ n ∈ y.1.weights Try.prog 22, n ≤ reachBytes) :
    ∃ (Ai : Option Addr) (ci : Nat) (l : List UInt8), V = .slice Ai l.length ci ∧ Rd W W.heap.size Ai l.length l ∧ l.length ≤ 140737488351232 ∧ l.length ≤ ci := by
  rcases open_ints Try.underlying22 Try.underlying5 cells8 hf with ⟨hcs, hx⟩ | ⟨a, n, cap, zs, hcs, _, hl, hm, hz, hx, hcell, hwz⟩
  · simp at hcs
    subst hcs
    exact ⟨none, 0, [], rfl, Rd.nil_, by simp, by simp⟩
  · simp at hcs
    subst hcs hx
    simp only [if_true] at hz
    have hreach := hsz (((lits (H := H) .u8 (zs.take n)).length + (lits (H := H) .u8 (zs.drop n)).length) * Try.prog.bytesOf 5) (by simp [DataW.weights, Try.underlying22])
    rw [bytes8] at hreach
    simp only [lits, List.length_map, List.length_take, List.length_drop, reachBytes] at hreach
    have hlen : ((zs.take n).map fun z => UInt8.ofNat z.toNat).length = n := by simp; omega
    refine ⟨some a, cap, (zs.take n).map fun z => UInt8.ofNat z.toNat, by rw [hlen], ⟨by simp, fun hn => ⟨a, rfl, ?_, fun j u hu => ?_⟩⟩, by rw [hlen]; omega, by rw [hlen]; exact hl⟩
    · have h0 : 0 < zs.length := by simp at hn; omega
      have := World.block_lt_of_cell? W _ (hcell 0 h0)
      rwa [block_of_add] at this
    · rw [List.map_map, List.getElem?_map] at hu
      rcases hj : (zs.take n)[j]? with _ | z
      · rw [hj] at hu; cases hu
      · rw [hj] at hu
        have hjn : j < n := by have := (List.getElem?_eq_some_iff.1 hj).1; simp at this; omega
        rw [List.getElem?_take, if_pos hjn] at hj
        have hjz := (List.getElem?_eq_some_iff.1 hj).1
        have hz0 := hcell j hjz
        rw [List.getD_eq_getElem?_getD, hj] at hz0
        have hb := byte_of (hwz z (List.mem_of_getElem? hj))
        rw [hz0]
        simp only [Option.map_some, Function.comp, B8] at hu
        rw [← hu]
        simp only [Option.getD_some]
        rw [← hb]
theorem sops_of {H : Type} {enc : TypeId × Value → H} {W : World} {A : Option Addr} {n c : Nat} {d : DataW H} {p : List MemPlace} {ts : List TypeId} {ds : List (DataW H)} {j : Nat}
    (h0 : DataW.Trod enc Try.prog W 0 (fun _ => true) true 61 (.slice A n c) d p) (hsz : (DataW.weightsEach Try.prog ts ds).all (· ≤ reachBytes) = true) (ht : ts[j]? = some 61) (hd : ds[j]? = some d) :
    ∃ os : List SOp, SOpsRd W W.heap.size A n os ∧ n ≤ 9223372036854775807 := by
  obtain ⟨fuel, hf⟩ := h0
  rcases open_slice_fields Try.underlying61 Try.underlying55 (by kernel_rfl) (by kernel_rfl) hf with ⟨hcs, _⟩ | ⟨a, n', cap, m, D, Pl, hcs, _, hl, hm, hmm, hx, hc⟩
  · simp [Value.cells] at hcs
    obtain ⟨rfl, rfl, rfl⟩ := hcs
    exact ⟨[], ⟨rfl, fun h => by omega⟩, by omega⟩
  · simp [Value.cells] at hcs
    obtain ⟨rfl, rfl, rfl⟩ := hcs
    simp only [if_true] at hmm
    have hnm : n ≤ m := by omega
    simp only [Prod.mk.injEq] at hx
    obtain ⟨rfl, rfl⟩ := hx
    have each : ∀ i, i < n → ∃ o : SOp, (o.n ≤ 9223372036854775807 ∧ o.b.length ≤ 140737488351232) ∧ ∃ (Ai : Option Addr) (ci : Nat), o.b.length ≤ ci ∧
        W.cell? (a.add (i * 4)) = some (.int .i64 o.k) ∧ W.cell? (a.add (i * 4 + 1)) = some (.int .i64 o.n) ∧ W.cell? (a.add (i * 4 + 2)) = some (.int .u8 (o.x.toNat : Int)) ∧ W.cell? (a.add (i * 4 + 3)) = some (.slice Ai o.b.length ci) ∧
        Rd W W.heap.size Ai o.b.length o.b := by
      intro i hi
      obtain ⟨ys, fu, hD, hP, hyl, hfld⟩ := hc i (by omega)
      obtain ⟨v0, y0, c0, _, t0⟩ := hfld 0 _ rfl
      obtain ⟨v1, y1, c1, _, t1⟩ := hfld 1 _ rfl
      obtain ⟨v2, y2, c2, _, t2⟩ := hfld 2 _ rfl
      obtain ⟨v3, y3, c3, e9, t3⟩ := hfld 3 _ rfl
      obtain ⟨z0, e0, _⟩ := DataW.trod_int Try.underlying3 t0
      obtain ⟨z1, e1, _, w1⟩ := DataW.trod_int Try.underlying3 t1
      obtain ⟨z2, e2, _, w2⟩ := DataW.trod_int Try.underlying5 t2
      have hw3 : ∀ n ∈ y3.1.weights Try.prog 22, n ≤ reachBytes := fun n hn => by
        refine of_decide_eq_true (List.all_eq_true.1 hsz _ (DataW.weights_mem_each ht hd _ ?_))
        simp only [DataW.weights, Try.underlying61, List.mem_cons, List.mem_append]
        refine Or.inr (Or.inl (weightsAll_in (List.mem_map.2 ⟨i, List.mem_range.2 hi, rfl⟩) _ ?_))
        rw [hD]
        simp only [DataW.weights, Try.underlying55]
        exact DataW.weights_mem_each (j := 3) rfl (by rw [List.getElem?_map, e9]; rfl) n hn
      obtain ⟨Ai, ci, l, e4, hr, hb1, hb2⟩ := bytes_fd2 t3 hw3
      simp at e0 e1 e2
      subst e0 e1 e2 e4
      have hb3 := byte_of w2
      refine ⟨⟨z0, z1, UInt8.ofNat z2.toNat, l⟩, ⟨(int_of w1).2, hb1⟩, Ai, ci, hb2, c0, c1, ?_, c3, hr⟩
      rw [← hb3]
      exact c2
    obtain ⟨os, hos, hall⟩ := list_of each
    refine ⟨os, ⟨hos, fun hn => ⟨a, rfl, ?_, hall⟩⟩, by simp only [maxLen] at hm; omega⟩
    obtain ⟨o, ho⟩ : ∃ o, os[0]? = some o := ⟨_, List.getElem?_eq_getElem (by omega)⟩
    obtain ⟨_, _, _, _, h1, _⟩ := hall 0 o ho
    have := World.block_lt_of_cell? W _ h1
    rwa [block_of_add] at this
end Go.Proofs.Ytpdihggdopdolaa
