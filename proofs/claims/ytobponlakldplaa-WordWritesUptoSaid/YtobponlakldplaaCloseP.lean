/- What a row hands the law WordWrites: a slice of parts, and what the bound says of it. No conditions. -/
import Derived.Test.YtobponlakldplaaCloseB
import Derived.Test.YtobponlakldplaaLaw12x
import Derived.Deep.SlicePairs
namespace Go.Proofs.Ytobponlakldplaa
open Go.ChangeShapes Go.WideShapes Go.ChangeAt Go.RowKit Go.Deep
theorem bulk_pos {H : Type} (d : DataW H) : 1 ≤ Rows.uptoBulk d := by
  cases d with
  | lit l => cases l <;> simp [Rows.uptoBulk]
  | _ => simp [Rows.uptoBulk]
theorem bulk_len {H : Type} (l : List (DataW H)) : l.length ≤ Rows.uptoBulkAll l := by
  induction l with
  | nil => simp [Rows.uptoBulkAll]
  | cons x r ih => have := bulk_pos x; simp only [Rows.uptoBulkAll, List.length_cons]; omega
/-- A slice of bytes in a cell, read; its bulk. -/
theorem bytes_bulk {H : Type} {enc : TypeId × Value → H} {W : World} {fuel : Nat} {V : Value} {d : DataW H} {p : List MemPlace}
    (hf : DataW.trod enc Try.prog W 0 (fun _ => true) true fuel 26 [V] = some (d, p)) :
    ∃ (Ai : Option Addr) (k ci : Nat) (l : List UInt8), V = .slice Ai k ci ∧ Rd W W.heap.size Ai k l ∧ k + 1 ≤ Rows.uptoBulk d := by
  rcases open_ints Try.underlying26 Try.underlying5 cells8 hf with ⟨hcs, hx⟩ | ⟨a, n, cap, zs, hcs, _, hl, hm, hz, hx, hcell, hwz⟩
  · simp at hcs
    subst hcs
    exact ⟨none, 0, 0, [], rfl, Rd.nil_, bulk_pos d⟩
  · simp at hcs
    subst hcs
    simp only [Prod.mk.injEq] at hx
    obtain ⟨rfl, rfl⟩ := hx
    simp only [if_true] at hz
    refine ⟨some a, n, cap, (zs.take n).map fun z => UInt8.ofNat z.toNat, rfl, ⟨by simp; omega, fun hn => ⟨a, rfl, ?_, fun j u hu => ?_⟩⟩, ?_⟩
    · have := World.block_lt_of_cell? W _ (hcell 0 (by omega))
      rwa [block_of_add] at this
    · rw [List.map_map, List.getElem?_map] at hu
      rcases hj : (zs.take n)[j]? with _ | z
      · rw [hj] at hu; cases hu
      · rw [hj] at hu
        have hjn : j < n := by have := (List.getElem?_eq_some_iff.1 hj).1; simp at this; omega
        rw [List.getElem?_take, if_pos hjn] at hj
        have hjz := (List.getElem?_eq_some_iff.1 hj).1
        have hz0 := hcell j hjz
        rw [List.getD_eq_getElem?_getD, hj] at hz0
        have hb := byte_of (hwz z (List.mem_of_getElem? hj))
        rw [hz0]
        simp only [Option.map_some, Function.comp, B8] at hu
        rw [← hu]
        simp only [Option.getD_some]
        rw [← hb]
    · have h1 := bulk_len (lits (H := H) .u8 (zs.take n))
      simp only [lits, List.length_map, List.length_take] at h1
      simp only [Rows.uptoBulk, lits]
      omega
/-- What a list of parts costs. -/
def costP : List PartV → Nat
  | [] => 0
  | p :: r => 4 + p.2.length + costP r
theorem putP_len (s : WS) (p : PartV) : (putP s p).out.length ≤ s.out.length + (4 + p.2.length) := by
  unfold putP WS.bytes WS.int
  split
  · split
    · simp [b2]; omega
    · show s.out.length ≤ _; omega
  · split
    · have : (b4 (p.1 + 2).toNat).length = 4 := rfl
      simp only [List.length_append, this]; omega
    · show s.out.length ≤ _; omega
theorem fold_len (ps : List PartV) : ∀ (i : Nat) (s : WS), ((ps.take i).foldl putP s).out.length ≤ s.out.length + costP ps := by
  induction ps with
  | nil => intro i s; simp [costP]
  | cons p ps ih =>
    intro i s
    cases i with
    | zero => simp
    | succ i =>
      rw [List.take_succ_cons, List.foldl_cons]
      have h1 := ih i (putP s p)
      have h2 := putP_len s p
      simp only [costP]
      omega
theorem cost_bulk {H : Type} (q : Nat → PartV) (D0 D1 : Nat → DataW H) : ∀ (is : List Nat), (∀ i ∈ is, (q i).2.length + 1 ≤ Rows.uptoBulk (D1 i)) → costP (is.map q) ≤ 2 * Rows.uptoBulkAll (is.map fun i => .agg [D0 i, D1 i]) := by
  intro is
  induction is with
  | nil => intro _; simp [costP]
  | cons i r ih =>
    intro h
    have h1 := ih fun j hj => h j (List.mem_cons_of_mem _ hj)
    have h2 := h i List.mem_cons_self
    have h3 := bulk_pos (D0 i)
    simp only [List.map_cons, costP, Rows.uptoBulkAll, Rows.uptoBulk]
    omega
/-- A slice of parts that came in, read. -/
theorem parts_of {H : Type} {enc : TypeId × Value → H} {W : World} {A : Option Addr} {n c : Nat} {d : DataW H} {p : List MemPlace}
    (h0 : DataW.Trod enc Try.prog W 0 (fun _ => true) true 22 (.slice A n c) d p) (hk : Rows.uptoBulk d ≤ 1048576) :
    ∃ ps : List PartV, PartsRd W W.heap.size A n ps ∧ n ≤ 1048576 ∧ (0 < n → ∀ ad, A = some ad → ad.block < W.heap.size) ∧ costP ps ≤ 2097152 := by
  obtain ⟨fuel, hf⟩ := h0
  rcases open_slice_pairs Try.underlying22 Try.underlying30 (by kernel_rfl) rfl rfl (by kernel_rfl) (by kernel_rfl) hf with ⟨hcs, _⟩ | ⟨a, n', cap, m, fu, V0, V1, D0, D1, P0, P1, hcs, _, hl, hm, hmm, hx, hc⟩
  · simp [Value.cells] at hcs
    obtain ⟨rfl, rfl, rfl⟩ := hcs
    exact ⟨[], ⟨rfl, fun h => by omega⟩, by omega, fun h => by omega, by simp [costP]⟩
  · simp [Value.cells] at hcs
    obtain ⟨rfl, rfl, rfl⟩ := hcs
    simp only [Prod.mk.injEq] at hx
    obtain ⟨rfl, rfl⟩ := hx
    simp only [if_true] at hmm
    have hnm : n ≤ m := by omega
    have each : ∀ i, i < n → ∃ q : PartV, V0 i = .int .i64 q.1 ∧ ∃ (Ai : Option Addr) (ci : Nat), V1 i = .slice Ai q.2.length ci ∧ Rd W W.heap.size Ai q.2.length q.2 ∧ q.2.length + 1 ≤ Rows.uptoBulk (D1 i) := by
      intro i hi
      obtain ⟨hc0, hc1, ht0, ht1⟩ := hc i (by omega)
      obtain ⟨z, hz, _⟩ := DataW.trod_int Try.underlying3 ht0
      obtain ⟨Ai, k, ci, l, hV, hr, hb⟩ := bytes_bulk ht1
      have hlk := hr.len
      subst hlk
      simp at hz
      exact ⟨(z, l), hz, Ai, ci, hV, hr, hb⟩
    obtain ⟨q, hq⟩ := choose_lt each
    have hb1 : costP ((List.range n).map q) ≤ 2 * Rows.uptoBulkAll ((List.range n).map fun i => .agg [D0 i, D1 i]) :=
      cost_bulk q D0 D1 _ fun i hi => by obtain ⟨_, _, _, _, _, h⟩ := hq i (List.mem_range.1 hi); exact h
    have hb2 := bulk_len ((List.range n).map fun i => DataW.agg [D0 i, D1 i])
    simp only [List.length_map, List.length_range] at hb2
    simp only [Rows.uptoBulk] at hk
    refine ⟨(List.range n).map q, ⟨by simp, fun hn => ⟨a, rfl, fun i pp hp => ?_⟩⟩, by omega, fun hn ad had => ?_, by omega⟩
    · rw [List.getElem?_map] at hp
      have hi : i < n := by
        rcases hr : (List.range n)[i]? with _ | z
        · rw [hr] at hp; cases hp
        · have := (List.getElem?_eq_some_iff.1 hr).1; simpa using this
      rw [List.getElem?_range hi] at hp
      simp only [Option.map_some, Option.some.injEq] at hp
      subst hp
      obtain ⟨hc0, hc1, _, _⟩ := hc i (by omega)
      obtain ⟨hz, Ai, ci, hV, hr, hb⟩ := hq i hi
      have h5 := bulk_pos (D0 i)
      have h6 : Rows.uptoBulk (DataW.agg [D0 i, D1 i]) ≤ Rows.uptoBulkAll ((List.range n).map fun i => .agg [D0 i, D1 i]) := by
        have gen : ∀ (l : List (DataW H)) (x : DataW H), x ∈ l → Rows.uptoBulk x ≤ Rows.uptoBulkAll l := by
          intro l
          induction l with
          | nil => intro x hx; cases hx
          | cons y r ih =>
            intro x hx
            simp only [Rows.uptoBulkAll]
            rcases List.mem_cons.1 hx with rfl | hx
            · omega
            · have := ih x hx; omega
        exact gen _ _ (List.mem_map.2 ⟨i, List.mem_range.2 hi, rfl⟩)
      simp only [Rows.uptoBulk, Rows.uptoBulkAll] at h6
      exact ⟨Ai, ci, by rw [hc0, hz], by rw [hc1, hV], hr, by omega⟩
    · obtain rfl := Option.some.inj had
      obtain ⟨hc0, _⟩ := hc 0 (by omega)
      have := World.block_lt_of_cell? W _ hc0
      rwa [block_of_add] at this
end Go.Proofs.Ytobponlakldplaa
