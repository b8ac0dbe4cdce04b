/- What a row hands a law: a slice of structs, field by field; bytes in a field. No conditions. -/
import Derived.Test.YtpdihggdopdolaaCloseB
import Derived.Deep.Slices
import Derived.Deep.Fields
import Derived.ChangeSame
namespace Go.Proofs.Ytpdihggdopdolaa
open Go.ChangeShapes Go.WideShapes Go.ChangeAt Go.RowKit Go.Deep
section
variable {H : Type} {enc : TypeId × Value → H} {P : Program} {w : World} {base : Nat} {spare : Nat → Bool} {held : Bool}
theorem open_slice_fields {t e : TypeId} {fs : Array Field} {fuel : Nat} {cs : List Value} {x : DataW H × List MemPlace} (ht : P.underlying t = some (.slice e)) (he : P.underlying e = some (.struct fs))
    (hone : oneCellFields P fs = true) (hC : P.cellsOf e = fs.size) (h : DataW.trod enc P w base spare held fuel t cs = some x) :
    (cs = [.slice none 0 0] ∧ x = (.nil, [])) ∨
    ∃ (a : Addr) (len cap m : Nat) (D : Nat → DataW H) (Pl : Nat → List MemPlace), cs = [.slice (some a) len cap] ∧ base ≤ a.block ∧ len ≤ cap ∧ cap ≤ maxLen ∧ m = (if spare a.block then cap else len) ∧
      x = (.slice ((List.range len).map D) ((List.range (m - len)).map fun j => D (len + j)), MemPlace.row a (m * fs.size) ++ (List.range m).flatMap Pl) ∧
      ∀ i, i < m → ∃ (ys : List (DataW H × List MemPlace)) (n : Nat), D i = .agg (ys.map (·.1)) ∧ Pl i = ys.flatMap (·.2) ∧ ys.length = fs.size ∧
        ∀ (j : Nat) (f : Field), fs[j]? = some f → ∃ (v : Value) (y : DataW H × List MemPlace), w.cell? (a.add (i * fs.size + j)) = some v ∧ ys[j]? = some y ∧ DataW.trod enc P w base spare held n f.type [v] = some y := by
  rcases open_slice ht h with h0 | ⟨a, len, cap, m, n, D, Pl, hcs, hb, hl, hm, hmm, hx, hi⟩
  · exact .inl h0
  · refine .inr ⟨a, len, cap, m, D, Pl, hcs, hb, hl, hm, hmm, by rw [hC] at hx; exact hx, fun i him => ?_⟩
    obtain ⟨cs', hc, ht'⟩ := hi i him
    rw [hC] at hc
    obtain ⟨ys, n', hn', hy, hlen, hyl, hf⟩ := DataW.trod_struct he ht'
    obtain ⟨_, hcl, hat⟩ := World.cells?_some hc
    simp only [Prod.mk.injEq] at hy
    refine ⟨ys, n', hy.1, hy.2, hyl, fun j f hj => ?_⟩
    obtain ⟨ho, hk⟩ := hone_of hone j f hj
    have hjl : j < fs.size := (Array.getElem?_eq_some_iff.1 hj).1
    have hcell := hat j hjl
    have hv : cs'[j]? = some (cs'[j]'(by omega)) := List.getElem?_eq_getElem (by omega)
    have h1 := hf j f hj
    rw [ho, hk] at h1
    have hone' : (cs'.drop j).take 1 = [cs'[j]'(by omega)] := by
      rw [List.drop_eq_getElem_cons (by omega)]
      rfl
    rw [hone'] at h1
    have hys : ys[j]? = some (ys[j]'(by omega)) := List.getElem?_eq_getElem (by omega)
    refine ⟨_, _, ?_, hys, h1.trans hys⟩
    rw [← Go.Deep.add_add, hcell, hv]
end
theorem choose_lt2 {α : Type} {m : Nat} {R : Nat → α → Prop} (h : ∀ i, i < m → ∃ x, R i x) : ∃ f : Fin m → α, ∀ i : Fin m, R i.1 (f i) :=
  ⟨fun i => Classical.choose (h i.1 i.2), fun i => Classical.choose_spec (h i.1 i.2)⟩
theorem list_of {α : Type} {m : Nat} {R : Nat → α → Prop} (h : ∀ i, i < m → ∃ x, R i x) : ∃ l : List α, l.length = m ∧ ∀ i x, l[i]? = some x → R i x := by
  obtain ⟨f, hf⟩ := choose_lt2 h
  refine ⟨List.ofFn f, by simp, fun i x hx => ?_⟩
  rw [List.getElem?_ofFn] at hx
  split at hx
  · next hi => injection hx with hx; subst hx; exact hf ⟨i, hi⟩
  · cases hx
/-- A slice of bytes in a cell, read. -/
theorem bytes_fd {H : Type} {enc : TypeId × Value → H} {W : World} {fuel : Nat} {V : Value} {y : DataW H × List MemPlace}
    (hf : DataW.trod enc Try.prog W 0 (fun _ => true) true fuel 22 [V] = some y) :
    ∃ (Ai : Option Addr) (ci : Nat) (l : List UInt8), V = .slice Ai l.length ci ∧ Rd W W.heap.size Ai l.length l := by
  rcases open_ints Try.underlying22 Try.underlying5 cells8 hf with ⟨hcs, hx⟩ | ⟨a, n, cap, zs, hcs, _, hl, hm, hz, hx, hcell, hwz⟩
  · simp at hcs
    subst hcs
    exact ⟨none, 0, [], rfl, Rd.nil_⟩
  · simp at hcs
    subst hcs
    simp only [if_true] at hz
    refine ⟨some a, cap, (zs.take n).map fun z => UInt8.ofNat z.toNat, by congr; simp; omega, ⟨by simp, fun hn => ⟨a, rfl, ?_, fun j u hu => ?_⟩⟩⟩
    · have h0 : 0 < zs.length := by simp at hn; omega
      have := World.block_lt_of_cell? W _ (hcell 0 h0)
      rwa [block_of_add] at this
    · rw [List.map_map, List.getElem?_map] at hu
      rcases hj : (zs.take n)[j]? with _ | z
      · rw [hj] at hu; cases hu
      · rw [hj] at hu
        have hjn : j < n := by have := (List.getElem?_eq_some_iff.1 hj).1; simp at this; omega
        rw [List.getElem?_take, if_pos hjn] at hj
        have hjz := (List.getElem?_eq_some_iff.1 hj).1
        have hz0 := hcell j hjz
        rw [List.getD_eq_getElem?_getD, hj] at hz0
        have hb := byte_of (hwz z (List.mem_of_getElem? hj))
        rw [hz0]
        simp only [Option.map_some, Function.comp, B8] at hu
        rw [← hu]
        simp only [Option.getD_some]
        rw [← hb]
end Go.Proofs.Ytpdihggdopdolaa
