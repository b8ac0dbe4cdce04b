/- What a row hands a law of states, books and objects, field by field, and what the bound says of it. No conditions. -/
import Derived.Test.YtinkclcdpcjnfaaDoorClose
import Derived.Test.YtinkclcdpcjnfaaDoorRec7
import Derived.Deep.Slices
import Derived.Deep.Fields
import Derived.Deep.Grids
import Derived.ChangeSame
namespace Go.Proofs.YtinkclcdpcjnfaaDoor
open Go.ChangeShapes Go.WideShapes Go.ChangeAt Go.RowKit Go.Deep
section
variable {H : Type} {enc : TypeId × Value → H} {P : Program} {w : World} {base : Nat} {spare : Nat → Bool} {held : Bool}
theorem open_slice_fields {t e : TypeId} {fs : Array Field} {fuel : Nat} {cs : List Value} {x : DataW H × List MemPlace} (ht : P.underlying t = some (.slice e)) (he : P.underlying e = some (.struct fs))
    (hone : oneCellFields P fs = true) (hC : P.cellsOf e = fs.size) (h : DataW.trod enc P w base spare held fuel t cs = some x) :
    (cs = [.slice none 0 0] ∧ x = (.nil, [])) ∨
    ∃ (a : Addr) (len cap m : Nat) (D : Nat → DataW H) (Pl : Nat → List MemPlace), cs = [.slice (some a) len cap] ∧ base ≤ a.block ∧ len ≤ cap ∧ cap ≤ maxLen ∧ m = (if spare a.block then cap else len) ∧
      x = (.slice ((List.range len).map D) ((List.range (m - len)).map fun j => D (len + j)), MemPlace.row a (m * fs.size) ++ (List.range m).flatMap Pl) ∧
      ∀ i, i < m → ∃ (ys : List (DataW H × List MemPlace)) (n : Nat), D i = .agg (ys.map (·.1)) ∧ Pl i = ys.flatMap (·.2) ∧ ys.length = fs.size ∧
        ∀ (j : Nat) (f : Field), fs[j]? = some f → ∃ (v : Value) (y : DataW H × List MemPlace), w.cell? (a.add (i * fs.size + j)) = some v ∧ ys[j]? = some y ∧ DataW.trod enc P w base spare held n f.type [v] = some y := by
  rcases open_slice ht h with h0 | ⟨a, len, cap, m, n, D, Pl, hcs, hb, hl, hm, hmm, hx, hi⟩
  · exact .inl h0
  · refine .inr ⟨a, len, cap, m, D, Pl, hcs, hb, hl, hm, hmm, by rw [hC] at hx; exact hx, fun i him => ?_⟩
    obtain ⟨cs', hc, ht'⟩ := hi i him
    rw [hC] at hc
    obtain ⟨ys, n', hn', hy, hlen, hyl, hf⟩ := DataW.trod_struct he ht'
    obtain ⟨_, hcl, hat⟩ := World.cells?_some hc
    simp only [Prod.mk.injEq] at hy
    refine ⟨ys, n', hy.1, hy.2, hyl, fun j f hj => ?_⟩
    obtain ⟨ho, hk⟩ := hone_of hone j f hj
    have hjl : j < fs.size := (Array.getElem?_eq_some_iff.1 hj).1
    have hcell := hat j hjl
    have hv : cs'[j]? = some (cs'[j]'(by omega)) := List.getElem?_eq_getElem (by omega)
    have h1 := hf j f hj
    rw [ho, hk] at h1
    have hone' : (cs'.drop j).take 1 = [cs'[j]'(by omega)] := by
      rw [List.drop_eq_getElem_cons (by omega)]
      rfl
    rw [hone'] at h1
    have hys : ys[j]? = some (ys[j]'(by omega)) := List.getElem?_eq_getElem (by omega)
    refine ⟨_, _, ?_, hys, h1.trans hys⟩
    rw [← Go.Deep.add_add, hcell, hv]
end
theorem choose_lt2 {α : Type} {m : Nat} {R : Nat → α → Prop} (h : ∀ i, i < m → ∃ x, R i x) : ∃ f : Fin m → α, ∀ i : Fin m, R i.1 (f i) :=
  ⟨fun i => Classical.choose (h i.1 i.2), fun i => Classical.choose_spec (h i.1 i.2)⟩
theorem list_of {α : Type} {m : Nat} {R : Nat → α → Prop} (h : ∀ i, i < m → ∃ x, R i x) : ∃ l : List α, l.length = m ∧ ∀ i x, l[i]? = some x → R i x := by
  obtain ⟨f, hf⟩ := choose_lt2 h
  refine ⟨List.ofFn f, by simp, fun i x hx => ?_⟩
  rw [List.getElem?_ofFn] at hx
  split at hx
  · next hi => injection hx with hx; subst hx; exact hf ⟨i, hi⟩
  · cases hx
/-- A slice of bytes in a cell, read. -/
theorem bytes_fd {H : Type} {enc : TypeId × Value → H} {W : World} {fuel : Nat} {V : Value} {y : DataW H × List MemPlace}
    (hf : DataW.trod enc Tryd.prog W 0 (fun _ => true) true fuel 27 [V] = some y) :
    ∃ (Ai : Option Addr) (ci : Nat) (l : List UInt8), V = .slice Ai l.length ci ∧ Rd W W.heap.size Ai l.length l := by
  rcases open_ints Tryd.underlying27 Tryd.underlying5 cells8 hf with ⟨hcs, hx⟩ | ⟨a, n, cap, zs, hcs, _, hl, hm, hz, hx, hcell, hwz⟩
  · simp at hcs
    subst hcs
    exact ⟨none, 0, [], rfl, Rd.nil_⟩
  · simp at hcs
    subst hcs
    simp only [if_true] at hz
    refine ⟨some a, cap, (zs.take n).map fun z => UInt8.ofNat z.toNat, by congr; simp; omega, ⟨by simp, fun hn => ⟨a, rfl, ?_, fun j u hu => ?_⟩⟩⟩
    · have h0 : 0 < zs.length := by simp at hn; omega
      have := World.block_lt_of_cell? W _ (hcell 0 h0)
      rwa [block_of_add] at this
    · rw [List.map_map, List.getElem?_map] at hu
      rcases hj : (zs.take n)[j]? with _ | z
      · rw [hj] at hu; cases hu
      · rw [hj] at hu
        have hjn : j < n := by have := (List.getElem?_eq_some_iff.1 hj).1; simp at this; omega
        rw [List.getElem?_take, if_pos hjn] at hj
        have hjz := (List.getElem?_eq_some_iff.1 hj).1
        have hz0 := hcell j hjz
        rw [List.getD_eq_getElem?_getD, hj] at hz0
        have hb := byte_of (hwz z (List.mem_of_getElem? hj))
        rw [hz0]
        simp only [Option.map_some, Function.comp, B8] at hu
        rw [← hu]
        simp only [Option.getD_some]
        rw [← hb]
section
variable {H : Type} {enc : TypeId × Value → H} {P : Program} {w : World} {base : Nat} {spare : Nat → Bool} {held : Bool}
/-- A struct of one-cell fields, by value. -/
theorem open_agg_fields {r : Reach} {b0 : Nat} {t : TypeId} {fs : Array Field} {v : Value} {d : DataW H} {p : List MemPlace} (hs : P.underlying t = some (.struct fs)) (hone : oneCellFields P fs = true) (hC : P.cellsOf t = fs.size)
    (hv : Value.okWide P w r b0 t v) (h : DataW.Trod enc P w base spare held t v d p) :
    ∃ (cs : List Value) (ys : List (DataW H × List MemPlace)) (n : Nat), v = .agg cs.toArray ∧ cs.length = fs.size ∧ ys.length = fs.size ∧ d = .agg (ys.map (·.1)) ∧
      ∀ (j : Nat) (f : Field), fs[j]? = some f → ∃ (c : Value) (y : DataW H × List MemPlace), cs[j]? = some c ∧ ys[j]? = some y ∧ DataW.trod enc P w base spare held n f.type [c] = some y := by
  obtain ⟨cs, rfl, hsz⟩ := okWide_struct hs hv
  obtain ⟨fuel, hf⟩ := h
  obtain ⟨ys, n, _, hy, hlen, hyl, hg⟩ := DataW.trod_struct hs hf
  simp only [Prod.mk.injEq] at hy
  refine ⟨cs.toList, ys, n, by simp, by simp only [Array.length_toList]; rw [hsz, hC], hyl, hy.1, fun j f hj => ?_⟩
  obtain ⟨ho, hk⟩ := hone_of hone j f hj
  have hjl : j < fs.size := (Array.getElem?_eq_some_iff.1 hj).1
  have h1 := hg j f hj
  have hjc : j < cs.toList.length := by simp only [Array.length_toList]; rw [hsz, hC]; exact hjl
  have hv : cs.toList[j]? = some cs.toList[j] := List.getElem?_eq_getElem hjc
  have hys : ys[j]? = some (ys[j]'(by omega)) := List.getElem?_eq_getElem (by omega)
  refine ⟨_, _, hv, hys, ?_⟩
  rw [ho, hk] at h1
  have hone' : ((Value.agg cs).cells.toList.drop j).take 1 = [cs.toList[j]] := by
    show (cs.toList.drop j).take 1 = _
    rw [List.drop_eq_getElem_cons hjc]
    rfl
  rw [hone'] at h1
  exact h1.trans hys
end
theorem next_cell2 (ad : Addr) (i : Nat) : ad.add (i * 2 + 1) = ⟨(ad.add (i * 2)).block, (ad.add (i * 2)).off + 1, none⟩ := by
  unfold Addr.add
  rw [if_neg (by omega)]
  split
  · next h => rw [h]
  · simp [Nat.add_assoc]
theorem bulk_pos1 {H : Type} (d : DataW H) : 1 ≤ Rows.uptoBulk d := by
  cases d with
  | lit l => cases l <;> simp [Rows.uptoBulk]
  | _ => simp [Rows.uptoBulk]
theorem bulk_len1 {H : Type} (l : List (DataW H)) : l.length ≤ Rows.uptoBulkAll l := by
  induction l with
  | nil => simp [Rows.uptoBulkAll]
  | cons x r ih => have := bulk_pos1 x; simp only [Rows.uptoBulkAll, List.length_cons]; omega
/-- Bytes in a cell, and their bulk. -/
theorem bytes_fdb {H : Type} {enc : TypeId × Value → H} {W : World} {fuel : Nat} {V : Value} {y : DataW H × List MemPlace}
    (hf : DataW.trod enc Tryd.prog W 0 (fun _ => true) true fuel 27 [V] = some y) :
    ∃ (Ai : Option Addr) (ci : Nat) (l : List UInt8), V = .slice Ai l.length ci ∧ Rd W W.heap.size Ai l.length l ∧ l.length + 1 ≤ Rows.uptoBulk y.1 := by
  obtain ⟨Ai, ci, l, rfl, hr⟩ := bytes_fd hf
  refine ⟨Ai, ci, l, rfl, hr, ?_⟩
  rcases open_ints Tryd.underlying27 Tryd.underlying5 cells8 hf with ⟨hcs, hx⟩ | ⟨a, n, cap, zs, hcs, _, hl, hm, hz, hx, hcell, hwz⟩
  · have hl0 : l.length = 0 := by simp at hcs; simp [hcs]
    have := bulk_pos1 y.1
    omega
  · simp at hcs
    subst hx
    have h1 := bulk_len1 (lits (H := H) .u8 (zs.take n))
    simp only [if_true] at hz
    simp only [lits, List.length_map, List.length_take] at h1
    simp only [Rows.uptoBulk, lits]
    omega
theorem cells64 : Tryd.prog.cellsOf 3 = 1 := by kernel_rfl
/-- Numbers in a cell, and their bulk. -/
theorem ints_fdb {H : Type} {enc : TypeId × Value → H} {W : World} {fuel : Nat} {V : Value} {y : DataW H × List MemPlace}
    (hf : DataW.trod enc Tryd.prog W 0 (fun _ => true) true fuel 37 [V] = some y) :
    ∃ (Ai : Option Addr) (ci : Nat) (l : List Int), V = .slice Ai l.length ci ∧ Reads W W.heap.size 1 Ai l.length (l.map (Value.int .i64)) ∧ l.length + 1 ≤ Rows.uptoBulk y.1 := by
  rcases open_ints Tryd.underlying37 Tryd.underlying3 cells64 hf with ⟨hcs, hx⟩ | ⟨a, n, cap, zs, hcs, _, hl, hm, hz, hx, hcell, hwz⟩
  · simp at hcs
    subst hcs
    exact ⟨none, 0, [], rfl, ⟨rfl, fun h => by simp at h⟩, bulk_pos1 y.1⟩
  · simp at hcs
    subst hcs
    subst hx
    simp only [if_true] at hz
    refine ⟨some a, cap, zs.take n, by congr; simp; omega, ⟨by simp, fun hn => ⟨a, rfl, ?_, fun j u hu => ?_⟩⟩, ?_⟩
    · have h0 : 0 < zs.length := by simp at hn; omega
      have := World.block_lt_of_cell? W _ (hcell 0 h0)
      rwa [block_of_add] at this
    · rw [List.getElem?_map] at hu
      rcases hj : (zs.take n)[j]? with _ | z
      · rw [hj] at hu; cases hu
      · rw [hj] at hu
        have hjn : j < n := by have := (List.getElem?_eq_some_iff.1 hj).1; simp at this; omega
        rw [List.getElem?_take, if_pos hjn] at hj
        have hjz := (List.getElem?_eq_some_iff.1 hj).1
        have hz0 := hcell j hjz
        rw [List.getD_eq_getElem?_getD, hj] at hz0
        rw [hz0, ← hu]
        rfl
    · have h1 := bulk_len1 (lits (H := H) .i64 (zs.take n))
      simp only [lits, List.length_map, List.length_take] at h1
      simp only [Rows.uptoBulk, lits, List.length_take]
      omega
/-- A string in a cell, and its bulk. -/
theorem str_fdb {H : Type} {enc : TypeId × Value → H} {W : World} {fuel : Nat} {V : Value} {y : DataW H × List MemPlace}
    (hf : DataW.trod enc Tryd.prog W 0 (fun _ => true) true fuel 9 [V] = some y) : ∃ l : List UInt8, V = .string ⟨l.toArray⟩ ∧ l.length + 1 = Rows.uptoBulk y.1 := by
  obtain ⟨s, hcs, rfl, _⟩ := DataW.trod_string Tryd.underlying9 hf
  simp at hcs
  subst hcs
  exact ⟨s.data.toList, by simp, by simp [Rows.uptoBulk]⟩
theorem heads_bulk {H : Type} (D : Nat → DataW H) : ∀ (is : List Nat) (hs : List HeadV), hs.length = is.length → (∀ (k : Nat) (h : HeadV) (i : Nat), hs[k]? = some h → is[k]? = some i → h.id.length + 3 ≤ Rows.uptoBulk (D i)) → costH hs ≤ 2 * Rows.uptoBulkAll (is.map D) := by
  intro is
  induction is with
  | nil => intro hs hl _; cases hs with
    | nil => simp [costH]
    | cons x r => simp at hl
  | cons i is ih =>
    intro hs hl h
    cases hs with
    | nil => simp at hl
    | cons x r =>
      have h1 := ih r (by simpa using hl) (fun k h' i' e1 e2 => h (k + 1) h' i' (by rw [List.getElem?_cons_succ]; exact e1) (by rw [List.getElem?_cons_succ]; exact e2))
      have h2 := h 0 x i rfl rfl
      simp only [List.map_cons, costH, Rows.uptoBulkAll]
      omega
/-- Heads in a cell, and their bulk. -/
theorem heads_fdb {H : Type} {enc : TypeId × Value → H} {W : World} {fuel : Nat} {V : Value} {y : DataW H × List MemPlace}
    (hf : DataW.trod enc Tryd.prog W 0 (fun _ => true) true fuel 35 [V] = some y) :
    ∃ (Ai : Option Addr) (ci : Nat) (l : List HeadV), V = .slice Ai l.length ci ∧ HeadsRd W W.heap.size Ai l ∧ costH l ≤ 2 * Rows.uptoBulk y.1 := by
  rcases open_slice_fields Tryd.underlying35 Tryd.underlying72 (by kernel_rfl) (by kernel_rfl) hf with ⟨hcs, _⟩ | ⟨a, n, cap, m, D, Pl, hcs, _, hl, hm, hmm, hx, hc⟩
  · simp at hcs
    subst hcs
    exact ⟨none, 0, [], rfl, fun h => by simp at h, by simp [costH]⟩
  · simp at hcs
    subst hcs
    simp only [if_true] at hmm
    have each : ∀ i, i < n → ∃ h : HeadV, (W.cell? (a.add (i * 2)) = some (.string ⟨h.id.toArray⟩) ∧ W.cell? (a.add (i * 2 + 1)) = some (.int .i64 h.size)) ∧ h.id.length + 3 ≤ Rows.uptoBulk (D i) := by
      intro i hi
      obtain ⟨ys, fu, hD, _, hyl, hfld⟩ := hc i (by omega)
      obtain ⟨v0, y0, c0, e0, t0⟩ := hfld 0 _ rfl
      obtain ⟨v1, y1, c1, e1, t1⟩ := hfld 1 _ rfl
      obtain ⟨l, rfl, hb⟩ := str_fdb t0
      obtain ⟨z1, hz1, _⟩ := DataW.trod_int Tryd.underlying3 t1
      simp at hz1
      subst hz1
      have hys : ys = [y0, y1] := by
        match ys, hyl, e0, e1 with
        | [u0, u1], _, e0, e1 => simp at e0 e1; rw [e0, e1]
      refine ⟨⟨l, z1⟩, ⟨c0, c1⟩, ?_⟩
      rw [hD, hys]
      have := bulk_pos1 y1.1
      simp only [List.map_cons, List.map_nil, Rows.uptoBulk, Rows.uptoBulkAll]
      omega
    obtain ⟨hs, hls, hall⟩ := list_of each
    refine ⟨some a, cap, hs, by rw [hls], fun hn => ⟨a, rfl, ?_, fun i h hi => ?_⟩, ?_⟩
    · obtain ⟨h0, e0⟩ : ∃ h0, hs[0]? = some h0 := ⟨_, List.getElem?_eq_getElem hn⟩
      have := World.block_lt_of_cell? W _ (hall 0 h0 e0).1.1
      rwa [block_of_add] at this
    · obtain ⟨⟨h1, h2⟩, _⟩ := hall i h hi
      refine ⟨h1, ?_⟩
      rw [← next_cell2]
      exact h2
    · rw [hx]
      have := heads_bulk D (List.range n) hs (by simp [hls]) (fun k h i e1 e2 => by
        have hk : k < n := by rw [← hls]; exact (List.getElem?_eq_some_iff.1 e1).1
        rw [List.getElem?_range hk] at e2
        injection e2 with e2
        subst e2
        exact (hall k h e1).2)
      simp only [Rows.uptoBulk]
      omega
/-- A struct, by value, field by field. -/
theorem open_agg_any {H : Type} {enc : TypeId × Value → H} {P : Program} {w : World} {base : Nat} {spare : Nat → Bool} {held : Bool} {r : Reach} {b0 : Nat} {t : TypeId} {fs : Array Field} {v : Value} {d : DataW H} {p : List MemPlace} (hs : P.underlying t = some (.struct fs))
    (hv : Value.okWide P w r b0 t v) (h : DataW.Trod enc P w base spare held t v d p) :
    ∃ (cs : List Value) (ys : List (DataW H × List MemPlace)) (n : Nat), v = .agg cs.toArray ∧ cs.length = P.cellsOf t ∧ ys.length = fs.size ∧ d = .agg (ys.map (·.1)) ∧
      ∀ (j : Nat) (f : Field), fs[j]? = some f → ∃ y, ys[j]? = some y ∧ DataW.trod enc P w base spare held n f.type ((cs.drop f.offset).take (P.cellsOf f.type)) = some y := by
  obtain ⟨cs, rfl, hsz⟩ := okWide_struct hs hv
  obtain ⟨fuel, hf⟩ := h
  obtain ⟨ys, n, _, hy, hlen, hyl, hg⟩ := DataW.trod_struct hs hf
  simp only [Prod.mk.injEq] at hy
  refine ⟨cs.toList, ys, n, by simp, by simp only [Array.length_toList]; exact hsz, hyl, hy.1, fun j f hj => ?_⟩
  have hjl : j < fs.size := (Array.getElem?_eq_some_iff.1 hj).1
  have h1 := hg j f hj
  have hys : ys[j]? = some (ys[j]'(by omega)) := List.getElem?_eq_getElem (by omega)
  exact ⟨_, hys, h1.trans hys⟩
theorem next_cell4 (ad : Addr) (i j : Nat) (hj : 0 < j) : ad.add (i * 4 + j) = ⟨(ad.add (i * 4)).block, (ad.add (i * 4)).off + j, none⟩ := by
  unfold Addr.add
  rw [if_neg (by omega)]
  split
  · next h => rw [h]; simp
  · simp [Nat.add_assoc]
/-- Bools in a cell, and their bulk. -/
theorem bools_fdb {H : Type} {enc : TypeId × Value → H} {W : World} {fuel : Nat} {V : Value} {y : DataW H × List MemPlace}
    (hf : DataW.trod enc Tryd.prog W 0 (fun _ => true) true fuel 36 [V] = some y) :
    ∃ (Ai : Option Addr) (ci : Nat) (l : List Bool), V = .slice Ai l.length ci ∧ Reads W W.heap.size 1 Ai l.length (l.map Value.bool) ∧ l.length + 1 ≤ Rows.uptoBulk y.1 := by
  rcases open_bools Tryd.underlying36 Tryd.underlying4 (by kernel_rfl) hf with ⟨hcs, hx⟩ | ⟨a, n, cap, B, hcs, _, hl, hm, hx, hcell⟩
  · simp at hcs
    subst hcs
    exact ⟨none, 0, [], rfl, ⟨rfl, fun h => by simp at h⟩, bulk_pos1 y.1⟩
  · simp at hcs
    subst hcs
    subst hx
    refine ⟨some a, cap, (List.range n).map B, by simp, ⟨by simp, fun hn => ⟨a, rfl, ?_, fun j u hu => ?_⟩⟩, ?_⟩
    · simp at hn
      have := World.block_lt_of_cell? W _ (hcell 0 (by omega))
      rwa [block_of_add] at this
    · have hj : j < n := by have := (List.getElem?_eq_some_iff.1 hu).1; simpa using this
      rw [List.getElem?_map, List.getElem?_map, List.getElem?_range hj] at hu
      simp only [Option.map_some, Option.some.injEq] at hu
      rw [hcell j (by omega), hu]
    · have h1 := bulk_len1 ((List.range n).map (fun r => (DataW.lit (.bool (B r)) : DataW H)))
      simp only [List.length_map, List.length_range] at h1
      simp only [boolRow, Rows.uptoBulk, List.length_map, List.length_range]
      omega
theorem ObjRd.of_rd {W : World} {As At : Option Addr} {o : ObjV} (h1 : Rd W W.heap.size As o.share.length o.share) (h2 : Rd W W.heap.size At o.tag.length o.tag) : ObjRd W (fun k => k < W.heap.size) As At o :=
  ⟨fun ad e h0 => by obtain ⟨ad', e', hb, _⟩ := h1.2 h0; rw [e] at e'; injection e' with e'; rw [e']; exact hb, fun ad e h0 => by obtain ⟨ad', e', hb, _⟩ := h2.2 h0; rw [e] at e'; injection e' with e'; rw [e']; exact hb, h1, h2⟩
theorem objs_bulk {H : Type} (D : Nat → DataW H) : ∀ (is : List Nat) (hs : List ObjV), hs.length = is.length → (∀ (k : Nat) (h : ObjV) (i : Nat), hs[k]? = some h → is[k]? = some i → h.id.length + h.share.length + h.tag.length + 5 ≤ Rows.uptoBulk (D i)) → costO hs ≤ 2 * Rows.uptoBulkAll (is.map D) := by
  intro is
  induction is with
  | nil => intro hs hl _; cases hs with
    | nil => simp [costO]
    | cons x r => simp at hl
  | cons i is ih =>
    intro hs hl h
    cases hs with
    | nil => simp at hl
    | cons x r =>
      have h1 := ih r (by simpa using hl) (fun k h' i' e1 e2 => h (k + 1) h' i' (by rw [List.getElem?_cons_succ]; exact e1) (by rw [List.getElem?_cons_succ]; exact e2))
      have h2 := h 0 x i rfl rfl
      simp only [List.map_cons, costO, Rows.uptoBulkAll]
      omega
/-- Objects in a cell, and their bulk. -/
theorem objs_fdb {H : Type} {enc : TypeId × Value → H} {W : World} {fuel : Nat} {V : Value} {y : DataW H × List MemPlace}
    (hf : DataW.trod enc Tryd.prog W 0 (fun _ => true) true fuel 22 [V] = some y) :
    ∃ (Ai : Option Addr) (ci : Nat) (l : List ObjV), V = .slice Ai l.length ci ∧ ObjsRd W (fun k => k < W.heap.size) Ai l ∧ costO l ≤ 2 * Rows.uptoBulk y.1 := by
  rcases open_slice_fields Tryd.underlying22 Tryd.underlying47 (by kernel_rfl) (by kernel_rfl) hf with ⟨hcs, _⟩ | ⟨a, n, cap, m, D, Pl, hcs, _, hl, hm, hmm, hx, hc⟩
  · simp at hcs
    subst hcs
    exact ⟨none, 0, [], rfl, fun h => by simp at h, by simp [costO]⟩
  · simp at hcs
    subst hcs
    simp only [if_true] at hmm
    have each : ∀ i, i < n → ∃ h : ObjV, (∃ (As At : Option Addr) (cs ct : Nat), W.cell? (a.add (i * 4)) = some (.string ⟨h.id.toArray⟩) ∧ W.cell? (a.add (i * 4 + 1)) = some (.int .i64 h.size) ∧
        W.cell? (a.add (i * 4 + 2)) = some (.slice As h.share.length cs) ∧ W.cell? (a.add (i * 4 + 3)) = some (.slice At h.tag.length ct) ∧ ObjRd W (fun k => k < W.heap.size) As At h) ∧ h.id.length + h.share.length + h.tag.length + 5 ≤ Rows.uptoBulk (D i) := by
      intro i hi
      obtain ⟨ys, fu, hD, _, hyl, hfld⟩ := hc i (by omega)
      obtain ⟨v0, y0, c0, e0, t0⟩ := hfld 0 _ rfl
      obtain ⟨v1, y1, c1, e1, t1⟩ := hfld 1 _ rfl
      obtain ⟨v2, y2, c2, e2, t2⟩ := hfld 2 _ rfl
      obtain ⟨v3, y3, c3, e3, t3⟩ := hfld 3 _ rfl
      obtain ⟨l, rfl, hb⟩ := str_fdb t0
      obtain ⟨z1, hz1, _⟩ := DataW.trod_int Tryd.underlying3 t1
      simp at hz1
      subst hz1
      obtain ⟨As, cs, l2, rfl, r2, b2⟩ := bytes_fdb t2
      obtain ⟨At, ct, l3, rfl, r3, b3⟩ := bytes_fdb t3
      have hys : ys = [y0, y1, y2, y3] := by
        match ys, hyl, e0, e1, e2, e3 with
        | [u0, u1, u2, u3], _, e0, e1, e2, e3 => simp at e0 e1 e2 e3; rw [e0, e1, e2, e3]
      refine ⟨⟨l, z1, l2, l3⟩, ⟨As, At, cs, ct, c0, c1, c2, c3, ObjRd.of_rd r2 r3⟩, ?_⟩
      rw [hD, hys]
      have := bulk_pos1 y1.1
      simp only [List.map_cons, List.map_nil, Rows.uptoBulk, Rows.uptoBulkAll]
      omega
    obtain ⟨hs, hls, hall⟩ := list_of each
    refine ⟨some a, cap, hs, by rw [hls], fun hn => ⟨a, rfl, ?_, ?_, fun i h hi => ?_⟩, ?_⟩
    · obtain ⟨h0, e0⟩ : ∃ h0, hs[0]? = some h0 := ⟨_, List.getElem?_eq_getElem hn⟩
      obtain ⟨_, _, _, _, q0, _⟩ := (hall 0 h0 e0).1
      have := World.block_lt_of_cell? W _ q0
      rwa [block_of_add] at this
    · obtain ⟨h0, e0⟩ : ∃ h0, hs[0]? = some h0 := ⟨_, List.getElem?_eq_getElem hn⟩
      obtain ⟨_, _, _, _, q0, _⟩ := (hall 0 h0 e0).1
      have := World.block_lt_of_cell? W _ q0
      rwa [block_of_add] at this
    · obtain ⟨⟨As, At, cs, ct, q0, q1, q2, q3, hr⟩, _⟩ := hall i h hi
      rw [next_cell4 _ _ _ (by omega)] at q1 q2 q3
      exact ⟨As, At, cs, ct, q0, q1, q2, q3, hr⟩
    · rw [hx]
      have := objs_bulk D (List.range n) hs (by simp [hls]) (fun k h i e1 e2 => by
        have hk : k < n := by rw [← hls]; exact (List.getElem?_eq_some_iff.1 e1).1
        rw [List.getElem?_range hk] at e2
        injection e2 with e2
        subst e2
        exact (hall k h e1).2)
      simp only [Rows.uptoBulk]
      omega
/-- An object that came in, read. -/
theorem obj_of {H : Type} {enc : TypeId × Value → H} {W : World} {b0 : Nat} {r : Reach} {v : Value} {d : DataW H} {p : List MemPlace} (hv : Value.okWide Tryd.prog W r b0 47 v)
    (h0 : DataW.Trod enc Tryd.prog W 0 (fun _ => true) true 47 v d p) :
    ∃ (o : ObjV) (As At : Option Addr) (cs ct : Nat), v = .agg (objCells o As At cs ct) ∧ ObjRd W (fun k => k < W.heap.size) As At o := by
  obtain ⟨cs, ys, n, rfl, hcl, hyl, rfl, hf⟩ := open_agg_fields Tryd.underlying47 (by kernel_rfl) (by kernel_rfl) hv h0
  obtain ⟨c0, y0, e0, f0, t0⟩ := hf 0 _ rfl
  obtain ⟨c1, y1, e1, f1, t1⟩ := hf 1 _ rfl
  obtain ⟨c2, y2, e2, f2, t2⟩ := hf 2 _ rfl
  obtain ⟨c3, y3, e3, f3, t3⟩ := hf 3 _ rfl
  have hcs : cs = [c0, c1, c2, c3] := by
    clear f0 f1 f2 f3 hf
    match cs, hcl with
    | [_, _, _, _], _ => simp at e0 e1 e2 e3; simp [*]
  obtain ⟨l, rfl, _⟩ := str_fdb t0
  obtain ⟨z1, hz1, _⟩ := DataW.trod_int Tryd.underlying3 t1
  simp at hz1
  subst hz1
  obtain ⟨As, cs, l2, rfl, r2, _⟩ := bytes_fdb t2
  obtain ⟨At, ct, l3, rfl, r3, _⟩ := bytes_fdb t3
  exact ⟨⟨l, z1, l2, l3⟩, As, At, cs, ct, by rw [hcs], ObjRd.of_rd r2 r3⟩
/-- A state that came in, read. -/
theorem state_of {H : Type} {enc : TypeId × Value → H} {W : World} {b0 : Nat} {r : Reach} {v : Value} {d : DataW H} {p : List MemPlace} (hv : Value.okWide Tryd.prog W r b0 26 v)
    (h0 : DataW.Trod enc Tryd.prog W 0 (fun _ => true) true 26 v d p) :
    ∃ (x : StateV) (Ao Ap : Option Addr) (co cp : Nat), v = .agg (stateCells x Ao Ap co cp) ∧ StateRd W (fun k => k < W.heap.size) x Ao Ap ∧ x.cost ≤ 32 + 2 * Rows.uptoBulk d := by
  obtain ⟨cs, ys, n, rfl, hcl, hyl, rfl, hf⟩ := open_agg_any Tryd.underlying26 hv h0
  obtain ⟨y0, f0, t0⟩ := hf 0 _ rfl
  obtain ⟨y1, f1, t1⟩ := hf 1 _ rfl
  obtain ⟨y2, f2, t2⟩ := hf 2 _ rfl
  obtain ⟨y3, f3, t3⟩ := hf 3 _ rfl
  obtain ⟨y4, f4, t4⟩ := hf 4 _ rfl
  have hc8 : cs.length = 8 := hcl.trans (by kernel_rfl)
  obtain ⟨c0, c1, c2, c3, c4, c5, c6, c7, hcs⟩ : ∃ c0 c1 c2 c3 c4 c5 c6 c7, cs = [c0, c1, c2, c3, c4, c5, c6, c7] := by
    match cs, hc8 with
    | [c0, c1, c2, c3, c4, c5, c6, c7], _ => exact ⟨_, _, _, _, _, _, _, _, rfl⟩
  have hys : ys = [y0, y1, y2, y3, y4] := by
    clear hf t0 t1 t2 t3 t4
    match ys, hyl with
    | [_, _, _, _, _], _ => simp at f0 f1 f2 f3 f4; simp [*]
  subst hcs
  have k1 : Tryd.prog.cellsOf 3 = 1 := by kernel_rfl
  have k2 : Tryd.prog.cellsOf 22 = 1 := by kernel_rfl
  have k3 : Tryd.prog.cellsOf 24 = 4 := by kernel_rfl
  change DataW.trod enc Tryd.prog W 0 (fun _ => true) true n 3 (([c0, c1, c2, c3, c4, c5, c6, c7].drop 0).take (Tryd.prog.cellsOf 3)) = some y0 at t0
  rw [k1] at t0
  replace t0 : DataW.trod enc Tryd.prog W 0 (fun _ => true) true n 3 [c0] = some y0 := t0
  change DataW.trod enc Tryd.prog W 0 (fun _ => true) true n 3 (([c0, c1, c2, c3, c4, c5, c6, c7].drop 1).take (Tryd.prog.cellsOf 3)) = some y1 at t1
  rw [k1] at t1
  replace t1 : DataW.trod enc Tryd.prog W 0 (fun _ => true) true n 3 [c1] = some y1 := t1
  change DataW.trod enc Tryd.prog W 0 (fun _ => true) true n 3 (([c0, c1, c2, c3, c4, c5, c6, c7].drop 2).take (Tryd.prog.cellsOf 3)) = some y2 at t2
  rw [k1] at t2
  replace t2 : DataW.trod enc Tryd.prog W 0 (fun _ => true) true n 3 [c2] = some y2 := t2
  change DataW.trod enc Tryd.prog W 0 (fun _ => true) true n 22 (([c0, c1, c2, c3, c4, c5, c6, c7].drop 3).take (Tryd.prog.cellsOf 22)) = some y3 at t3
  rw [k2] at t3
  replace t3 : DataW.trod enc Tryd.prog W 0 (fun _ => true) true n 22 [c3] = some y3 := t3
  change DataW.trod enc Tryd.prog W 0 (fun _ => true) true n 24 (([c0, c1, c2, c3, c4, c5, c6, c7].drop 4).take (Tryd.prog.cellsOf 24)) = some y4 at t4
  rw [k3] at t4
  replace t4 : DataW.trod enc Tryd.prog W 0 (fun _ => true) true n 24 [c4, c5, c6, c7] = some y4 := t4
  obtain ⟨zs, n', _, hz, hzl, hzy, hg⟩ := DataW.trod_struct Tryd.underlying24 t4
  have u0 := hg 0 _ rfl
  have u1 := hg 1 _ rfl
  have u2 := hg 2 _ rfl
  have u3 := hg 3 _ rfl
  obtain ⟨x0, x1, x2, x3, hzs⟩ : ∃ x0 x1 x2 x3, zs = [x0, x1, x2, x3] := by
    match zs, hzy with
    | [x0, x1, x2, x3], _ => exact ⟨_, _, _, _, rfl⟩
  subst hzs
  change DataW.trod enc Tryd.prog W 0 (fun _ => true) true n' 3 (([c4, c5, c6, c7].drop 0).take (Tryd.prog.cellsOf 3)) = some x0 at u0
  rw [k1] at u0
  replace u0 : DataW.trod enc Tryd.prog W 0 (fun _ => true) true n' 3 [c4] = some x0 := u0
  change DataW.trod enc Tryd.prog W 0 (fun _ => true) true n' 3 (([c4, c5, c6, c7].drop 1).take (Tryd.prog.cellsOf 3)) = some x1 at u1
  rw [k1] at u1
  replace u1 : DataW.trod enc Tryd.prog W 0 (fun _ => true) true n' 3 [c5] = some x1 := u1
  change DataW.trod enc Tryd.prog W 0 (fun _ => true) true n' 3 (([c4, c5, c6, c7].drop 2).take (Tryd.prog.cellsOf 3)) = some x2 at u2
  rw [k1] at u2
  replace u2 : DataW.trod enc Tryd.prog W 0 (fun _ => true) true n' 3 [c6] = some x2 := u2
  change DataW.trod enc Tryd.prog W 0 (fun _ => true) true n' 22 (([c4, c5, c6, c7].drop 3).take (Tryd.prog.cellsOf 22)) = some x3 at u3
  rw [k2] at u3
  replace u3 : DataW.trod enc Tryd.prog W 0 (fun _ => true) true n' 22 [c7] = some x3 := u3
  obtain ⟨z0, g0, _⟩ := DataW.trod_int Tryd.underlying3 t0
  obtain ⟨z1, g1, _⟩ := DataW.trod_int Tryd.underlying3 t1
  obtain ⟨z2, g2, _⟩ := DataW.trod_int Tryd.underlying3 t2
  obtain ⟨Ao, co, lo, rfl, ro, bo⟩ := objs_fdb t3
  obtain ⟨z4, g4, _⟩ := DataW.trod_int Tryd.underlying3 u0
  obtain ⟨z5, g5, _⟩ := DataW.trod_int Tryd.underlying3 u1
  obtain ⟨z6, g6, _⟩ := DataW.trod_int Tryd.underlying3 u2
  obtain ⟨Ap, cp, lp, rfl, rp, bp⟩ := objs_fdb u3
  simp at g0 g1 g2 g4 g5 g6
  subst g0 g1 g2 g4 g5 g6
  refine ⟨⟨z0, z1, z2, lo, z4, z5, z6, lp⟩, Ao, Ap, co, cp, rfl, ⟨ro, rp⟩, ?_⟩
  rw [hys]
  have hy4 : Rows.uptoBulk x3.1 ≤ Rows.uptoBulk y4.1 := by
    rw [hz]
    simp only [List.map_cons, List.map_nil, Rows.uptoBulk, Rows.uptoBulkAll]
    omega
  unfold StateV.cost
  simp only [List.map_cons, List.map_nil, Rows.uptoBulk, Rows.uptoBulkAll]
  omega
/-- A book that came in, read. -/
theorem book_of {H : Type} {enc : TypeId × Value → H} {W : World} {b0 : Nat} {r : Reach} {v : Value} {d : DataW H} {p : List MemPlace} (hv : Value.okWide Tryd.prog W r b0 39 v)
    (h0 : DataW.Trod enc Tryd.prog W 0 (fun _ => true) true 39 v d p) :
    ∃ (k : BookV) (Ad Au Ac : Option Addr) (cd cu cc : Nat), v = .agg (bookCells k Ad Au Ac cd cu cc) ∧ BookRd W (fun k => k < W.heap.size) k Ad Au Ac ∧ k.cost ≤ 24 + 4 * Rows.uptoBulk d := by
  obtain ⟨cs, ys, n, rfl, hcl, hyl, rfl, hf⟩ := open_agg_fields Tryd.underlying39 (by kernel_rfl) (by kernel_rfl) hv h0
  obtain ⟨c0, y0, e0, f0, t0⟩ := hf 0 _ rfl
  obtain ⟨c1, y1, e1, f1, t1⟩ := hf 1 _ rfl
  obtain ⟨c2, y2, e2, f2, t2⟩ := hf 2 _ rfl
  obtain ⟨c3, y3, e3, f3, t3⟩ := hf 3 _ rfl
  obtain ⟨c4, y4, e4, f4, t4⟩ := hf 4 _ rfl
  obtain ⟨c5, y5, e5, f5, t5⟩ := hf 5 _ rfl
  have hcs : cs = [c0, c1, c2, c3, c4, c5] := by
    clear f0 f1 f2 f3 f4 f5 hf
    match cs, hcl with
    | [_, _, _, _, _, _], _ => simp at e0 e1 e2 e3 e4 e5; simp [*]
  have hys : ys = [y0, y1, y2, y3, y4, y5] := by
    clear e0 e1 e2 e3 e4 e5 hf hcs
    match ys, hyl with
    | [_, _, _, _, _, _], _ => simp at f0 f1 f2 f3 f4 f5; simp [*]
  clear e0 e1 e2 e3 e4 e5 f0 f1 f2 f3 f4 f5 hf
  obtain ⟨z0, g0, _⟩ := DataW.trod_int Tryd.underlying3 t0
  obtain ⟨z1, g1, _⟩ := DataW.trod_int Tryd.underlying3 t1
  obtain ⟨z2, g2, _⟩ := DataW.trod_int Tryd.underlying3 t2
  obtain ⟨Ad, cd, ld, rfl, rd, bd⟩ := heads_fdb t3
  obtain ⟨Au, cu, lu, rfl, ru, bu⟩ := bools_fdb t4
  obtain ⟨Ac, cc, lc, rfl, rc, bc⟩ := ints_fdb t5
  simp at g0 g1 g2
  subst g0 g1 g2
  refine ⟨⟨z0, z1, z2, ld, lu, lc⟩, Ad, Au, Ac, cd, cu, cc, by rw [hcs], ⟨rd, ru, rc, fun ad e => ?_⟩, ?_⟩
  · rcases e with ⟨e, h⟩ | ⟨e, h⟩ | ⟨e, h⟩
    · obtain ⟨ad', e', hb, _⟩ := rd h
      have e2 : ad = ad' := Option.some.inj (e.symm.trans e')
      rw [e2]; exact hb
    · obtain ⟨ad', e', hb, _⟩ := ru.2 h
      have e2 : ad = ad' := Option.some.inj (e.symm.trans e')
      rw [e2]; exact hb
    · obtain ⟨ad', e', hb, _⟩ := rc.2 h
      have e2 : ad = ad' := Option.some.inj (e.symm.trans e')
      rw [e2]; exact hb
  · rw [hys]
    unfold BookV.cost
    simp only [List.map_cons, List.map_nil, Rows.uptoBulk, Rows.uptoBulkAll]
    omega
end Go.Proofs.YtinkclcdpcjnfaaDoor
