/- What a row hands a law of messages: a message, field by field, and what the bound says of it. No conditions. -/
import Derived.Test.YtoekmgpnmhknoaaCloseS
import Derived.Test.YtoekmgpnmhknoaaWire2
namespace Go.Proofs.Ytoekmgpnmhknoaa
open Go.ChangeShapes Go.WideShapes Go.ChangeAt Go.RowKit Go.Deep
section
variable {H : Type} {enc : TypeId × Value → H} {P : Program} {w : World} {base : Nat} {spare : Nat → Bool} {held : Bool}
/-- A struct of one-cell fields, by value. -/
theorem open_agg_fields {r : Reach} {b0 : Nat} {t : TypeId} {fs : Array Field} {v : Value} {d : DataW H} {p : List MemPlace} (hs : P.underlying t = some (.struct fs)) (hone : oneCellFields P fs = true) (hC : P.cellsOf t = fs.size)
    (hv : Value.okWide P w r b0 t v) (h : DataW.Trod enc P w base spare held t v d p) :
    ∃ (cs : List Value) (ys : List (DataW H × List MemPlace)) (n : Nat), v = .agg cs.toArray ∧ cs.length = fs.size ∧ ys.length = fs.size ∧ d = .agg (ys.map (·.1)) ∧
      ∀ (j : Nat) (f : Field), fs[j]? = some f → ∃ (c : Value) (y : DataW H × List MemPlace), cs[j]? = some c ∧ ys[j]? = some y ∧ DataW.trod enc P w base spare held n f.type [c] = some y := by
  obtain ⟨cs, rfl, hsz⟩ := okWide_struct hs hv
  obtain ⟨fuel, hf⟩ := h
  obtain ⟨ys, n, _, hy, hlen, hyl, hg⟩ := DataW.trod_struct hs hf
  simp only [Prod.mk.injEq] at hy
  refine ⟨cs.toList, ys, n, by simp, by simp only [Array.length_toList]; rw [hsz, hC], hyl, hy.1, fun j f hj => ?_⟩
  obtain ⟨ho, hk⟩ := hone_of hone j f hj
  have hjl : j < fs.size := (Array.getElem?_eq_some_iff.1 hj).1
  have h1 := hg j f hj
  have hjc : j < cs.toList.length := by simp only [Array.length_toList]; rw [hsz, hC]; exact hjl
  have hv : cs.toList[j]? = some cs.toList[j] := List.getElem?_eq_getElem hjc
  have hys : ys[j]? = some (ys[j]'(by omega)) := List.getElem?_eq_getElem (by omega)
  refine ⟨_, _, hv, hys, ?_⟩
  rw [ho, hk] at h1
  have hone' : ((Value.agg cs).cells.toList.drop j).take 1 = [cs.toList[j]] := by
    show (cs.toList.drop j).take 1 = _
    rw [List.drop_eq_getElem_cons hjc]
    rfl
  rw [hone'] at h1
  exact h1.trans hys
end
theorem next_cell2 (ad : Addr) (i : Nat) : ad.add (i * 2 + 1) = ⟨(ad.add (i * 2)).block, (ad.add (i * 2)).off + 1, none⟩ := by
  unfold Addr.add
  rw [if_neg (by omega)]
  split
  · next h => rw [h]
  · simp [Nat.add_assoc]
theorem bulk_pos1 {H : Type} (d : DataW H) : 1 ≤ Rows.uptoBulk d := by
  cases d with
  | lit l => cases l <;> simp [Rows.uptoBulk]
  | _ => simp [Rows.uptoBulk]
theorem bulk_len1 {H : Type} (l : List (DataW H)) : l.length ≤ Rows.uptoBulkAll l := by
  induction l with
  | nil => simp [Rows.uptoBulkAll]
  | cons x r ih => have := bulk_pos1 x; simp only [Rows.uptoBulkAll, List.length_cons]; omega
/-- Bytes in a cell, and their bulk. -/
theorem bytes_fdb {H : Type} {enc : TypeId × Value → H} {W : World} {fuel : Nat} {V : Value} {y : DataW H × List MemPlace}
    (hf : DataW.trod enc Try.prog W 0 (fun _ => true) true fuel 29 [V] = some y) :
    ∃ (Ai : Option Addr) (ci : Nat) (l : List UInt8), V = .slice Ai l.length ci ∧ Rd W W.heap.size Ai l.length l ∧ l.length + 1 ≤ Rows.uptoBulk y.1 := by
  obtain ⟨Ai, ci, l, rfl, hr⟩ := bytes_fd hf
  refine ⟨Ai, ci, l, rfl, hr, ?_⟩
  rcases open_ints Try.underlying29 Try.underlying5 cells8 hf with ⟨hcs, hx⟩ | ⟨a, n, cap, zs, hcs, _, hl, hm, hz, hx, hcell, hwz⟩
  · have hl0 : l.length = 0 := by simp at hcs; simp [hcs]
    have := bulk_pos1 y.1
    omega
  · simp at hcs
    subst hx
    have h1 := bulk_len1 (lits (H := H) .u8 (zs.take n))
    simp only [if_true] at hz
    simp only [lits, List.length_map, List.length_take] at h1
    simp only [Rows.uptoBulk, lits]
    omega
theorem cells64 : Try.prog.cellsOf 3 = 1 := by kernel_rfl
/-- Numbers in a cell, and their bulk. -/
theorem ints_fdb {H : Type} {enc : TypeId × Value → H} {W : World} {fuel : Nat} {V : Value} {y : DataW H × List MemPlace}
    (hf : DataW.trod enc Try.prog W 0 (fun _ => true) true fuel 27 [V] = some y) :
    ∃ (Ai : Option Addr) (ci : Nat) (l : List Int), V = .slice Ai l.length ci ∧ Reads W W.heap.size 1 Ai l.length (l.map (Value.int .i64)) ∧ l.length + 1 ≤ Rows.uptoBulk y.1 := by
  rcases open_ints Try.underlying27 Try.underlying3 cells64 hf with ⟨hcs, hx⟩ | ⟨a, n, cap, zs, hcs, _, hl, hm, hz, hx, hcell, hwz⟩
  · simp at hcs
    subst hcs
    exact ⟨none, 0, [], rfl, ⟨rfl, fun h => by simp at h⟩, bulk_pos1 y.1⟩
  · simp at hcs
    subst hcs
    subst hx
    simp only [if_true] at hz
    refine ⟨some a, cap, zs.take n, by congr; simp; omega, ⟨by simp, fun hn => ⟨a, rfl, ?_, fun j u hu => ?_⟩⟩, ?_⟩
    · have h0 : 0 < zs.length := by simp at hn; omega
      have := World.block_lt_of_cell? W _ (hcell 0 h0)
      rwa [block_of_add] at this
    · rw [List.getElem?_map] at hu
      rcases hj : (zs.take n)[j]? with _ | z
      · rw [hj] at hu; cases hu
      · rw [hj] at hu
        have hjn : j < n := by have := (List.getElem?_eq_some_iff.1 hj).1; simp at this; omega
        rw [List.getElem?_take, if_pos hjn] at hj
        have hjz := (List.getElem?_eq_some_iff.1 hj).1
        have hz0 := hcell j hjz
        rw [List.getD_eq_getElem?_getD, hj] at hz0
        rw [hz0, ← hu]
        rfl
    · have h1 := bulk_len1 (lits (H := H) .i64 (zs.take n))
      simp only [lits, List.length_map, List.length_take] at h1
      simp only [Rows.uptoBulk, lits, List.length_take]
      omega
/-- A string in a cell, and its bulk. -/
theorem str_fdb {H : Type} {enc : TypeId × Value → H} {W : World} {fuel : Nat} {V : Value} {y : DataW H × List MemPlace}
    (hf : DataW.trod enc Try.prog W 0 (fun _ => true) true fuel 9 [V] = some y) : ∃ l : List UInt8, V = .string ⟨l.toArray⟩ ∧ l.length + 1 = Rows.uptoBulk y.1 := by
  obtain ⟨s, hcs, rfl, _⟩ := DataW.trod_string Try.underlying9 hf
  simp at hcs
  subst hcs
  exact ⟨s.data.toList, by simp, by simp [Rows.uptoBulk]⟩
theorem heads_bulk {H : Type} (D : Nat → DataW H) : ∀ (is : List Nat) (hs : List HeadV), hs.length = is.length → (∀ (k : Nat) (h : HeadV) (i : Nat), hs[k]? = some h → is[k]? = some i → h.id.length + 3 ≤ Rows.uptoBulk (D i)) → costH hs ≤ 2 * Rows.uptoBulkAll (is.map D) := by
  intro is
  induction is with
  | nil => intro hs hl _; cases hs with
    | nil => simp [costH]
    | cons x r => simp at hl
  | cons i is ih =>
    intro hs hl h
    cases hs with
    | nil => simp at hl
    | cons x r =>
      have h1 := ih r (by simpa using hl) (fun k h' i' e1 e2 => h (k + 1) h' i' (by rw [List.getElem?_cons_succ]; exact e1) (by rw [List.getElem?_cons_succ]; exact e2))
      have h2 := h 0 x i rfl rfl
      simp only [List.map_cons, costH, Rows.uptoBulkAll]
      omega
/-- Heads in a cell, and their bulk. -/
theorem heads_fdb {H : Type} {enc : TypeId × Value → H} {W : World} {fuel : Nat} {V : Value} {y : DataW H × List MemPlace}
    (hf : DataW.trod enc Try.prog W 0 (fun _ => true) true fuel 26 [V] = some y) :
    ∃ (Ai : Option Addr) (ci : Nat) (l : List HeadV), V = .slice Ai l.length ci ∧ HeadsRd W W.heap.size Ai l ∧ costH l ≤ 2 * Rows.uptoBulk y.1 := by
  rcases open_slice_fields Try.underlying26 Try.underlying45 (by kernel_rfl) (by kernel_rfl) hf with ⟨hcs, _⟩ | ⟨a, n, cap, m, D, Pl, hcs, _, hl, hm, hmm, hx, hc⟩
  · simp at hcs
    subst hcs
    exact ⟨none, 0, [], rfl, fun h => by simp at h, by simp [costH]⟩
  · simp at hcs
    subst hcs
    simp only [if_true] at hmm
    have each : ∀ i, i < n → ∃ h : HeadV, (W.cell? (a.add (i * 2)) = some (.string ⟨h.id.toArray⟩) ∧ W.cell? (a.add (i * 2 + 1)) = some (.int .i64 h.size)) ∧ h.id.length + 3 ≤ Rows.uptoBulk (D i) := by
      intro i hi
      obtain ⟨ys, fu, hD, _, hyl, hfld⟩ := hc i (by omega)
      obtain ⟨v0, y0, c0, e0, t0⟩ := hfld 0 _ rfl
      obtain ⟨v1, y1, c1, e1, t1⟩ := hfld 1 _ rfl
      obtain ⟨l, rfl, hb⟩ := str_fdb t0
      obtain ⟨z1, hz1, _⟩ := DataW.trod_int Try.underlying3 t1
      simp at hz1
      subst hz1
      have hys : ys = [y0, y1] := by
        match ys, hyl, e0, e1 with
        | [u0, u1], _, e0, e1 => simp at e0 e1; rw [e0, e1]
      refine ⟨⟨l, z1⟩, ⟨c0, c1⟩, ?_⟩
      rw [hD, hys]
      have := bulk_pos1 y1.1
      simp only [List.map_cons, List.map_nil, Rows.uptoBulk, Rows.uptoBulkAll]
      omega
    obtain ⟨hs, hls, hall⟩ := list_of each
    refine ⟨some a, cap, hs, by rw [hls], fun hn => ⟨a, rfl, ?_, fun i h hi => ?_⟩, ?_⟩
    · obtain ⟨h0, e0⟩ : ∃ h0, hs[0]? = some h0 := ⟨_, List.getElem?_eq_getElem hn⟩
      have := World.block_lt_of_cell? W _ (hall 0 h0 e0).1.1
      rwa [block_of_add] at this
    · obtain ⟨⟨h1, h2⟩, _⟩ := hall i h hi
      refine ⟨h1, ?_⟩
      rw [← next_cell2]
      exact h2
    · rw [hx]
      have := heads_bulk D (List.range n) hs (by simp [hls]) (fun k h i e1 e2 => by
        have hk : k < n := by rw [← hls]; exact (List.getElem?_eq_some_iff.1 e1).1
        rw [List.getElem?_range hk] at e2
        injection e2 with e2
        subst e2
        exact (hall k h e1).2)
      simp only [Rows.uptoBulk]
      omega
/-- A message that came in, read. -/
theorem msg_of {H : Type} {enc : TypeId × Value → H} {W : World} {b0 : Nat} {r : Reach} {v : Value} {d : DataW H} {p : List MemPlace} (hv : Value.okWide Try.prog W r b0 31 v)
    (h0 : DataW.Trod enc Try.prog W 0 (fun _ => true) true 31 v d p) :
    ∃ (m : MsgV) (Ah Ad Ap Ax : Option Addr) (ch cd cp cx : Nat), v = .agg (msgCells m Ah Ad Ap Ax ch cd cp cx) ∧ MsgRd W W.heap.size m Ah Ad Ap Ax ∧ m.cost ≤ 60 + 4 * Rows.uptoBulk d := by
  obtain ⟨cs, ys, n, rfl, hcl, hyl, rfl, hf⟩ := open_agg_fields Try.underlying31 (by kernel_rfl) (by kernel_rfl) hv h0
  obtain ⟨c0, y0, e0, f0, t0⟩ := hf 0 _ rfl
  obtain ⟨c1, y1, e1, f1, t1⟩ := hf 1 _ rfl
  obtain ⟨c2, y2, e2, f2, t2⟩ := hf 2 _ rfl
  obtain ⟨c3, y3, e3, f3, t3⟩ := hf 3 _ rfl
  obtain ⟨c4, y4, e4, f4, t4⟩ := hf 4 _ rfl
  obtain ⟨c5, y5, e5, f5, t5⟩ := hf 5 _ rfl
  obtain ⟨c6, y6, e6, f6, t6⟩ := hf 6 _ rfl
  obtain ⟨c7, y7, e7, f7, t7⟩ := hf 7 _ rfl
  obtain ⟨c8, y8, e8, f8, t8⟩ := hf 8 _ rfl
  obtain ⟨c9, y9, e9, f9, t9⟩ := hf 9 _ rfl
  obtain ⟨c10, y10, e10, f10, t10⟩ := hf 10 _ rfl
  obtain ⟨c11, y11, e11, f11, t11⟩ := hf 11 _ rfl
  obtain ⟨c12, y12, e12, f12, t12⟩ := hf 12 _ rfl
  obtain ⟨c13, y13, e13, f13, t13⟩ := hf 13 _ rfl
  obtain ⟨c14, y14, e14, f14, t14⟩ := hf 14 _ rfl
  obtain ⟨c15, y15, e15, f15, t15⟩ := hf 15 _ rfl
  have hcs : cs = [c0, c1, c2, c3, c4, c5, c6, c7, c8, c9, c10, c11, c12, c13, c14, c15] := by
    clear f0 f1 f2 f3 f4 f5 f6 f7 f8 f9 f10 f11 f12 f13 f14 f15 hf
    match cs, hcl with
    | [_, _, _, _, _, _, _, _, _, _, _, _, _, _, _, _], _ => simp at e0 e1 e2 e3 e4 e5 e6 e7 e8 e9 e10 e11 e12 e13 e14 e15; simp [*]
  have hys : ys = [y0, y1, y2, y3, y4, y5, y6, y7, y8, y9, y10, y11, y12, y13, y14, y15] := by
    clear e0 e1 e2 e3 e4 e5 e6 e7 e8 e9 e10 e11 e12 e13 e14 e15 hf hcs
    match ys, hyl with
    | [_, _, _, _, _, _, _, _, _, _, _, _, _, _, _, _], _ => simp at f0 f1 f2 f3 f4 f5 f6 f7 f8 f9 f10 f11 f12 f13 f14 f15; simp [*]
  clear e0 e1 e2 e3 e4 e5 e6 e7 e8 e9 e10 e11 e12 e13 e14 e15 f0 f1 f2 f3 f4 f5 f6 f7 f8 f9 f10 f11 f12 f13 f14 f15 hf
  obtain ⟨z0, g0, _⟩ := DataW.trod_int Try.underlying3 t0
  obtain ⟨z1, g1, _⟩ := DataW.trod_int Try.underlying3 t1
  obtain ⟨z2, g2, _⟩ := DataW.trod_int Try.underlying3 t2
  obtain ⟨z3, g3, _⟩ := DataW.trod_int Try.underlying3 t3
  obtain ⟨z4, g4, _⟩ := DataW.trod_int Try.underlying3 t4
  obtain ⟨z5, g5, _⟩ := DataW.trod_int Try.underlying3 t5
  obtain ⟨z6, g6, _⟩ := DataW.trod_int Try.underlying3 t6
  obtain ⟨Ah, ch, lh, rfl, rh, bh⟩ := heads_fdb t7
  obtain ⟨li, rfl, bi⟩ := str_fdb t8
  obtain ⟨z9, g9, _⟩ := DataW.trod_int Try.underlying3 t9
  obtain ⟨z10, g10, _⟩ := DataW.trod_int Try.underlying3 t10
  obtain ⟨z11, g11, _⟩ := DataW.trod_int Try.underlying3 t11
  obtain ⟨Ad, cd, ld, rfl, rd, bd⟩ := ints_fdb t12
  obtain ⟨Ap, cp, lp, rfl, rp, bp⟩ := ints_fdb t13
  obtain ⟨z14, g14, _⟩ := DataW.trod_int Try.underlying28 t14
  obtain ⟨Ax, cx, lx, rfl, rx, bx⟩ := bytes_fdb t15
  simp at g0 g1 g2 g3 g4 g5 g6 g9 g10 g11 g14
  subst g0 g1 g2 g3 g4 g5 g6 g9 g10 g11 g14
  refine ⟨⟨z0, z1, z2, z3, z4, z5, z6, lh, li, z9, z10, z11, ld, lp, z14, lx⟩, Ah, Ad, Ap, Ax, ch, cd, cp, cx, by rw [hcs], ⟨rh, rd, rp, rx⟩, ?_⟩
  rw [hys]
  unfold MsgV.cost
  simp only [List.map_cons, List.map_nil, Rows.uptoBulk, Rows.uptoBulkAll]
  omega
end Go.Proofs.Ytoekmgpnmhknoaa
