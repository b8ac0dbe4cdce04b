/- What a row hands a law of a list of net's calls. No conditions. Printed by mkclosen.py. -/
import Derived.Test.YtoekmgpnmhknoaaCloseL
import Derived.Test.YtoekmgpnmhknoaaNet6
namespace Go.Proofs.Ytoekmgpnmhknoaa
open Go.ChangeShapes Go.WideShapes Go.ChangeAt Go.RowKit Go.Deep
theorem open_cells_fields {H : Type} {enc : TypeId × Value → H} {P : Program} {w : World} {base : Nat} {spare : Nat → Bool} {held : Bool} {t : TypeId} {fs : Array Field} {fuel : Nat} {cs : List Value} {x : DataW H × List MemPlace} (hs : P.underlying t = some (.struct fs)) (hone : oneCellFields P fs = true) (hC : P.cellsOf t = fs.size)
    (h : DataW.trod enc P w base spare held fuel t cs = some x) :
    ∃ (ys : List (DataW H × List MemPlace)) (n : Nat), cs.length = fs.size ∧ ys.length = fs.size ∧ x.1 = .agg (ys.map (·.1)) ∧
      ∀ (j : Nat) (f : Field), fs[j]? = some f → ∃ (c : Value) (y : DataW H × List MemPlace), cs[j]? = some c ∧ ys[j]? = some y ∧ DataW.trod enc P w base spare held n f.type [c] = some y := by
  obtain ⟨ys, n, _, rfl, hlen, hyl, hg⟩ := DataW.trod_struct hs h
  refine ⟨ys, n, hlen.trans hC, hyl, rfl, fun j f hj => ?_⟩
  obtain ⟨ho, hk⟩ := hone_of hone j f hj
  have hjl : j < fs.size := (Array.getElem?_eq_some_iff.1 hj).1
  have h1 := hg j f hj
  have hjc : j < cs.length := by rw [hlen, hC]; exact hjl
  have hv : cs[j]? = some cs[j] := List.getElem?_eq_getElem hjc
  have hys : ys[j]? = some (ys[j]'(by omega)) := List.getElem?_eq_getElem (by omega)
  refine ⟨_, _, hv, hys, ?_⟩
  rw [ho, hk] at h1
  have hone' : (cs.drop j).take 1 = [cs[j]] := by
    rw [List.drop_eq_getElem_cons hjc]
    rfl
  rw [hone'] at h1
  exact h1.trans hys
/-- A message's cells, read. -/
theorem msg_fdb {H : Type} {enc : TypeId × Value → H} {W : World} {fuel : Nat} {cs : List Value} {y : DataW H × List MemPlace}
    (hfd : DataW.trod enc Try.prog W 0 (fun _ => true) true fuel 31 cs = some y) :
    ∃ p : MsgP, cs = p.cells ∧ p.Rd W W.heap.size ∧ p.m.cost ≤ 60 + 4 * Rows.uptoBulk y.1 := by
  obtain ⟨ys, n, hcl, hyl, hy, hf⟩ := open_cells_fields Try.underlying31 (by kernel_rfl) (by kernel_rfl) hfd
  obtain ⟨c0, y0, e0, f0, t0⟩ := hf 0 _ rfl
  obtain ⟨c1, y1, e1, f1, t1⟩ := hf 1 _ rfl
  obtain ⟨c2, y2, e2, f2, t2⟩ := hf 2 _ rfl
  obtain ⟨c3, y3, e3, f3, t3⟩ := hf 3 _ rfl
  obtain ⟨c4, y4, e4, f4, t4⟩ := hf 4 _ rfl
  obtain ⟨c5, y5, e5, f5, t5⟩ := hf 5 _ rfl
  obtain ⟨c6, y6, e6, f6, t6⟩ := hf 6 _ rfl
  obtain ⟨c7, y7, e7, f7, t7⟩ := hf 7 _ rfl
  obtain ⟨c8, y8, e8, f8, t8⟩ := hf 8 _ rfl
  obtain ⟨c9, y9, e9, f9, t9⟩ := hf 9 _ rfl
  obtain ⟨c10, y10, e10, f10, t10⟩ := hf 10 _ rfl
  obtain ⟨c11, y11, e11, f11, t11⟩ := hf 11 _ rfl
  obtain ⟨c12, y12, e12, f12, t12⟩ := hf 12 _ rfl
  obtain ⟨c13, y13, e13, f13, t13⟩ := hf 13 _ rfl
  obtain ⟨c14, y14, e14, f14, t14⟩ := hf 14 _ rfl
  obtain ⟨c15, y15, e15, f15, t15⟩ := hf 15 _ rfl
  have hcs : cs = [c0, c1, c2, c3, c4, c5, c6, c7, c8, c9, c10, c11, c12, c13, c14, c15] := by
    clear f0 f1 f2 f3 f4 f5 f6 f7 f8 f9 f10 f11 f12 f13 f14 f15 hf
    match cs, hcl with
    | [_, _, _, _, _, _, _, _, _, _, _, _, _, _, _, _], _ => simp at e0 e1 e2 e3 e4 e5 e6 e7 e8 e9 e10 e11 e12 e13 e14 e15; simp [*]
  have hys : ys = [y0, y1, y2, y3, y4, y5, y6, y7, y8, y9, y10, y11, y12, y13, y14, y15] := by
    clear e0 e1 e2 e3 e4 e5 e6 e7 e8 e9 e10 e11 e12 e13 e14 e15 hf hcs
    match ys, hyl with
    | [_, _, _, _, _, _, _, _, _, _, _, _, _, _, _, _], _ => simp at f0 f1 f2 f3 f4 f5 f6 f7 f8 f9 f10 f11 f12 f13 f14 f15; simp [*]
  clear e0 e1 e2 e3 e4 e5 e6 e7 e8 e9 e10 e11 e12 e13 e14 e15 f0 f1 f2 f3 f4 f5 f6 f7 f8 f9 f10 f11 f12 f13 f14 f15 hf
  obtain ⟨z0, g0, _⟩ := DataW.trod_int Try.underlying3 t0
  obtain ⟨z1, g1, _⟩ := DataW.trod_int Try.underlying3 t1
  obtain ⟨z2, g2, _⟩ := DataW.trod_int Try.underlying3 t2
  obtain ⟨z3, g3, _⟩ := DataW.trod_int Try.underlying3 t3
  obtain ⟨z4, g4, _⟩ := DataW.trod_int Try.underlying3 t4
  obtain ⟨z5, g5, _⟩ := DataW.trod_int Try.underlying3 t5
  obtain ⟨z6, g6, _⟩ := DataW.trod_int Try.underlying3 t6
  obtain ⟨z9, g9, _⟩ := DataW.trod_int Try.underlying3 t9
  obtain ⟨z10, g10, _⟩ := DataW.trod_int Try.underlying3 t10
  obtain ⟨z11, g11, _⟩ := DataW.trod_int Try.underlying3 t11
  obtain ⟨z14, g14, _⟩ := DataW.trod_int Try.underlying28 t14
  obtain ⟨Ah, ch, lh, rfl, rh, bh⟩ := heads_fdb t7
  obtain ⟨li, rfl, bi⟩ := str_fdb t8
  obtain ⟨Ad, cd, ld, rfl, rd, bd⟩ := ints_fdb t12
  obtain ⟨Ap, cp, lp, rfl, rp, bp⟩ := ints_fdb t13
  obtain ⟨Ax, cx, lx, rfl, rx, bx⟩ := bytes_fdb t15
  simp at g0 g1 g2 g3 g4 g5 g6 g9 g10 g11 g14
  subst g0 g1 g2 g3 g4 g5 g6 g9 g10 g11 g14
  refine ⟨⟨⟨z0, z1, z2, z3, z4, z5, z6, lh, li, z9, z10, z11, ld, lp, z14, lx⟩, Ah, Ad, Ap, Ax, ch, cd, cp, cx⟩, hcs, ⟨rh, rd, rp, rx⟩, ?_⟩
  rw [hy, hys]
  unfold MsgV.cost
  simp only [List.map_cons, List.map_nil, Rows.uptoBulk, Rows.uptoBulkAll]
  omega
theorem cells_op : Try.prog.cellsOf 33 = 18 := by kernel_rfl
theorem cells_msg : Try.prog.cellsOf 31 = 16 := by kernel_rfl
theorem cut18 (cs : List Value) (h : cs.length = 18) : cs = (cs.drop 0).take 1 ++ ((cs.drop 1).take 1 ++ (cs.drop 2).take 16) := by
  match cs, h with
  | [_, _, _, _, _, _, _, _, _, _, _, _, _, _, _, _, _, _], _ => rfl
/-- One call's cells, read. -/
theorem op_fdb {H : Type} {enc : TypeId × Value → H} {W : World} {fuel : Nat} {cs : List Value} {y : DataW H × List MemPlace}
    (hfd : DataW.trod enc Try.prog W 0 (fun _ => true) true fuel 33 cs = some y) :
    ∃ o : OpN, cs = o.arr.toList ∧ o.p.Rd W W.heap.size ∧ o.p.m.cost ≤ 60 + 4 * Rows.uptoBulk y.1 := by
  obtain ⟨xs, n, _, rfl, hl, hlen, hf⟩ := DataW.trod_struct Try.underlying33 hfd
  rw [cells_op] at hl
  match xs, hlen with
  | [y0, y1, y2], _ =>
    have t0 : DataW.trod enc Try.prog W 0 (fun _ => true) true n 3 ((cs.drop 0).take (Try.prog.cellsOf 3)) = some y0 := hf 0 _ rfl
    rw [cells64] at t0
    have t1 : DataW.trod enc Try.prog W 0 (fun _ => true) true n 3 ((cs.drop 1).take (Try.prog.cellsOf 3)) = some y1 := hf 1 _ rfl
    rw [cells64] at t1
    have t2 : DataW.trod enc Try.prog W 0 (fun _ => true) true n 31 ((cs.drop 2).take (Try.prog.cellsOf 31)) = some y2 := hf 2 _ rfl
    rw [cells_msg] at t2
    obtain ⟨z0, g0, _⟩ := DataW.trod_int Try.underlying3 t0
    obtain ⟨z1, g1, _⟩ := DataW.trod_int Try.underlying3 t1
    obtain ⟨p, g2, hr, hc⟩ := msg_fdb t2
    refine ⟨⟨z0, z1, p⟩, ?_, hr, ?_⟩
    · rw [cut18 cs hl, g0, g1, g2]
      rfl
    · simp only [List.map_cons, List.map_nil, Rows.uptoBulk, Rows.uptoBulkAll]
      omega
/-- Calls in a cell, and their bulk. -/
theorem opsn_fdb {H : Type} {enc : TypeId × Value → H} {W : World} {fuel : Nat} {V : Value} {y : DataW H × List MemPlace}
    (hf : DataW.trod enc Try.prog W 0 (fun _ => true) true fuel 22 [V] = some y) :
    ∃ (Ai : Option Addr) (ci : Nat) (os : List OpN), V = .slice Ai os.length ci ∧ OpNsRd W W.heap.size Ai os ∧ (∀ o ∈ os, o.p.m.cost ≤ 60 + 4 * Rows.uptoBulk y.1) ∧ os.length ≤ Rows.uptoBulk y.1 := by
  rcases open_slice Try.underlying22 hf with ⟨hcs, _⟩ | ⟨a, n, cap, m, fu, D, Pl, hcs, _, hl, hm, hmm, hx, hc⟩
  · simp at hcs
    subst hcs
    exact ⟨none, 0, [], rfl, ⟨fun hp => absurd hp (by simp), fun o ho => absurd ho (by simp)⟩, fun o ho => absurd ho (by simp), Nat.zero_le _⟩
  · simp at hcs
    subst hcs
    simp only [if_true] at hmm
    have each : ∀ i, i < n → ∃ o : OpN, ((∀ k v, o.arr.toList[k]? = some v → W.cell? ((a.add (i * 18)).add k) = some v) ∧ o.p.Rd W W.heap.size) ∧ o.p.m.cost ≤ 60 + 4 * Rows.uptoBulk (D i) := by
      intro i hi
      obtain ⟨cs', hc1, ht⟩ := hc i (by omega)
      rw [cells_op] at hc1
      obtain ⟨_, hcl, hat⟩ := World.cells?_some hc1
      obtain ⟨o, rfl, hr, hco⟩ := op_fdb ht
      refine ⟨o, ⟨fun k v hk => ?_, hr⟩, hco⟩
      have hk2 : k < 18 := by have := (List.getElem?_eq_some_iff.1 hk).1; omega
      rw [hat k hk2, hk]
    obtain ⟨hs, hls, hall⟩ := list_of each
    have hxx : ∀ i, i < n → Rows.uptoBulk (D i) ≤ Rows.uptoBulk y.1 := fun i hi => by
      rw [hx]
      have h1 := bulk_mem (x := D i) (l := (List.range n).map D) (List.mem_map.2 ⟨i, List.mem_range.2 hi, rfl⟩)
      simp only [Rows.uptoBulk]
      omega
    refine ⟨some a, cap, hs, by rw [hls], ⟨fun hn => ⟨a, rfl, ?_, fun i o ho => (hall i o ho).1.1⟩, fun o ho => ?_⟩, fun o ho => ?_, ?_⟩
    · obtain ⟨h0, e0⟩ : ∃ h0, hs[0]? = some h0 := ⟨_, List.getElem?_eq_getElem hn⟩
      have h1 := (hall 0 h0 e0).1.1 0 (.int .i64 h0.k) rfl
      have := World.block_lt_of_cell? W _ h1
      rwa [block_of_add, block_of_add] at this
    · obtain ⟨i, hi, e⟩ := List.mem_iff_getElem.1 ho
      exact (hall i o (by rw [List.getElem?_eq_getElem hi, e])).1.2
    · obtain ⟨i, hi, e⟩ := List.mem_iff_getElem.1 ho
      have h1 := (hall i o (by rw [List.getElem?_eq_getElem hi, e])).2
      have h2 := hxx i (by omega)
      omega
    · rw [hx, hls]
      have h1 := bulk_len1 ((List.range n).map D)
      rw [List.length_map, List.length_range] at h1
      simp only [Rows.uptoBulk]
      omega
end Go.Proofs.Ytoekmgpnmhknoaa
