/- What a row hands a law of a list of messages. No conditions. Printed (the sixteen fields) by a small program. -/
import Derived.Test.YtoekmgpnmhknoaaCloseM
import Derived.Test.YtoekmgpnmhknoaaNet5
namespace Go.Proofs.Ytoekmgpnmhknoaa
open Go.ChangeShapes Go.WideShapes Go.ChangeAt Go.RowKit Go.Deep
theorem bulk_mem {H : Type} {x : DataW H} : ∀ {l : List (DataW H)}, x ∈ l → Rows.uptoBulk x ≤ Rows.uptoBulkAll l := by
  intro l
  induction l with
  | nil => intro h; cases h
  | cons y r ih =>
    intro h
    simp only [Rows.uptoBulkAll]
    rcases List.mem_cons.1 h with rfl | h
    · omega
    · have := ih h; omega
theorem msgsC_get (ps : List MsgP) : ∀ (j : Nat) (u : Value), (msgsC ps)[j]? = some u → ∃ i p k, ps[i]? = some p ∧ j = i * 16 + k ∧ p.cells[k]? = some u := by
  induction ps with
  | nil => intro j u h; simp at h
  | cons x r ih =>
    intro j u h
    rw [msgsC_cons] at h
    by_cases hj : j < 16
    · rw [List.getElem?_append_left (by rw [MsgP.cells_len]; exact hj)] at h
      exact ⟨0, x, j, rfl, by omega, h⟩
    · rw [List.getElem?_append_right (by rw [MsgP.cells_len]; omega), MsgP.cells_len] at h
      obtain ⟨i, p, k, h1, h2, h3⟩ := ih _ _ h
      exact ⟨i + 1, p, k, h1, by omega, h3⟩
/-- Messages in a cell, and their bulk. -/
theorem msgs_fdb {H : Type} {enc : TypeId × Value → H} {W : World} {fuel : Nat} {V : Value} {y : DataW H × List MemPlace}
    (hf : DataW.trod enc Try.prog W 0 (fun _ => true) true fuel 25 [V] = some y) :
    ∃ (Ai : Option Addr) (ci : Nat) (ps : List MsgP), V = .slice Ai ps.length ci ∧ MsgsRd W W.heap.size Ai ps ∧ (∀ p ∈ ps, p.m.cost ≤ 60 + 4 * Rows.uptoBulk y.1) ∧ ps.length ≤ Rows.uptoBulk y.1 := by
  rcases open_slice_fields Try.underlying25 Try.underlying31 (by kernel_rfl) (by kernel_rfl) hf with ⟨hcs, _⟩ | ⟨a, n, cap, m, D, Pl, hcs, _, hl, hm, hmm, hx, hc⟩
  · simp at hcs
    subst hcs
    exact ⟨none, 0, [], rfl, ⟨Reads.none_, fun p hp => absurd hp (by simp)⟩, fun p hp => absurd hp (by simp), Nat.zero_le _⟩
  · simp at hcs
    subst hcs
    simp only [if_true] at hmm
    have each : ∀ i, i < n → ∃ p : MsgP, ((∀ k v, p.cells[k]? = some v → W.cell? (a.add (i * 16 + k)) = some v) ∧ p.Rd W W.heap.size) ∧ p.m.cost ≤ 60 + 4 * Rows.uptoBulk (D i) := by
      intro i hi
      obtain ⟨ys, fu, hD, _, hyl, hfld⟩ := hc i (by omega)
      obtain ⟨v0, y0, c0, e0, t0⟩ := hfld 0 _ rfl
      obtain ⟨v1, y1, c1, e1, t1⟩ := hfld 1 _ rfl
      obtain ⟨v2, y2, c2, e2, t2⟩ := hfld 2 _ rfl
      obtain ⟨v3, y3, c3, e3, t3⟩ := hfld 3 _ rfl
      obtain ⟨v4, y4, c4, e4, t4⟩ := hfld 4 _ rfl
      obtain ⟨v5, y5, c5, e5, t5⟩ := hfld 5 _ rfl
      obtain ⟨v6, y6, c6, e6, t6⟩ := hfld 6 _ rfl
      obtain ⟨v7, y7, c7, e7, t7⟩ := hfld 7 _ rfl
      obtain ⟨v8, y8, c8, e8, t8⟩ := hfld 8 _ rfl
      obtain ⟨v9, y9, c9, e9, t9⟩ := hfld 9 _ rfl
      obtain ⟨v10, y10, c10, e10, t10⟩ := hfld 10 _ rfl
      obtain ⟨v11, y11, c11, e11, t11⟩ := hfld 11 _ rfl
      obtain ⟨v12, y12, c12, e12, t12⟩ := hfld 12 _ rfl
      obtain ⟨v13, y13, c13, e13, t13⟩ := hfld 13 _ rfl
      obtain ⟨v14, y14, c14, e14, t14⟩ := hfld 14 _ rfl
      obtain ⟨v15, y15, c15, e15, t15⟩ := hfld 15 _ rfl
      have hys : ys = [y0, y1, y2, y3, y4, y5, y6, y7, y8, y9, y10, y11, y12, y13, y14, y15] := by
        clear c0 c1 c2 c3 c4 c5 c6 c7 c8 c9 c10 c11 c12 c13 c14 c15 hfld
        match ys, hyl with
        | [_, _, _, _, _, _, _, _, _, _, _, _, _, _, _, _], _ => simp at e0 e1 e2 e3 e4 e5 e6 e7 e8 e9 e10 e11 e12 e13 e14 e15; simp [*]
      clear e0 e1 e2 e3 e4 e5 e6 e7 e8 e9 e10 e11 e12 e13 e14 e15 hfld
      obtain ⟨z0, g0, _⟩ := DataW.trod_int Try.underlying3 t0
      obtain ⟨z1, g1, _⟩ := DataW.trod_int Try.underlying3 t1
      obtain ⟨z2, g2, _⟩ := DataW.trod_int Try.underlying3 t2
      obtain ⟨z3, g3, _⟩ := DataW.trod_int Try.underlying3 t3
      obtain ⟨z4, g4, _⟩ := DataW.trod_int Try.underlying3 t4
      obtain ⟨z5, g5, _⟩ := DataW.trod_int Try.underlying3 t5
      obtain ⟨z6, g6, _⟩ := DataW.trod_int Try.underlying3 t6
      obtain ⟨z9, g9, _⟩ := DataW.trod_int Try.underlying3 t9
      obtain ⟨z10, g10, _⟩ := DataW.trod_int Try.underlying3 t10
      obtain ⟨z11, g11, _⟩ := DataW.trod_int Try.underlying3 t11
      obtain ⟨z14, g14, _⟩ := DataW.trod_int Try.underlying28 t14
      obtain ⟨Ah, ch, lh, rfl, rh, bh⟩ := heads_fdb t7
      obtain ⟨li, rfl, bi⟩ := str_fdb t8
      obtain ⟨Ad, cd, ld, rfl, rd, bd⟩ := ints_fdb t12
      obtain ⟨Ap, cp, lp, rfl, rp, bp⟩ := ints_fdb t13
      obtain ⟨Ax, cx, lx, rfl, rx, bx⟩ := bytes_fdb t15
      simp at g0 g1 g2 g3 g4 g5 g6 g9 g10 g11 g14
      subst g0 g1 g2 g3 g4 g5 g6 g9 g10 g11 g14
      refine ⟨⟨⟨z0, z1, z2, z3, z4, z5, z6, lh, li, z9, z10, z11, ld, lp, z14, lx⟩, Ah, Ad, Ap, Ax, ch, cd, cp, cx⟩, ⟨fun k v hk => ?_, ⟨rh, rd, rp, rx⟩⟩, ?_⟩
      · match k, hk with
        | 0, hk => obtain rfl := Option.some.inj hk; exact c0
        | 1, hk => obtain rfl := Option.some.inj hk; exact c1
        | 2, hk => obtain rfl := Option.some.inj hk; exact c2
        | 3, hk => obtain rfl := Option.some.inj hk; exact c3
        | 4, hk => obtain rfl := Option.some.inj hk; exact c4
        | 5, hk => obtain rfl := Option.some.inj hk; exact c5
        | 6, hk => obtain rfl := Option.some.inj hk; exact c6
        | 7, hk => obtain rfl := Option.some.inj hk; exact c7
        | 8, hk => obtain rfl := Option.some.inj hk; exact c8
        | 9, hk => obtain rfl := Option.some.inj hk; exact c9
        | 10, hk => obtain rfl := Option.some.inj hk; exact c10
        | 11, hk => obtain rfl := Option.some.inj hk; exact c11
        | 12, hk => obtain rfl := Option.some.inj hk; exact c12
        | 13, hk => obtain rfl := Option.some.inj hk; exact c13
        | 14, hk => obtain rfl := Option.some.inj hk; exact c14
        | 15, hk => obtain rfl := Option.some.inj hk; exact c15
        | k + 16, hk => exact absurd hk (by simp [MsgP.cells])
      · rw [hD, hys]
        unfold MsgV.cost
        simp only [List.map_cons, List.map_nil, Rows.uptoBulk, Rows.uptoBulkAll]
        omega
    obtain ⟨hs, hls, hall⟩ := list_of each
    have hxx : ∀ i, i < n → Rows.uptoBulk (D i) ≤ Rows.uptoBulk y.1 := fun i hi => by
      rw [hx]
      have h1 := bulk_mem (x := D i) (l := (List.range n).map D) (List.mem_map.2 ⟨i, List.mem_range.2 hi, rfl⟩)
      simp only [Rows.uptoBulk]
      omega
    refine ⟨some a, cap, hs, by rw [hls], ⟨⟨msgsC_len hs, fun hn => ⟨a, rfl, ?_, fun j u hu => ?_⟩⟩, fun p hp => ?_⟩, fun p hp => ?_, ?_⟩
    · obtain ⟨h0, e0⟩ : ∃ h0, hs[0]? = some h0 := ⟨_, List.getElem?_eq_getElem hn⟩
      have h1 := (hall 0 h0 e0).1.1 0 (.int .i64 h0.m.kind) rfl
      have := World.block_lt_of_cell? W _ h1
      rwa [block_of_add] at this
    · obtain ⟨i, p, k, h1, rfl, h3⟩ := msgsC_get hs j u hu
      exact (hall i p h1).1.1 k u h3
    · obtain ⟨i, hi, e⟩ := List.mem_iff_getElem.1 hp
      exact (hall i p (by rw [List.getElem?_eq_getElem hi, e])).1.2
    · obtain ⟨i, hi, e⟩ := List.mem_iff_getElem.1 hp
      have h1 := (hall i p (by rw [List.getElem?_eq_getElem hi, e])).2
      have h2 := hxx i (by omega)
      omega
    · rw [hx, hls]
      have h1 := bulk_len1 ((List.range n).map D)
      rw [List.length_map, List.length_range] at h1
      simp only [Rows.uptoBulk]
      omega
end Go.Proofs.Ytoekmgpnmhknoaa
