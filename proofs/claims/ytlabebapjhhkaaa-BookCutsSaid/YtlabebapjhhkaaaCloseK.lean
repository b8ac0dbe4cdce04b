/- What a row hands a law of layer 19: params, a call, a slice of calls, numbers. No conditions. -/
import Derived.Test.YtlabebapjhhkaaaCloseBE
import Derived.Test.YtlabebapjhhkaaaM13
import Derived.Deep.Slices
import Derived.Deep.Fields
import Derived.ChangeSame
namespace Go.Proofs.Ytlabebapjhhkaaa
open Go.ChangeShapes Go.WideShapes Go.ChangeAt Go.RowKit Go.Deep
theorem cells64 : Try.prog.cellsOf 3 = 1 := by kernel_rfl
theorem cells_ints : Try.prog.cellsOf 36 = 1 := by kernel_rfl
theorem cells_str : Try.prog.cellsOf 9 = 1 := by kernel_rfl
theorem cells_head : Try.prog.cellsOf 35 = 2 := by kernel_rfl
theorem cells_op : Try.prog.cellsOf 38 = 5 := by kernel_rfl
theorem cells_prm : Try.prog.cellsOf 23 = 5 := by kernel_rfl
theorem choose_lt2 {α : Type} {m : Nat} {R : Nat → α → Prop} (h : ∀ i, i < m → ∃ x, R i x) : ∃ f : Fin m → α, ∀ i : Fin m, R i.1 (f i) :=
  ⟨fun i => Classical.choose (h i.1 i.2), fun i => Classical.choose_spec (h i.1 i.2)⟩
theorem list_of {α : Type} {m : Nat} {R : Nat → α → Prop} (h : ∀ i, i < m → ∃ x, R i x) : ∃ l : List α, l.length = m ∧ ∀ i x, l[i]? = some x → R i x := by
  obtain ⟨f, hf⟩ := choose_lt2 h
  refine ⟨List.ofFn f, by simp, fun i x hx => ?_⟩
  rw [List.getElem?_ofFn] at hx
  split at hx
  · next hi => injection hx with hx; subst hx; exact hf ⟨i, hi⟩
  · cases hx
/-- Numbers in a cell. -/
theorem ints_fd {H : Type} {enc : TypeId × Value → H} {W : World} {fuel : Nat} {V : Value} {y : DataW H × List MemPlace}
    (hf : DataW.trod enc Try.prog W 0 (fun _ => true) true fuel 36 [V] = some y) :
    ∃ (Ai : Option Addr) (ci : Nat) (l : List Int), V = .slice Ai l.length ci ∧ IRd W W.heap.size Ai l.length l ∧ l.length ≤ 9223372036854775807 := by
  rcases open_ints Try.underlying36 Try.underlying3 cells64 hf with ⟨hcs, hx⟩ | ⟨a, n, cap, zs, hcs, _, hl, hm, hz, hx, hcell, hwz⟩
  · simp at hcs
    subst hcs
    exact ⟨none, 0, [], rfl, ⟨rfl, fun h => by simp at h⟩, by simp⟩
  · simp at hcs
    subst hcs
    subst hx
    simp only [if_true] at hz
    have hlen : (zs.take n).length = n := by simp; omega
    refine ⟨some a, cap, zs.take n, by rw [hlen], ⟨by simp, fun hn => ⟨a, rfl, ?_, fun j u hu => ?_⟩⟩, by rw [hlen]; simp only [maxLen] at hm; omega⟩
    · have h0 : 0 < zs.length := by simp at hn; omega
      have := World.block_lt_of_cell? W _ (hcell 0 h0)
      rwa [block_of_add] at this
    · rw [List.getElem?_map] at hu
      rcases hj : (zs.take n)[j]? with _ | z
      · rw [hj] at hu; cases hu
      · rw [hj] at hu
        have hjn : j < n := by have := (List.getElem?_eq_some_iff.1 hj).1; simp at this; omega
        rw [List.getElem?_take, if_pos hjn] at hj
        have hjz := (List.getElem?_eq_some_iff.1 hj).1
        have hz0 := hcell j hjz
        rw [List.getD_eq_getElem?_getD, hj] at hz0
        rw [hz0, ← hu]
        rfl
/-- A string in a cell. -/
theorem str_fd {H : Type} {enc : TypeId × Value → H} {W : World} {fuel : Nat} {V : Value} {y : DataW H × List MemPlace}
    (hf : DataW.trod enc Try.prog W 0 (fun _ => true) true fuel 9 [V] = some y) : ∃ l : List UInt8, V = .string ⟨l.toArray⟩ := by
  obtain ⟨s, hcs, rfl, _⟩ := DataW.trod_string Try.underlying9 hf
  simp at hcs
  subst hcs
  exact ⟨s.data.toList, by simp⟩
theorem cut5 (cs : List Value) (h : cs.length = 5) : cs = (cs.drop 0).take 1 ++ ((cs.drop 1).take 1 ++ ((cs.drop 2).take 2 ++ (cs.drop 4).take 1)) := by
  match cs, h with
  | [_, _, _, _, _], _ => rfl
theorem cut2 (cs : List Value) (h : cs.length = 2) : cs = (cs.drop 0).take 1 ++ (cs.drop 1).take 1 := by
  match cs, h with
  | [_, _], _ => rfl
theorem one_cell {cs : List Value} {k n : Nat} (hl : cs.length = n) (hk : k < n) : ∃ V, (cs.drop k).take 1 = [V] := by
  refine ⟨cs[k], ?_⟩
  rw [List.drop_eq_getElem_cons (by omega)]
  rfl
/-- A head's cells. -/
theorem head_fd {H : Type} {enc : TypeId × Value → H} {W : World} {fuel : Nat} {cs : List Value} {y : DataW H × List MemPlace}
    (hfd : DataW.trod enc Try.prog W 0 (fun _ => true) true fuel 35 cs = some y) : ∃ h : HeadV, cs = [.string ⟨h.id.toArray⟩, .int .i64 h.size] := by
  obtain ⟨xs, n, _, rfl, hl, hlen, hf⟩ := DataW.trod_struct Try.underlying35 hfd
  rw [cells_head] at hl
  match xs, hlen with
  | [y0, y1], _ =>
    have t0 : DataW.trod enc Try.prog W 0 (fun _ => true) true n 9 ((cs.drop 0).take (Try.prog.cellsOf 9)) = some y0 := hf 0 _ rfl
    rw [cells_str] at t0
    have t1 : DataW.trod enc Try.prog W 0 (fun _ => true) true n 3 ((cs.drop 1).take (Try.prog.cellsOf 3)) = some y1 := hf 1 _ rfl
    rw [cells64] at t1
    obtain ⟨V, hV⟩ := one_cell hl (show 0 < 2 by omega)
    rw [hV] at t0
    obtain ⟨l, rfl⟩ := str_fd t0
    obtain ⟨z1, g1, _⟩ := DataW.trod_int Try.underlying3 t1
    refine ⟨⟨l, z1⟩, ?_⟩
    rw [cut2 cs hl, hV, g1]
    rfl
/-- A call, with where its numbers lie. -/
structure OpP where
  o : OpV
  A : Option Addr
  c : Nat
abbrev OpP.arr (q : OpP) : Array Value := opC q.o q.A q.c
structure OpP.Ok (q : OpP) (W : World) (B : Nat) : Prop where
  rd : IRd W B q.A q.o.parts.length q.o.parts
  n0 : -9223372036854775808 ≤ q.o.n
  n1 : q.o.n ≤ 9223372036854775807
  len : q.o.parts.length ≤ 9223372036854775807
theorem OpP.Ok.below {q : OpP} {W W' : World} {B : Nat} (h : q.Ok W B) (hb : Below B W W') : q.Ok W' B := ⟨h.rd.below hb, h.n0, h.n1, h.len⟩
theorem op_fd {H : Type} {enc : TypeId × Value → H} {W : World} {fuel : Nat} {cs : List Value} {y : DataW H × List MemPlace}
    (hfd : DataW.trod enc Try.prog W 0 (fun _ => true) true fuel 38 cs = some y) : ∃ q : OpP, cs = q.arr.toList ∧ q.Ok W W.heap.size := by
  obtain ⟨xs, n, _, rfl, hl, hlen, hf⟩ := DataW.trod_struct Try.underlying38 hfd
  rw [cells_op] at hl
  match xs, hlen with
  | [y0, y1, y2, y3], _ =>
    have t0 : DataW.trod enc Try.prog W 0 (fun _ => true) true n 3 ((cs.drop 0).take (Try.prog.cellsOf 3)) = some y0 := hf 0 _ rfl
    rw [cells64] at t0
    have t1 : DataW.trod enc Try.prog W 0 (fun _ => true) true n 3 ((cs.drop 1).take (Try.prog.cellsOf 3)) = some y1 := hf 1 _ rfl
    rw [cells64] at t1
    have t2 : DataW.trod enc Try.prog W 0 (fun _ => true) true n 35 ((cs.drop 2).take (Try.prog.cellsOf 35)) = some y2 := hf 2 _ rfl
    rw [cells_head] at t2
    have t3 : DataW.trod enc Try.prog W 0 (fun _ => true) true n 36 ((cs.drop 4).take (Try.prog.cellsOf 36)) = some y3 := hf 3 _ rfl
    rw [cells_ints] at t3
    obtain ⟨z0, g0, _⟩ := DataW.trod_int Try.underlying3 t0
    obtain ⟨z1, g1, _, w1⟩ := DataW.trod_int Try.underlying3 t1
    obtain ⟨h, g2⟩ := head_fd t2
    obtain ⟨V, hV⟩ := one_cell hl (show 4 < 5 by omega)
    rw [hV] at t3
    obtain ⟨Ai, ci, l, rfl, hr, hb⟩ := ints_fd t3
    refine ⟨⟨⟨z0, z1, h, l⟩, Ai, ci⟩, ?_, hr, (int_of w1).1, (int_of w1).2, hb⟩
    rw [cut5 cs hl, g0, g1, g2, hV]
    rfl
set_option maxRecDepth 100000 in
/-- A call that came in. -/
theorem op_of {H : Type} {enc : TypeId × Value → H} {W : World} {r : Reach} {b0 : Nat} {v : Value} {d : DataW H} {p : List MemPlace} (hv : Value.okWide Try.prog W r b0 38 v)
    (h0 : DataW.Trod enc Try.prog W 0 (fun _ => true) true 38 v d p) : ∃ q : OpP, v = .agg q.arr ∧ q.Ok W W.heap.size := by
  obtain ⟨cs, rfl, hsz⟩ := okWide_struct Try.underlying38 hv
  obtain ⟨fuel, hf⟩ := h0
  obtain ⟨q, hq, hok⟩ := op_fd hf
  refine ⟨q, ?_, hok⟩
  congr 1
  have : cs.toList = q.arr.toList := hq
  exact Array.toList_inj.1 this
/-- A slice of calls that came in. -/
structure OpsK (W : World) (B : Nat) (A : Option Addr) (n : Nat) (qs : List OpP) : Prop where
  len : qs.length = n
  at_ : 0 < n → ∃ ad, A = some ad ∧ ad.block < B ∧ ∀ i q, qs[i]? = some q → (∀ k v, q.arr.toList[k]? = some v → W.cell? ((ad.add (i * 5)).add k) = some v) ∧ q.Ok W B
theorem OpsK.below {W W' : World} {B n : Nat} {A : Option Addr} {qs : List OpP} (h : OpsK W B A n qs) (hb : Below B W W') : OpsK W' B A n qs := by
  refine ⟨h.len, fun hn => ?_⟩
  obtain ⟨ad, e, h1, h2⟩ := h.at_ hn
  refine ⟨ad, e, h1, fun i q hq => ?_⟩
  obtain ⟨h3, h4⟩ := h2 i q hq
  exact ⟨fun k v hk => (World.cell?_of_block (a := (ad.add (i * 5)).add k) (by rw [block_of_add, block_of_add]; exact hb.block _ h1)).trans (h3 k v hk), h4.below hb⟩
theorem bops_of {H : Type} {enc : TypeId × Value → H} {W : World} {A : Option Addr} {n c : Nat} {d : DataW H} {p : List MemPlace}
    (h0 : DataW.Trod enc Try.prog W 0 (fun _ => true) true 24 (.slice A n c) d p) : ∃ qs : List OpP, OpsK W W.heap.size A n qs ∧ n ≤ 9223372036854775807 := by
  obtain ⟨fuel, hf⟩ := h0
  rcases open_slice Try.underlying24 hf with ⟨hcs, _⟩ | ⟨a, n', cap, m, fu, D, Pl, hcs, _, hl, hm, hmm, hx, hc⟩
  · simp [Value.cells] at hcs
    obtain ⟨rfl, rfl, rfl⟩ := hcs
    exact ⟨[], ⟨rfl, fun h => by omega⟩, by omega⟩
  · simp [Value.cells] at hcs
    obtain ⟨rfl, rfl, rfl⟩ := hcs
    simp only [if_true] at hmm
    have each : ∀ i, i < n → ∃ q : OpP, (∀ k v, q.arr.toList[k]? = some v → W.cell? ((a.add (i * 5)).add k) = some v) ∧ q.Ok W W.heap.size := by
      intro i hi
      obtain ⟨cs', hc1, ht⟩ := hc i (by omega)
      rw [cells_op] at hc1
      obtain ⟨_, hcl, hat⟩ := World.cells?_some hc1
      obtain ⟨q, rfl, hr⟩ := op_fd ht
      refine ⟨q, fun k v hk => ?_, hr⟩
      have hk2 : k < 5 := by have := (List.getElem?_eq_some_iff.1 hk).1; omega
      rw [hat k hk2, hk]
    obtain ⟨qs, hls, hall⟩ := list_of each
    refine ⟨qs, ⟨hls, fun hn => ⟨a, rfl, ?_, hall⟩⟩, by simp only [maxLen] at hm; omega⟩
    obtain ⟨q0, e0⟩ : ∃ q0, qs[0]? = some q0 := ⟨_, List.getElem?_eq_getElem (by omega)⟩
    have h1 := (hall 0 q0 e0).1 0 (.int .i64 q0.o.k) rfl
    have := World.block_lt_of_cell? W _ h1
    rwa [block_of_add, block_of_add] at this
/-- Params, as they come in. -/
structure PrmI where
  n : Int
  t : Int
  k : Int
  e : Int
  room : Int
abbrev PrmI.arr (p : PrmI) : Array Value := #[.int .i64 p.n, .int .i64 p.t, .int .i64 p.k, .int .i64 p.e, .int .i64 p.room]
structure PrmI.Ok (p : PrmI) : Prop where
  n0 : -9223372036854775808 ≤ p.n
  n1 : p.n ≤ 9223372036854775807
  t0 : -9223372036854775808 ≤ p.t
  t1 : p.t ≤ 9223372036854775807
  k0 : -9223372036854775808 ≤ p.k
  k1 : p.k ≤ 9223372036854775807
  e0 : -9223372036854775808 ≤ p.e
  e1 : p.e ≤ 9223372036854775807
  r0 : -9223372036854775808 ≤ p.room
  r1 : p.room ≤ 9223372036854775807
theorem cut5' (cs : List Value) (h : cs.length = 5) : cs = (cs.drop 0).take 1 ++ ((cs.drop 1).take 1 ++ ((cs.drop 2).take 1 ++ ((cs.drop 3).take 1 ++ (cs.drop 4).take 1))) := by
  match cs, h with
  | [_, _, _, _, _], _ => rfl
set_option maxRecDepth 100000 in
theorem prm_of {H : Type} {enc : TypeId × Value → H} {W : World} {r : Reach} {b0 : Nat} {v : Value} {d : DataW H} {p : List MemPlace} (hv : Value.okWide Try.prog W r b0 23 v)
    (h0 : DataW.Trod enc Try.prog W 0 (fun _ => true) true 23 v d p) : ∃ q : PrmI, v = .agg q.arr ∧ q.Ok := by
  obtain ⟨cs, rfl, hsz⟩ := okWide_struct Try.underlying23 hv
  obtain ⟨fuel, hf⟩ := h0
  obtain ⟨xs, n, _, hy, hl, hlen, hg⟩ := DataW.trod_struct Try.underlying23 hf
  rw [cells_prm] at hl
  match xs, hlen with
  | [y0, y1, y2, y3, y4], _ =>
    obtain ⟨cs, rfl⟩ : ∃ l : List Value, cs = l.toArray := ⟨cs.toList, by simp⟩
    have hcl : cs.length = 5 := hl
    have t : ∀ (j : Nat) (y : DataW H × List MemPlace), j < 5 → [y0, y1, y2, y3, y4][j]? = some y → DataW.trod enc Try.prog W 0 (fun _ => true) true n 3 ((cs.drop j).take 1) = some y := by
      intro j y hj e
      match j, hj with
      | 0, _ => have := hg 0 _ rfl; rw [show ([y0, y1, y2, y3, y4] : List (DataW H × List MemPlace))[0]? = some y from e] at this; exact this
      | 1, _ => have := hg 1 _ rfl; rw [show ([y0, y1, y2, y3, y4] : List (DataW H × List MemPlace))[1]? = some y from e] at this; exact this
      | 2, _ => have := hg 2 _ rfl; rw [show ([y0, y1, y2, y3, y4] : List (DataW H × List MemPlace))[2]? = some y from e] at this; exact this
      | 3, _ => have := hg 3 _ rfl; rw [show ([y0, y1, y2, y3, y4] : List (DataW H × List MemPlace))[3]? = some y from e] at this; exact this
      | 4, _ => have := hg 4 _ rfl; rw [show ([y0, y1, y2, y3, y4] : List (DataW H × List MemPlace))[4]? = some y from e] at this; exact this
    obtain ⟨z0, g0, _, w0⟩ := DataW.trod_int Try.underlying3 (t 0 _ (by omega) rfl)
    obtain ⟨z1, g1, _, w1⟩ := DataW.trod_int Try.underlying3 (t 1 _ (by omega) rfl)
    obtain ⟨z2, g2, _, w2⟩ := DataW.trod_int Try.underlying3 (t 2 _ (by omega) rfl)
    obtain ⟨z3, g3, _, w3⟩ := DataW.trod_int Try.underlying3 (t 3 _ (by omega) rfl)
    obtain ⟨z4, g4, _, w4⟩ := DataW.trod_int Try.underlying3 (t 4 _ (by omega) rfl)
    refine ⟨⟨z0, z1, z2, z3, z4⟩, ?_, (int_of w0).1, (int_of w0).2, (int_of w1).1, (int_of w1).2, (int_of w2).1, (int_of w2).2, (int_of w3).1, (int_of w3).2, (int_of w4).1, (int_of w4).2⟩
    have hc := cut5' cs hcl
    rw [g0, g1, g2, g3, g4] at hc
    rw [hc]
    rfl
end Go.Proofs.Ytlabebapjhhkaaa
