/- append(s, make([]byte, k)...) on a slice of the call's own. Conditions: sizes. -/
import Derived.Test.YtkaboebjdjfahaaDoorBytes
import Derived.Lib.AppendZerosOnto
namespace Go.Proofs.YtkaboebjdjfahaaDoor
open Go.RowKit
theorem zeroCells_u8 (k : Nat) : Builtin.zeroCells (Value.int .u8 0).cells k = ((List.replicate k (0 : UInt8)).map B8).toArray := by
  apply Array.ext_getElem?
  intro j
  simp only [Builtin.zeroCells, Value.cells, List.size_toArray, List.length_cons, List.length_nil, Nat.zero_add, Nat.mul_one]
  by_cases hj : j < k
  · simp [hj, Nat.mod_one]
    rfl
  · simp [hj]
theorem run_app_zeros (w : World) (base : Nat) (v : Value) (l : List UInt8) (k : Nat) (ty : TypeId) (hown : Own w base v l) (h0 : 0 < k) (hl : l.length + k ≤ 140737488355328) (hbase : base ≤ w.heap.size) :
    ∃ v' w', (Builtin.append_ #[22, 3] ty #[v, .int .i64 (k : Int)]).run Tryd.prog w = .ok v' w' ∧ Own w' base v' (l ++ List.replicate k 0) ∧ w.grownBy w' v.ownBlock := by
  obtain ⟨i0, hi0, hz0, hz1, hz2⟩ := info_parts u8_info
  have hlen : (l ++ List.replicate k (0 : UInt8)).length = l.length + k := by simp
  have hgrow : ∀ (b : Option Addr) (cap : Nat), cap < l.length + k → (Builtin.firstCells i0.size l.length (.slice b l.length cap)).run Tryd.prog w.drew = .ok (l.map B8).toArray w.drew →
      ∃ v' w', (Builtin.append_ #[22, 3] ty #[.slice b l.length cap, .int .i64 (k : Int)]).run Tryd.prog w = .ok v' w' ∧ Own w' base v' (l ++ List.replicate k 0) ∧ w.grownBy w' (Value.slice b l.length cap).ownBlock := by
    intro b cap hcap hold
    have h := Lib.run_append_grow_zeros w 22 3 ty 5 i0 (.int .u8 0) .i64 .i64 Tryd.underlying22 Tryd.underlying3 hi0 hz0 b l.length cap (l.map B8) hold k h0 (by omega) hcap (by omega) (by rw [hz2]; omega) (growslice_fits hcap (by rw [hz2]; omega))
    have hGn := grownCap_ge w (l.length + k) cap 5
    have hG63 := grownCap_le_maxLen w (l.length + k) cap 5 (by unfold maxLen; omega)
    generalize grownCap w (l.length + k) cap 5 = G at h hGn hG63
    refine ⟨_, _, h, ⟨by simp, Or.inr ⟨w.heap.size, G, _, by rw [hlen], hbase, heap_alloc_new w.drew _, by rw [hlen]; exact hGn, hG63, ?_, ?_⟩⟩, grownBy_below ((Below.refl _ _).drew.alloc (Nat.le_refl _) _)⟩
    · rw [zeroCells_u8, zeroCells_u8]; simp; omega
    · rw [zeroCells_u8, zeroCells_u8, hlen]
      simp only [Array.toList_append, Nat.mul_one]
      rw [List.take_append_of_le_length (by simp), List.take_of_length_le (by simp), List.map_append]
  rcases hown.2 with ⟨rfl, e⟩ | ⟨g, cap, cur, rfl, hbg, hg, hnc, hcm, hcs, htake⟩
  · have hl0 : l = [] := List.eq_nil_of_length_eq_zero e
    subst hl0
    exact hgrow none 0 (by simpa using h0) (run_firstCells_none w.drew i0.size 0 0 0)
  · by_cases hfit : l.length + k ≤ cap
    · have hst := run_storeCells_at (P := Tryd.prog) g l.length 5 ((List.replicate k (0 : UInt8)).map B8) 0 cur w hg (by simp at *; omega) (by intro v hv; obtain ⟨b, _, rfl⟩ := List.mem_map.1 hv; rfl)
      simp only [Nat.add_zero] at hst
      have hw : IntKind.i64.wrap (k : Int) = k := by rw [IntKind.wrap_i64]; omega
      have hneg : ¬ ((k : Int) < 0) := by omega
      have h48i : ¬ (281474976710656 < (k : Int)) := by omega
      have hns : ¬ (k * i0.size = 0) := by rw [hz1]; omega
      have hk : k ≠ 0 := by omega
      have hz := zeroCells_u8 k
      have hrun : (Builtin.append_ #[22, 3] ty #[.slice (some ⟨g, 0, none⟩) l.length cap, .int .i64 (k : Int)]).run Tryd.prog w = .ok (.slice (some ⟨g, 0, none⟩) (l.length + k) cap) (w.setRow g (cur.toList.take l.length ++ (List.replicate k (0 : UInt8)).map B8 ++ cur.toList.drop (l.length + ((List.replicate k (0 : UInt8)).map B8).length)).toArray) := by
        simp [Builtin.append_, run_underlying Tryd.underlying22, run_underlying Tryd.underlying3, sizeOf, typeInfo, zeroValue, hi0, hz0, asInt, asIntOf, hw, hfit, hneg, hz1, hz2, hk, h48i, hz, Addr.add_lit]
        simp at hst
        simp [hst]
        try omega
      have hR : ∃ R, R = (cur.toList.take l.length ++ (List.replicate k (0 : UInt8)).map B8 ++ cur.toList.drop (l.length + ((List.replicate k (0 : UInt8)).map B8).length)).toArray := ⟨_, rfl⟩
      obtain ⟨R, hR⟩ := hR
      rw [← hR] at hrun
      refine ⟨.slice (some ⟨g, 0, none⟩) (l.length + k) cap, w.setRow g R, hrun, ⟨by simp, Or.inr ⟨g, cap, R, by rw [hlen], hbg, setRow_heap w g cur _ 5 _ hg, by rw [hlen]; exact hfit, hcm, ?_, ?_⟩⟩, ⟨rfl, rfl, rfl, by simp, fun q _ hq => setRow_other w g q _ (fun e => hq (by simp [e, Value.ownBlock]))⟩⟩
      · subst hR; simp at *; omega
      · rw [hlen]
        subst hR
        simp only [Nat.mul_one]
        rw [List.take_append_of_le_length (by simp at *; omega), List.take_of_length_le (by simp at *; omega), List.map_append]
        congr 1
        simpa using htake
    · exact hgrow _ cap (by omega) (by
        have := run_firstCells_some (P := Tryd.prog) w.drew i0.size l.length ⟨g, 0, none⟩ l.length cap (l.map B8) (by rw [hz1]; simp) ?_
        · exact this
        · intro j u hu
          have hj : j < l.length := by have := (List.getElem?_eq_some_iff.1 hu).1; simpa using this
          have ha : (⟨g, 0, none⟩ : Addr).add j = ⟨g, j, none⟩ := by unfold Addr.add; split <;> simp_all
          rw [ha]
          have h1 : (cur.toList.take (l.length * 1))[j]? = some u := by rw [htake]; exact hu
          rw [List.getElem?_take, if_pos (by omega)] at h1
          show w.drew.cell? _ = _
          exact (cell_of_row w g j cur _ _ hg).trans (by simpa using h1))
theorem app_zeros {ops : Array Oper} {rest : List Oper} {o : Oper} {a : Act} {Q : Exit → Act → World → Prop} {w : World} (hgd : o.guard = none) (s : Operand) (k : Nat) (ho : o.op = .call { callee := .builtin .append, args := #[s, .const (.int .i64 (k : Int))], argTypes := #[22, 3] })
    (base : Nat) (v : Value) (l : List UInt8) (hs : a.eval s = v) (hown : Own w base v l) (h0 : 0 < k) (hl : l.length + k ≤ 140737488355328) (hbase : base ≤ w.heap.size)
    (h : ∀ v' w', Own w' base v' (l ++ List.replicate k 0) → w.grownBy w' v.ownBlock → wpList Tryd.prog ops Q rest (a.put o.dst v') w') : wpList Tryd.prog ops Q (o :: rest) a w := by
  obtain ⟨v', w', hrun, h1, h2⟩ := run_app_zeros w base v l k o.type hown h0 hl hbase
  refine wpList_plain hgd fun _ hK => ?_
  unfold Oper.wp execOp
  have hc : a.eval (.const (.int .i64 (k : Int))) = .int .i64 (k : Int) := rfl
  simp only [ho, resolve, invoke, builtin, Sem.run_bind, Sem.run_pure, Result.andThen_ok, List.map_toArray, List.map_cons, List.map_nil, hs, hc, hrun]
  exact hK _ _ (h v' w' h1 h2)
end Go.Proofs.YtkaboebjdjfahaaDoor
