/- Words for RecWhere: a list of objects as a row, a byte of a row turned. No conditions. -/
import Derived.Test.YtinkclcdpcjnfaaDoorRecW2
import Derived.Test.YtinkclcdpcjnfaaDoorCloseR
namespace Go.Proofs.YtinkclcdpcjnfaaDoor
open Go.RowKit
theorem objC_get (l : List ObjP) : ∀ (i r : Nat) (p : ObjP), l[i]? = some p → r < 4 → (l.flatMap objC)[i * 4 + r]? = (objC p)[r]? := by
  intro i r p h hr
  obtain ⟨h0, h1, h2, h3⟩ := objC_at l i p h
  match r, hr with
  | 0, _ => exact h0
  | 1, _ => exact h1
  | 2, _ => exact h2
  | 3, _ => exact h3
/-- A list of objects, as the cells of a row. -/
theorem objs_row {w : World} {S : Nat → Prop} {A : Option Addr} {os : List ObjV} (h : ObjsRd w S A os) : ∃ ps : List ObjP, ps.map (·.o) = os ∧ Reads w w.heap.size 4 A os.length (ps.flatMap objC) ∧ ∀ p ∈ ps, ObjRd w S p.As p.At p.o := by
  by_cases hn : 0 < os.length
  · obtain ⟨ad, rfl, hs, hb, hc⟩ := h hn
    have each : ∀ i, i < os.length → ∃ p : ObjP, os[i]? = some p.o ∧ w.cell? (ad.add (i * 4)) = some (.string ⟨p.o.id.toArray⟩) ∧ w.cell? (ad.add (i * 4 + 1)) = some (.int .i64 p.o.size) ∧
        w.cell? (ad.add (i * 4 + 2)) = some (.slice p.As p.o.share.length p.cs) ∧ w.cell? (ad.add (i * 4 + 3)) = some (.slice p.At p.o.tag.length p.ct) ∧ ObjRd w S p.As p.At p.o := by
      intro i hi
      obtain ⟨As, At, cs, ct, c0, c1, c2, c3, hr⟩ := hc i _ (List.getElem?_eq_getElem hi)
      refine ⟨⟨os[i], As, At, cs, ct⟩, List.getElem?_eq_getElem hi, c0, ?_, ?_, ?_, hr⟩
      · rw [next_cell4 _ _ _ (by omega)]; exact c1
      · rw [next_cell4 _ _ _ (by omega)]; exact c2
      · rw [next_cell4 _ _ _ (by omega)]; exact c3
    obtain ⟨ps, hl, hall⟩ := list_of each
    refine ⟨ps, ?_, ⟨by rw [objC_len, hl], fun _ => ⟨ad, rfl, hb, fun j u hu => ?_⟩⟩, fun p hp => ?_⟩
    · refine List.ext_getElem? fun i => ?_
      rw [List.getElem?_map]
      cases hp : ps[i]? with
      | none =>
        have : ps.length ≤ i := List.getElem?_eq_none_iff.1 hp
        rw [List.getElem?_eq_none_iff.2 (by omega)]; rfl
      | some p => exact (hall i p hp).1.symm
    · have hj : j < os.length * 4 := by
        have h1 := (List.getElem?_eq_some_iff.1 hu).1
        rw [objC_len, hl] at h1
        exact h1
      have hi : j / 4 < ps.length := by omega
      obtain ⟨_, c0, c1, c2, c3, _⟩ := hall (j / 4) _ (List.getElem?_eq_getElem hi)
      have hu2 := objC_get ps (j / 4) (j % 4) _ (List.getElem?_eq_getElem hi) (by omega)
      have hju : u = u := rfl
      have hjj : j / 4 * 4 + j % 4 = j := by omega
      rw [hjj, hu] at hu2
      generalize ps[j / 4] = p at c0 c1 c2 c3 hu2
      have hr4 : j % 4 = 0 ∨ j % 4 = 1 ∨ j % 4 = 2 ∨ j % 4 = 3 := by omega
      rcases hr4 with hr4 | hr4 | hr4 | hr4
      · rw [hr4] at hu2 hjj; rw [← hjj]; injection hu2 with hu2; rw [hu2]; exact c0
      · rw [hr4] at hu2 hjj; rw [← hjj]; injection hu2 with hu2; rw [hu2]; exact c1
      · rw [hr4] at hu2 hjj; rw [← hjj]; injection hu2 with hu2; rw [hu2]; exact c2
      · rw [hr4] at hu2 hjj; rw [← hjj]; injection hu2 with hu2; rw [hu2]; exact c3
    · obtain ⟨i, hi⟩ := List.mem_iff_getElem?.1 hp
      exact (hall i p hi).2.2.2.2.2
  · have : os = [] := List.eq_nil_of_length_eq_zero (by omega)
    subst this
    exact ⟨[], rfl, ⟨rfl, fun h => by simp at h⟩, fun p hp => by cases hp⟩
theorem flat_set (l : List ObjP) : ∀ (k : Nat) (hk : k < l.length) (As : Option Addr) (cs : Nat) (sh : List UInt8), sh.length = l[k].o.share.length →
    (l.flatMap objC).set (k * 4 + 2) (.slice As sh.length cs) = (l.set k ⟨{ l[k].o with share := sh }, As, l[k].At, cs, l[k].ct⟩).flatMap objC := by
  induction l with
  | nil => intro k hk; simp at hk
  | cons x r ih =>
    intro k hk As cs sh hs
    cases k with
    | zero => rfl
    | succ k =>
      have h1 := ih k (by simpa using hk) As cs sh (by simpa using hs)
      rw [List.flatMap_cons, List.set_cons_succ, List.flatMap_cons]
      simp only [List.getElem_cons_succ]
      rw [← h1, List.set_append_right _ _ (by simp [objC]; omega)]
      congr 2
      simp [objC]; omega
/-- A byte of a row that is turned. -/
theorem rd_set {w : World} {B n g i : Nat} {t : TypeId} {cur : Array Value} {l : List UInt8} (h : Rd w B (some ⟨g, 0, none⟩) n l) (hb : Blk w g t cur) (hi : i < n) (v : UInt8) : Rd (w.setCell ⟨g, i, none⟩ (B8 v)) B (some ⟨g, 0, none⟩) n (l.set i v) := by
  have hl := h.len
  refine ⟨by simp; omega, fun h0 => ?_⟩
  obtain ⟨ad, e, hB, hc⟩ := h.2 h0
  injection e with e
  subst e
  refine ⟨_, rfl, hB, fun j u hu => ?_⟩
  have ha : (⟨g, 0, none⟩ : Addr).add j = ⟨g, j, none⟩ := by unfold Addr.add; split <;> simp_all
  have hb2 := hb.set_ i (B8 v)
  rw [ha, hb2.cell j]
  rw [List.map_set, List.getElem?_set] at hu
  by_cases hij : i = j
  · subst hij
    rw [if_pos rfl] at hu
    split at hu
    · injection hu with hu
      subst hu
      have hsz : i < cur.size := by
        have h2 := hc i (B8 (l[i]'(by omega))) (by rw [List.getElem?_map, List.getElem?_eq_getElem (by omega)]; rfl)
        have ha2 : (⟨g, 0, none⟩ : Addr).add i = ⟨g, i, none⟩ := by unfold Addr.add; split <;> simp_all
        rw [ha2, hb.cell i] at h2
        exact (Array.getElem?_eq_some_iff.1 h2).1
      rw [Array.getElem?_setIfInBounds_self_of_lt hsz]
    · cases hu
  · rw [if_neg hij] at hu
    have h2 := hc j u hu
    rw [ha, hb.cell j] at h2
    rw [Array.getElem?_setIfInBounds_ne hij]
    exact h2
theorem Own.set_ {w : World} {base : Nat} {g n c : Nat} {l : List UInt8} (h : Own w base (.slice (some ⟨g, 0, none⟩) n c) l) (hn : n = l.length) (i : Nat) (v : UInt8) : Own (w.setCell ⟨g, i, none⟩ (B8 v)) base (.slice (some ⟨g, 0, none⟩) n c) (l.set i v) := by
  subst hn
  have h2 := (World.ownsRow.stored (h : w.ownsRow base 5 1 (.slice (some ⟨g, 0, none⟩) l.length c) l.length (l.map B8)) i (B8 v)).1
  unfold Own
  rw [List.length_set, List.map_set]
  exact h2
end Go.Proofs.YtinkclcdpcjnfaaDoor
