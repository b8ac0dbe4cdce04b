/- The document's disk: what it is in memory, its New. No conditions. -/
import Derived.Test.YtpdihggdopdolaaTurn
import Derived.Test.YtpdihggdopdolaaDisk3
import Derived.Test.YtpdihggdopdolaaStr
namespace Go.Proofs.Ytpdihggdopdolaa
open Go.RowKit
structure RefAt (w : World) (E G : Nat) (s : DS) : Prop where
  cells : Blk w E 38 #[.slice (some ⟨G, 0, none⟩) (32 * s.bl.length) (32 * s.bl.length), .int .i64 s.fuse, .int .i64 (s.writes : Int), .bool s.down]
  row : Blk w G 5 (s.bl.flatten.map B8).toArray
  l32 : ∀ l ∈ s.bl, l.length = 32
  small : s.bl.length ≤ 2048
  fuseLe : s.fuse ≤ 9223372036854775807
  fuseGe : -1 ≤ s.fuse
section
variable {w w' : World} {E G : Nat} {s s' : DS} {F : Nat → Prop}
theorem RefAt.ne (h : RefAt w E G s) : E ≠ G := Blk.ne_ h.cells h.row (by decide)
theorem RefAt.keeps (h : RefAt w E G s) (hk : Keeps F w w') (h1 : ¬ F E) (h2 : ¬ F G) : RefAt w' E G s := ⟨h.cells.keeps hk h1, h.row.keeps hk h2, h.l32, h.small, h.fuseLe, h.fuseGe⟩
theorem RefAt.below (h : RefAt w E G s) (hb : Below w.heap.size w w') : RefAt w' E G s := h.keeps (Keeps.of_below (F := fun _ => False) hb) id id
theorem RefAt.e0 (h : RefAt w E G s) : w.cell? ⟨E, 0, none⟩ = some (.slice (some ⟨G, 0, none⟩) (32 * s.bl.length) (32 * s.bl.length)) := (h.cells.cell 0).trans rfl
theorem RefAt.e1 (h : RefAt w E G s) : w.cell? ⟨E, 1, none⟩ = some (.int .i64 s.fuse) := (h.cells.cell 1).trans rfl
theorem RefAt.e2 (h : RefAt w E G s) : w.cell? ⟨E, 2, none⟩ = some (.int .i64 s.writes) := (h.cells.cell 2).trans rfl
theorem RefAt.e3 (h : RefAt w E G s) : w.cell? ⟨E, 3, none⟩ = some (.bool s.down) := (h.cells.cell 3).trans rfl
theorem RefAt.fz (h : RefAt w E G s) (i : Nat) : w.frozen? ⟨E, i, none⟩ = false := h.cells.frozen i
theorem RefAt.set_fuse (h : RefAt w E G s) (f : Int) (h1 : f ≤ 9223372036854775807) (h2 : -1 ≤ f) : RefAt (w.setCell ⟨E, 1, none⟩ (.int .i64 f)) E G { s with fuse := f } :=
  ⟨h.cells.set_ 1 _, h.row.far (fun e => h.ne e.symm) _, h.l32, h.small, h1, h2⟩
theorem RefAt.set_writes (h : RefAt w E G s) (n : Nat) : RefAt (w.setCell ⟨E, 2, none⟩ (.int .i64 (n : Int))) E G { s with writes := n } :=
  ⟨h.cells.set_ 2 _, h.row.far (fun e => h.ne e.symm) _, h.l32, h.small, h.fuseLe, h.fuseGe⟩
theorem RefAt.set_down (h : RefAt w E G s) (b : Bool) : RefAt (w.setCell ⟨E, 3, none⟩ (.bool b)) E G { s with down := b } :=
  ⟨h.cells.set_ 3 _, h.row.far (fun e => h.ne e.symm) _, h.l32, h.small, h.fuseLe, h.fuseGe⟩
end
/-! Blocks of 32 bytes, one behind the other. -/
theorem flat_len {bl : List (List UInt8)} (h : ∀ l ∈ bl, l.length = 32) : bl.flatten.length = 32 * bl.length := by
  induction bl with
  | nil => rfl
  | cons x r ih =>
    rw [List.flatten_cons, List.length_append, ih (fun l hl => h l (List.mem_cons_of_mem _ hl)), h x List.mem_cons_self, List.length_cons]
    omega
theorem flat_at {bl : List (List UInt8)} (h : ∀ l ∈ bl, l.length = 32) (i : Nat) (l : List UInt8) (hi : bl[i]? = some l) : ∃ X Y, bl.flatten = X ++ (l ++ Y) ∧ X.length = 32 * i ∧ ∀ m : List UInt8, (bl.set i m).flatten = X ++ (m ++ Y) := by
  induction bl generalizing i with
  | nil => cases hi
  | cons x r ih =>
    cases i with
    | zero =>
      simp only [List.getElem?_cons_zero, Option.some.injEq] at hi
      subst hi
      exact ⟨[], r.flatten, by simp, rfl, fun m => by simp⟩
    | succ i =>
      simp only [List.getElem?_cons_succ] at hi
      obtain ⟨X, Y, h1, h2, h3⟩ := ih (fun l hl => h l (List.mem_cons_of_mem _ hl)) i hi
      exact ⟨x ++ X, Y, by rw [List.flatten_cons, h1, List.append_assoc], by rw [List.length_append, h2, h x List.mem_cons_self]; omega, fun m => by rw [List.set_cons_succ, List.flatten_cons, h3, List.append_assoc]⟩
theorem flat_get {bl : List (List UInt8)} (h : ∀ l ∈ bl, l.length = 32) (i : Nat) (l : List UInt8) (hi : bl[i]? = some l) (j : Nat) (hj : j < 32) : bl.flatten.getD (32 * i + j) 0 = l.getD j 0 := by
  obtain ⟨X, Y, h1, h2, _⟩ := flat_at h i l hi
  have hl := h l (List.mem_of_getElem? hi)
  rw [h1, List.getD_eq_getElem?_getD, List.getD_eq_getElem?_getD, List.getElem?_append_right (by omega), List.getElem?_append_left (by omega), h2, Nat.add_sub_cancel_left]
theorem flat_set {bl : List (List UInt8)} (h : ∀ l ∈ bl, l.length = 32) (i : Nat) (l : List UInt8) (hi : bl[i]? = some l) (j : Nat) (hj : j < 32) (y : UInt8) : bl.flatten.set (32 * i + j) y = (bl.set i (l.set j y)).flatten := by
  obtain ⟨X, Y, h1, h2, h3⟩ := flat_at h i l hi
  have hl := h l (List.mem_of_getElem? hi)
  rw [h1, h3, List.set_append_right _ _ (by omega), h2, Nat.add_sub_cancel_left, List.set_append_left _ _ (by omega)]
theorem flat_splice {bl : List (List UInt8)} (h : ∀ l ∈ bl, l.length = 32) (i : Nat) (hi : i < bl.length) (m : List UInt8) (hm : m.length = 32) : splice (bl.flatten.map B8) (32 * i) (m.map B8) = (bl.set i m).flatten.map B8 := by
  obtain ⟨X, Y, h1, h2, h3⟩ := flat_at h i bl[i] (List.getElem?_eq_getElem hi)
  have hl := h bl[i] (List.getElem_mem hi)
  rw [h1, h3]
  unfold splice
  rw [List.length_map, hm, List.map_append, List.map_append, List.map_append, List.map_append, List.take_append_of_le_length (by simp; omega), List.take_of_length_le (by simp; omega)]
  congr 2
  rw [List.drop_append, List.drop_eq_nil_of_le (by simp; omega), List.drop_append, List.drop_eq_nil_of_le (by simp; omega)]
  simp only [List.length_map, List.nil_append]
  rw [show 32 * i + 32 - X.length - (bl[i]).length = 0 by omega, List.drop_zero]
section
variable {w : World} {E G : Nat} {s : DS}
/-- A block is read. -/
theorem RefAt.rd (h : RefAt w E G s) (i : Nat) (l : List UInt8) (hi : s.bl[i]? = some l) : Rd w w.heap.size (some ⟨G, 32 * i, none⟩) 32 l := by
  have hl := h.l32 l (List.mem_of_getElem? hi)
  refine ⟨by simp [hl], fun _ => ⟨_, rfl, h.row.lt, fun j u hu => ?_⟩⟩
  have ha : (⟨G, 32 * i, none⟩ : Addr).add j = ⟨G, 32 * i + j, none⟩ := by unfold Addr.add; split <;> simp_all
  rw [ha, h.row.cell]
  obtain ⟨X, Y, h1, h2, _⟩ := flat_at h.l32 i l hi
  have hj : j < 32 := by have := (List.getElem?_eq_some_iff.1 hu).1; simpa [hl] using this
  rw [List.getElem?_toArray, h1, List.map_append, List.map_append, List.getElem?_append_right (by simp; omega), List.getElem?_append_left (by simp; omega), ← hu]
  congr 1
  simp [h2]
theorem RefAt.byte (h : RefAt w E G s) (i : Nat) (l : List UInt8) (hi : s.bl[i]? = some l) (j : Nat) (hj : j < 32) : w.cell? ⟨G, 32 * i + j, none⟩ = some (.int .u8 ((l.getD j 0).toNat : Int)) := by
  have hl := h.l32 l (List.mem_of_getElem? hi)
  obtain ⟨ad, e, _, hc⟩ := (h.rd i l hi).at_ (k := j) hj
  injection e with e
  subst e
  have ha : (⟨G, 32 * i, none⟩ : Addr).add j = ⟨G, 32 * i + j, none⟩ := by unfold Addr.add; split <;> simp_all
  rwa [ha] at hc
theorem RefAt.rot (h : RefAt w E G s) (i : Nat) (l : List UInt8) (hi : s.bl[i]? = some l) (j : Nat) (hj : j < 32) (y : UInt8) : RefAt (w.setCell ⟨G, 32 * i + j, none⟩ (.int .u8 (y.toNat : Int))) E G { s with bl := s.bl.set i (l.set j y) } := by
  refine ⟨?_, ?_, ?_, by simpa using h.small, h.fuseLe, h.fuseGe⟩
  · have := h.cells.far (p := ⟨G, 32 * i + j, none⟩) h.ne (.int .u8 (y.toNat : Int))
    simpa using this
  · have := h.row.set_ (32 * i + j) (B8 y)
    have e : ((s.bl.flatten.map B8).toArray).setIfInBounds (32 * i + j) (B8 y) = ((s.bl.set i (l.set j y)).flatten.map B8).toArray := by
      rw [List.setIfInBounds_toArray, ← List.map_set, flat_set h.l32 i l hi j hj y]
    rw [e] at this
    exact this
  · intro m hm
    rcases List.mem_or_eq_of_mem_set hm with hm | rfl
    · exact h.l32 m hm
    · rw [List.length_set]; exact h.l32 l (List.mem_of_getElem? hi)
/-- The row is another one, of as many blocks. -/
theorem RefAt.rerow {w2 : World} (h : RefAt w E G s) (hb : Below G w w2) (hE : E < G) : Blk w2 E 38 #[.slice (some ⟨G, 0, none⟩) (32 * s.bl.length) (32 * s.bl.length), .int .i64 s.fuse, .int .i64 (s.writes : Int), .bool s.down] := h.cells.below hb hE
end
theorem run_make_bytes (w : World) (n : Nat) (hn : n ≤ 140737488355328) : (Instr.makeSlice 22 (.int .i64 (n : Int)) (.int .i64 (n : Int))).run Try.prog w = .ok (.slice (some ⟨w.heap.size, 0, none⟩) n n) (w.alloc (.cells (madeCells #[.int .u8 0] n) 5)) := by
  obtain ⟨i0, hi0, hz0, hz1, hz2⟩ := info_parts u8_info
  have h := run_make (P := Try.prog) w 22 5 i0 (.int .u8 0) Try.underlying22 hi0 hz0 .i64 .i64 n n (by omega) (Int.le_refl _) (by rw [hz2]; omega) (by omega)
  simpa [hz1, Value.cells] using h
end Go.Proofs.Ytpdihggdopdolaa
