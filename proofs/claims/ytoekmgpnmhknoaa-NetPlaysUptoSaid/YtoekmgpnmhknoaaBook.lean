/- The walks of the document's Book. Conditions: sizes. -/
import Derived.Test.YtoekmgpnmhknoaaWord1
import Derived.Test.YtoekmgpnmhknoaaAnyD
namespace Go.Proofs.Ytoekmgpnmhknoaa
open Go.RowKit
structure BkAt (w : World) (D : Nat) (v : Value) (s : WS) : Prop where
  cells : Blk w D 57 #[v, .bool s.bad]
  own : Own w 0 v s.out
  apart : ∀ k, v.ownBlock = some k → k ≠ D
def BkIs (w : World) (F : Nat → Prop) (D : Nat) (s : WS) : Prop := ∃ v, BkAt w D v s ∧ F D ∧ ∀ k, v.ownBlock = some k → F k
section
variable {w w' : World} {D : Nat} {v : Value} {s : WS} {F G : Nat → Prop}
theorem BkAt.keeps (h : BkAt w D v s) (hk : Keeps G w w') (hD : ¬ G D) (hv : ∀ k, v.ownBlock = some k → ¬ G k) : BkAt w' D v s := ⟨h.cells.keeps hk hD, h.own.keeps hk hv, h.apart⟩
theorem BkIs.keeps (h : BkIs w F D s) (hk : Keeps G w w') (hn : ∀ k, F k → ¬ G k) : BkIs w' F D s := by
  obtain ⟨v, h1, h2, h3⟩ := h
  exact ⟨v, h1.keeps hk (hn D h2) (fun k e => hn k (h3 k e)), h2, h3⟩
theorem BkIs.below (h : BkIs w F D s) (hb : Below w.heap.size w w') : BkIs w' F D s := by
  obtain ⟨v, h1, h2, h3⟩ := h
  exact ⟨v, h1.keeps (Keeps.of_below (F := fun _ => False) hb) id (fun _ _ => id), h2, h3⟩
theorem BkIs.weaken (h : BkIs w F D s) (hn : ∀ k, F k → G k) : BkIs w G D s := by
  obtain ⟨v, h1, h2, h3⟩ := h
  exact ⟨v, h1, hn D h2, fun k e => hn k (h3 k e)⟩
theorem BkAt.c0 (h : BkAt w D v s) : w.cell? ⟨D, 0, none⟩ = some v := (h.cells.cell 0).trans rfl
theorem BkAt.c1 (h : BkAt w D v s) : w.cell? ⟨D, 1, none⟩ = some (.bool s.bad) := (h.cells.cell 1).trans rfl
theorem BkAt.fz (h : BkAt w D v s) (i : Nat) : w.frozen? ⟨D, i, none⟩ = false := h.cells.frozen i
theorem BkAt.set_bad (h : BkAt w D v s) : BkAt (w.setCell ⟨D, 1, none⟩ (.bool true)) D v { s with bad := true } := by
  have hk : Keeps (fun k => k = D) w (w.setCell ⟨D, 1, none⟩ (.bool true)) := (Keeps.refl (fun k => k = D) w).setCell (p := ⟨D, 1, none⟩) rfl _
  exact ⟨h.cells.set_ 1 (.bool true), h.own.keeps hk h.apart, h.apart⟩
/-- The row is another one: what was put, and more. -/
theorem BkAt.grow (h : BkAt w D v s) {wA : World} {v' : Value} {l : List UInt8} {W1 : World} (hb : Below w.heap.size w W1) (hown : Own wA 0 v' (s.out ++ l)) (hg : W1.grownBy wA v.ownBlock) (hat : v'.ownBlock = v.ownBlock ∨ v'.ownBlock = some W1.heap.size) :
    BkAt (wA.setCell ⟨D, 0, none⟩ v') D v' { s with out := s.out ++ l } := by
  have hDl := h.cells.lt
  have hap : ∀ k, v'.ownBlock = some k → k ≠ D := by
    intro k e
    rcases hat with e2 | e2
    · exact h.apart k (e2.symm.trans e)
    · rw [e2] at e; injection e with e; have := hb.size; omega
  have hk : Keeps (fun k => k = D) wA (wA.setCell ⟨D, 0, none⟩ v') := (Keeps.refl (fun k => k = D) wA).setCell (p := ⟨D, 0, none⟩) rfl _
  have hc1 := (h.cells.below hb hDl)
  have hc2 : Blk wA D 57 #[v, .bool s.bad] := hc1.grown hg (fun e => h.apart D e.symm rfl)
  exact ⟨hc2.set_ 0 v', hown.keeps hk hap, hap⟩
/-- Both cells are set: the row with more, and whether something could not be put. -/
theorem BkAt.done2 (h : BkAt w D v s) (h2 : F D) (h3 : ∀ k, v.ownBlock = some k → F k) {wA W1 : World} {v' : Value} {l : List UInt8} (b : Bool) (hb : Below w.heap.size w W1) (hown : Own wA 0 v' (s.out ++ l)) (hg : W1.grownBy wA v.ownBlock) (hat : v'.ownBlock = v.ownBlock ∨ v'.ownBlock = some W1.heap.size) :
    BkIs ((wA.setCell ⟨D, 0, none⟩ v').setCell ⟨D, 1, none⟩ (.bool b)) (Grown F w) D { out := s.out ++ l, bad := b } ∧ Keeps F w ((wA.setCell ⟨D, 0, none⟩ v').setCell ⟨D, 1, none⟩ (.bool b)) := by
  have h4 := h.grow hb hown hg hat
  have hk : Keeps (fun k => k = D) (wA.setCell ⟨D, 0, none⟩ v') ((wA.setCell ⟨D, 0, none⟩ v').setCell ⟨D, 1, none⟩ (.bool b)) := (Keeps.refl (fun k => k = D) _).setCell (p := ⟨D, 1, none⟩) rfl _
  have h5 : BkAt ((wA.setCell ⟨D, 0, none⟩ v').setCell ⟨D, 1, none⟩ (.bool b)) D v' { out := s.out ++ l, bad := b } := ⟨h4.cells.set_ 1 (.bool b), h4.own.keeps hk h4.apart, h4.apart⟩
  refine ⟨⟨v', h5, Or.inl h2, fun k e => ?_⟩, (((Keeps.of_below hb).grown hg (fun k e => Or.inr (h3 k e))).setCell (p := ⟨D, 0, none⟩) h2 _).setCell (p := ⟨D, 1, none⟩) h2 _⟩
  rcases hat with e2 | e2
  · exact Or.inl (h3 k (e2.symm.trans e))
  · rw [e2] at e; injection e with e; exact Or.inr (by have := hb.size; omega)
theorem BkAt.done (h : BkAt w D v s) (h2 : F D) (h3 : ∀ k, v.ownBlock = some k → F k) {wA W1 : World} {v' : Value} {l : List UInt8} (hb : Below w.heap.size w W1) (hown : Own wA 0 v' (s.out ++ l)) (hg : W1.grownBy wA v.ownBlock) (hat : v'.ownBlock = v.ownBlock ∨ v'.ownBlock = some W1.heap.size) :
    BkIs (wA.setCell ⟨D, 0, none⟩ v') (Grown F w) D { s with out := s.out ++ l } ∧ Keeps F w (wA.setCell ⟨D, 0, none⟩ v') := by
  refine ⟨⟨v', h.grow hb hown hg hat, Or.inl h2, fun k e => ?_⟩, ((Keeps.of_below hb).grown hg (fun k e => Or.inr (h3 k e))).setCell (p := ⟨D, 0, none⟩) h2 _⟩
  rcases hat with e2 | e2
  · exact Or.inl (h3 k (e2.symm.trans e))
  · rw [e2] at e; injection e with e; exact Or.inr (by have := hb.size; omega)
end
/-- ref.Bytes: the bytes with their number, if they have one. -/
theorem RefBytes_any (w : World) (A : Option Addr) (n c : Nat) (l : List UInt8) (hn : n ≤ 140737488351232) (hr : Rd w w.heap.size A n l) :
    Calls Try.prog 27 #[.slice A n c] w fun e w' => ∃ v, e = .returned (.tuple #[v, .bool (decide (l.length ≤ 65535))]) ∧ Own w' w.heap.size v (if l.length ≤ 65535 then b2 l.length ++ l else []) ∧ Below w.heap.size w w' := by
  have hl := hr.len
  by_cases h6 : n ≤ 65535
  · have hd : decide (l.length ≤ 65535) = true := by simp; omega
    rw [hd]
    simp only [if_pos (show l.length ≤ 65535 by omega)]
    have hB2 := Lib.hid (b2_cells n h6)
    have HL := Lib.hid hl
    have h6' : ¬ (n : Int) > 65535 := by omega
    clear hd hl
    go_enter Try.func27, Try.ntmps27
    go_wp2_with (at_builtin; refine app_bytes rfl (.tmp 15) (.tmp 16) rfl w.heap.size (.slice (some ⟨w.heap.size, 0, none⟩) 2 2) (b2 n) rfl (Own.new_ w w.heap.size (Nat.le_refl _) (b2 n) (by simp [b2]) _ hB2.out) w.heap.size A n c l rfl (hr.alloc (Nat.le_refl _) _) (by simp [b2]; omega) (by simp) ?_; intro v1 w1 hown1 hg1 hat1)
    have hb1 : Below w.heap.size w w1 := below_app ((Below.refl w.heap.size w).alloc (Nat.le_refl _) _) (Own.new_ w w.heap.size (Nat.le_refl _) (b2 n) (by simp [b2]) _ hB2.out) (by simp) hg1
    go_ret2
    rw [← HL.out]
    exact ⟨_, rfl, hown1, hb1⟩
  · have hd : decide (l.length ≤ 65535) = false := by simp; omega
    rw [hd]
    simp only [if_neg (show ¬ l.length ≤ 65535 by omega)]
    have h6' : (n : Int) > 65535 := by omega
    clear hd hl
    go_enter Try.func27, Try.ntmps27
    go_wp2
    go_ret2
    exact ⟨_, rfl, Own.nil_ _ _, Below.refl _ _⟩
end Go.Proofs.Ytoekmgpnmhknoaa
