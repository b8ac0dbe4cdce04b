/- A disk in memory: its four cells, its row of blocks, the blocks; what a call leaves alone. No conditions. -/
import Derived.Test.YtpdihggdopdolaaBytes
import Derived.Test.YtpdihggdopdolaaAny
import Derived.Laws.MakeOwn
import Derived.Laws.OwnMore
namespace Go.Proofs.Ytpdihggdopdolaa
open Go.RowKit
/-- Only blocks of F may be other than they were. -/
structure Keeps (F : Nat → Prop) (w w' : World) : Prop where
  os : w'.os = w.os
  tape : w'.tape = w.tape
  output : w'.output = w.output
  size : w.heap.size ≤ w'.heap.size
  block : ∀ k, k < w.heap.size → ¬ F k → w'.heap[k]? = w.heap[k]?
section
variable {F F' : Nat → Prop} {a b c w w' : World} {B : Nat}
theorem Keeps.refl (F : Nat → Prop) (w : World) : Keeps F w w := ⟨rfl, rfl, rfl, Nat.le_refl _, fun _ _ _ => rfl⟩
theorem Keeps.trans (h : Keeps F a b) (k : Keeps F' b c) (hF : ∀ i, i < a.heap.size → F' i → F i) : Keeps F a c :=
  ⟨k.os.trans h.os, k.tape.trans h.tape, k.output.trans h.output, Nat.le_trans h.size k.size, fun i hi hn => (k.block i (Nat.lt_of_lt_of_le hi h.size) (fun e => hn (hF i hi e))).trans (h.block i hi hn)⟩
theorem Keeps.weaken (h : Keeps F a b) (hF : ∀ i, i < a.heap.size → F i → F' i) : Keeps F' a b :=
  ⟨h.os, h.tape, h.output, h.size, fun i hi hn => h.block i hi (fun e => hn (hF i hi e))⟩
theorem Keeps.of_below (h : Below w.heap.size w w') : Keeps F w w' := ⟨h.os, h.tape, h.output, h.size, fun k hk _ => h.block k hk⟩
theorem Keeps.below (h : Keeps F w w') (hF : ∀ i, F i → B ≤ i) (hB : B ≤ w.heap.size) : Below B w w' :=
  ⟨h.os, h.tape, h.output, h.size, fun k hk => h.block k (by omega) (fun e => by have := hF k e; omega)⟩
theorem Keeps.drew (h : Keeps F a b) : Keeps F a b.drew := ⟨h.os, h.tape, h.output, h.size, h.block⟩
theorem Keeps.alloc (h : Keeps F a b) (o : Obj) : Keeps F a (b.alloc o) := h.trans (Keeps.of_below (F := F) ((Below.refl _ _).alloc (Nat.le_refl _) o)) (fun _ _ e => e)
theorem Keeps.setCell (h : Keeps F a b) {p : Addr} (hp : F p.block) (u : Value) : Keeps F a (b.setCell p u) :=
  ⟨h.os, h.tape, h.output, by simp only [World.setCell, Array.size_modify]; exact h.size, fun k hk hn => (Below.heap_setCell _ _ _ _ (fun e => hn (by rw [e]; exact hp))).trans (h.block k hk hn)⟩
theorem Keeps.grown (h : Keeps F a b) {row : Option Nat} (hg : b.grownBy c row) (hr : ∀ k, row = some k → a.heap.size ≤ k ∨ F k) : Keeps F a c :=
  ⟨hg.os.trans h.os, hg.tape.trans h.tape, hg.output.trans h.output, Nat.le_trans h.size hg.size, fun i hi hn => (hg.block i (Nat.lt_of_lt_of_le hi h.size) (fun e => by rcases hr i e.symm with h1 | h1; omega; exact hn h1)).trans (h.block i hi hn)⟩
theorem Blk.keeps {g : Nat} {t : TypeId} {cs : Array Value} (h : Blk w g t cs) (hk : Keeps F w w') (hg : ¬ F g) : Blk w' g t cs := (hk.block g h.lt hg).trans h
theorem row_keeps {base size n : Nat} {e : TypeId} {v : Value} {xs : List Value} (h : w.ownsRow base e size v n xs) (hk : Keeps F w w') (hn : ∀ k, v.ownBlock = some k → ¬ F k) : w'.ownsRow base e size v n xs := by
  rcases h.2 with h2 | ⟨g, cap, cur, e1, hg, hh, r⟩
  · exact ⟨h.1, Or.inl h2⟩
  · subst e1
    exact ⟨h.1, Or.inr ⟨g, cap, cur, rfl, hg, (hk.block g (lt_of_block hh) (hn g rfl)).trans hh, r⟩⟩
theorem Own.keeps {base : Nat} {v : Value} {l : List UInt8} (h : Own w base v l) (hk : Keeps F w w') (hn : ∀ k, v.ownBlock = some k → ¬ F k) : Own w' base v l := row_keeps h hk hn
end
/-- A disk: its blocks, the writes that are done yet, whether the power is gone, the writes. -/
structure DS where
  bl : List (List UInt8)
  fuse : Int
  down : Bool
  writes : Nat
def DCells (r : Value) (s : DS) : Array Value := #[r, .int .i64 s.fuse, .bool s.down, .int .i64 (s.writes : Int)]
def slotV (p : Nat × Nat) : Value := .slice (some ⟨p.1, 0, none⟩) 32 p.2
structure DiskAt (w : World) (D : Nat) (gs : List (Nat × Nat)) (r : Value) (s : DS) : Prop where
  cells : Blk w D 67 (DCells r s)
  row : w.ownsRow 0 22 1 r gs.length (gs.map slotV)
  len : gs.length = s.bl.length
  nodup : ∀ (i j : Nat) (p q : Nat × Nat), gs[i]? = some p → gs[j]? = some q → p.1 = q.1 → i = j
  each : ∀ (i : Nat) (p : Nat × Nat) (l : List UInt8), gs[i]? = some p → s.bl[i]? = some l → l.length = 32 ∧ Own w 0 (slotV p) l
  small : s.bl.length ≤ 2048
  fuseLe : s.fuse ≤ 9223372036854775807
  fuseGe : -1 ≤ s.fuse
def Foot (D : Nat) (gs : List (Nat × Nat)) (r : Value) (k : Nat) : Prop := k = D ∨ r.ownBlock = some k ∨ ∃ p ∈ gs, p.1 = k
/-- A disk whose blocks are all of F. -/
def DiskIs (w : World) (F : Nat → Prop) (D : Nat) (s : DS) : Prop := ∃ gs r, DiskAt w D gs r s ∧ ∀ k, Foot D gs r k → F k
theorem DiskAt.keeps {w w' : World} {D : Nat} {gs : List (Nat × Nat)} {r : Value} {s : DS} {F : Nat → Prop} (h : DiskAt w D gs r s) (hk : Keeps F w w') (hn : ∀ k, Foot D gs r k → ¬ F k) : DiskAt w' D gs r s where
  cells := h.cells.keeps hk (hn D (Or.inl rfl))
  row := row_keeps h.row hk (fun k e => hn k (Or.inr (Or.inl e)))
  len := h.len
  nodup := h.nodup
  each := fun i p l hp hl => ⟨(h.each i p l hp hl).1, (h.each i p l hp hl).2.keeps hk (fun k e => hn k (Or.inr (Or.inr ⟨p, List.mem_of_getElem? hp, by simpa [slotV, Value.ownBlock] using e⟩)))⟩
  small := h.small
  fuseLe := h.fuseLe
  fuseGe := h.fuseGe
theorem DiskIs.keeps {w w' : World} {D : Nat} {s : DS} {F G : Nat → Prop} (h : DiskIs w F D s) (hk : Keeps G w w') (hn : ∀ k, F k → ¬ G k) : DiskIs w' F D s := by
  obtain ⟨gs, r, h1, h2⟩ := h
  exact ⟨gs, r, h1.keeps hk (fun k e => hn k (h2 k e)), h2⟩
theorem DiskIs.weaken {w : World} {D : Nat} {s : DS} {F G : Nat → Prop} (h : DiskIs w F D s) (hn : ∀ k, F k → G k) : DiskIs w G D s := by
  obtain ⟨gs, r, h1, h2⟩ := h
  exact ⟨gs, r, h1, fun k e => hn k (h2 k e)⟩
theorem DiskAt.foot_lt {w : World} {D : Nat} {gs : List (Nat × Nat)} {r : Value} {s : DS} (h : DiskAt w D gs r s) : ∀ k, Foot D gs r k → k < w.heap.size := by
  rintro k (rfl | hk | ⟨p, hp, rfl⟩)
  · exact h.cells.lt
  · exact (h.row.lt k hk).2
  · obtain ⟨i, hi, rfl⟩ := List.getElem_of_mem hp
    have h1 : gs[i]? = some gs[i] := List.getElem?_eq_getElem hi
    have h2 : s.bl[i]? = some (s.bl[i]'(by rw [← h.len]; exact hi)) := List.getElem?_eq_getElem _
    exact ((h.each i _ _ h1 h2).2.lt _ rfl).2
/-- What a call of the disk may touch, at most: what is old of F, and all that is new. -/
def Grown (F : Nat → Prop) (w : World) (k : Nat) : Prop := F k ∨ w.heap.size ≤ k
theorem DiskAt.below {w w' : World} {D : Nat} {gs : List (Nat × Nat)} {r : Value} {s : DS} (h : DiskAt w D gs r s) (hb : Below w.heap.size w w') : DiskAt w' D gs r s :=
  h.keeps (Keeps.of_below (F := fun _ => False) hb) (fun _ _ => id)
theorem DiskIs.below {w w' : World} {D : Nat} {s : DS} {F : Nat → Prop} (h : DiskIs w F D s) (hb : Below w.heap.size w w') : DiskIs w' F D s := by
  obtain ⟨gs, r, h1, h2⟩ := h
  exact ⟨gs, r, h1.below hb, h2⟩
section
variable {w : World} {D : Nat} {gs : List (Nat × Nat)} {r : Value} {s : DS}
theorem DiskAt.c0 (h : DiskAt w D gs r s) : w.cell? ⟨D, 0, none⟩ = some r := (h.cells.cell 0).trans rfl
theorem DiskAt.c1 (h : DiskAt w D gs r s) : w.cell? ⟨D, 1, none⟩ = some (.int .i64 s.fuse) := (h.cells.cell 1).trans rfl
theorem DiskAt.c2 (h : DiskAt w D gs r s) : w.cell? ⟨D, 2, none⟩ = some (.bool s.down) := (h.cells.cell 2).trans rfl
theorem DiskAt.c3 (h : DiskAt w D gs r s) : w.cell? ⟨D, 3, none⟩ = some (.int .i64 s.writes) := (h.cells.cell 3).trans rfl
theorem DiskAt.fz (h : DiskAt w D gs r s) (i : Nat) : w.frozen? ⟨D, i, none⟩ = false := h.cells.frozen i
theorem DiskAt.shape (h : DiskAt w D gs r s) : ∃ A c, r = .slice A s.bl.length c := by
  rcases h.row.2 with ⟨rfl, e⟩ | ⟨g, cap, cur, rfl, _⟩
  · rw [← h.len, e]; exact ⟨none, 0, rfl⟩
  · rw [← h.len]; exact ⟨_, cap, rfl⟩
/-- The slot of a block. -/
theorem DiskAt.slot (h : DiskAt w D gs r s) (i : Nat) (hi : i < s.bl.length) : ∃ R c g d l, r = .slice (some ⟨R, 0, none⟩) s.bl.length c ∧ gs[i]? = some (g, d) ∧ s.bl[i]? = some l ∧ l.length = 32 ∧ Own w 0 (slotV (g, d)) l ∧
    w.cell? ⟨R, i, none⟩ = some (.slice (some ⟨g, 0, none⟩) 32 d) ∧ w.frozen? ⟨R, i, none⟩ = false := by
  have hl := h.len
  have hgi : i < gs.length := by omega
  rcases h.row.2 with ⟨rfl, e⟩ | ⟨R, c, cur, rfl, hR⟩
  · omega
  · have h1 : gs[i]? = some (gs[i].1, gs[i].2) := List.getElem?_eq_getElem hgi
    have h2 : s.bl[i]? = some s.bl[i] := List.getElem?_eq_getElem hi
    have h3 := h.each i _ _ h1 h2
    refine ⟨R, c, _, _, _, by rw [hl], h1, h2, h3.1, h3.2, ?_, h.row.frozenAt i⟩
    rw [h.row.cellAt i (by omega), List.getElem?_map, h1]
    rfl
end
end Go.Proofs.Ytpdihggdopdolaa
