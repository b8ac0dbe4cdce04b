/- Writes one behind the other; what is laid beside a slot's disk. No conditions. -/
import Derived.Test.YtpdihggdopdolaaSlot6
namespace Go.Proofs.Ytpdihggdopdolaa
open Go.RowKit Go.Shelf
/-- Writes, one behind the other, as far as they are done. -/
def DS.writeAll : DS → List (Nat × List UInt8) → Int × DS
  | s, [] => (0, s)
  | s, p :: r => if (s.write (p.1 : Int) p.2).1 = 0 then DS.writeAll (s.write (p.1 : Int) p.2).2 r else s.write (p.1 : Int) p.2
theorem writeAll_ok {a : List (Nat × List UInt8)} : ∀ {s : DS} (b : List (Nat × List UInt8)), (s.writeAll a).1 = 0 → s.writeAll (a ++ b) = (s.writeAll a).2.writeAll b := by
  induction a with
  | nil => intro s b _; rfl
  | cons p r ih =>
    intro s b h
    by_cases h1 : (s.write (p.1 : Int) p.2).1 = 0
    · simp only [DS.writeAll, List.cons_append, if_pos h1] at h ⊢
      exact ih b h
    · simp only [DS.writeAll, if_neg h1] at h
      exact absurd h h1
theorem writeAll_no {a : List (Nat × List UInt8)} : ∀ {s : DS} (b : List (Nat × List UInt8)), (s.writeAll a).1 ≠ 0 → s.writeAll (a ++ b) = s.writeAll a := by
  induction a with
  | nil => intro s b h; exact absurd rfl h
  | cons p r ih =>
    intro s b h
    by_cases h1 : (s.write (p.1 : Int) p.2).1 = 0
    · simp only [DS.writeAll, List.cons_append, if_pos h1] at h ⊢
      exact ih b h
    · simp only [DS.writeAll, List.cons_append, if_neg h1]
theorem writeAll_one (s : DS) (k : Nat) (l : List UInt8) : s.writeAll [(k, l)] = s.write (k : Int) l := by
  simp only [DS.writeAll]
  split
  · next h => exact Prod.ext h.symm rfl
  · rfl
theorem write_writes (s : DS) (k : Int) (l : List UInt8) : (s.write k l).2.writes ≤ s.writes + 1 ∧ (s.write k l).2.bl.length = s.bl.length := by
  unfold DS.write
  split
  · split
    · exact ⟨Nat.le_succ _, rfl⟩
    · exact ⟨Nat.le_refl _, by simp⟩
  · exact ⟨Nat.le_succ _, rfl⟩
theorem writeAll_writes (a : List (Nat × List UInt8)) : ∀ (s : DS), (s.writeAll a).2.writes ≤ s.writes + a.length ∧ (s.writeAll a).2.bl.length = s.bl.length := by
  induction a with
  | nil => intro s; exact ⟨Nat.le_refl _, rfl⟩
  | cons p r ih =>
    intro s
    simp only [DS.writeAll]
    have h1 := write_writes s (p.1 : Int) p.2
    split
    · have h2 := ih (s.write (p.1 : Int) p.2).2
      exact ⟨by have := h2.1; have := h1.1; simp only [List.length_cons]; omega, h2.2.trans h1.2⟩
    · exact ⟨by have := h1.1; simp only [List.length_cons]; omega, h1.2⟩
/-- The writes of a Save. -/
def newList (room o : Nat) (b : List UInt8) (k : Nat) : List (Nat × List UInt8) := (List.range k).map fun i => (1 + o * room + i, pieceOf b i)
def oldList (room side k : Nat) : List (Nat × List UInt8) := (List.range k).map fun i => (1 + side * room + i, zero32)
def saveList (room side : Nat) (kept b : List UInt8) : List (Nat × List UInt8) := newList room (1 - side) b (takesOf b.length) ++ ((0, rootB (1 - side) b.length) :: oldList room side (takesOf kept.length))
theorem newList_succ (room o : Nat) (b : List UInt8) (k : Nat) : newList room o b (k + 1) = newList room o b k ++ [(1 + o * room + k, pieceOf b k)] := by unfold newList; rw [List.range_succ, List.map_append]; rfl
theorem oldList_succ (room side k : Nat) : oldList room side (k + 1) = oldList room side k ++ [(1 + side * room + k, zero32)] := by unfold oldList; rw [List.range_succ, List.map_append]; rfl
theorem newList_len (room o : Nat) (b : List UInt8) (k : Nat) : (newList room o b k).length = k := by simp [newList]
theorem oldList_len (room side k : Nat) : (oldList room side k).length = k := by simp [oldList]
/-- What a Save of a good slot answers, and what is on the disk behind it. -/
def DS.save (s : DS) (room side : Nat) (kept b : List UInt8) : Int × DS := if room < takesOf b.length then (7, s) else s.writeAll (saveList room side kept b)
theorem newList_pre {room o k n : Nat} {b : List UInt8} (h : k ≤ n) : ∃ r, newList room o b n = newList room o b k ++ r := by
  refine ⟨(List.range' k (n - k)).map fun i => (1 + o * room + i, pieceOf b i), ?_⟩
  unfold newList
  rw [← List.map_append, List.range_eq_range', List.range_eq_range']
  congr 1
  have := List.range'_append_1 (s := 0) (m := k) (n := n - k)
  rw [Nat.zero_add] at this
  rw [this, Nat.add_sub_cancel' h]
theorem oldList_pre {room o k n : Nat} (h : k ≤ n) : ∃ r, oldList room o n = oldList room o k ++ r := by
  refine ⟨(List.range' k (n - k)).map fun i => (1 + o * room + i, zero32), ?_⟩
  unfold oldList
  rw [← List.map_append, List.range_eq_range', List.range_eq_range']
  congr 1
  have := List.range'_append_1 (s := 0) (m := k) (n := n - k)
  rw [Nat.zero_add] at this
  rw [this, Nat.add_sub_cancel' h]
/-- A write of a piece fails: so does the Save. -/
theorem save_new_no {s : DS} {room side : Nat} {kept b : List UInt8} {k : Nat} (hr : ¬ room < takesOf b.length) (hk : k < takesOf b.length) (h0 : (s.writeAll (newList room (1 - side) b k)).1 = 0)
    (h : ((s.writeAll (newList room (1 - side) b k)).2.write ((1 + (1 - side) * room + k : Nat) : Int) (pieceOf b k)).1 ≠ 0) : s.save room side kept b = (s.writeAll (newList room (1 - side) b k)).2.write ((1 + (1 - side) * room + k : Nat) : Int) (pieceOf b k) := by
  unfold DS.save
  rw [if_neg hr]
  unfold saveList
  obtain ⟨r, e⟩ := newList_pre (room := room) (o := 1 - side) (b := b) (show k + 1 ≤ takesOf b.length from hk)
  have h1 : s.writeAll (newList room (1 - side) b (k + 1)) = (s.writeAll (newList room (1 - side) b k)).2.write ((1 + (1 - side) * room + k : Nat) : Int) (pieceOf b k) := by
    rw [newList_succ, writeAll_ok _ h0, writeAll_one]
  rw [e, List.append_assoc, writeAll_no _ (by rw [h1]; exact h), h1]
theorem save_step {s : DS} {room o : Nat} {b : List UInt8} {k : Nat} (h0 : (s.writeAll (newList room o b k)).1 = 0) : s.writeAll (newList room o b (k + 1)) = (s.writeAll (newList room o b k)).2.write ((1 + o * room + k : Nat) : Int) (pieceOf b k) := by
  rw [newList_succ, writeAll_ok _ h0, writeAll_one]
theorem old_step {s : DS} {room o : Nat} {k : Nat} (h0 : (s.writeAll (oldList room o k)).1 = 0) : s.writeAll (oldList room o (k + 1)) = (s.writeAll (oldList room o k)).2.write ((1 + o * room + k : Nat) : Int) zero32 := by
  rw [oldList_succ, writeAll_ok _ h0, writeAll_one]
/-- The write of the root. -/
def DS.mid (s : DS) (room side : Nat) (b : List UInt8) : Int × DS := (s.writeAll (newList room (1 - side) b (takesOf b.length))).2.write 0 (rootB (1 - side) b.length)
theorem save_mid_no {s : DS} {room side : Nat} {kept b : List UInt8} (hr : ¬ room < takesOf b.length) (h0 : (s.writeAll (newList room (1 - side) b (takesOf b.length))).1 = 0) (h : (s.mid room side b).1 ≠ 0) : s.save room side kept b = s.mid room side b := by
  unfold DS.save
  rw [if_neg hr]
  unfold saveList
  rw [writeAll_ok _ h0]
  simp only [DS.writeAll]
  exact if_neg h
theorem save_mid_ok {s : DS} {room side : Nat} {kept b : List UInt8} (hr : ¬ room < takesOf b.length) (h0 : (s.writeAll (newList room (1 - side) b (takesOf b.length))).1 = 0) (h : (s.mid room side b).1 = 0) : s.save room side kept b = (s.mid room side b).2.writeAll (oldList room side (takesOf kept.length)) := by
  unfold DS.save
  rw [if_neg hr]
  unfold saveList
  rw [writeAll_ok _ h0]
  simp only [DS.writeAll]
  exact if_pos h
theorem save_old_no {t : DS} {room side k n : Nat} (hk : k < n) (h0 : (t.writeAll (oldList room side k)).1 = 0) (h : ((t.writeAll (oldList room side k)).2.write ((1 + side * room + k : Nat) : Int) zero32).1 ≠ 0) :
    t.writeAll (oldList room side n) = (t.writeAll (oldList room side k)).2.write ((1 + side * room + k : Nat) : Int) zero32 := by
  obtain ⟨r, e⟩ := oldList_pre (room := room) (o := side) (show k + 1 ≤ n from hk)
  rw [e, writeAll_no _ (by rw [old_step h0]; exact h), old_step h0]
/-! What is laid beside the disk. -/
theorem lt_of_get {w : World} {k : Nat} {o : Obj} (h : w.heap[k]? = some o) : k < w.heap.size := (Array.getElem?_eq_some_iff.1 h).1
theorem DiskAt.cells_of {w : World} {D : Nat} {gs : List (Nat × Nat)} {r : Value} {s : DS} (h : DiskAt w D gs r s) : ∀ k, Foot D gs r k → ∃ o, w.heap[k]? = some o ∧ o.isCells = true := by
  rintro k (rfl | e | ⟨p, hp, rfl⟩)
  · exact ⟨_, h.cells, rfl⟩
  · rcases h.row.2 with ⟨rfl, _⟩ | ⟨g, cap, cur, rfl, _, hg, _⟩
    · cases e
    · cases e; exact ⟨_, hg, rfl⟩
  · obtain ⟨j, hj, rfl⟩ := List.getElem_of_mem hp
    have h1 : gs[j]? = some gs[j] := List.getElem?_eq_getElem hj
    have h2 : s.bl[j]? = some (s.bl[j]'(by rw [← h.len]; exact hj)) := List.getElem?_eq_getElem _
    have h3 := h.each j _ _ h1 h2
    obtain ⟨g, c0, cur, e1, _, hB, _⟩ := h3.2.blk (by omega)
    injection e1 with e1 _ _
    simp only [Option.some.injEq, Addr.mk.injEq, and_true] at e1
    rw [e1]
    exact ⟨_, hB, rfl⟩
/-- A slot's disk lies in cells: it may be said of blocks of F alone that are cells. -/
theorem SlotIs.tight {w : World} {F : Nat → Prop} {S room : Nat} {s : DS} (h : SlotIs w F S room s) : SlotIs w (fun k => F k ∧ ∃ o, w.heap[k]? = some o ∧ o.isCells = true) S room s := by
  obtain ⟨D, G, hS, ⟨gs, r, hA, hF⟩, h3, h4, h5⟩ := h
  exact ⟨D, Foot D gs r, hS, ⟨gs, r, hA, fun k e => e⟩, fun e => h3 (hF _ e), fun k e => ⟨h4 k (hF k e), hA.cells_of k e⟩, h5, _, hS, rfl⟩
theorem keeps_putObj (w : World) (l : Nat) (o : Obj) : Keeps (fun k => k = l) w (w.putObj l o) := ⟨rfl, rfl, rfl, by simp, fun k _ hn => World.putObj_heap_other hn⟩
theorem SlotIs.putObj {w : World} {F : Nat → Prop} {S room : Nat} {s : DS} {l : Nat} {ob : Obj} (h : SlotIs w F S room s) (hl : w.heap[l]? = some ob) (hc : ob.isCells = false) (o : Obj) : SlotIs (w.putObj l o) F S room s := by
  refine (h.tight.keeps (keeps_putObj w l o) ?_).weaken fun k e => e.1
  rintro k ⟨_, o', e1, e2⟩ rfl
  rw [hl] at e1
  cases e1
  rw [hc] at e2
  cases e2
/-- A write to a slot's disk. -/
theorem SWrite_any (w : World) (F : Nat → Prop) (S room : Nat) (s : DS) (k : Nat) (A : Option Addr) (m c : Nat) (l : List UInt8) (D : Nat) (hw : s.writes ≤ 4611686018427387904) (h : SlotIs w F S room s) (hD : w.cell? ⟨S, 0, none⟩ = some (.pointer (some ⟨D, 0, none⟩))) (hr : Rd w w.heap.size A m l) :
    Calls Try.prog 14 #[.pointer (some ⟨D, 0, none⟩), .int .i64 (k : Int), .slice A m c] w fun e w' => e = .returned (.int .i64 (s.write (k : Int) l).1) ∧ SlotIs w' (Grown F w) S room (s.write (k : Int) l).2 ∧ Keeps F w w' ∧ KeepsFrom 0 w w' ∧ Blk w' S 71 #[.pointer (some ⟨D, 0, none⟩), .int .i64 (room : Int)] := by
  obtain ⟨D', G, hS, ⟨gs, r, hA, hF⟩, h3, h4, h5⟩ := h
  obtain rfl : D' = D := by
    have h9 := ((hS.cell 0).trans rfl : w.cell? ⟨S, 0, none⟩ = some (.pointer (some ⟨D', 0, none⟩)))
    rw [hD] at h9
    simp only [Option.some.injEq, Value.pointer.injEq, Addr.mk.injEq, and_true] at h9
    exact h9.symm
  refine (Write_any w (Foot D' gs r) D' s (k : Int) A m c l hw ⟨gs, r, hA, fun k e => e⟩ hr).mono ?_
  rintro e w' ⟨rfl, hd, hk⟩
  obtain ⟨g1, g2⟩ := SlotIs.call (F := F) hS (fun e => h3 (hF _ e)) (fun k e => h4 k (hF k e)) h5 hd hk
  refine ⟨rfl, g1, g2, ⟨hk.size, fun j o _ ho hc => ?_⟩, hS.keeps hk (fun e => h3 (hF _ e))⟩
  refine (hk.block j (lt_of_get ho) fun e => ?_).trans ho
  obtain ⟨o', e1, e2⟩ := hA.cells_of j e
  rw [ho] at e1
  cases e1
  rw [hc] at e2
  cases e2
theorem rd_off {w w' : World} {F : Nat → Prop} {B n : Nat} {A : Option Addr} {l : List UInt8} (h : Rd w B A n l) (hk : Keeps F w w') (hB : B ≤ w.heap.size) (hoff : ∀ ad, A = some ad → ad.block < B → ¬ F ad.block) : Rd w' B A n l := by
  refine ⟨h.1, fun hn => ?_⟩
  obtain ⟨ad, e, hb, hc⟩ := h.2 hn
  exact ⟨ad, e, hb, fun j u hu => (World.cell?_of_block (a := ad.add j) (by rw [block_of_add]; exact hk.block _ (Nat.lt_of_lt_of_le hb hB) (hoff ad e hb))).trans (hc j u hu)⟩
theorem pieces_any (A : Option Addr) (n c : Nat) (w : World) :
    Calls Try.prog 40 #[.slice A n c] w fun e w' => e = .returned (.func (.func 46) #[] #[.pointer (some ⟨w.heap.size, 0, none⟩)]) ∧ w' = w.alloc (.cells #[.slice A n c] 22) := by
  go_enter Try.func40, Try.ntmps40
  go_wp2
  go_ret
  exact ⟨rfl, rfl⟩
end Go.Proofs.Ytpdihggdopdolaa
