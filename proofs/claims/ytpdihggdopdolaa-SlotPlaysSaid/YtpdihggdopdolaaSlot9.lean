/- What a Save leaves on a good slot's disk: the plain law; and Save's contract. Conditions: the sizes. -/
import Derived.Test.YtpdihggdopdolaaSlot8
namespace Go.Proofs.Ytpdihggdopdolaa
open Go.RowKit Go.Shelf
/-- The power: writes that are done yet, whether it is gone, writes that were done. -/
structure PW where
  left : Int
  gone : Bool
  writes : Nat
def DS.pw (s : DS) : PW := ⟨s.fuse, s.down, s.writes⟩
/-- So many writes. -/
def PW.run : PW → Nat → Bool × PW
  | p, 0 => (true, p)
  | p, k + 1 => if (p.gone || decide (p.left = 0)) = true then (false, { p with gone := true }) else PW.run ⟨if 0 < p.left then p.left - 1 else p.left, false, p.writes + 1⟩ k
theorem PW.run_succ (p : PW) : ∀ (k : Nat), p.run (k + 1) = if (p.run k).1 = true then (p.run k).2.run 1 else p.run k := by
  intro k
  induction k generalizing p with
  | zero => rfl
  | succ k ih =>
    rw [show p.run (k + 1 + 1) = if (p.gone || decide (p.left = 0)) = true then (false, { p with gone := true }) else PW.run ⟨if 0 < p.left then p.left - 1 else p.left, false, p.writes + 1⟩ (k + 1) from rfl]
    rw [show p.run (k + 1) = if (p.gone || decide (p.left = 0)) = true then (false, { p with gone := true }) else PW.run ⟨if 0 < p.left then p.left - 1 else p.left, false, p.writes + 1⟩ k from rfl]
    split
    · simp
    · exact ih _
theorem PW.run_add (p : PW) (j : Nat) : ∀ (k : Nat), p.run (j + k) = if (p.run j).1 = true then (p.run j).2.run k else p.run j := by
  intro k
  induction k with
  | zero =>
    rw [Nat.add_zero]
    split
    · next h => exact Prod.ext h rfl
    · rfl
  | succ k ih =>
    rw [← Nat.add_assoc, PW.run_succ, ih]
    by_cases h : (p.run j).1 = true
    · rw [if_pos h, if_pos h, ← PW.run_succ]
    · rw [if_neg h, if_neg h, if_neg h]
theorem write_at {s : DS} {k : Nat} {l : List UInt8} (hk : k < s.bl.length) (hl : l.length = 32) : s.write (k : Int) l = if (s.down || decide (s.fuse = 0)) = true then (3, { s with down := true }) else (0, { bl := s.bl.set k l, fuse := if 0 < s.fuse then s.fuse - 1 else s.fuse, down := false, writes := s.writes + 1 }) := by
  unfold DS.write
  rw [if_pos ⟨by unfold DS.has; exact decide_eq_true ⟨by omega, by omega⟩, hl⟩, Int.toNat_natCast]
theorem write_pw {s : DS} {k : Nat} {l : List UInt8} (hk : k < s.bl.length) (hl : l.length = 32) : (s.write (k : Int) l).1 = (if (s.pw.run 1).1 = true then 0 else 3) ∧ (s.write (k : Int) l).2.pw = (s.pw.run 1).2 ∧ ((s.write (k : Int) l).1 = 0 → (s.write (k : Int) l).2.bl = s.bl.set k l) ∧ ((s.write (k : Int) l).1 ≠ 0 → (s.write (k : Int) l).2.bl = s.bl) := by
  rw [write_at hk hl]
  unfold PW.run DS.pw
  split
  · exact ⟨rfl, rfl, fun h => (by cases h), fun _ => rfl⟩
  · exact ⟨rfl, rfl, fun _ => rfl, fun h => absurd rfl h⟩
def Valid (s : DS) (a : List (Nat × List UInt8)) : Prop := ∀ p ∈ a, p.1 < s.bl.length ∧ p.2.length = 32
theorem writeAll_pw (a : List (Nat × List UInt8)) : ∀ (s : DS), Valid s a → (s.writeAll a).1 = (if (s.pw.run a.length).1 = true then 0 else 3) ∧ (s.writeAll a).2.pw = (s.pw.run a.length).2 := by
  induction a with
  | nil => intro s _; exact ⟨rfl, rfl⟩
  | cons p r ih =>
    intro s hv
    obtain ⟨hk, hl⟩ := hv p (by simp)
    obtain ⟨h1, h2, h3, h4⟩ := write_pw hk hl
    have hadd := PW.run_add s.pw 1 r.length
    rw [Nat.add_comm] at hadd
    simp only [DS.writeAll, List.length_cons]
    generalize s.pw.run (r.length + 1) = q at hadd ⊢
    subst hadd
    by_cases hr : (s.pw.run 1).1 = true
    · rw [if_pos hr] at h1
      rw [if_pos h1, if_pos hr, ← h2]
      refine ih _ fun q hq => ?_
      obtain ⟨a1, a2⟩ := hv q (by simp [hq])
      exact ⟨by rw [h3 h1, List.length_set]; exact a1, a2⟩
    · rw [if_neg hr] at h1
      rw [if_neg (by rw [h1]; decide), if_neg hr, if_neg hr]
      exact ⟨h1, h2⟩
/-- Blocks that are not written stay; all that is written has 32 bytes. -/
theorem writeAll_rest (a : List (Nat × List UInt8)) : ∀ (s : DS), Valid s a → (∀ k, (∀ p ∈ a, p.1 ≠ k) → (s.writeAll a).2.bl[k]? = s.bl[k]?) ∧ ((∀ (i : Nat) (l : List UInt8), s.bl[i]? = some l → l.length = 32) → ∀ (i : Nat) (l : List UInt8), (s.writeAll a).2.bl[i]? = some l → l.length = 32) := by
  induction a with
  | nil => intro s _; exact ⟨fun k _ => rfl, fun h => h⟩
  | cons p r ih =>
    intro s hv
    obtain ⟨hk, hl⟩ := hv p (by simp)
    obtain ⟨h1, h2, h3, h4⟩ := write_pw hk hl
    simp only [DS.writeAll]
    have hset : ∀ k, p.1 ≠ k → (s.write (p.1 : Int) p.2).2.bl[k]? = s.bl[k]? := fun k hne => by
      by_cases hz : (s.write (p.1 : Int) p.2).1 = 0
      · rw [h3 hz, List.getElem?_set, if_neg hne]
      · rw [h4 hz]
    have h32 : (∀ (i : Nat) (l : List UInt8), s.bl[i]? = some l → l.length = 32) → ∀ (i : Nat) (l : List UInt8), (s.write (p.1 : Int) p.2).2.bl[i]? = some l → l.length = 32 := fun h i l hi => by
      by_cases hz : (s.write (p.1 : Int) p.2).1 = 0
      · rw [h3 hz, List.getElem?_set] at hi
        by_cases e : p.1 = i
        · subst e
          rw [if_pos rfl, if_pos hk] at hi
          injection hi with hi
          rw [← hi]
          exact hl
        · rw [if_neg e] at hi
          exact h i l hi
      · rw [h4 hz] at hi; exact h i l hi
    split
    · next hz =>
      have hv2 : Valid (s.write (p.1 : Int) p.2).2 r := fun q hq => by
        obtain ⟨a1, a2⟩ := hv q (by simp [hq])
        exact ⟨by rw [h3 hz, List.length_set]; exact a1, a2⟩
      obtain ⟨g1, g2⟩ := ih _ hv2
      exact ⟨fun k hk => (g1 k fun q hq => hk q (by simp [hq])).trans (hset k (hk p (by simp))), fun h => g2 (h32 h)⟩
    · exact ⟨fun k hk => hset k (hk p (by simp)), h32⟩
theorem idx_ne {side room i j : Nat} (hs : side ≤ 1) (hi : i < room) (hj : j < room) : 1 + side * room + i ≠ 1 + (1 - side) * room + j := by
  rcases (show side = 0 ∨ side = 1 by omega) with rfl | rfl <;> simp <;> omega
theorem idx_lt {side room i : Nat} (hs : side ≤ 1) (hi : i < room) : 1 + side * room + i < 1 + 2 * room := by
  have h9 : side * room ≤ 1 * room := Nat.mul_le_mul_right room hs
  omega
theorem newList_mem {room o k : Nat} {b : List UInt8} {p : Nat × List UInt8} (h : p ∈ newList room o b k) : ∃ i, i < k ∧ p = (1 + o * room + i, pieceOf b i) := by
  unfold newList at h
  obtain ⟨i, hi, rfl⟩ := List.mem_map.1 h
  exact ⟨i, List.mem_range.1 hi, rfl⟩
theorem oldList_mem {room o k : Nat} {p : Nat × List UInt8} (h : p ∈ oldList room o k) : ∃ i, i < k ∧ p = (1 + o * room + i, zero32) := by
  unfold oldList at h
  obtain ⟨i, hi, rfl⟩ := List.mem_map.1 h
  exact ⟨i, List.mem_range.1 hi, rfl⟩
theorem newList_valid {s : DS} {room o k : Nat} {b : List UInt8} (hl : s.bl.length = 1 + 2 * room) (ho : o ≤ 1) (hk : k ≤ room) : Valid s (newList room o b k) := fun p hp => by
  obtain ⟨i, hi, rfl⟩ := newList_mem hp
  exact ⟨by rw [hl]; exact idx_lt ho (by omega), pieceOf_len _ _⟩
theorem oldList_valid {s : DS} {room o k : Nat} (hl : s.bl.length = 1 + 2 * room) (ho : o ≤ 1) (hk : k ≤ room) : Valid s (oldList room o k) := fun p hp => by
  obtain ⟨i, hi, rfl⟩ := oldList_mem hp
  exact ⟨by rw [hl]; exact idx_lt ho (by omega), zero32_len⟩
theorem newList_ok {s : DS} {room o : Nat} {b : List UInt8} (hl : s.bl.length = 1 + 2 * room) (ho : o ≤ 1) : ∀ (k : Nat), k ≤ room → (s.writeAll (newList room o b k)).1 = 0 → ∀ i, i < k → (s.writeAll (newList room o b k)).2.bl[1 + o * room + i]? = some (pieceOf b i) := by
  intro k
  induction k with
  | zero => intro _ _ i hi; omega
  | succ k ih =>
    intro hk h0 i hi
    have h1 : (s.writeAll (newList room o b k)).1 = 0 := by
      by_cases h : (s.writeAll (newList room o b k)).1 = 0
      · exact h
      · rw [newList_succ, writeAll_no _ h] at h0; exact absurd h0 h
    rw [save_step h1] at h0 ⊢
    have hlk := (writeAll_writes (newList room o b k) s).2
    obtain ⟨_, _, h3, _⟩ := write_pw (s := (s.writeAll (newList room o b k)).2) (k := 1 + o * room + k) (l := pieceOf b k) (by rw [hlk, hl]; exact idx_lt ho (by omega)) (pieceOf_len _ _)
    rw [h3 h0, List.getElem?_set]
    by_cases e : i = k
    · subst e; rw [if_pos rfl, if_pos (by rw [hlk, hl]; exact idx_lt ho (by omega))]
    · rw [if_neg (by omega)]; exact ih (by omega) h1 i (by omega)
theorem oldList_ok {s : DS} {room o : Nat} (hl : s.bl.length = 1 + 2 * room) (ho : o ≤ 1) : ∀ (k : Nat), k ≤ room → (s.writeAll (oldList room o k)).1 = 0 → ∀ i, i < k → (s.writeAll (oldList room o k)).2.bl[1 + o * room + i]? = some zero32 := by
  intro k
  induction k with
  | zero => intro _ _ i hi; omega
  | succ k ih =>
    intro hk h0 i hi
    have h1 : (s.writeAll (oldList room o k)).1 = 0 := by
      by_cases h : (s.writeAll (oldList room o k)).1 = 0
      · exact h
      · rw [oldList_succ, writeAll_no _ h] at h0; exact absurd h0 h
    rw [old_step h1] at h0 ⊢
    have hlk := (writeAll_writes (oldList room o k) s).2
    obtain ⟨_, _, h3, _⟩ := write_pw (s := (s.writeAll (oldList room o k)).2) (k := 1 + o * room + k) (l := zero32) (by rw [hlk, hl]; exact idx_lt ho (by omega)) zero32_len
    rw [h3 h0, List.getElem?_set]
    by_cases e : i = k
    · subst e; rw [if_pos rfl, if_pos (by rw [hlk, hl]; exact idx_lt ho (by omega))]
    · rw [if_neg (by omega)]; exact ih (by omega) h1 i (by omega)
/-- A side has nothing behind what is kept. -/
def TailP (s : DS) (room side n : Nat) : Prop := ∀ i, takesOf n ≤ i → i < room → s.bl[1 + side * room + i]? = some zero32
theorem CleanP.tail {s : DS} {room side n : Nat} (h : CleanP s room side n) : TailP s room side n := fun i h1 h2 => (h i h2).2 h1
/-- What a Save leaves. -/
structure Saved (s : DS) (room side : Nat) (kept b : List UInt8) (r : Int × DS) : Prop where
  err : r.1 = 0 ∨ r.1 = 3
  pw : r.1 = (if (s.pw.run (takesOf b.length + 1 + takesOf kept.length)).1 = true then 0 else 3) ∧ r.2.pw = (s.pw.run (takesOf b.length + 1 + takesOf kept.length)).2
  old : (s.pw.run (takesOf b.length + 1)).1 = false → SOk r.2 room side kept ∧ (CleanP s room side kept.length → TailP r.2 room side kept.length)
  new : (s.pw.run (takesOf b.length + 1)).1 = true → SOk r.2 room (1 - side) b ∧ (CleanP s room side kept.length → TailP r.2 room (1 - side) b.length ∧ (r.1 = 0 → CleanP r.2 room (1 - side) b.length))
theorem SOk.keep {s s' : DS} {room side : Nat} {kept : List UInt8} (h : SOk s room side kept) (hl : s'.bl.length = s.bl.length) (h32 : ∀ (i : Nat) (l : List UInt8), s'.bl[i]? = some l → l.length = 32) (h0 : s'.bl[0]? = s.bl[0]?) (hr : ∀ i, i < room → s'.bl[1 + side * room + i]? = s.bl[1 + side * room + i]?) : SOk s' room side kept :=
  ⟨hl.trans h.len, h32, h0.trans h.root, h.sideLe, h.fits, fun i hi => (hr i (Nat.lt_of_lt_of_le hi h.fits)).trans (h.data i hi), h.roomLe⟩
theorem TailP.keep {s s' : DS} {room side n : Nat} (h : TailP s room side n) (hr : ∀ i, i < room → s'.bl[1 + side * room + i]? = s.bl[1 + side * room + i]?) : TailP s' room side n := fun i h1 h2 => (hr i h2).trans (h i h1 h2)
theorem ite_zero {b : Bool} (h : (if b = true then (0 : Int) else 3) = 0) : b = true := by cases b <;> simp at h ⊢
theorem save_spec {s : DS} {room side : Nat} {kept b : List UInt8} (hok : SOk s room side kept) (hfit : ¬ room < takesOf b.length) : Saved s room side kept b (s.save room side kept b) := by
  obtain ⟨o, ho⟩ : ∃ o, o = 1 - side := ⟨_, rfl⟩
  have ho1 : o ≤ 1 := by omega
  have hso : side = 1 - o := by have := hok.sideLe; omega
  have hn1 : takesOf b.length ≤ room := by omega
  have hn2 := hok.fits
  have hvA := newList_valid (b := b) hok.len ho1 hn1
  obtain ⟨pA1, pA2⟩ := writeAll_pw _ s hvA
  rw [newList_len] at pA1 pA2
  obtain ⟨rA1, rA2⟩ := writeAll_rest _ s hvA
  have lA := (writeAll_writes (newList room o b (takesOf b.length)) s).2
  have hA32 := rA2 hok.l32
  have keyA : ∀ i, i < room → (s.writeAll (newList room o b (takesOf b.length))).2.bl[1 + side * room + i]? = s.bl[1 + side * room + i]? := fun i hi => rA1 _ fun p hp e => by
    obtain ⟨j, hj, rfl⟩ := newList_mem hp
    have := idx_ne (room := room) hok.sideLe hi (show j < room by omega)
    rw [← ho] at this
    exact this e.symm
  have keyA0 : (s.writeAll (newList room o b (takesOf b.length))).2.bl[0]? = s.bl[0]? := rA1 _ fun p hp e => by
    obtain ⟨j, hj, rfl⟩ := newList_mem hp
    simp at e
  have hsave : s.save room side kept b = s.writeAll (newList room o b (takesOf b.length) ++ ((0, rootB o b.length) :: oldList room side (takesOf kept.length))) := by
    unfold DS.save saveList
    rw [if_neg hfit, ho]
  have hvAll : Valid s (newList room o b (takesOf b.length) ++ ((0, rootB o b.length) :: oldList room side (takesOf kept.length))) := by
    intro p hp
    rcases List.mem_append.1 hp with hp | hp
    · exact hvA p hp
    · rcases List.mem_cons.1 hp with rfl | hp
      · exact ⟨by rw [hok.len]; simp; omega, rfl⟩
      · exact oldList_valid hok.len hok.sideLe hn2 p hp
  obtain ⟨pF1, pF2⟩ := writeAll_pw _ s hvAll
  have hlF : (newList room o b (takesOf b.length) ++ ((0, rootB o b.length) :: oldList room side (takesOf kept.length))).length = takesOf b.length + 1 + takesOf kept.length := by
    rw [List.length_append, newList_len, List.length_cons, oldList_len]; omega
  rw [hlF, ← hsave] at pF1 pF2
  have hadd := PW.run_add s.pw (takesOf b.length) 1
  have hwm := write_pw (s := (s.writeAll (newList room o b (takesOf b.length))).2) (k := 0) (l := rootB o b.length) (by rw [lA, hok.len]; omega) rfl
  rw [pA2] at hwm
  have hmid : s.mid room side b = (s.writeAll (newList room o b (takesOf b.length))).2.write ((0 : Nat) : Int) (rootB o b.length) := by unfold DS.mid; rw [ho]; rfl
  refine ⟨?_, ⟨pF1, pF2⟩, fun hf => ?_, fun ht => ?_⟩
  · rw [pF1]; split
    · exact Or.inl rfl
    · exact Or.inr rfl
  · by_cases hA : (s.pw.run (takesOf b.length)).1 = true
    · rw [hadd, if_pos hA] at hf
      rw [if_pos hA] at pA1
      obtain ⟨m1, m2, m3, m4⟩ := hwm
      rw [hf, if_neg Bool.false_ne_true] at m1
      have hm : s.save room side kept b = s.mid room side b := save_mid_no hfit (by rw [← ho]; exact pA1) (by rw [hmid, m1]; decide)
      have hbl : (s.mid room side b).2.bl = (s.writeAll (newList room o b (takesOf b.length))).2.bl := by rw [hmid]; exact m4 (by rw [m1]; decide)
      rw [hm]
      have hk : ∀ i, i < room → (s.mid room side b).2.bl[1 + side * room + i]? = s.bl[1 + side * room + i]? := fun i hi => by rw [hbl]; exact keyA i hi
      exact ⟨hok.keep (by rw [hbl]; exact lA) (by rw [hbl]; exact hA32) (by rw [hbl]; exact keyA0) hk, fun hc => hc.tail.keep hk⟩
    · rw [if_neg hA] at pA1
      have hm : s.save room side kept b = s.writeAll (newList room o b (takesOf b.length)) := by rw [hsave, writeAll_no _ (by rw [pA1]; decide)]
      rw [hm]
      exact ⟨hok.keep lA hA32 keyA0 keyA, fun hc => hc.tail.keep keyA⟩
  · have hA : (s.pw.run (takesOf b.length)).1 = true := by
      by_cases hA : (s.pw.run (takesOf b.length)).1 = true
      · exact hA
      · rw [hadd, if_neg hA] at ht; exact absurd ht hA
    rw [hadd, if_pos hA] at ht
    rw [if_pos hA] at pA1
    obtain ⟨m1, m2, m3, m4⟩ := hwm
    rw [ht, if_pos rfl] at m1
    have hm : s.save room side kept b = (s.mid room side b).2.writeAll (oldList room side (takesOf kept.length)) := save_mid_ok hfit (by rw [← ho]; exact pA1) (by rw [hmid, m1])
    have hbl : (s.mid room side b).2.bl = (s.writeAll (newList room o b (takesOf b.length))).2.bl.set 0 (rootB o b.length) := by rw [hmid]; exact m3 m1
    obtain ⟨t, ht'⟩ : ∃ t, t = (s.mid room side b).2 := ⟨_, rfl⟩
    rw [← ht'] at hm hbl
    have lt_ : t.bl.length = 1 + 2 * room := by rw [hbl, List.length_set, lA, hok.len]
    have htk : ∀ k, k ≠ 0 → t.bl[k]? = (s.writeAll (newList room o b (takesOf b.length))).2.bl[k]? := fun k hk => by rw [hbl, List.getElem?_set, if_neg (Ne.symm hk)]
    have ht32 : ∀ (i : Nat) (l : List UInt8), t.bl[i]? = some l → l.length = 32 := fun i l hi => by
      by_cases e : i = 0
      · subst e
        rw [hbl, List.getElem?_set, if_pos rfl, if_pos (by rw [lA, hok.len]; omega)] at hi
        injection hi with hi
        rw [← hi]; rfl
      · rw [htk i e] at hi; exact hA32 i l hi
    have hst : SOk t room o b := ⟨lt_, ht32, by rw [hbl, List.getElem?_set, if_pos rfl, if_pos (by rw [lA, hok.len]; omega)], ho1, hn1, fun i hi => by rw [htk _ (by omega)]; exact newList_ok hok.len ho1 _ hn1 pA1 i hi, hok.roomLe⟩
    have hvO := oldList_valid (s := t) (o := side) (k := takesOf kept.length) lt_ hok.sideLe hn2
    obtain ⟨rO1, rO2⟩ := writeAll_rest _ t hvO
    have lO := (writeAll_writes (oldList room side (takesOf kept.length)) t).2
    have keyO : ∀ i, i < room → (t.writeAll (oldList room side (takesOf kept.length))).2.bl[1 + o * room + i]? = t.bl[1 + o * room + i]? := fun i hi => rO1 _ fun p hp e => by
      obtain ⟨j, hj, rfl⟩ := oldList_mem hp
      have := idx_ne (room := room) hok.sideLe (show j < room by omega) hi
      rw [← ho] at this
      exact this e
    have keyO0 : (t.writeAll (oldList room side (takesOf kept.length))).2.bl[0]? = t.bl[0]? := rO1 _ fun p hp e => by
      obtain ⟨j, hj, rfl⟩ := oldList_mem hp
      simp at e
    rw [hm, ← ho]
    refine ⟨hst.keep lO (rO2 ht32) keyO0 keyO, fun hc => ?_⟩
    have hT : TailP t room o b.length := fun i h1 h2 => by
      rw [htk _ (by omega), rA1 _ fun p hp e => by
        obtain ⟨j, hj, rfl⟩ := newList_mem hp
        simp at e
        omega]
      have := (hc i h2).1
      rw [← ho] at this
      exact this
    refine ⟨hT.keep keyO, fun h0 i hi => ⟨?_, fun h1 => ((keyO i hi).trans (hT i h1 hi))⟩⟩
    rw [← hso]
    by_cases hi2 : i < takesOf kept.length
    · exact oldList_ok lt_ hok.sideLe _ hn2 h0 i hi2
    · rw [rO1 _ fun p hp e => by
        obtain ⟨j, hj, rfl⟩ := oldList_mem hp
        simp at e
        omega]
      rw [htk _ (by omega), keyA i hi]
      exact hc.tail i (by omega) hi
set_option maxRecDepth 100000 in
theorem Save_any (w : World) (F : Nat → Prop) (S room : Nat) (s : DS) (side : Nat) (kept b : List UInt8) (A : Option Addr) (n c : Nat) (h : SlotIs w F S room s) (hok : SOk s room side kept) (hr : Rd w w.heap.size A n b) (hnc : n ≤ c) (hoff : 0 < n → ∀ ad, A = some ad → ¬ F ad.block)
    (hwr : s.writes ≤ 4611686018400000000) (hn : n ≤ 9223372036854775000) :
    Calls Try.prog 25 #[.pointer (some ⟨S, 0, none⟩), .slice A n c] w fun e w' => e = .returned (.int .i64 (s.save room side kept b).1) ∧ SlotIs w' (Grown F w) S room (s.save room side kept b).2 ∧ Keeps F w w' := by
  by_cases hbig : room < takesOf n
  · refine (Save_big w F S room s A n c h hn hbig).mono ?_
    rintro e w' ⟨rfl, hb⟩
    have hs : s.save room side kept b = (7, s) := by unfold DS.save; rw [if_pos (by rw [← hr.len]; exact hbig)]
    rw [hs]
    exact ⟨rfl, (h.below hb).weaken fun k e => Or.inl e, Keeps.of_below hb⟩
  · have h1 : SlotIs w (fun k => F k ∧ k < w.heap.size) S room s := h.tight.weaken fun k e => ⟨e.1, by obtain ⟨o, e1, _⟩ := e.2; exact lt_of_get e1⟩
    refine (callsIn_wide.1 (Save_fit w _ S room s side kept b A n c h1 hok hr hnc (fun h0 ad e e2 => hoff h0 ad e e2.1) hwr hbig (fun k e => e.2))).mono ?_
    rintro e w' ⟨rfl, hs, hk⟩
    exact ⟨rfl, hs.weaken fun k e => by rcases e with e | e; exact Or.inl e.1; exact Or.inr e, hk.weaken fun k _ e => e.1⟩
end Go.Proofs.Ytpdihggdopdolaa
