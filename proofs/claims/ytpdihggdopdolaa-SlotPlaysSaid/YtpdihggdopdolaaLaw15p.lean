/- The calls of layer 15's law SlotPlays, on a slot and its reference. No conditions but the sizes. -/
import Derived.Test.YtpdihggdopdolaaRefS2
import Derived.Test.YtpdihggdopdolaaSlotT
namespace Go.Proofs.Ytpdihggdopdolaa
open Go.RowKit
/-- Powers that differ in their counts alone. -/
def Like (p q : PW) : Prop := p.left = q.left ∧ p.gone = q.gone
theorem Like.run (k : Nat) : ∀ {p q : PW}, Like p q → (p.run k).1 = (q.run k).1 ∧ Like (p.run k).2 (q.run k).2 := by
  induction k with
  | zero => intro p q h; exact ⟨rfl, h⟩
  | succ k ih =>
    intro p q h
    obtain ⟨h1, h2⟩ := h
    unfold PW.run
    rw [h1, h2]
    by_cases hc : (q.gone || decide (q.left = 0)) = true
    · rw [if_pos hc, if_pos hc]; exact ⟨rfl, rfl, rfl⟩
    · rw [if_neg hc, if_neg hc]; exact ih ⟨rfl, rfl⟩
theorem Like.rsE {p q : PW} (h : Like p q) (room a b : Nat) : rsE p room a b = rsE q room a b := by unfold Go.Proofs.Ytpdihggdopdolaa.rsE; rw [(h.run _).1]
theorem Like.rsP {p q : PW} (h : Like p q) (room a b : Nat) : Like (rsP p room a b) (rsP q room a b) := by
  unfold Go.Proofs.Ytpdihggdopdolaa.rsP
  by_cases hc : room < a
  · rw [if_pos hc, if_pos hc]; exact h
  · rw [if_neg hc, if_neg hc]; exact (h.run _).2
theorem Like.rsK {p q : PW} (h : Like p q) (room a : Nat) (kept b : List UInt8) : rsK p room a kept b = rsK q room a kept b := by unfold Go.Proofs.Ytpdihggdopdolaa.rsK; rw [(h.run _).1]
/-- A call, as data. -/
structure SOp where
  k : Int
  n : Int
  x : UInt8
  b : List UInt8
/-- What the reference answers, its power behind it, and what is kept then. -/
def stE (p : PW) (room : Nat) (kept : List UInt8) (o : SOp) : Int := if o.k = 1 then rsE p room (takesOf o.b.length) (takesOf kept.length) else 0
def stP (p : PW) (room : Nat) (kept : List UInt8) (o : SOp) : PW :=
  if o.k = 1 then rsP p room (takesOf o.b.length) (takesOf kept.length) else if o.k = 2 then ⟨-1, false, p.writes⟩ else if o.k = 3 then ⟨max o.n 0, p.gone, p.writes⟩ else p
def stK (p : PW) (room : Nat) (kept : List UInt8) (o : SOp) : List UInt8 :=
  if o.k = 1 then rsK p room (takesOf o.b.length) kept o.b else if o.k = 4 then (if 0 ≤ o.n ∧ o.n < (kept.length : Int) then turned kept o.n.toNat o.x else kept) else kept
theorem stP_good {p : PW} {room : Nat} {kept : List UInt8} {o : SOp} (hrm : room ≤ 512) (hk : takesOf kept.length ≤ 512) (hl : -1 ≤ p.left) (hl2 : p.left ≤ 9223372036854775807) (hn : o.n ≤ 9223372036854775807) : -1 ≤ (stP p room kept o).left ∧ (stP p room kept o).left ≤ 9223372036854775807 ∧ (stP p room kept o).writes ≤ p.writes + 2000 := by
  unfold stP
  by_cases h1 : o.k = 1
  · rw [if_pos h1]
    unfold rsP
    by_cases hc : room < takesOf o.b.length
    · rw [if_pos hc]; exact ⟨hl, hl2, Nat.le_add_right _ _⟩
    · rw [if_neg hc]
      have h2 := run_left (takesOf o.b.length + 1 + takesOf kept.length) p hl hl2
      have h3 := run_writes (takesOf o.b.length + 1 + takesOf kept.length) p
      exact ⟨h2.1, h2.2, by omega⟩
  · rw [if_neg h1]
    by_cases h2 : o.k = 2
    · rw [if_pos h2]; exact ⟨by show (-1 : Int) ≤ -1; omega, by show (-1 : Int) ≤ _; omega, Nat.le_add_right _ _⟩
    · rw [if_neg h2]
      by_cases h3 : o.k = 3
      · rw [if_pos h3]; exact ⟨by show (-1 : Int) ≤ max o.n 0; omega, by show max o.n 0 ≤ _; omega, Nat.le_add_right _ _⟩
      · rw [if_neg h3]; exact ⟨hl, hl2, Nat.le_add_right _ _⟩
/-- A slot and its reference, apart from each other and from a block O. -/
structure DuoO (w : World) (B S R O room : Nat) (s : DS) (p : PW) (kept : List UInt8) : Prop where
  ex : ∃ F v dirty, SlotIs w F S room s ∧ (∀ k, F k → (B ≤ k ∧ k < w.heap.size) ∧ k ≠ O) ∧ ¬ F R ∧ Blk w R 58 (RCells room p dirty v) ∧ Own w B v kept ∧ v.ownBlock ≠ some R ∧ ∀ k, v.ownBlock = some k → ¬ F k ∧ k ≠ O
  base : B ≤ R
  size : B ≤ w.heap.size
  ne : R ≠ O
  lt : O < w.heap.size
abbrev OutO (B O : Nat) (k : Nat) : Prop := B ≤ k ∧ k ≠ O
section
variable {w w' : World} {B S R O room : Nat} {s : DS} {p : PW} {kept : List UInt8}
theorem Duo.opened (h : Duo w B S R room s p kept) (o : Obj) : DuoO (w.alloc o) B S R w.heap.size room s p kept := by
  have hb : Below w.heap.size w (w.alloc o) := (Below.refl _ _).alloc (Nat.le_refl _) _
  obtain ⟨⟨F, v, dirty, h1, h2, h3, h4, h5, h6, h7⟩, hB, hs⟩ := h
  exact ⟨⟨F, v, dirty, h1.below hb, fun k e => ⟨⟨(h2 k e).1, Nat.lt_of_lt_of_le (h2 k e).2 hb.size⟩, by have := (h2 k e).2; omega⟩, h3, h4.below hb h4.lt, h5.below hb, h6, fun k e => ⟨h7 k e, by have := (h5.lt k e).2; omega⟩⟩, hB, Nat.le_trans hs hb.size, by have := h4.lt; omega, by simp⟩
theorem DuoO.duo (h : DuoO w B S R O room s p kept) : Duo w B S R room s p kept := by
  obtain ⟨⟨F, v, dirty, h1, h2, h3, h4, h5, h6, h7⟩, hB, hs, _, _⟩ := h
  exact ⟨⟨F, v, dirty, h1, fun k e => (h2 k e).1, h3, h4, h5, h6, fun k e => (h7 k e).1⟩, hB, hs⟩
theorem DuoO.below (h : DuoO w B S R O room s p kept) (hb : Below w.heap.size w w') : DuoO w' B S R O room s p kept := by
  obtain ⟨⟨F, v, dirty, h1, h2, h3, h4, h5, h6, h7⟩, hB, hs, hne, hlt⟩ := h
  exact ⟨⟨F, v, dirty, h1.below hb, fun k e => ⟨⟨(h2 k e).1.1, Nat.lt_of_lt_of_le (h2 k e).1.2 hb.size⟩, (h2 k e).2⟩, h3, h4.below hb h4.lt, h5.below hb, h6, h7⟩, hB, Nat.le_trans hs hb.size, hne, Nat.lt_of_lt_of_le hlt hb.size⟩
/-- A call of the slot. -/
theorem DuoO.slotStep (h : DuoO w B S R O room s p kept) : ∃ F, SlotIs w F S room s ∧ (∀ k, F k → B ≤ k) ∧ ∀ w' s', SlotIs w' (Grown F w) S room s' → Keeps F w w' → DuoO w' B S R O room s' p kept ∧ Keeps (OutO B O) w w' := by
  obtain ⟨⟨F, v, dirty, h1, h2, h3, h4, h5, h6, h7⟩, hB, hs, hne, hlt⟩ := h
  refine ⟨F, h1, fun k e => (h2 k e).1.1, fun w' s' g1 g2 => ⟨⟨⟨fun k => Grown F w k ∧ k < w'.heap.size, v, dirty, g1.tight.weaken fun k e => ⟨e.1, by obtain ⟨o, e1, _⟩ := e.2; exact lt_of_get e1⟩, fun k e => ⟨⟨?_, e.2⟩, ?_⟩, fun e => ?_, h4.keeps g2 h3, h5.keeps g2 (fun k e => (h7 k e).1), h6, fun k e => ⟨fun e2 => ?_, (h7 k e).2⟩⟩, hB, Nat.le_trans hs g2.size, hne, Nat.lt_of_lt_of_le hlt g2.size⟩, g2.weaken fun k _ e => ⟨(h2 k e).1.1, (h2 k e).2⟩⟩⟩
  · rcases e.1 with e1 | e1
    · exact (h2 k e1).1.1
    · omega
  · rcases e.1 with e1 | e1
    · exact (h2 k e1).2
    · omega
  · rcases e.1 with e1 | e1
    · exact h3 e1
    · have := h4.lt; omega
  · rcases e2.1 with e1 | e1
    · exact (h7 k e).1 e1
    · have := (h5.lt k e).2; omega
/-- A call of the reference. -/
theorem DuoO.refStep (h : DuoO w B S R O room s p kept) : ∃ v dirty, Blk w R 58 (RCells room p dirty v) ∧ Own w B v kept ∧ v.ownBlock ≠ some R ∧ ∀ (w' : World) (p' : PW) (kept' : List UInt8) (v' : Value) (dirty' : Bool) (G : Nat → Prop), Blk w' R 58 (RCells room p' dirty' v') → Own w' B v' kept' → v'.ownBlock ≠ some R →
    (v' = v ∨ ∀ k, v'.ownBlock = some k → w.heap.size ≤ k) → Keeps G w w' → (∀ k, G k → k = R ∨ v.ownBlock = some k) → DuoO w' B S R O room s p' kept' ∧ Keeps (OutO B O) w w' := by
  obtain ⟨⟨F, v, dirty, h1, h2, h3, h4, h5, h6, h7⟩, hB, hs, hne, hlt⟩ := h
  refine ⟨v, dirty, h4, h5, h6, fun w' p' kept' v' dirty' G g1 g2 g3 g4 g5 g6 => ⟨⟨⟨F, v', dirty', h1.keeps g5 (fun k e e2 => ?_), fun k e => ⟨⟨(h2 k e).1.1, Nat.lt_of_lt_of_le (h2 k e).1.2 g5.size⟩, (h2 k e).2⟩, h3, g1, g2, g3, fun k e => ?_⟩, hB, Nat.le_trans hs g5.size, hne, Nat.lt_of_lt_of_le hlt g5.size⟩, g5.weaken fun k _ e => ?_⟩⟩
  · rcases g6 k e2 with rfl | e3
    · exact h3 e
    · exact (h7 k e3).1 e
  · rcases g4 with rfl | g4
    · exact h7 k e
    · have h8 := g4 k e
      exact ⟨fun e2 => by have := (h2 k e2).1.2; omega, by omega⟩
  · rcases g6 k e with rfl | e3
    · exact ⟨hB, hne⟩
    · exact ⟨(h5.lt k e3).1, (h7 k e3).2⟩
/-- The reference's Do. -/
theorem DuoO.do_ (o : SOp) (A : Option Addr) (c : Nat) (h : DuoO w B S R O room s p kept) (hr : Rd w B A o.b.length o.b) (hn : o.b.length ≤ 140737488351232) (hrm : room ≤ 512) (hk : takesOf kept.length ≤ 512) (hl : -1 ≤ p.left) (hl2 : p.left ≤ 9223372036854775807) (hw : p.writes ≤ 4611686018400000000) :
    Calls Try.prog 33 #[.pointer (some ⟨R, 0, none⟩), .agg #[.int .i64 o.k, .int .i64 o.n, .int .u8 o.x.toNat, .slice A o.b.length c]] w fun e w' => e = .returned (.int .i64 (stE p room kept o)) ∧ DuoO w' B S R O room s (stP p room kept o) (stK p room kept o) ∧ Keeps (OutO B O) w w' := by
  obtain ⟨v, dirty, h4, h5, h6, hst⟩ := h.refStep
  have hB := h.base; have hs := h.size
  obtain ⟨k, N, x, b⟩ := o
  simp only at hr hn ⊢
  unfold stE stP stK
  simp only
  by_cases k1 : k = 1
  · subst k1
    rw [if_pos rfl, if_pos rfl, if_pos rfl]
    refine (RefSave_any w R room p dirty v kept b B A b.length c N x.toNat h4 h5 h6 hs (hr.more hs) (fun h0 ad e e2 => ?_) hn hrm hk hl hl2 hw).mono ?_
    · obtain ⟨ad', e1, hb, _⟩ := hr.2 h0
      rw [e] at e1
      cases e1
      omega
    · rintro e w' ⟨rfl, ⟨dirty', v', g1, g2, g3, g4⟩, g5⟩
      exact ⟨rfl, hst w' _ _ v' dirty' _ g1 g2 g3 g4 g5 (fun k e => Or.inl e)⟩
  · rw [if_neg k1, if_neg k1, if_neg k1]
    by_cases k2 : k = 2
    · subst k2
      rw [if_pos rfl, if_neg (by decide)]
      refine (RefStart_any w R room p dirty v A b.length c N x h4).mono ?_
      rintro e w' ⟨rfl, g1, g5⟩
      exact ⟨rfl, hst w' _ _ v false _ g1 (h5.keeps g5 (fun k e e2 => h6 (by rw [← e2]; exact e))) h6 (Or.inl rfl) g5 (fun k e => Or.inl e)⟩
    · rw [if_neg k2]
      by_cases k3 : k = 3
      · subst k3
        rw [if_pos rfl, if_neg (by decide)]
        refine (RefFuse_any w R room p dirty v A b.length c N x h4).mono ?_
        rintro e w' ⟨rfl, g1, g5⟩
        exact ⟨rfl, hst w' _ _ v dirty _ g1 (h5.keeps g5 (fun k e e2 => h6 (by rw [← e2]; exact e))) h6 (Or.inl rfl) g5 (fun k e => Or.inl e)⟩
      · rw [if_neg k3]
        by_cases k4 : k = 4
        · subst k4
          rw [if_pos rfl]
          refine (RefTurn_any w R room p dirty v A b.length c N x kept B h4 h5 h6).mono ?_
          rintro e w' ⟨rfl, g1, g2, g5⟩
          exact ⟨rfl, hst w' _ _ v dirty _ g1 g2 h6 (Or.inl rfl) g5 (fun k e => Or.inr e)⟩
        · rw [if_neg k4]
          refine (RefNone_any w R A b.length c N x k k1 k2 k3 k4).mono ?_
          rintro e w' ⟨rfl, hb⟩
          exact ⟨rfl, hst w' _ _ v dirty (fun _ => False) (h4.below hb h4.lt) (h5.below hb) h6 (Or.inl rfl) (Keeps.of_below hb) (fun k e => e.elim)⟩
/-- The slot's Save. -/
theorem DuoO.save (side : Nat) (kk b : List UInt8) (A : Option Addr) (c : Nat) (h : DuoO w B S R O room s p kept) (hok : SOk s room side kk) (hr : Rd w B A b.length b) (hnc : b.length ≤ c) (hwr : s.writes ≤ 4611686018400000000) (hn : b.length ≤ 140737488351232) :
    Calls Try.prog 25 #[.pointer (some ⟨S, 0, none⟩), .slice A b.length c] w fun e w' => e = .returned (.int .i64 (s.save room side kk b).1) ∧ DuoO w' B S R O room (s.save room side kk b).2 p kept ∧ Keeps (OutO B O) w w' := by
  obtain ⟨F, h1, h2, hst⟩ := h.slotStep
  refine (Save_any w F S room s side kk b A b.length c h1 hok (hr.more h.size) hnc (fun h0 ad e e2 => ?_) hwr (by omega)).mono ?_
  · obtain ⟨ad', e1, hb, _⟩ := hr.2 h0
    rw [e] at e1
    cases e1
    have := h2 _ e2
    omega
  · rintro e w' ⟨rfl, g1, g2⟩
    exact ⟨rfl, hst w' _ g1 g2⟩
theorem DuoO.start (side : Nat) (kk : List UInt8) (h : DuoO w B S R O room s p kept) (hok : SOk s room side kk) (hwr : s.writes ≤ 4611686018400000000) :
    Calls Try.prog 29 #[.pointer (some ⟨S, 0, none⟩)] w fun e w' => e = .returned (.tuple #[]) ∧ (∃ s', DuoO w' B S R O room s' p kept ∧ Cleared s s' (1 + (1 - side) * room) room) ∧ Keeps (OutO B O) w w' := by
  obtain ⟨F, h1, h2, hst⟩ := h.slotStep
  refine (Start_any w F S room s side kk h1 hok (by omega)).mono ?_
  rintro e w' ⟨rfl, ⟨s', g1, g2⟩, g3⟩
  have h3 := hst w' _ g1 g3
  exact ⟨rfl, ⟨s', h3.1, g2⟩, h3.2⟩
theorem DuoO.fuse (N : Int) (hN : N ≤ 9223372036854775807) (h : DuoO w B S R O room s p kept) :
    Calls Try.prog 28 #[.pointer (some ⟨S, 0, none⟩), .int .i64 N] w fun e w' => e = .returned (.tuple #[]) ∧ DuoO w' B S R O room { s with fuse := max N 0 } p kept ∧ Keeps (OutO B O) w w' := by
  obtain ⟨F, h1, h2, hst⟩ := h.slotStep
  refine (SFuse_any w F S room s N hN h1).mono ?_
  rintro e w' ⟨rfl, g1, g2⟩
  exact ⟨rfl, hst w' _ g1 g2⟩
theorem DuoO.turn (side : Nat) (kk : List UInt8) (N : Int) (x : UInt8) (h : DuoO w B S R O room s p kept) (hok : SOk s room side kk) :
    Calls Try.prog 35 #[.pointer (some ⟨S, 0, none⟩), .int .i64 N, .int .u8 x.toNat] w fun e w' => e = .returned (.bool (decide (0 ≤ N ∧ N < (kk.length : Int)))) ∧
      (∃ s', DuoO w' B S R O room s' p kept ∧ SOk s' room side (if 0 ≤ N ∧ N < (kk.length : Int) then turned kk N.toNat x else kk) ∧ s'.pw = s.pw) ∧ Keeps (OutO B O) w w' := by
  obtain ⟨F, h1, h2, hst⟩ := h.slotStep
  refine (STurn_any w F S room s side kk N x h1 hok).mono ?_
  rintro e w' ⟨rfl, ⟨s', g1, g2, g3⟩, g4⟩
  have h3 := hst w' _ g1 g4
  exact ⟨rfl, ⟨s', h3.1, g2, g3⟩, h3.2⟩
end
end Go.Proofs.Ytpdihggdopdolaa
