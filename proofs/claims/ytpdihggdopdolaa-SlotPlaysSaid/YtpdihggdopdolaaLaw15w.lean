/- The walk of layer 15's law SlotWrites. Conditions: the slices are no greater than a row's own reach. -/
import Derived.Test.YtpdihggdopdolaaRefS1
namespace Go.Proofs.Ytpdihggdopdolaa
open Go.RowKit
theorem rnew_any (w : World) (n : Int) (hn : n ≤ 9223372036854775807) (hn0 : -9223372036854775808 ≤ n) :
    Calls Try.prog 32 #[.int .i64 n] w fun e w' => e = .returned (.pointer (some ⟨w.heap.size, 0, none⟩)) ∧ w' = w.alloc (.cells (RCells (min (max n 0) 512).toNat ⟨-1, false, 0⟩ false (.slice none 0 0)) 58) := by
  by_cases h1 : n < 0
  · have hm : (min (max n 0) 512).toNat = 0 := by omega
    rw [hm]
    clear hm
    go_enter Try.func32, Try.ntmps32
    go_wp2
    go_ret
    exact ⟨rfl, rfl⟩
  · by_cases h2 : (512 : Int) < n
    · have hm : (min (max n 0) 512).toNat = 512 := by omega
      rw [hm]
      clear hm
      go_enter Try.func32, Try.ntmps32
      go_wp2
      go_ret
      exact ⟨rfl, rfl⟩
    · obtain ⟨m, rfl⟩ : ∃ m : Nat, n = m := ⟨n.toNat, by omega⟩
      have hm : (min (max (m : Int) 0) 512).toNat = m := by omega
      rw [hm]
      clear hm
      go_enter Try.func32, Try.ntmps32
      go_wp2
      go_ret
      exact ⟨rfl, rfl⟩
theorem Writes_G (w : World) (G : Nat → Prop) (D : Nat) (s : DS) (h : DiskIs w G D s) :
    Calls Try.prog 18 #[.pointer (some ⟨D, 0, none⟩)] w fun e w' => e = .returned (.int .i64 s.writes) ∧ w' = w := by
  obtain ⟨gs, r, hA, hF⟩ := h
  exact Writes_any w hA
/-- The program's Save and the reference's answer alike. -/
theorem save_ref {s : DS} {room side : Nat} {kept b : List UInt8} (hok : SOk s room side kept) : (s.save room side kept b).1 = rsE s.pw room (takesOf b.length) (takesOf kept.length) ∧ (s.save room side kept b).2.pw = rsP s.pw room (takesOf b.length) (takesOf kept.length) ∧
    ∃ side', SOk (s.save room side kept b).2 room side' (rsK s.pw room (takesOf b.length) kept b) := by
  by_cases hbig : room < takesOf b.length
  · have hs : s.save room side kept b = (7, s) := by unfold DS.save; rw [if_pos hbig]
    rw [hs]
    unfold rsE rsP rsK
    rw [if_pos hbig, if_pos hbig, if_pos hbig]
    exact ⟨rfl, rfl, side, hok⟩
  · have hsv := save_spec (b := b) hok hbig
    unfold rsE rsP rsK
    rw [if_neg hbig, if_neg hbig, if_neg hbig]
    refine ⟨hsv.pw.1, hsv.pw.2, ?_⟩
    by_cases hc : (s.pw.run (takesOf b.length + 1)).1 = true
    · rw [if_pos hc]; exact ⟨_, (hsv.new hc).1⟩
    · rw [if_neg hc]; exact ⟨_, (hsv.old (by simpa using hc)).1⟩
/-- A slot and its reference, apart from each other; both lie from B on. -/
structure Duo (w : World) (B S R room : Nat) (s : DS) (p : PW) (kept : List UInt8) : Prop where
  ex : ∃ F v dirty, SlotIs w F S room s ∧ (∀ k, F k → B ≤ k ∧ k < w.heap.size) ∧ ¬ F R ∧ Blk w R 58 (RCells room p dirty v) ∧ Own w B v kept ∧ v.ownBlock ≠ some R ∧ ∀ k, v.ownBlock = some k → ¬ F k
  base : B ≤ R
  size : B ≤ w.heap.size
section
variable {w w' : World} {B S R room : Nat} {s : DS} {p : PW} {kept : List UInt8}
theorem Duo.below (h : Duo w B S R room s p kept) (hb : Below w.heap.size w w') : Duo w' B S R room s p kept := by
  obtain ⟨⟨F, v, dirty, h1, h2, h3, h4, h5, h6, h7⟩, hB, hs⟩ := h
  exact ⟨⟨F, v, dirty, h1.below hb, fun k e => ⟨(h2 k e).1, Nat.lt_of_lt_of_le (h2 k e).2 hb.size⟩, h3, h4.below hb h4.lt, h5.below hb, h6, h7⟩, hB, Nat.le_trans hs hb.size⟩
theorem Duo.slot (h : Duo w B S R room s p kept) : SlotIs w (fun k => B ≤ k) S room s := by
  obtain ⟨⟨F, v, dirty, h1, h2, _⟩, _, _⟩ := h
  exact h1.weaken fun k e => (h2 k e).1
/-- A Save of an argument. -/
theorem Duo.save (side : Nat) (kk b : List UInt8) (A : Option Addr) (n c : Nat) (h : Duo w B S R room s p kept) (hok : SOk s room side kk) (hr : Rd w B A n b) (hnc : n ≤ c) (hwr : s.writes ≤ 4611686018400000000) (hn : n ≤ 140737488351232) :
    Calls Try.prog 25 #[.pointer (some ⟨S, 0, none⟩), .slice A n c] w fun e w' => e = .returned (.int .i64 (s.save room side kk b).1) ∧ Duo w' B S R room (s.save room side kk b).2 p kept ∧ Below B w w' := by
  obtain ⟨⟨F, v, dirty, h1, h2, h3, h4, h5, h6, h7⟩, hB, hs⟩ := h
  refine (Save_any w F S room s side kk b A n c h1 hok (hr.more hs) hnc (fun h0 ad e e2 => ?_) hwr (by omega)).mono ?_
  · obtain ⟨ad', e1, hb, _⟩ := hr.2 h0
    rw [e] at e1
    cases e1
    have := (h2 _ e2).1
    omega
  · rintro e w' ⟨rfl, g1, g2⟩
    refine ⟨rfl, ⟨⟨fun k => Grown F w k ∧ k < w'.heap.size, v, dirty, g1.tight.weaken fun k e => ⟨e.1, by obtain ⟨o, e1, _⟩ := e.2; exact lt_of_get e1⟩, fun k e => ⟨?_, e.2⟩, fun e => ?_, h4.keeps g2 h3, h5.keeps g2 h7, h6, fun k e e2 => ?_⟩, hB, Nat.le_trans hs g2.size⟩, g2.below (fun k e => (h2 k e).1) hs⟩
    · rcases e.1 with e1 | e1
      · exact (h2 k e1).1
      · omega
    · rcases e.1 with e1 | e1
      · exact h3 e1
      · have := h4.lt; omega
    · rcases e2.1 with e1 | e1
      · exact h7 k e e1
      · have := (h5.lt k e).2; omega
/-- The reference's Save of the same. -/
theorem Duo.ref (b : List UInt8) (A : Option Addr) (n c : Nat) (N y : Int) (h : Duo w B S R room s p kept) (hr : Rd w B A n b) (hn : n ≤ 140737488351232) (hrm : room ≤ 512) (hk : takesOf kept.length ≤ 512) (hl : -1 ≤ p.left) (hl2 : p.left ≤ 9223372036854775807) (hw : p.writes ≤ 4611686018400000000) :
    Calls Try.prog 33 #[.pointer (some ⟨R, 0, none⟩), .agg #[.int .i64 1, .int .i64 N, .int .u8 y, .slice A n c]] w fun e w' => e = .returned (.int .i64 (rsE p room (takesOf n) (takesOf kept.length))) ∧
      Duo w' B S R room s (rsP p room (takesOf n) (takesOf kept.length)) (rsK p room (takesOf n) kept b) ∧ Below B w w' := by
  obtain ⟨⟨F, v, dirty, h1, h2, h3, h4, h5, h6, h7⟩, hB, hs⟩ := h
  refine (RefSave_any w R room p dirty v kept b B A n c N y h4 h5 h6 hs (hr.more hs) (fun h0 ad e e2 => ?_) hn hrm hk hl hl2 hw).mono ?_
  · obtain ⟨ad', e1, hb, _⟩ := hr.2 h0
    rw [e] at e1
    cases e1
    omega
  · rintro e w' ⟨rfl, ⟨dirty', v', g1, g2, g3, g4⟩, g5⟩
    refine ⟨rfl, ⟨⟨F, v', dirty', h1.keeps g5 (fun k e e2 => h3 (by rw [← e2]; exact e)), fun k e => ⟨(h2 k e).1, Nat.lt_of_lt_of_le (h2 k e).2 g5.size⟩, h3, g1, g2, g3, fun k e e2 => ?_⟩, hB, Nat.le_trans hs g5.size⟩, g5.below (fun k e => by rw [e]; exact hB) hs⟩
    rcases g4 with rfl | g4
    · exact h7 k e e2
    · have := g4 k e; have := (h2 k e2).2; omega
/-- What is read of the reference. -/
theorem Duo.cells (h : Duo w B S R room s p kept) : w.cell? ⟨R, 2, none⟩ = some (.int .i64 (p.writes : Int)) ∧ w.cell? ⟨R, 3, none⟩ = some (.bool p.gone) ∧ ∃ A c, w.cell? ⟨R, 5, none⟩ = some (.slice A kept.length c) ∧ Rd w w.heap.size A kept.length kept := by
  obtain ⟨⟨F, v, dirty, h1, h2, h3, h4, h5, h6, h7⟩, _, _⟩ := h
  obtain ⟨A, c, rfl⟩ := h5.shape
  exact ⟨(h4.cell 2).trans rfl, (h4.cell 3).trans rfl, A, c, (h4.cell 5).trans rfl, h5.rd⟩
theorem Duo.rlt (h : Duo w B S R room s p kept) : R < w.heap.size := by
  obtain ⟨⟨F, v, dirty, h1, h2, h3, h4, h5, h6, h7⟩, _, _⟩ := h
  exact h4.lt
end
/-- The two, new. -/
theorem Duo.new {w0 w : World} {S room : Nat} {s : DS} (h : SlotIs w (fun k => w0.heap.size ≤ k) S room s) (hb : w0.heap.size ≤ w.heap.size) :
    Duo (w.alloc (.cells (RCells room ⟨-1, false, 0⟩ false (.slice none 0 0)) 58)) w0.heap.size S w.heap.size room s ⟨-1, false, 0⟩ [] :=
  ⟨⟨fun k => w0.heap.size ≤ k ∧ k < w.heap.size, _, false, h.before _, fun k e => ⟨e.1, by simp; omega⟩, fun e => Nat.lt_irrefl _ e.2, Blk.new _ _ _, Own.nil_ _ _, by simp [Value.ownBlock], fun k e => by cases e⟩, hb, by simp; omega⟩
end Go.Proofs.Ytpdihggdopdolaa
