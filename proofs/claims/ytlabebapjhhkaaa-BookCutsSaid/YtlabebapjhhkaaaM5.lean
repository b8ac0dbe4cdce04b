/- A disk in memory, walked. Conditions stand with each theorem. -/
import Derived.Test.YtlabebapjhhkaaaM1
import Derived.Laws.MakeOwn
import Derived.Laws.OwnMore
import Derived.Laws.BitsAllLaws
namespace Go.Proofs.Ytlabebapjhhkaaa
open Go.RowKit
section
variable {F F' : Nat → Prop} {a b c w w' : World} {B : Nat}
end
/-- A disk: its blocks, the writes that are done yet, whether the power is gone, the writes. -/
structure DS where
  bl : List (List UInt8)
  fuse : Int
  down : Bool
  writes : Nat
def DCells (r : Value) (s : DS) : Array Value := #[r, .int .i64 s.fuse, .bool s.down, .int .i64 (s.writes : Int)]
def slotV (p : Nat × Nat) : Value := .slice (some ⟨p.1, 0, none⟩) 32 p.2
structure DiskAt (w : World) (D : Nat) (gs : List (Nat × Nat)) (r : Value) (s : DS) : Prop where
  cells : Blk w D 118 (DCells r s)
  row : w.ownsRow 0 64 1 r gs.length (gs.map slotV)
  len : gs.length = s.bl.length
  nodup : ∀ (i j : Nat) (p q : Nat × Nat), gs[i]? = some p → gs[j]? = some q → p.1 = q.1 → i = j
  each : ∀ (i : Nat) (p : Nat × Nat) (l : List UInt8), gs[i]? = some p → s.bl[i]? = some l → l.length = 32 ∧ Own w 0 (slotV p) l
  small : s.bl.length ≤ 2048
  fuseLe : s.fuse ≤ 9223372036854775807
  fuseGe : -1 ≤ s.fuse
def Foot (D : Nat) (gs : List (Nat × Nat)) (r : Value) (k : Nat) : Prop := k = D ∨ r.ownBlock = some k ∨ ∃ p ∈ gs, p.1 = k
/-- A disk whose blocks are all of F. -/
def DiskIs (w : World) (F : Nat → Prop) (D : Nat) (s : DS) : Prop := ∃ gs r, DiskAt w D gs r s ∧ ∀ k, Foot D gs r k → F k
theorem DiskAt.keeps {w w' : World} {D : Nat} {gs : List (Nat × Nat)} {r : Value} {s : DS} {F : Nat → Prop} (h : DiskAt w D gs r s) (hk : Keeps F w w') (hn : ∀ k, Foot D gs r k → ¬ F k) : DiskAt w' D gs r s where
  cells := h.cells.keeps hk (hn D (Or.inl rfl))
  row := row_keeps h.row hk (fun k e => hn k (Or.inr (Or.inl e)))
  len := h.len
  nodup := h.nodup
  each := fun i p l hp hl => ⟨(h.each i p l hp hl).1, (h.each i p l hp hl).2.keeps hk (fun k e => hn k (Or.inr (Or.inr ⟨p, List.mem_of_getElem? hp, by simpa [slotV, Value.ownBlock] using e⟩)))⟩
  small := h.small
  fuseLe := h.fuseLe
  fuseGe := h.fuseGe
theorem DiskIs.keeps {w w' : World} {D : Nat} {s : DS} {F G : Nat → Prop} (h : DiskIs w F D s) (hk : Keeps G w w') (hn : ∀ k, F k → ¬ G k) : DiskIs w' F D s := by
  obtain ⟨gs, r, h1, h2⟩ := h
  exact ⟨gs, r, h1.keeps hk (fun k e => hn k (h2 k e)), h2⟩
theorem DiskIs.weaken {w : World} {D : Nat} {s : DS} {F G : Nat → Prop} (h : DiskIs w F D s) (hn : ∀ k, F k → G k) : DiskIs w G D s := by
  obtain ⟨gs, r, h1, h2⟩ := h
  exact ⟨gs, r, h1, fun k e => hn k (h2 k e)⟩
theorem DiskAt.foot_lt {w : World} {D : Nat} {gs : List (Nat × Nat)} {r : Value} {s : DS} (h : DiskAt w D gs r s) : ∀ k, Foot D gs r k → k < w.heap.size := by
  rintro k (rfl | hk | ⟨p, hp, rfl⟩)
  · exact h.cells.lt
  · exact (h.row.lt k hk).2
  · obtain ⟨i, hi, rfl⟩ := List.getElem_of_mem hp
    have h1 : gs[i]? = some gs[i] := List.getElem?_eq_getElem hi
    have h2 : s.bl[i]? = some (s.bl[i]'(by rw [← h.len]; exact hi)) := List.getElem?_eq_getElem _
    exact ((h.each i _ _ h1 h2).2.lt _ rfl).2
theorem DiskAt.below {w w' : World} {D : Nat} {gs : List (Nat × Nat)} {r : Value} {s : DS} (h : DiskAt w D gs r s) (hb : Below w.heap.size w w') : DiskAt w' D gs r s :=
  h.keeps (Keeps.of_below (F := fun _ => False) hb) (fun _ _ => id)
theorem DiskIs.below {w w' : World} {D : Nat} {s : DS} {F : Nat → Prop} (h : DiskIs w F D s) (hb : Below w.heap.size w w') : DiskIs w' F D s := by
  obtain ⟨gs, r, h1, h2⟩ := h
  exact ⟨gs, r, h1.below hb, h2⟩
section
variable {w : World} {D : Nat} {gs : List (Nat × Nat)} {r : Value} {s : DS}
theorem DiskAt.c0 (h : DiskAt w D gs r s) : w.cell? ⟨D, 0, none⟩ = some r := (h.cells.cell 0).trans rfl
theorem DiskAt.c1 (h : DiskAt w D gs r s) : w.cell? ⟨D, 1, none⟩ = some (.int .i64 s.fuse) := (h.cells.cell 1).trans rfl
theorem DiskAt.c2 (h : DiskAt w D gs r s) : w.cell? ⟨D, 2, none⟩ = some (.bool s.down) := (h.cells.cell 2).trans rfl
theorem DiskAt.c3 (h : DiskAt w D gs r s) : w.cell? ⟨D, 3, none⟩ = some (.int .i64 s.writes) := (h.cells.cell 3).trans rfl
theorem DiskAt.fz (h : DiskAt w D gs r s) (i : Nat) : w.frozen? ⟨D, i, none⟩ = false := h.cells.frozen i
theorem DiskAt.shape (h : DiskAt w D gs r s) : ∃ A c, r = .slice A s.bl.length c := by
  rcases h.row.2 with ⟨rfl, e⟩ | ⟨g, cap, cur, rfl, _⟩
  · rw [← h.len, e]; exact ⟨none, 0, rfl⟩
  · rw [← h.len]; exact ⟨_, cap, rfl⟩
/-- The slot of a block. -/
theorem DiskAt.slot (h : DiskAt w D gs r s) (i : Nat) (hi : i < s.bl.length) : ∃ R c g d l, r = .slice (some ⟨R, 0, none⟩) s.bl.length c ∧ gs[i]? = some (g, d) ∧ s.bl[i]? = some l ∧ l.length = 32 ∧ Own w 0 (slotV (g, d)) l ∧
    w.cell? ⟨R, i, none⟩ = some (.slice (some ⟨g, 0, none⟩) 32 d) ∧ w.frozen? ⟨R, i, none⟩ = false := by
  have hl := h.len
  have hgi : i < gs.length := by omega
  rcases h.row.2 with ⟨rfl, e⟩ | ⟨R, c, cur, rfl, hR⟩
  · omega
  · have h1 : gs[i]? = some (gs[i].1, gs[i].2) := List.getElem?_eq_getElem hgi
    have h2 : s.bl[i]? = some s.bl[i] := List.getElem?_eq_getElem hi
    have h3 := h.each i _ _ h1 h2
    refine ⟨R, c, _, _, _, by rw [hl], h1, h2, h3.1, h3.2, ?_, h.row.frozenAt i⟩
    rw [h.row.cellAt i (by omega), List.getElem?_map, h1]
    rfl
end
end Go.Proofs.Ytlabebapjhhkaaa
namespace Go.Proofs.Ytlabebapjhhkaaa
open Go.RowKit
/-- Is there such a block? -/
def DS.has (s : DS) (n : Int) : Bool := decide (0 ≤ n ∧ n < s.bl.length)
section
variable {D : Nat} {gs : List (Nat × Nat)} {r : Value} {s : DS} (w : World)
theorem there_any (n : Int) (h : DiskAt w D gs r s) :
    Calls Try.prog 88 #[.pointer (some ⟨D, 0, none⟩), .int .i64 n] w fun e w' => e = .returned (.bool (s.has n)) ∧ w' = w := by
  have c0 := h.c0
  obtain ⟨A, c, rfl⟩ := h.shape
  clear h
  unfold DS.has
  generalize s.bl.length = m at *
  by_cases h1 : 0 ≤ n
  · by_cases h2 : n < (m : Int)
    · have hd : decide (0 ≤ n ∧ n < (m : Int)) = true := by simp [h1, h2]
      rw [hd]
      go_enter Try.func88, Try.ntmps88
      go_wp2
      go_ret
      exact ⟨rfl, rfl⟩
    · have hd : decide (0 ≤ n ∧ n < (m : Int)) = false := by simp [h2]
      rw [hd]
      go_enter Try.func88, Try.ntmps88
      go_wp2
      go_ret
      exact ⟨rfl, rfl⟩
  · have hd : decide (0 ≤ n ∧ n < (m : Int)) = false := by simp [h1]
    rw [hd]
    go_enter Try.func88, Try.ntmps88
    go_wp2
    go_ret
    exact ⟨rfl, rfl⟩
theorem Down_any (h : DiskAt w D gs r s) :
    Calls Try.prog 57 #[.pointer (some ⟨D, 0, none⟩)] w fun e w' => e = .returned (.bool s.down) ∧ w' = w := by
  have c2 := h.c2
  clear h
  go_enter Try.func57, Try.ntmps57
  go_wp2
  go_ret
  exact ⟨rfl, rfl⟩
end
theorem DiskIs.lt {w : World} {F : Nat → Prop} {D : Nat} {s : DS} (h : DiskIs w F D s) : D < w.heap.size := by
  obtain ⟨gs, r, h1, h2⟩ := h
  exact h1.cells.lt
/-- One of the four cells is set. -/
theorem DiskAt.set_ {w : World} {D : Nat} {gs : List (Nat × Nat)} {r : Value} {s s' : DS} (h : DiskAt w D gs r s) (i : Nat) (u : Value) (hc : (DCells r s).setIfInBounds i u = DCells r s') (hb : s'.bl = s.bl) (hf : s'.fuse ≤ 9223372036854775807) (hf2 : -1 ≤ s'.fuse) (hne : ∀ k, (r.ownBlock = some k ∨ ∃ p ∈ gs, p.1 = k) → k ≠ D) :
    DiskAt (w.setCell ⟨D, i, none⟩ u) D gs r s' := by
  have hk : Keeps (fun k => k = D) w (w.setCell ⟨D, i, none⟩ u) := (Keeps.refl (fun k => k = D) w).setCell (p := ⟨D, i, none⟩) rfl u
  exact ⟨by have := h.cells.set_ i u; rw [hc] at this; exact this, row_keeps h.row hk (fun k e => hne k (Or.inl e)), by rw [hb]; exact h.len, h.nodup,
    fun j p l hp hl => by rw [hb] at hl; exact ⟨(h.each j p l hp hl).1, (h.each j p l hp hl).2.keeps hk (fun k e => hne k (Or.inr ⟨p, List.mem_of_getElem? hp, by simpa [slotV, Value.ownBlock] using e⟩))⟩, by rw [hb]; exact h.small, hf, hf2⟩
/-- The disk's own cells are no row and no block. -/
theorem DiskAt.apart {w : World} {D : Nat} {gs : List (Nat × Nat)} {r : Value} {s : DS} (h : DiskAt w D gs r s) : ∀ k, (r.ownBlock = some k ∨ ∃ p ∈ gs, p.1 = k) → k ≠ D := by
  rintro k (hk | ⟨p, hp, rfl⟩) rfl
  · rcases h.row.2 with ⟨rfl, e⟩ | ⟨R, c, cur, rfl, _, hR, _⟩
    · cases hk
    · simp only [Value.ownBlock, Option.some.injEq] at hk
      subst hk
      exact Blk.ne_ h.cells hR (by decide) rfl
  · obtain ⟨i, hi, rfl⟩ := List.getElem_of_mem hp
    have h1 : gs[i]? = some gs[i] := List.getElem?_eq_getElem hi
    have h2 : s.bl[i]? = some (s.bl[i]'(by rw [← h.len]; exact hi)) := List.getElem?_eq_getElem _
    have h3 := h.each i _ _ h1 h2
    obtain ⟨g, c, cur, e1, _, hB, _⟩ := h3.2.blk (by omega)
    injection e1 with e1 _ _
    simp only [Option.some.injEq, Addr.mk.injEq, and_true] at e1
    rw [← e1] at hB
    exact Blk.ne_ h.cells hB (by decide) rfl
theorem DiskAt.set_is {w : World} {D : Nat} {gs : List (Nat × Nat)} {r : Value} {s s' : DS} {F : Nat → Prop} (h : DiskAt w D gs r s) (h2 : ∀ k, Foot D gs r k → F k) (i : Nat) (u : Value) (hc : (DCells r s).setIfInBounds i u = DCells r s') (hb : s'.bl = s.bl) (hf : s'.fuse ≤ 9223372036854775807) (hf2 : -1 ≤ s'.fuse) :
    DiskIs (w.setCell ⟨D, i, none⟩ u) F D s' ∧ Keeps F w (w.setCell ⟨D, i, none⟩ u) :=
  ⟨⟨gs, r, h.set_ i u hc hb hf hf2 h.apart, h2⟩, (Keeps.refl F w).setCell (p := ⟨D, i, none⟩) (h2 D (Or.inl rfl)) u⟩
theorem Fuse_any (w : World) (F : Nat → Prop) (D : Nat) (s : DS) (n : Int) (hn : n ≤ 9223372036854775807) (h : DiskIs w F D s) :
    Calls Try.prog 72 #[.pointer (some ⟨D, 0, none⟩), .int .i64 n] w fun e w' => e = .returned (.tuple #[]) ∧ DiskIs w' F D { s with fuse := max n 0 } ∧ Keeps F w w' := by
  obtain ⟨gs, r, h1, h2⟩ := h
  have c1 := h1.c1
  have f1 := h1.fz 1
  by_cases h0 : n < 0
  · have key := h1.set_is h2 1 (.int .i64 0) (s' := { s with fuse := max n 0 }) (by rw [show max n 0 = 0 by omega]; rfl) rfl (by show max n 0 ≤ _; omega) (by show _ ≤ max n 0; omega)
    have K := Lib.hid key
    clear h1 key
    go_enter Try.func72, Try.ntmps72
    go_wp2
    go_end0
    exact ⟨rfl, K.out⟩
  · have key := h1.set_is h2 1 (.int .i64 n) (s' := { s with fuse := max n 0 }) (by rw [show max n 0 = n by omega]; rfl) rfl (by show max n 0 ≤ _; omega) (by show _ ≤ max n 0; omega)
    have K := Lib.hid key
    clear h1 key
    go_enter Try.func72, Try.ntmps72
    go_wp2
    go_end0
    exact ⟨rfl, K.out⟩
theorem On_any (w : World) (F : Nat → Prop) (D : Nat) (s : DS) (h : DiskIs w F D s) :
    Calls Try.prog 73 #[.pointer (some ⟨D, 0, none⟩)] w fun e w' => e = .returned (.tuple #[]) ∧ DiskIs w' F D { s with fuse := -1, down := false } ∧ Keeps F w w' := by
  obtain ⟨gs, r, h1, h2⟩ := h
  have c1 := h1.c1
  have f1 := h1.fz 1
  have c2 := h1.c2
  have f2 := h1.fz 2
  have key := h1.set_is h2 1 (.int .i64 (-1)) (s' := { s with fuse := -1 }) rfl rfl (by show (-1 : Int) ≤ _; omega) (by show _ ≤ (-1 : Int); omega)
  have key2 : DiskIs ((w.setCell ⟨D, 1, none⟩ (.int .i64 (-1))).setCell ⟨D, 2, none⟩ (.bool false)) F D { s with fuse := -1, down := false } ∧ Keeps F w ((w.setCell ⟨D, 1, none⟩ (.int .i64 (-1))).setCell ⟨D, 2, none⟩ (.bool false)) := by
    obtain ⟨⟨gs', r', h3, h4⟩, h5⟩ := key
    have h6 := h3.set_is h4 2 (.bool false) (s' := { s with fuse := -1, down := false }) rfl rfl (by show (-1 : Int) ≤ _; omega) (by show _ ≤ (-1 : Int); omega)
    exact ⟨h6.1, h5.trans h6.2 (fun _ _ e => e)⟩
  have K := Lib.hid key2
  clear h1 key key2
  go_enter Try.func73, Try.ntmps73
  go_wp2
  go_end0
  exact ⟨rfl, K.out⟩
/-- What Read answers. -/
theorem DRead_any (w : World) (D : Nat) (gs : List (Nat × Nat)) (r : Value) (s : DS) (n : Int) (h : DiskAt w D gs r s) :
    Calls Try.prog 63 #[.pointer (some ⟨D, 0, none⟩), .int .i64 n] w fun e w' => ∃ v, e = .returned (.tuple #[v, .bool (s.has n)]) ∧ Own w' w.heap.size v (if s.has n then s.bl.getD n.toNat [] else []) ∧ Below w.heap.size w w' := by
  by_cases hn : 0 ≤ n ∧ n < s.bl.length
  · obtain ⟨i, rfl⟩ : ∃ i : Nat, n = i := ⟨n.toNat, by omega⟩
    have hi : i < s.bl.length := by omega
    obtain ⟨R, c, g, d, l, rfl, hg, hl, hlen, hown, hc, hf⟩ := h.slot i hi
    have hhas : s.has i = true := by simp [DS.has, hi]
    have hgl : s.bl.getD (i : Int).toNat [] = l := by rw [Int.toNat_natCast, List.getD_eq_getElem?_getD, hl]; rfl
    have hrd : Rd w w.heap.size (some ⟨g, 0, none⟩) 32 l := by have := hown; unfold slotV at this; exact this.rd
    have c0 := h.c0
    rw [hhas, hgl, if_pos rfl]
    have H := Lib.hid h; have HH := Lib.hid hhas
    clear h hown hl hg hhas hgl hn
    go_enter Try.func63, Try.ntmps63
    go_wp2_with (go_at_call 88; refine (there_any w i H.out).mono ?_; rintro e w1 ⟨rfl, rfl⟩; rw [HH.out])
    refine (Clone_any (some ⟨g, 0, none⟩) 32 d _ l (by omega) hrd).mono ?_
    rintro e w2 ⟨v, rfl, hv, hb⟩
    go_wp2
    go_ret2
    exact ⟨_, rfl, hv, hb⟩
  · have hhas : s.has n = false := by simp only [DS.has, hn, decide_false]
    rw [hhas]
    have H := Lib.hid h; have HH := Lib.hid hhas
    clear h hhas hn
    go_enter Try.func63, Try.ntmps63
    go_wp2_with (go_at_call 88; refine (there_any w n H.out).mono ?_; rintro e w1 ⟨rfl, rfl⟩; rw [HH.out])
    go_ret2
    exact ⟨_, rfl, Own.nil_ _ _, Below.refl _ _⟩
end Go.Proofs.Ytlabebapjhhkaaa
namespace Go.Proofs.Ytlabebapjhhkaaa
open Go.RowKit
/-- What a Write answers, and what the disk is behind it. -/
def DS.write (s : DS) (n : Int) (l : List UInt8) : Int × DS :=
  if s.has n = true ∧ l.length = 32 then
    if (s.down || decide (s.fuse = 0)) = true then (3, { s with down := true })
    else (0, { bl := s.bl.set n.toNat l, fuse := if 0 < s.fuse then s.fuse - 1 else s.fuse, down := false, writes := s.writes + 1 })
  else (1, s)
/-- A slot is set to a new block. -/
theorem DiskAt.put {w : World} {D R c g' d' : Nat} {gs : List (Nat × Nat)} {s : DS} {l : List UInt8} (h : DiskAt w D gs (.slice (some ⟨R, 0, none⟩) s.bl.length c) s) (i : Nat) (hi : i < s.bl.length) (hl : l.length = 32) (ho : Own w 0 (slotV (g', d')) l) (hR : g' ≠ R) (hgs : ∀ p ∈ gs, p.1 ≠ g') :
    DiskAt (w.setCell ⟨R, i, none⟩ (slotV (g', d'))) D (gs.set i (g', d')) (.slice (some ⟨R, 0, none⟩) s.bl.length c) { s with bl := s.bl.set i l } := by
  have hap := h.apart R (Or.inl rfl)
  have hk : Keeps (fun k => k = R) w (w.setCell ⟨R, i, none⟩ (slotV (g', d'))) := (Keeps.refl (fun k => k = R) w).setCell (p := ⟨R, i, none⟩) rfl _
  have hn := h.len
  have hst := h.row
  rw [hn] at hst
  have hst2 := (hst.stored i (slotV (g', d'))).1
  have hnR : ∀ p ∈ gs, p.1 ≠ R := by
    rintro p hp e
    obtain ⟨j, hj, rfl⟩ := List.getElem_of_mem hp
    have h1 : gs[j]? = some gs[j] := List.getElem?_eq_getElem hj
    have h2 : s.bl[j]? = some (s.bl[j]'(by rw [← h.len]; exact hj)) := List.getElem?_eq_getElem _
    have h3 := h.each j _ _ h1 h2
    obtain ⟨g, c0, cur, e1, _, hB, _⟩ := h3.2.blk (by omega)
    injection e1 with e1 _ _
    simp only [Option.some.injEq, Addr.mk.injEq, and_true] at e1
    rw [← e1, e] at hB
    rcases h.row.2 with ⟨hx, _⟩ | ⟨R', c', cur', hx, _, hR', _⟩
    · cases hx
    · injection hx with hx _ _
      simp only [Option.some.injEq, Addr.mk.injEq, and_true] at hx
      rw [← hx] at hR'
      exact Blk.ne_ hB hR' (by decide) rfl
  refine ⟨h.cells.keeps hk (fun e => hap e.symm), ?_, by simpa using hn, ?_, ?_, by simpa using h.small, h.fuseLe, h.fuseGe⟩
  · rw [List.length_set, hn, List.map_set]
    exact hst2
  · intro a b p q hp hq hpq
    rw [List.getElem?_set] at hp hq
    by_cases ha : i = a <;> by_cases hb : i = b
    · omega
    · rw [if_pos ha, if_pos (by omega)] at hp
      rw [if_neg hb] at hq
      injection hp with hp
      subst hp
      exact absurd hpq.symm (hgs q (List.mem_of_getElem? hq))
    · rw [if_neg ha] at hp
      rw [if_pos hb, if_pos (by omega)] at hq
      injection hq with hq
      subst hq
      exact absurd hpq (hgs p (List.mem_of_getElem? hp))
    · rw [if_neg ha] at hp
      rw [if_neg hb] at hq
      exact h.nodup a b p q hp hq hpq
  · intro a p m hp hm
    rw [List.getElem?_set] at hp
    have hm' : (s.bl.set i l)[a]? = some m := hm
    rw [List.getElem?_set] at hm'
    by_cases ha : i = a
    · rw [if_pos ha, if_pos (by omega)] at hp
      rw [if_pos ha, if_pos (by omega)] at hm'
      injection hp with hp
      injection hm' with hm'
      subst hp hm'
      exact ⟨hl, ho.keeps hk (fun k e => by simp only [slotV, Value.ownBlock, Option.some.injEq] at e; omega)⟩
    · rw [if_neg ha] at hp
      rw [if_neg ha] at hm'
      exact ⟨(h.each a p m hp hm').1, (h.each a p m hp hm').2.keeps hk (fun k e => by simp only [slotV, Value.ownBlock, Option.some.injEq] at e; rw [← e]; exact hnR p (List.mem_of_getElem? hp))⟩
theorem write_done {F : Nat → Prop} {W0 w3 : World} {D R c i : Nat} {gs : List (Nat × Nat)} {s : DS} {v : Value} {l : List UInt8} (h : DiskAt W0 D gs (.slice (some ⟨R, 0, none⟩) s.bl.length c) s) (h2 : ∀ k, Foot D gs (.slice (some ⟨R, 0, none⟩) s.bl.length c) k → F k) (hb : Below W0.heap.size W0 w3) (hv : Own w3 W0.heap.size v l) (hl : l.length = 32) (hi : i < s.bl.length) :
    DiskIs ((w3.setCell ⟨R, i, none⟩ v).setCell ⟨D, 3, none⟩ (.int .i64 ((s.writes : Int) + 1))) (Grown F W0) D { s with bl := s.bl.set i l, writes := s.writes + 1 } ∧ Keeps F W0 ((w3.setCell ⟨R, i, none⟩ v).setCell ⟨D, 3, none⟩ (.int .i64 ((s.writes : Int) + 1))) := by
  obtain ⟨g', d', cur, rfl, hg', hB', _, _⟩ := hv.blk (by omega)
  rw [hl] at hv ⊢
  have hlt := h.foot_lt
  have h3 := h.below hb
  have hRlt := hlt R (Or.inr (Or.inl rfl))
  have h4 := h3.put (g' := g') (d' := d') (l := l) i hi hl (hv.mono (Nat.zero_le _)) (by omega) (fun p hp e => by have := hlt p.1 (Or.inr (Or.inr ⟨p, hp, rfl⟩)); omega)
  have h5 := h4.set_ 3 (.int .i64 ((s.writes : Int) + 1)) (s' := { s with bl := s.bl.set i l, writes := s.writes + 1 }) rfl rfl h4.fuseLe h4.fuseGe h4.apart
  refine ⟨⟨_, _, h5, ?_⟩, ((Keeps.of_below hb).setCell (p := ⟨R, i, none⟩) (h2 R (Or.inr (Or.inl rfl))) _).setCell (p := ⟨D, 3, none⟩) (h2 D (Or.inl rfl)) _⟩
  rintro k (rfl | hk | ⟨p, hp, rfl⟩)
  · exact Or.inl (h2 _ (Or.inl rfl))
  · exact Or.inl (h2 _ (Or.inr (Or.inl hk)))
  · rcases List.mem_or_eq_of_mem_set hp with hp | rfl
    · exact Or.inl (h2 _ (Or.inr (Or.inr ⟨p, hp, rfl⟩)))
    · exact Or.inr hg'
set_option maxRecDepth 100000 in
theorem Write_any (w : World) (F : Nat → Prop) (D : Nat) (s : DS) (n : Int) (A : Option Addr) (m c : Nat) (l : List UInt8) (hw : s.writes ≤ 4611686018427387904) (h : DiskIs w F D s) (hr : Rd w w.heap.size A m l) :
    Calls Try.prog 75 #[.pointer (some ⟨D, 0, none⟩), .int .i64 n, .slice A m c] w fun e w' => e = .returned (.int .i64 (s.write n l).1) ∧ DiskIs w' (Grown F w) D (s.write n l).2 ∧ Keeps F w w' := by
  obtain ⟨gs, r, h1, h2⟩ := h
  have hm := hr.len
  by_cases hhas : s.has n = true
  · by_cases h32 : m = 32
    · have hwr : s.write n l = if (s.down || decide (s.fuse = 0)) = true then (3, { s with down := true }) else (0, { bl := s.bl.set n.toNat l, fuse := if 0 < s.fuse then s.fuse - 1 else s.fuse, down := false, writes := s.writes + 1 }) := by
        unfold DS.write
        rw [if_pos ⟨hhas, by omega⟩]
      have HH := Lib.hid hhas
      have H := Lib.hid h1
      obtain ⟨i, rfl⟩ : ∃ i : Nat, n = i := ⟨n.toNat, by simp [DS.has] at hhas; omega⟩
      have hi : i < s.bl.length := by simp [DS.has] at hhas; omega
      subst h32
      by_cases hdn : (s.down || decide (s.fuse = 0)) = true
      · rw [if_pos hdn] at hwr
        rw [hwr]
        have hd : s.down = true ∨ (s.down = false ∧ s.fuse = 0) := by
          cases hs : s.down
          · exact Or.inr ⟨rfl, by simpa [hs] using hdn⟩
          · exact Or.inl rfl
        have c1 := h1.c1
        have c2 := h1.c2
        have f2 := h1.fz 2
        have key := h1.set_is h2 2 (.bool true) (s' := { s with down := true }) rfl rfl h1.fuseLe h1.fuseGe
        have K := Lib.hid key
        have HM := Lib.hid hm
        clear h1 key hwr hhas hdn hm
        rcases hd with hd | ⟨hd, hf⟩
        · rw [hd] at c2
          go_enter Try.func75, Try.ntmps75
          go_wp2_with (go_at_call 88; refine (there_any w i H.out).mono ?_; rintro e w1 ⟨rfl, rfl⟩; rw [HH.out])
          go_ret
          exact ⟨rfl, K.out.1.weaken (fun _ e => Or.inl e), K.out.2⟩
        · rw [hd] at c2
          rw [hf] at c1
          go_enter Try.func75, Try.ntmps75
          go_wp2_with (go_at_call 88; refine (there_any w i H.out).mono ?_; rintro e w1 ⟨rfl, rfl⟩; rw [HH.out])
          go_ret
          exact ⟨rfl, K.out.1.weaken (fun _ e => Or.inl e), K.out.2⟩
      · rw [if_neg hdn] at hwr
        rw [hwr]
        simp only [Bool.or_eq_true, decide_eq_true_eq, not_or, Bool.not_eq_true] at hdn
        obtain ⟨hd, hf0⟩ := hdn
        obtain ⟨R, c', g, d, l0, hrr, hg, hl0, hlen0, hown0, hc, hfz⟩ := h1.slot i hi
        subst hrr
        have c0 := h1.c0
        have c1 := h1.c1
        have c2 := h1.c2
        have c3 := h1.c3
        have f1 := h1.fz 1
        have f2 := h1.fz 2
        have f3 := h1.fz 3
        rw [hd] at c2
        have HM := Lib.hid hm
        have HR := Lib.hid hr
        have hle := h1.fuseLe
        have hge := h1.fuseGe
        have hRD : R ≠ D := h1.apart R (Or.inl rfl)
        clear h1 hwr hhas hm hl0 hown0 hr
        by_cases hfp : 0 < s.fuse
        · rw [if_pos hfp]
          have hAA := H.out.set_ 2 (.bool false) (s' := { s with down := false }) rfl rfl hle hge H.out.apart
          have hAB := hAA.set_ 1 (.int .i64 (s.fuse - 1)) (s' := { s with fuse := s.fuse - 1, down := false }) rfl rfl (by show s.fuse - 1 ≤ _; omega) (by show _ ≤ s.fuse - 1; omega) hAA.apart
          have hKB : Keeps F w ((w.setCell ⟨D, 2, none⟩ (.bool false)).setCell ⟨D, 1, none⟩ (.int .i64 (s.fuse - 1))) := ((Keeps.refl F w).setCell (p := ⟨D, 2, none⟩) (h2 D (Or.inl rfl)) _).setCell (p := ⟨D, 1, none⟩) (h2 D (Or.inl rfl)) _
          have hRB : Rd ((w.setCell ⟨D, 2, none⟩ (.bool false)).setCell ⟨D, 1, none⟩ (.int .i64 (s.fuse - 1))) w.heap.size A 32 l := rd_cell (rd_cell HR.out _ _ c2 (by intro k e; cases e)) _ _ hAA.c1 (by intro k e; cases e)
          have hc0' : True := trivial
          obtain ⟨W0, hW0⟩ : ∃ W0, W0 = (w.setCell ⟨D, 2, none⟩ (.bool false)).setCell ⟨D, 1, none⟩ (.int .i64 (s.fuse - 1)) := ⟨_, rfl⟩
          rw [← hW0] at hAB hKB hRB
          have hsz : W0.heap.size = w.heap.size := by rw [hW0]; simp [World.setCell]
          have hlt := hAB.foot_lt
          have hRl : R < W0.heap.size := hlt R (Or.inr (Or.inl rfl))
          have hDl : D < W0.heap.size := hlt D (Or.inl rfl)
          have c0' := hAB.c0
          have c3' := hAB.c3
          have f3' := hAB.fz 3
          have sl : W0.cell? ⟨R, i, none⟩ = some (.slice (some ⟨g, 0, none⟩) 32 d) ∧ W0.frozen? ⟨R, i, none⟩ = false := by
            obtain ⟨R', c'', g', d', l0', hrr, hgg, _, _, _, hcc, hff⟩ := hAB.slot i hi
            injection hrr with hrr _ _
            simp only [Option.some.injEq, Addr.mk.injEq, and_true] at hrr
            subst hrr
            rw [hg] at hgg
            injection hgg with hgg
            injection hgg with e1 e2
            subst e1 e2
            exact ⟨hcc, hff⟩
          obtain ⟨hcW, hfW⟩ := sl
          rw [hsz] at hRl hDl
          rw [← hsz] at hRB
          have hRH := Lib.hid hRB; have HAB := Lib.hid hAB; have HKB := Lib.hid hKB; have HSZ := Lib.hid hsz
          clear hAB hKB hRB hlt hsz hAA
          go_enter Try.func75, Try.ntmps75
          go_wp2_with (go_at_call 88; refine (there_any w i H.out).mono ?_; rintro e w1 ⟨rfl, rfl⟩; rw [HH.out])
          rw [← hW0]
          clear hW0 c0 c1 c2 c3 f1 f2 f3 hc hfz
          have hCd : W0.drew.cell? ⟨D, 0, none⟩ = some (.slice (some ⟨R, 0, none⟩) s.bl.length c') := c0'
          refine wp_region_anyN (fun W => W.cell? ⟨D, 0, none⟩ = some (.slice (some ⟨R, 0, none⟩) s.bl.length c')) (by kernel_rfl) ?_
          refine anyC_takes (by kernel_rfl) (fun _ _ _ _ _ h => h) [0, 1, 2, 3, 4, 5] 3 _ _ (by kernel_rfl) ?_
          simp only [List.filterMap_cons, List.filterMap_nil, List.getElem?_toArray, List.getElem?_cons_succ, List.getElem?_cons_zero]
          show wpQuiet _ _ _ _ (_ :: _ :: _ :: _ :: _ :: _ :: List.nil) _
          repeat (first | go_big_quiet_skip | (go_big_quiet_want; first | (refine quiet_load 116 (.tmp 48) rfl ⟨D, 0, none⟩ rfl _ (fun W hW => hW) (fun _ => by kernel_rfl) ?_; simp only [Act.put, List.setIfInBounds_toArray, List.set_cons_succ, List.set_cons_zero]; go_big_quiet_on) | (go_big_quiet_op; first | go_big_quiet_on | (refine ⟨_, fun _ _ => rfl, ?_⟩; go_big_quiet_on))))
          refine wpQuiet_nil ?_
          refine anyC_only (i := 6) rfl (by kernel_rfl) hCd ?_
          go_wp2_with fail
          refine (Clone_any A 32 c _ l (by omega) hRH.out.drew).mono ?_
          rintro e w3 ⟨v, rfl, hv, hb⟩
          obtain ⟨Av, cv, rfl⟩ := hv.shape
          have hc3 := (World.cell?_of_block (a := ⟨R, i, none⟩) (hb.block R (by rw [← HSZ.out] at hRl; exact hRl))).trans hcW
          have hfz3 := (World.frozen?_of_block (a := ⟨R, i, none⟩) (hb.block R (by rw [← HSZ.out] at hRl; exact hRl))).trans hfW
          have c33 := (World.cell?_of_block (a := ⟨D, 3, none⟩) (hb.block D (by rw [← HSZ.out] at hDl; exact hDl))).trans c3'
          have f33 := (World.frozen?_of_block (a := ⟨D, 3, none⟩) (hb.block D (by rw [← HSZ.out] at hDl; exact hDl))).trans f3'
          have c30 := (World.cell?_of_block (a := ⟨D, 0, none⟩) (hb.block D (by rw [← HSZ.out] at hDl; exact hDl))).trans c0'
          have HV := Lib.hid hv; have HB := Lib.hid hb; clear hv hb
          go_wp2_with fail
          refine anyC_takes (by kernel_rfl) (fun _ _ _ _ _ h => h) [7] 1 _ _ (by kernel_rfl) ?_
          simp only [List.filterMap_cons, List.filterMap_nil, List.getElem?_toArray, List.getElem?_cons_succ, List.getElem?_cons_zero]
          show wpQuiet _ _ _ _ (_ :: List.nil) _
          repeat (first | go_big_quiet_skip | (go_big_quiet_want; first | (fail; simp only [Act.put, List.setIfInBounds_toArray, List.set_cons_succ, List.set_cons_zero]; go_big_quiet_on) | (go_big_quiet_op; first | go_big_quiet_on | (refine ⟨_, fun _ _ => rfl, ?_⟩; go_big_quiet_on))))
          refine wpQuiet_nil ?_
          refine anyC_only (i := 8) rfl (by kernel_rfl) c30 ?_
          go_wp2_with fail
          refine ⟨by simp [c30, World.cell?_setCell_other], by kernel_rfl, ?_⟩
          go_wp2
          go_ret
          have hbb : Below W0.heap.size W0 _ := ((Below.refl _ W0).drew).trans HB.out
          obtain ⟨k1, k2⟩ := write_done (s := { s with fuse := s.fuse - 1, down := false }) HAB.out h2 hbb HV.out HM.out.symm hi
          refine ⟨rfl, k1.weaken (fun k e => ?_), HKB.out.trans k2 (fun _ _ e => e)⟩
          rcases e with e | e
          · exact Or.inl e
          · exact Or.inr (by rw [HSZ.out] at e; exact e)
        · rw [if_neg hfp]
          have hAB := H.out.set_ 2 (.bool false) (s' := { s with down := false }) rfl rfl hle hge H.out.apart
          have hKB : Keeps F w (w.setCell ⟨D, 2, none⟩ (.bool false)) := (Keeps.refl F w).setCell (p := ⟨D, 2, none⟩) (h2 D (Or.inl rfl)) _
          have hRB : Rd (w.setCell ⟨D, 2, none⟩ (.bool false)) w.heap.size A 32 l := rd_cell HR.out _ _ c2 (by intro k e; cases e)
          have hAA := hAB
          have hc0' : True := trivial
          obtain ⟨W0, hW0⟩ : ∃ W0, W0 = w.setCell ⟨D, 2, none⟩ (.bool false) := ⟨_, rfl⟩
          rw [← hW0] at hAB hKB hRB
          have hsz : W0.heap.size = w.heap.size := by rw [hW0]; simp [World.setCell]
          have hlt := hAB.foot_lt
          have hRl : R < W0.heap.size := hlt R (Or.inr (Or.inl rfl))
          have hDl : D < W0.heap.size := hlt D (Or.inl rfl)
          have c0' := hAB.c0
          have c3' := hAB.c3
          have f3' := hAB.fz 3
          have sl : W0.cell? ⟨R, i, none⟩ = some (.slice (some ⟨g, 0, none⟩) 32 d) ∧ W0.frozen? ⟨R, i, none⟩ = false := by
            obtain ⟨R', c'', g', d', l0', hrr, hgg, _, _, _, hcc, hff⟩ := hAB.slot i hi
            injection hrr with hrr _ _
            simp only [Option.some.injEq, Addr.mk.injEq, and_true] at hrr
            subst hrr
            rw [hg] at hgg
            injection hgg with hgg
            injection hgg with e1 e2
            subst e1 e2
            exact ⟨hcc, hff⟩
          obtain ⟨hcW, hfW⟩ := sl
          rw [hsz] at hRl hDl
          rw [← hsz] at hRB
          have hRH := Lib.hid hRB; have HAB := Lib.hid hAB; have HKB := Lib.hid hKB; have HSZ := Lib.hid hsz
          clear hAB hKB hRB hlt hsz hAA
          go_enter Try.func75, Try.ntmps75
          go_wp2_with (go_at_call 88; refine (there_any w i H.out).mono ?_; rintro e w1 ⟨rfl, rfl⟩; rw [HH.out])
          rw [← hW0]
          clear hW0 c0 c1 c2 c3 f1 f2 f3 hc hfz
          have hCd : W0.drew.cell? ⟨D, 0, none⟩ = some (.slice (some ⟨R, 0, none⟩) s.bl.length c') := c0'
          refine wp_region_anyN (fun W => W.cell? ⟨D, 0, none⟩ = some (.slice (some ⟨R, 0, none⟩) s.bl.length c')) (by kernel_rfl) ?_
          refine anyC_takes (by kernel_rfl) (fun _ _ _ _ _ h => h) [0, 1, 2, 3, 4, 5] 3 _ _ (by kernel_rfl) ?_
          simp only [List.filterMap_cons, List.filterMap_nil, List.getElem?_toArray, List.getElem?_cons_succ, List.getElem?_cons_zero]
          show wpQuiet _ _ _ _ (_ :: _ :: _ :: _ :: _ :: _ :: List.nil) _
          repeat (first | go_big_quiet_skip | (go_big_quiet_want; first | (refine quiet_load 116 (.tmp 48) rfl ⟨D, 0, none⟩ rfl _ (fun W hW => hW) (fun _ => by kernel_rfl) ?_; simp only [Act.put, List.setIfInBounds_toArray, List.set_cons_succ, List.set_cons_zero]; go_big_quiet_on) | (go_big_quiet_op; first | go_big_quiet_on | (refine ⟨_, fun _ _ => rfl, ?_⟩; go_big_quiet_on))))
          refine wpQuiet_nil ?_
          refine anyC_only (i := 6) rfl (by kernel_rfl) hCd ?_
          go_wp2_with fail
          refine (Clone_any A 32 c _ l (by omega) hRH.out.drew).mono ?_
          rintro e w3 ⟨v, rfl, hv, hb⟩
          obtain ⟨Av, cv, rfl⟩ := hv.shape
          have hc3 := (World.cell?_of_block (a := ⟨R, i, none⟩) (hb.block R (by rw [← HSZ.out] at hRl; exact hRl))).trans hcW
          have hfz3 := (World.frozen?_of_block (a := ⟨R, i, none⟩) (hb.block R (by rw [← HSZ.out] at hRl; exact hRl))).trans hfW
          have c33 := (World.cell?_of_block (a := ⟨D, 3, none⟩) (hb.block D (by rw [← HSZ.out] at hDl; exact hDl))).trans c3'
          have f33 := (World.frozen?_of_block (a := ⟨D, 3, none⟩) (hb.block D (by rw [← HSZ.out] at hDl; exact hDl))).trans f3'
          have c30 := (World.cell?_of_block (a := ⟨D, 0, none⟩) (hb.block D (by rw [← HSZ.out] at hDl; exact hDl))).trans c0'
          have HV := Lib.hid hv; have HB := Lib.hid hb; clear hv hb
          go_wp2_with fail
          refine anyC_takes (by kernel_rfl) (fun _ _ _ _ _ h => h) [7] 1 _ _ (by kernel_rfl) ?_
          simp only [List.filterMap_cons, List.filterMap_nil, List.getElem?_toArray, List.getElem?_cons_succ, List.getElem?_cons_zero]
          show wpQuiet _ _ _ _ (_ :: List.nil) _
          repeat (first | go_big_quiet_skip | (go_big_quiet_want; first | (fail; simp only [Act.put, List.setIfInBounds_toArray, List.set_cons_succ, List.set_cons_zero]; go_big_quiet_on) | (go_big_quiet_op; first | go_big_quiet_on | (refine ⟨_, fun _ _ => rfl, ?_⟩; go_big_quiet_on))))
          refine wpQuiet_nil ?_
          refine anyC_only (i := 8) rfl (by kernel_rfl) c30 ?_
          go_wp2_with fail
          refine ⟨by simp [c30, World.cell?_setCell_other], by kernel_rfl, ?_⟩
          go_wp2
          go_ret
          have hbb : Below W0.heap.size W0 _ := ((Below.refl _ W0).drew).trans HB.out
          obtain ⟨k1, k2⟩ := write_done (s := { s with down := false }) HAB.out h2 hbb HV.out HM.out.symm hi
          refine ⟨rfl, k1.weaken (fun k e => ?_), HKB.out.trans k2 (fun _ _ e => e)⟩
          rcases e with e | e
          · exact Or.inl e
          · exact Or.inr (by rw [HSZ.out] at e; exact e)
    · have hwr : s.write n l = (1, s) := by
        unfold DS.write
        rw [if_neg (by rintro ⟨_, h3⟩; omega)]
      have HH := Lib.hid hhas
      have h32' : ¬ (m : Int) = 32 := by omega
      have H := Lib.hid h1
      rw [hwr]
      clear h1 hwr hhas
      go_enter Try.func75, Try.ntmps75
      go_wp2_with (go_at_call 88; refine (there_any w n H.out).mono ?_; rintro e w1 ⟨rfl, rfl⟩; rw [HH.out])
      go_ret
      exact ⟨rfl, ⟨gs, r, H.out, fun k e => Or.inl (h2 k e)⟩, Keeps.refl _ _⟩
  · have hwr : s.write n l = (1, s) := by
      unfold DS.write
      rw [if_neg (by rintro ⟨h3, _⟩; exact hhas h3)]
    have hf : s.has n = false := by simpa using hhas
    have HH := Lib.hid hf
    have H := Lib.hid h1
    rw [hwr]
    clear h1 hwr hhas hf
    go_enter Try.func75, Try.ntmps75
    go_wp2_with (go_at_call 88; refine (there_any w n H.out).mono ?_; rintro e w1 ⟨rfl, rfl⟩; rw [HH.out])
    go_ret
    exact ⟨rfl, ⟨gs, r, H.out, fun k e => Or.inl (h2 k e)⟩, Keeps.refl _ _⟩
end Go.Proofs.Ytlabebapjhhkaaa
namespace Go.Proofs.Ytlabebapjhhkaaa
open Go.RowKit
theorem slot_info : (Try.prog.info? 64).map (fun i => (i.zero, i.size, i.bytes)) = some (some (.slice none 0 0), 1, 24) := by kernel_rfl
/-- append(blocks, block). -/
theorem app_slot {ops : Array Oper} {rest : List Oper} {o : Oper} {a : Act} {Q : Exit → Act → World → Prop} {w : World} (hgd : o.guard = none) (s x : Operand) (ho : o.op = .call { callee := .builtin .append, args := #[s, x], argTypes := #[116, 116] })
    (v : Value) (n : Nat) (xs : List Value) (hs : a.eval s = v) (hown : w.ownsRow 0 64 1 v n xs) (q : Nat) (p : Nat × Nat) (hx : a.eval x = .slice (some ⟨q, 0, none⟩) 1 1) (hq : Blk w q 64 #[slotV p]) (hl : n + 1 ≤ 1048576)
    (h : ∀ v' w', w'.ownsRow 0 64 1 v' (n + 1) (xs ++ [slotV p]) → w.grownBy w' v.ownBlock → (v'.ownBlock = v.ownBlock ∨ v'.ownBlock = some w.heap.size) → wpList Try.prog ops Q rest (a.put o.dst v') w') : wpList Try.prog ops Q (o :: rest) a w := by
  obtain ⟨i0, hi0, hz0, hz1, hz2⟩ := info_parts slot_info
  refine wpList_append_any w hgd s x _ ho 0 64 i0 _ 1 24 Try.underlying116 hi0 hz0 hz1 hz2 rfl (by omega) v n xs hs hown w.heap.size _ 1 1 [slotV p] hx ?_ ?_ (by simp only [maxLen]; omega) (by omega) (Nat.zero_le _) h
  · refine ⟨rfl, fun _ => ⟨_, rfl, hq.lt, fun j u hu => ?_⟩⟩
    have ha : (⟨q, 0, none⟩ : Addr).add j = ⟨q, j, none⟩ := by unfold Addr.add; split <;> simp_all
    rw [ha, hq.cell j]
    simpa using hu
  · intro u hu
    simp only [List.mem_singleton] at hu
    subst hu
    rfl
def zero32 : List UInt8 := List.replicate 32 0
theorem new_step {F : Nat → Prop} {W W2 W3 : World} {D g' : Nat} {gs : List (Nat × Nat)} {r v' : Value} {s : DS} (h : DiskAt W D gs r s) (hg' : g' = W.heap.size) (hB : Blk W2 g' 5 ((zero32.map B8).toArray)) (h02 : Below W.heap.size W W2)
    (hown : W3.ownsRow 0 64 1 v' (gs.length + 1) (gs.map slotV ++ [slotV (g', 32)])) (hgr : W2.grownBy W3 r.ownBlock) (hat : v'.ownBlock = r.ownBlock ∨ v'.ownBlock = some W2.heap.size) (hs : s.bl.length + 1 ≤ 2048)
    (hF : ∀ k, Foot D gs r k → F k) :
    DiskIs (W3.setCell ⟨D, 0, none⟩ v') (Grown F W) D { s with bl := s.bl ++ [zero32] } ∧ Keeps F W (W3.setCell ⟨D, 0, none⟩ v') := by
  have hlt := h.foot_lt
  have hap := h.apart
  have h2 := h.below h02
  have hs2 := h02.size
  have hk : Keeps (fun k => r.ownBlock = some k) W2 W3 := (Keeps.refl _ W2).grown hgr (fun k e => Or.inr e)
  have hg2 : g' < W2.heap.size := hB.lt
  have hnr : ∀ p ∈ gs, r.ownBlock ≠ some p.1 := by
    intro p hp e
    obtain ⟨j, hj, rfl⟩ := List.getElem_of_mem hp
    have h1 : gs[j]? = some gs[j] := List.getElem?_eq_getElem hj
    have hx : s.bl[j]? = some (s.bl[j]'(by rw [← h.len]; exact hj)) := List.getElem?_eq_getElem _
    have h3 := h.each j _ _ h1 hx
    obtain ⟨g, c0, cur, e1, _, hBg, _⟩ := h3.2.blk (by omega)
    injection e1 with e1 _ _
    simp only [Option.some.injEq, Addr.mk.injEq, and_true] at e1
    rcases h.row.2 with ⟨hx, _⟩ | ⟨R, c', cur', hx, _, hR, _⟩
    · rw [hx] at e; cases e
    · rw [hx] at e
      simp only [Value.ownBlock, Option.some.injEq] at e
      rw [← e1, ← e] at hBg
      exact Blk.ne_ hBg hR (by decide) rfl
  have hDr : ∀ k, r.ownBlock = some k → k ≠ D := fun k e => hap k (Or.inl e)
  have hvD : ∀ k, v'.ownBlock = some k → k ≠ D := by
    intro k e
    rcases hat with e2 | e2
    · exact hDr k (e2.symm.trans e)
    · have := hlt D (Or.inl rfl)
      rw [e2] at e; injection e with e; omega
  have hg'r : r.ownBlock ≠ some g' := fun e => by have := hlt g' (Or.inr (Or.inl e)); omega
  have hgD : g' ≠ D := by have := hlt D (Or.inl rfl); omega
  have hzo : Own W2 0 (slotV (g', 32)) zero32 := by
    refine ⟨by simp [zero32], Or.inr ⟨g', 32, _, rfl, Nat.zero_le _, hB, by simp [zero32], by simp [maxLen], by simp [zero32], by simp [zero32]⟩⟩
  have hkD : Keeps (fun k => k = D) W3 (W3.setCell ⟨D, 0, none⟩ v') := (Keeps.refl (fun k => k = D) W3).setCell (p := ⟨D, 0, none⟩) rfl _
  have hD3 : Blk W3 D 118 (DCells r s) := h2.cells.keeps hk (fun e => hDr D e rfl)
  refine ⟨⟨gs ++ [(g', 32)], v', ⟨?_, ?_, by simp [h.len], ?_, ?_, by simpa using hs, h.fuseLe, h.fuseGe⟩, ?_⟩, ?_⟩
  · exact hD3.set_ 0 v'
  · rw [List.length_append, List.map_append]
    exact row_keeps hown hkD (fun k e => hvD k e)
  · intro i j p q hp hq hpq
    have hgn : ∀ (k : Nat) (x : Nat × Nat), gs[k]? = some x → x.1 ≠ g' := fun k x hx e => by
      have := hlt x.1 (Or.inr (Or.inr ⟨x, List.mem_of_getElem? hx, rfl⟩)); omega
    have hcase : ∀ (k : Nat) (x : Nat × Nat), (gs ++ [(g', 32)])[k]? = some x → (gs[k]? = some x) ∨ (k = gs.length ∧ x = (g', 32)) := by
      intro k x hx
      by_cases hkl : k < gs.length
      · rw [List.getElem?_append_left hkl] at hx; exact Or.inl hx
      · rw [List.getElem?_append_right (by omega)] at hx
        have hk1 : k - gs.length < 1 := by have := (List.getElem?_eq_some_iff.1 hx).1; simpa using this
        have hk0 : k - gs.length = 0 := by omega
        rw [hk0] at hx
        simp at hx
        exact Or.inr ⟨by omega, hx.symm⟩
    rcases hcase i p hp with h1 | ⟨h1, rfl⟩ <;> rcases hcase j q hq with h3 | ⟨h3, rfl⟩
    · exact h.nodup i j p q h1 h3 hpq
    · exact absurd hpq (hgn i p h1)
    · exact absurd hpq.symm (hgn j q h3)
    · omega
  · intro i p l hp hl
    have hlen := h.len
    by_cases hi : i < gs.length
    · rw [List.getElem?_append_left hi] at hp
      have hl' : (s.bl ++ [zero32])[i]? = some l := hl
      rw [List.getElem?_append_left (by omega)] at hl'
      have h3 := h2.each i p l hp hl'
      refine ⟨h3.1, (h3.2.keeps hk (fun k e => ?_)).keeps hkD (fun k e => ?_)⟩
      · simp only [slotV, Value.ownBlock, Option.some.injEq] at e
        rw [← e]
        exact hnr p (List.mem_of_getElem? hp)
      · simp only [slotV, Value.ownBlock, Option.some.injEq] at e
        rw [← e]
        exact hap p.1 (Or.inr ⟨p, List.mem_of_getElem? hp, rfl⟩)
    · rw [List.getElem?_append_right (by omega)] at hp
      have hl' : (s.bl ++ [zero32])[i]? = some l := hl
      rw [List.getElem?_append_right (by omega)] at hl'
      have hk1 : i - gs.length < 1 := by have := (List.getElem?_eq_some_iff.1 hp).1; simpa using this
      have hk0 : i - gs.length = 0 := by omega
      rw [hk0] at hp
      rw [show i - s.bl.length = 0 by omega] at hl'
      simp at hp hl'
      subst hp hl'
      exact ⟨by simp [zero32], (hzo.keeps hk (fun k e => by simp only [slotV, Value.ownBlock, Option.some.injEq] at e; rw [← e]; exact hg'r)).keeps hkD (fun k e => by simp only [slotV, Value.ownBlock, Option.some.injEq] at e; omega)⟩
  · rintro k (rfl | e | ⟨p, hp, rfl⟩)
    · exact Or.inl (hF _ (Or.inl rfl))
    · rcases hat with e2 | e2
      · exact Or.inl (hF _ (Or.inr (Or.inl (e2.symm.trans e))))
      · rw [e2] at e; injection e with e; exact Or.inr (by omega)
    · rcases List.mem_append.1 hp with hp | hp
      · exact Or.inl (hF _ (Or.inr (Or.inr ⟨p, hp, rfl⟩)))
      · simp only [List.mem_singleton] at hp
        subst hp
        exact Or.inr (by show _ ≤ g'; omega)
  · exact ((Keeps.of_below h02).grown hgr (fun k e => Or.inr (hF k (Or.inr (Or.inl e))))).setCell (p := ⟨D, 0, none⟩) (hF D (Or.inl rfl)) _
def DS.new (n : Int) : DS := { bl := List.replicate (min (max n 0) 2048).toNat zero32, fuse := -1, down := false, writes := 0 }
def loopsOf : Code → List Code
  | .loop c => c :: loopsOf c
  | .seq a b => loopsOf a ++ loopsOf b
  | .block _ c => loopsOf c
  | .scope c => loopsOf c
  | .cond _ a b => loopsOf a ++ loopsOf b
  | _ => []
noncomputable def newLoopCode : Code := (((Try.f52.body.map loopsOf).getD [])[0]?).getD .skip
def DS.zeros (j : Nat) : DS := { bl := List.replicate j zero32, fuse := -1, down := false, writes := 0 }
theorem DS.zeros_succ (j : Nat) : ({ DS.zeros j with bl := (DS.zeros j).bl ++ [zero32] } : DS) = DS.zeros (j + 1) := by
  unfold DS.zeros
  simp only [List.replicate_succ']
theorem mk32 (w : World) : (Instr.makeSlice 64 (.int .i64 32) (.int .i64 32)).run Try.prog w = .ok (.slice (some ⟨w.heap.size, 0, none⟩) 32 32) (w.alloc (.cells (zero32.map B8).toArray 5)) := by kernel_rfl
attribute [irreducible] zero32
set_option maxRecDepth 100000 in
theorem newLoop (c0 c1 c2 c4 c5 c6 c7 c10 c11 c12 c13 c14 c15 c16 c17 c18 c19 c20 c21 c22 : Value) (B D m : Nat) (wo : World) (Q0 : Exit → Act → World → Prop) (hm : m ≤ 2048) (h0 : DiskIs wo (fun k => B ≤ k) D (DS.zeros 0)) (hB : B ≤ wo.heap.size)
    (hexit : ∀ (u9 u10 u11 u12 u13 u14 u15 u16 u17 u18 u19 u20 u21 : Value) (w' : World), DiskIs w' (fun k => B ≤ k) D (DS.zeros m) → Keeps (fun k => B ≤ k) wo w' → Q0 (.exit 0) ⟨List.toArray (c0 :: c1 :: c2 :: .pointer (some ⟨D, 0, none⟩) :: c4 :: c5 :: c6 :: c7 :: .int .i64 (m : Int) :: u9 :: u10 :: u11 :: u12 :: u13 :: u14 :: u15 :: u16 :: u17 :: u18 :: u19 :: u20 :: u21 :: c22 :: List.nil), []⟩ w') :
    Code.wp Try.prog (Code.loop newLoopCode) Q0 ⟨List.toArray (c0 :: c1 :: c2 :: .pointer (some ⟨D, 0, none⟩) :: c4 :: c5 :: c6 :: c7 :: .int .i64 (m : Int) :: .int .i64 0 :: c10 :: c11 :: c12 :: c13 :: c14 :: c15 :: c16 :: c17 :: c18 :: c19 :: c20 :: c21 :: c22 :: List.nil), []⟩ wo := by
  conv => arg 2; arg 1; whnf
  go_loopw [9] (fun q wr => ∃ j : Nat, j ≤ m ∧ q = .int .i64 (j : Int) ∧ DiskIs wr (fun k => B ≤ k) D (DS.zeros j) ∧ Keeps (fun k => B ≤ k) wo wr) (fun q _ => m - (intOf q).toNat)
  case atStart => exact ⟨0, by omega, rfl, h0, Keeps.refl _ _⟩
  case round =>
    obtain ⟨j, hj, rfl, hd, hk⟩ := hrel
    by_cases hjm : j < m
    · have hjm' : (j : Int) < (m : Int) := by omega
      obtain ⟨gs, r, hA, hF⟩ := hd
      have hlt := hA.foot_lt
      have hDl : D < wr.heap.size := hlt D (Or.inl rfl)
      have c0 := hA.c0
      have f0 := hA.fz 0
      have hsl : (DS.zeros j).bl.length = j := by simp [DS.zeros]
      have HA := Lib.hid hA; have HK := Lib.hid hk; have HF := Lib.hid hF; have HS := Lib.hid hsl
      clear hA hk hF hsl hexit h0 hlt
      go_wp2_with fail
      refine wp_region_anyDN (fun W => W.cell? ⟨D, 0, none⟩ = some r) 10 (by kernel_rfl) ?_
      refine anyD_takes (by kernel_rfl) (fun _ _ _ _ _ h => h) [0, 1, 2, 3, 4] 6 _ _ (by kernel_rfl) ?_
      simp only [List.filterMap_cons, List.filterMap_nil, List.getElem?_toArray, List.getElem?_cons_succ, List.getElem?_cons_zero]
      show wpQuiet _ _ _ _ (_ :: _ :: _ :: _ :: _ :: List.nil) _
      repeat (first | go_big_quiet_skip | (go_big_quiet_want; first | (refine quiet_load 116 (.tmp 14) rfl ⟨D, 0, none⟩ rfl _ (fun W hW => hW) (fun _ => by kernel_rfl) ?_; simp only [Act.put, List.setIfInBounds_toArray, List.set_cons_succ, List.set_cons_zero]; go_big_quiet_on) | (go_big_quiet_op; first | go_big_quiet_on | (refine ⟨_, fun _ _ => rfl, ?_⟩; go_big_quiet_on))))
      refine wpQuiet_nil ?_
      have hmk := mk32
      have hcb : ∀ W, Below wr.heap.size wr W → W.cell? ⟨D, 0, none⟩ = some r := fun W hW => (hW.cell (p := ⟨D, 0, none⟩) hDl).trans c0
      have HCB := Lib.hid hcb; clear hcb
      refine anyD_only (i := 5) rfl (by kernel_rfl) c0 ?_
      go_wp2_with fail
      clear hmk
      have hb1 : Below wr.heap.size wr (wr.drew.alloc (.cells (zero32.map B8).toArray 5)) := (Below.refl _ _).drew.alloc (Nat.le_refl _) _
      refine anyD_only (i := 6) rfl (by kernel_rfl) (HCB.out _ hb1) ?_
      go_wp2_with fail
      have hb2 := hb1.alloc hb1.size (.cells #[slotV (wr.heap.size, 32)] 64)
      refine anyD_only (i := 7) rfl (by kernel_rfl) (HCB.out _ hb2) ?_
      have hB2 : Blk ((wr.drew.alloc (.cells (zero32.map B8).toArray 5)).alloc (.cells #[slotV (wr.heap.size, 32)] 64)) wr.heap.size 5 (zero32.map B8).toArray := (Blk.new wr.drew _ _).alloc _
      have hQ2 : Blk ((wr.drew.alloc (.cells (zero32.map B8).toArray 5)).alloc (.cells #[slotV (wr.heap.size, 32)] 64)) (wr.heap.size + 1) 64 #[slotV (wr.heap.size, 32)] := Blk.new' (by simp)
      have hrow := (HA.out.below hb2).row
      refine app_slot rfl (.tmp 15) (.tmp 17) rfl r gs.length (gs.map slotV) rfl hrow (wr.heap.size + 1) (wr.heap.size, 32) rfl hQ2 (by have := HA.out.len; have := HS.out; omega) ?_
      intro v' w3 hrow3 hgr hat
      have hDr : ∀ k, r.ownBlock = some k → k ≠ D := fun k e => HA.out.apart k (Or.inl e)
      have hkr : w3.heap[D]? = _ := hgr.block D (Nat.lt_of_lt_of_le hDl hb2.size) (fun e => hDr D e.symm rfl)
      have c03 : w3.cell? ⟨D, 0, none⟩ = some r := (World.cell?_of_block (a := ⟨D, 0, none⟩) hkr).trans (HCB.out _ hb2)
      have f03 : w3.frozen? ⟨D, 0, none⟩ = false := (World.frozen?_of_block (a := ⟨D, 0, none⟩) hkr).trans ((hb2.frozen (p := ⟨D, 0, none⟩) hDl).trans f0)
      have key := new_step HA.out rfl hB2 hb2 hrow3 hgr hat (by have := HS.out; omega) HF.out
      have hsh : ∃ A n c, v' = .slice A n c := by
        rcases hrow3.2 with ⟨e, _⟩ | ⟨g, cap, cur, e, _⟩
        · exact ⟨_, _, _, e⟩
        · exact ⟨_, _, _, e⟩
      obtain ⟨vA, vn, vc, rfl⟩ := hsh
      rw [DS.zeros_succ] at key
      have KEY := Lib.hid key
      clear key hrow3 hgr hat hkr hrow hQ2 hB2 hb2 hb1 hDr
      simp only [List.getElem_toArray, List.getElem_cons_succ, List.getElem_cons_zero, Act.put, List.setIfInBounds_toArray, List.set_cons_succ, List.set_cons_zero]
      go_wp2_with fail
      refine anyD_only (i := 8) rfl (by kernel_rfl) c03 ?_
      go_wp2_with fail
      refine anyD_only (i := 9) rfl (by kernel_rfl) c03 ?_
      go_wp2_with fail
      refine anyD_only (i := 10) rfl (by kernel_rfl) c03 ?_
      go_wp2_with fail
      refine anyD_end (by kernel_rfl) (by kernel_rfl) ?_
      go_wp2
      go_roundw
      case rel =>
        refine ⟨j + 1, by omega, by go_num, KEY.out.1.weaken (fun k e => ?_), HK.out.trans KEY.out.2 (fun _ _ e => e)⟩
        rcases e with e | e
        · exact e
        · exact Nat.le_trans (Nat.le_trans hB HK.out.size) e
      case measure => simp [intOf]; omega
    · obtain rfl : j = m := by omega
      go_wp2_with fail
      exact hexit _ _ _ _ _ _ _ _ _ _ _ _ _ _ hd hk
set_option maxRecDepth 100000 in
theorem New_any (w : World) (n : Int) :
    Calls Try.prog 52 #[.int .i64 n] w fun e w' => ∃ D, e = .returned (.pointer (some ⟨D, 0, none⟩)) ∧ DiskIs w' (fun k => w.heap.size ≤ k) D (DS.new n) ∧ Below w.heap.size w w' := by
  have hnew : DS.new n = DS.zeros (min (max n 0) 2048).toNat := rfl
  obtain ⟨m, hm⟩ : ∃ m : Nat, (m : Int) = min (max n 0) 2048 := ⟨(min (max n 0) 2048).toNat, by omega⟩
  have hm2 : m ≤ 2048 := by omega
  rw [hnew, ← hm, Int.toNat_natCast]
  have h0 : DiskIs (w.alloc (.cells (DCells (.slice none 0 0) (DS.zeros 0)) 118)) (fun k => w.heap.size ≤ k) w.heap.size (DS.zeros 0) := by
    refine ⟨[], .slice none 0 0, ⟨Blk.new w _ _, World.ownsRow_nil _ _ _ _, rfl, by simp, by simp, by simp [DS.zeros], by simp [DS.zeros], by simp [DS.zeros]⟩, ?_⟩
    rintro k (rfl | e | ⟨p, hp, _⟩)
    · exact Nat.le_refl _
    · cases e
    · cases hp
  have hb0 : Below w.heap.size w (w.alloc (.cells (DCells (.slice none 0 0) (DS.zeros 0)) 118)) := (Below.refl _ _).alloc (Nat.le_refl _) _
  obtain ⟨W0, hW0⟩ : ∃ W0, W0 = w.alloc (.cells (DCells (.slice none 0 0) (DS.zeros 0)) 118) := ⟨_, rfl⟩
  rw [← hW0] at h0 hb0
  have H0 := Lib.hid h0; have HB0 := Lib.hid hb0; have HMM := Lib.hid hm; have HW0 := Lib.hid hW0
  clear hm h0 hb0 hnew hW0
  go_enter Try.func52, Try.ntmps52
  by_cases hn0 : n < 0
  · obtain rfl : m = 0 := by have := HMM.out; omega
    go_wp2_with fail
    have e := HW0.out
    subst e
    refine newLoop _ _ _ _ _ _ _ _ _ _ _ _ _ _ _ _ _ _ _ _ w.heap.size w.heap.size 0 _ _ hm2 H0.out HB0.out.size ?_
    intro z0 z1 z2 z3 z4 z5 z6 z7 z8 z9 z10 z11 z12 w' hd hk
    have hb' : Below w.heap.size w w' := HB0.out.trans (hk.below (fun _ e => e) HB0.out.size)
    go_wp2
    go_ret
    exact ⟨_, rfl, hd, hb'⟩
  · by_cases hn1 : n ≤ 2048
    · obtain rfl : n = (m : Int) := by have := HMM.out; omega
      go_wp2_with fail
      have e := HW0.out
      subst e
      refine newLoop _ _ _ _ _ _ _ _ _ _ _ _ _ _ _ _ _ _ _ _ w.heap.size w.heap.size m _ _ hm2 H0.out HB0.out.size ?_
      intro z0 z1 z2 z3 z4 z5 z6 z7 z8 z9 z10 z11 z12 w' hd hk
      have hb' : Below w.heap.size w w' := HB0.out.trans (hk.below (fun _ e => e) HB0.out.size)
      go_wp2
      go_ret
      exact ⟨_, rfl, hd, hb'⟩
    · obtain rfl : m = 2048 := by have := HMM.out; omega
      go_wp2_with fail
      have e := HW0.out
      subst e
      refine newLoop _ _ _ _ _ _ _ _ _ _ _ _ _ _ _ _ _ _ _ _ w.heap.size w.heap.size 2048 _ _ hm2 H0.out HB0.out.size ?_
      intro z0 z1 z2 z3 z4 z5 z6 z7 z8 z9 z10 z11 z12 w' hd hk
      have hb' : Below w.heap.size w w' := HB0.out.trans (hk.below (fun _ e => e) HB0.out.size)
      go_wp2
      go_ret
      exact ⟨_, rfl, hd, hb'⟩
end Go.Proofs.Ytlabebapjhhkaaa
namespace Go.Proofs.Ytlabebapjhhkaaa
open Go.RowKit
theorem zero32_len : zero32.length = 32 := by unfold zero32; rfl
theorem DiskIs.back {w w' : World} {B D : Nat} {s : DS} (h : DiskIs w' (Grown (fun k => B ≤ k) w) D s) (hB : B ≤ w.heap.size) : DiskIs w' (fun k => B ≤ k) D s :=
  h.weaken (fun k e => by rcases e with e | e; exact e; exact Nat.le_trans hB e)
theorem DiskIs.alloc {w : World} {F : Nat → Prop} {D : Nat} {s : DS} (h : DiskIs w F D s) (o : Obj) : DiskIs (w.alloc o) F D s := h.below ((Below.refl _ _).alloc (Nat.le_refl _) o)
end Go.Proofs.Ytlabebapjhhkaaa
namespace Go.Proofs.Ytlabebapjhhkaaa
open Go.RowKit
theorem bits_xor8 (y x : UInt8) : bits .xor .u8 (y.toNat : Int) (x.toNat : Int) = (((y ^^^ x).toNat : Nat) : Int) := by
  rw [u8_xor_nat _ _ y.toNat_lt x.toNat_lt, UInt8.toNat_xor]
def turned (l : List UInt8) (j : Nat) (x : UInt8) : List UInt8 := l.set j (l.getD j 0 ^^^ x)
def DS.turn (s : DS) (n at_ : Int) (x : UInt8) : Bool × DS :=
  if s.has n = true ∧ 0 ≤ at_ ∧ at_ < 32 then (true, { s with bl := s.bl.set n.toNat (turned (s.bl.getD n.toNat []) at_.toNat x) }) else (false, s)
theorem Own.set8 {w : World} {B g n c : Nat} {l : List UInt8} (h : Own w B (.slice (some ⟨g, 0, none⟩) n c) l) (j : Nat) (y : UInt8) : Own (w.setCell ⟨g, j, none⟩ (.int .u8 (y.toNat : Int))) B (.slice (some ⟨g, 0, none⟩) n c) (l.set j y) := by
  have h' : w.ownsRow B 5 1 (.slice (some ⟨g, 0, none⟩) n c) l.length (l.map B8) := h
  obtain ⟨_, _, e⟩ := h.shape
  injection e with _ e _
  subst e
  have h2 := (World.ownsRow.stored h' j (B8 y)).1
  unfold Own
  rw [List.length_set, List.map_set]
  exact h2
theorem DiskAt.ne_row {w : World} {D : Nat} {gs : List (Nat × Nat)} {r : Value} {s : DS} (h : DiskAt w D gs r s) (p : Nat × Nat) (hp : p ∈ gs) : ∀ k, r.ownBlock = some k → p.1 ≠ k := by
  intro R hk e
  obtain ⟨j, hj, rfl⟩ := List.getElem_of_mem hp
  have h1 : gs[j]? = some gs[j] := List.getElem?_eq_getElem hj
  have h2 : s.bl[j]? = some (s.bl[j]'(by rw [← h.len]; exact hj)) := List.getElem?_eq_getElem _
  have h3 := h.each j _ _ h1 h2
  obtain ⟨g, c0, cur, e1, _, hB, _⟩ := h3.2.blk (by omega)
  injection e1 with e1 _ _
  simp only [Option.some.injEq, Addr.mk.injEq, and_true] at e1
  rw [← e1, e] at hB
  rcases h.row.2 with ⟨rfl, _⟩ | ⟨R', c', cur', rfl, _, hR', _⟩
  · cases hk
  · simp only [Value.ownBlock, Option.some.injEq] at hk
    subst hk
    exact Blk.ne_ hB hR' (by decide) rfl
theorem DiskAt.rot {w : World} {D i g d j : Nat} {gs : List (Nat × Nat)} {r : Value} {s : DS} {l : List UInt8} (h : DiskAt w D gs r s) (hg : gs[i]? = some (g, d)) (hl : s.bl[i]? = some l) (y : UInt8) :
    DiskAt (w.setCell ⟨g, j, none⟩ (.int .u8 (y.toNat : Int))) D gs r { s with bl := s.bl.set i (l.set j y) } := by
  have hk : Keeps (fun k => k = g) w (w.setCell ⟨g, j, none⟩ (.int .u8 (y.toNat : Int))) := (Keeps.refl (fun k => k = g) w).setCell (p := ⟨g, j, none⟩) rfl _
  have hm := List.mem_of_getElem? hg
  refine ⟨h.cells.keeps hk (fun e => h.apart g (Or.inr ⟨_, hm, rfl⟩) e.symm), row_keeps h.row hk (fun k e e2 => h.ne_row _ hm k e e2.symm), by simpa using h.len, h.nodup, ?_, by simpa using h.small, h.fuseLe, h.fuseGe⟩
  intro a p m hp hm2
  have hm' : (s.bl.set i (l.set j y))[a]? = some m := hm2
  rw [List.getElem?_set] at hm'
  by_cases ha : i = a
  · subst ha
    have hi : i < s.bl.length := (List.getElem?_eq_some_iff.1 hl).1
    rw [if_pos rfl, if_pos hi] at hm'
    injection hm' with hm'
    rw [hg] at hp
    injection hp with hp
    subst hp hm'
    exact ⟨by rw [List.length_set]; exact (h.each i _ _ hg hl).1, (h.each i _ _ hg hl).2.set8 j y⟩
  · rw [if_neg ha] at hm'
    exact ⟨(h.each a p m hp hm').1, (h.each a p m hp hm').2.keeps hk (fun k e e2 => by
      simp only [slotV, Value.ownBlock, Option.some.injEq] at e
      exact ha (h.nodup i a _ _ hg hp (by simp only; omega)))⟩
end Go.Proofs.Ytlabebapjhhkaaa
