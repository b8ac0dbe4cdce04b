/- The walks of the net: New, Send, Len. Conditions: sizes. -/
import Derived.Test.YtoekmgpnmhknoaaNet1
import Derived.Test.YtoekmgpnmhknoaaWire6
namespace Go.Proofs.Ytoekmgpnmhknoaa
open Go.RowKit
structure ItV where
  A : Option Addr
  c : Nat
  l : List UInt8
def ItV.val (g : ItV) : Value := .slice g.A g.l.length g.c
structure NetAt (w : World) (D : Nat) (v : Value) (gs : List ItV) : Prop where
  cells : Blk w D 54 #[v]
  own : w.ownsRow 0 29 1 v gs.length (gs.map ItV.val)
  apart : ∀ k, v.ownBlock = some k → k ≠ D
  items : ∀ g ∈ gs, Rd w w.heap.size g.A g.l.length g.l
/-- The items' blocks are others than the net's own two, and lie in F. -/
def Apart (D : Nat) (v : Value) (F : Nat → Prop) (g : ItV) : Prop := ∀ ad, g.A = some ad → 0 < g.l.length → F ad.block ∧ ad.block ≠ D ∧ v.ownBlock ≠ some ad.block
def NetIs (w : World) (F : Nat → Prop) (D : Nat) (its : List (List UInt8)) : Prop := ∃ v gs, NetAt w D v gs ∧ gs.map (·.l) = its ∧ F D ∧ (∀ k, v.ownBlock = some k → F k) ∧ ∀ g ∈ gs, Apart D v F g
section
variable {w w' : World} {F G : Nat → Prop} {D : Nat} {v : Value} {gs : List ItV} {its : List (List UInt8)}
theorem NetAt.keeps (h : NetAt w D v gs) (hk : Keeps G w w') (hD : ¬ G D) (hv : ∀ k, v.ownBlock = some k → ¬ G k) (hi : ∀ g ∈ gs, ∀ ad, g.A = some ad → 0 < g.l.length → ¬ G ad.block) : NetAt w' D v gs :=
  ⟨h.cells.keeps hk hD, row_keeps h.own hk hv, h.apart, fun g hg => (reads_off (h.items g hg) hk (Nat.le_refl _) (hi g hg)).more hk.size⟩
theorem NetIs.keeps (h : NetIs w F D its) (hk : Keeps G w w') (hn : ∀ k, F k → ¬ G k) : NetIs w' F D its := by
  obtain ⟨v, gs, h1, h2, h3, h4, h5⟩ := h
  exact ⟨v, gs, h1.keeps hk (hn D h3) (fun k e => hn _ (h4 k e)) (fun g hg ad e h0 => hn _ (h5 g hg ad e h0).1), h2, h3, h4, h5⟩
theorem NetIs.below (h : NetIs w F D its) (hb : Below w.heap.size w w') : NetIs w' F D its := by
  obtain ⟨v, gs, h1, h2, h3, h4, h5⟩ := h
  exact ⟨v, gs, h1.keeps (Keeps.of_below (F := fun _ => False) hb) id (fun _ _ => id) (fun _ _ _ _ _ => id), h2, h3, h4, h5⟩
theorem NetIs.weaken (h : NetIs w F D its) (hn : ∀ k, F k → G k) : NetIs w G D its := by
  obtain ⟨v, gs, h1, h2, h3, h4, h5⟩ := h
  exact ⟨v, gs, h1, h2, hn _ h3, fun k e => hn _ (h4 k e), fun g hg ad e h0 => ⟨hn _ (h5 g hg ad e h0).1, (h5 g hg ad e h0).2⟩⟩
theorem NetIs.tight (h : NetIs w F D its) : NetIs w (fun k => F k ∧ k < w.heap.size) D its := by
  obtain ⟨v, gs, h1, h2, h3, h4, h5⟩ := h
  refine ⟨v, gs, h1, h2, ⟨h3, h1.cells.lt⟩, fun k e => ⟨h4 k e, (h1.own.lt k e).2⟩, fun g hg ad e h0 => ⟨⟨(h5 g hg ad e h0).1, ?_⟩, (h5 g hg ad e h0).2⟩⟩
  obtain ⟨ad', e', hb, _⟩ := (h1.items g hg).2 h0
  rw [e] at e'; injection e' with e'; rw [e']; exact hb
theorem NetAt.c0 (h : NetAt w D v gs) : w.cell? ⟨D, 0, none⟩ = some v := (h.cells.cell 0).trans rfl
end
theorem NNew_any (w : World) : Calls Try.prog 8 #[] w fun e w' => ∃ D, e = .returned (.pointer (some ⟨D, 0, none⟩)) ∧ NetIs w' (fun k => k = D) D [] ∧ w.heap.size ≤ D ∧ Below w.heap.size w w' := by
  go_enter Try.func8, Try.ntmps8
  go_wp2
  go_ret
  refine ⟨w.heap.size, rfl, ⟨.slice none 0 0, [], ⟨Blk.new w _ _, World.ownsRow_nil _ _ _ _, (fun k e => by cases e), (fun g hg => by cases hg)⟩, rfl, rfl, (fun k e => by cases e), (fun g hg => by cases hg)⟩, Nat.le_refl _, (Below.refl _ _).alloc (Nat.le_refl _) _⟩
theorem row_shape {w : World} {B size n : Nat} {e : TypeId} {v : Value} {xs : List Value} (h : w.ownsRow B e size v n xs) : ∃ A c, v = .slice A n c := by
  rcases h.2 with ⟨rfl, e⟩ | ⟨g, cap, cur, rfl, _⟩
  · rw [e]; exact ⟨none, 0, rfl⟩
  · exact ⟨_, cap, rfl⟩
set_option maxRecDepth 100000 in
theorem put_any (w : World) (D : Nat) (v : Value) (gs : List ItV) (x : ItV) (h : NetAt w D v gs) (hr : Rd w w.heap.size x.A x.l.length x.l) (hit : ∀ g ∈ x :: gs, Apart D v (fun _ => True) g) (hlen : gs.length ≤ 67108864) :
    Calls Try.prog 22 #[.pointer (some ⟨D, 0, none⟩), .slice x.A x.l.length x.c] w fun e w' => e = .returned (.tuple #[]) ∧ ∃ v', NetAt w' D v' (gs ++ [x]) ∧ (v'.ownBlock = v.ownBlock ∨ ∃ k, v'.ownBlock = some k ∧ w.heap.size ≤ k) ∧ Keeps (fun k => k = D ∨ v.ownBlock = some k) w w' := by
  obtain ⟨A0, c0, rfl⟩ := row_shape h.own
  have p0 := h.c0
  have hbq : Below w.heap.size w (w.alloc (.cells #[.slice x.A x.l.length x.c] 29)) := (Below.refl _ _).alloc (Nat.le_refl _) _
  have HOWN := Lib.hid (World.ownsRow.alloc h.own (.cells #[.slice x.A x.l.length x.c] 29)); have HQ := Lib.hid (Blk.new w 29 [Value.slice x.A x.l.length x.c].toArray)
  obtain ⟨i0, hi0, hz0, hz1, hz2⟩ := info_parts sl_info
  have HI0 := Lib.hid (And.intro hi0 (And.intro hz0 (And.intro hz1 hz2)))
  have HH := Lib.hid h; have HIT := Lib.hid hit; have HR := Lib.hid hr
  have hDl := h.cells.lt
  clear hi0 hz0 hz1 hz2 hbq h hit hr
  go_enter Try.func22, Try.ntmps22
  go_wp2_with (at_builtin; refine wpList_append_any _ rfl (.tmp 8) (.tmp 10) _ rfl 0 29 i0 _ 1 24 Try.underlying50 HI0.out.1 HI0.out.2.1 HI0.out.2.2.1 HI0.out.2.2.2 rfl (by omega) _ gs.length _ rfl HOWN.out _ (some ⟨w.heap.size, 0, none⟩) 1 1 [.slice x.A x.l.length x.c] rfl (reads_row HQ.out rfl) (by intro u hu; simp only [List.mem_singleton] at hu; subst hu; rfl) (by simp only [maxLen]; omega) (by omega) (Nat.zero_le _) ?_; intro v' w' hown' hg' hat'; obtain ⟨A1, c1, rfl⟩ := row_shape hown'; have hko := ((Keeps.refl (fun k => (Value.slice A0 gs.length c0).ownBlock = some k) w).alloc (.cells #[.slice x.A x.l.length x.c] 29)).grown hg' (fun kk e => Or.inr e); have hDk := HH.out.cells.keeps hko (fun e => HH.out.apart D e rfl); have q0' : w'.cell? ⟨D, 0, none⟩ = some (.slice A0 gs.length c0) := (hDk.cell 0).trans rfl; have f0' : w'.frozen? ⟨D, 0, none⟩ = false := hDk.frozen 0)
  go_end0
  have hkW : Keeps (fun k => k = D ∨ (Value.slice A0 gs.length c0).ownBlock = some k) w (w'.setCell ⟨D, 0, none⟩ (.slice A1 (gs.length + 1) c1)) := (hko.weaken (F' := fun k => k = D ∨ (Value.slice A0 gs.length c0).ownBlock = some k) (fun _ _ e => Or.inr e)).setCell (p := ⟨D, 0, none⟩) (Or.inl rfl) _
  have hat2 : (Value.slice A1 (gs.length + 1) c1).ownBlock = (Value.slice A0 gs.length c0).ownBlock ∨ ∃ k, (Value.slice A1 (gs.length + 1) c1).ownBlock = some k ∧ w.heap.size ≤ k := hat'.elim Or.inl (fun e => Or.inr ⟨_, e, by simp⟩)
  have hap : ∀ k, (Value.slice A1 (gs.length + 1) c1).ownBlock = some k → k ≠ D := fun k e => by
    rcases hat2 with h1 | ⟨m, h1, h2⟩
    · exact HH.out.apart k (h1 ▸ e)
    · rw [h1] at e; injection e with e; omega
  refine ⟨rfl, .slice A1 (gs.length + 1) c1, ⟨hDk.set_ 0 _, ?_, hap, fun g hg => ?_⟩, hat2, hkW⟩
  · have h1 := row_keeps hown' ((Keeps.refl (fun k => k = D) w').setCell (p := ⟨D, 0, none⟩) rfl (.slice A1 (gs.length + 1) c1)) (fun kk e e2 => hap kk e e2)
    rw [List.length_append, List.map_append]
    exact h1
  · have hg2 : g ∈ x :: gs := by
      rcases List.mem_append.1 hg with h1 | h1
      · exact List.mem_cons_of_mem _ h1
      · rw [List.mem_singleton.1 h1]; exact List.mem_cons_self
    have hrd : Rd w w.heap.size g.A g.l.length g.l := by
      rcases List.mem_append.1 hg with h1 | h1
      · exact HH.out.items g h1
      · rw [List.mem_singleton.1 h1]; exact HR.out
    exact Rd.more (reads_off hrd hkW (Nat.le_refl _) (fun ad e h0 e2 => by
      have h1 := HIT.out g hg2 ad e h0
      rcases e2 with e2 | e2
      · exact h1.2.1 e2
      · exact h1.2.2 e2)) hkW.size
def sendE (its : List (List UInt8)) (s : WS) : Int := if s.bad then 1 else if 4096 ≤ its.length then 8 else 0
def sendN (its : List (List UInt8)) (s : WS) : List (List UInt8) := if s.bad then its else if 4096 ≤ its.length then its else its ++ [s.out]
theorem Len_any (w : World) (F : Nat → Prop) (D : Nat) (its : List (List UInt8)) (h : NetIs w F D its) :
    Calls Try.prog 15 #[.pointer (some ⟨D, 0, none⟩)] w fun e w' => e = .returned (.int .i64 (its.length : Int)) ∧ w' = w := by
  obtain ⟨v, gs, h1, h2, h3, h4, h5⟩ := h
  obtain ⟨A0, c0, rfl⟩ := row_shape h1.own
  have p0 := h1.c0
  have hl : its.length = gs.length := by rw [← h2, List.length_map]
  rw [hl]
  clear h1 h2 h3 h4 h5 hl
  go_enter Try.func15, Try.ntmps15
  go_wp2
  go_ret
  exact ⟨rfl, rfl⟩
theorem there_any (w : World) (F : Nat → Prop) (D : Nat) (its : List (List UInt8)) (k : Int) (h : NetIs w F D its) :
    Calls Try.prog 23 #[.pointer (some ⟨D, 0, none⟩), .int .i64 k] w fun e w' => e = .returned (.bool (decide (0 ≤ k ∧ k < its.length))) ∧ w' = w := by
  obtain ⟨v, gs, h1, h2, h3, h4, h5⟩ := h
  obtain ⟨A0, c0, rfl⟩ := row_shape h1.own
  have p0 := h1.c0
  have hl : its.length = gs.length := by rw [← h2, List.length_map]
  rw [hl]
  clear h1 h2 h3 h4 h5 hl
  by_cases hk : 0 ≤ k
  · by_cases hk2 : k < gs.length
    · have hd : decide (0 ≤ k ∧ k < (gs.length : Int)) = true := decide_eq_true ⟨hk, hk2⟩
      rw [hd]; clear hd
      go_enter Try.func23, Try.ntmps23
      go_wp2
      go_ret
      exact ⟨rfl, rfl⟩
    · have hd : decide (0 ≤ k ∧ k < (gs.length : Int)) = false := decide_eq_false (fun e => hk2 e.2)
      rw [hd]; clear hd
      go_enter Try.func23, Try.ntmps23
      go_wp2
      go_ret
      exact ⟨rfl, rfl⟩
  · have hd : decide (0 ≤ k ∧ k < (gs.length : Int)) = false := decide_eq_false (fun e => hk e.1)
    rw [hd]; clear hd
    go_enter Try.func23, Try.ntmps23
    go_wp2
    go_ret
    exact ⟨rfl, rfl⟩
end Go.Proofs.Ytoekmgpnmhknoaa
