/- What a disk's Turn does: a byte rots. No conditions. -/
import Derived.Test.YtpdihggdopdolaaDisk2
import Derived.Laws.BitsAllLaws
namespace Go.Proofs.Ytpdihggdopdolaa
open Go.RowKit
theorem bits_xor8 (y x : UInt8) : bits .xor .u8 (y.toNat : Int) (x.toNat : Int) = (((y ^^^ x).toNat : Nat) : Int) := by
  rw [u8_xor_nat _ _ y.toNat_lt x.toNat_lt, UInt8.toNat_xor]
def turned (l : List UInt8) (j : Nat) (x : UInt8) : List UInt8 := l.set j (l.getD j 0 ^^^ x)
def DS.turn (s : DS) (n at_ : Int) (x : UInt8) : Bool × DS :=
  if s.has n = true ∧ 0 ≤ at_ ∧ at_ < 32 then (true, { s with bl := s.bl.set n.toNat (turned (s.bl.getD n.toNat []) at_.toNat x) }) else (false, s)
theorem Own.set8 {w : World} {B g n c : Nat} {l : List UInt8} (h : Own w B (.slice (some ⟨g, 0, none⟩) n c) l) (j : Nat) (y : UInt8) : Own (w.setCell ⟨g, j, none⟩ (.int .u8 (y.toNat : Int))) B (.slice (some ⟨g, 0, none⟩) n c) (l.set j y) := by
  have h' : w.ownsRow B 5 1 (.slice (some ⟨g, 0, none⟩) n c) l.length (l.map B8) := h
  obtain ⟨_, _, e⟩ := h.shape
  injection e with _ e _
  subst e
  have h2 := (World.ownsRow.stored h' j (B8 y)).1
  unfold Own
  rw [List.length_set, List.map_set]
  exact h2
theorem DiskAt.ne_row {w : World} {D : Nat} {gs : List (Nat × Nat)} {r : Value} {s : DS} (h : DiskAt w D gs r s) (p : Nat × Nat) (hp : p ∈ gs) : ∀ k, r.ownBlock = some k → p.1 ≠ k := by
  intro R hk e
  obtain ⟨j, hj, rfl⟩ := List.getElem_of_mem hp
  have h1 : gs[j]? = some gs[j] := List.getElem?_eq_getElem hj
  have h2 : s.bl[j]? = some (s.bl[j]'(by rw [← h.len]; exact hj)) := List.getElem?_eq_getElem _
  have h3 := h.each j _ _ h1 h2
  obtain ⟨g, c0, cur, e1, _, hB, _⟩ := h3.2.blk (by omega)
  injection e1 with e1 _ _
  simp only [Option.some.injEq, Addr.mk.injEq, and_true] at e1
  rw [← e1, e] at hB
  rcases h.row.2 with ⟨rfl, _⟩ | ⟨R', c', cur', rfl, _, hR', _⟩
  · cases hk
  · simp only [Value.ownBlock, Option.some.injEq] at hk
    subst hk
    exact Blk.ne_ hB hR' (by decide) rfl
theorem DiskAt.rot {w : World} {D i g d j : Nat} {gs : List (Nat × Nat)} {r : Value} {s : DS} {l : List UInt8} (h : DiskAt w D gs r s) (hg : gs[i]? = some (g, d)) (hl : s.bl[i]? = some l) (y : UInt8) :
    DiskAt (w.setCell ⟨g, j, none⟩ (.int .u8 (y.toNat : Int))) D gs r { s with bl := s.bl.set i (l.set j y) } := by
  have hk : Keeps (fun k => k = g) w (w.setCell ⟨g, j, none⟩ (.int .u8 (y.toNat : Int))) := (Keeps.refl (fun k => k = g) w).setCell (p := ⟨g, j, none⟩) rfl _
  have hm := List.mem_of_getElem? hg
  refine ⟨h.cells.keeps hk (fun e => h.apart g (Or.inr ⟨_, hm, rfl⟩) e.symm), row_keeps h.row hk (fun k e e2 => h.ne_row _ hm k e e2.symm), by simpa using h.len, h.nodup, ?_, by simpa using h.small, h.fuseLe, h.fuseGe⟩
  intro a p m hp hm2
  have hm' : (s.bl.set i (l.set j y))[a]? = some m := hm2
  rw [List.getElem?_set] at hm'
  by_cases ha : i = a
  · subst ha
    have hi : i < s.bl.length := (List.getElem?_eq_some_iff.1 hl).1
    rw [if_pos rfl, if_pos hi] at hm'
    injection hm' with hm'
    rw [hg] at hp
    injection hp with hp
    subst hp hm'
    exact ⟨by rw [List.length_set]; exact (h.each i _ _ hg hl).1, (h.each i _ _ hg hl).2.set8 j y⟩
  · rw [if_neg ha] at hm'
    exact ⟨(h.each a p m hp hm').1, (h.each a p m hp hm').2.keeps hk (fun k e e2 => by
      simp only [slotV, Value.ownBlock, Option.some.injEq] at e
      exact ha (h.nodup i a _ _ hg hp (by simp only; omega)))⟩
set_option maxRecDepth 100000 in
theorem Turn_any (w : World) (F : Nat → Prop) (D : Nat) (s : DS) (n at_ : Int) (x : UInt8) (h : DiskIs w F D s) :
    Calls Try.prog 22 #[.pointer (some ⟨D, 0, none⟩), .int .i64 n, .int .i64 at_, .int .u8 (x.toNat : Int)] w fun e w' => e = .returned (.bool (s.turn n at_ x).1) ∧ DiskIs w' F D (s.turn n at_ x).2 ∧ Keeps F w w' := by
  obtain ⟨gs, r, h1, h2⟩ := h
  by_cases hhas : s.has n = true
  · by_cases hneg : at_ < 0
    · have ht : s.turn n at_ x = (false, s) := by unfold DS.turn; rw [if_neg (by omega)]
      rw [ht]
      have H := Lib.hid h1; have HH := Lib.hid hhas
      have H2 := Lib.hid h2
      clear h1 hhas ht h2
      go_enter Try.func22, Try.ntmps22
      go_wp2_with (go_at_call 36; refine (there_any w n H.out).mono ?_; rintro e w1 ⟨rfl, rfl⟩; rw [HH.out])
      go_ret
      exact ⟨rfl, ⟨gs, r, H.out, H2.out⟩, Keeps.refl _ _⟩
    · by_cases hbig : at_ < 32
      · obtain ⟨j, rfl⟩ : ∃ j : Nat, at_ = j := ⟨at_.toNat, by omega⟩
        have hj : j < 32 := by omega
        have hn : 0 ≤ n ∧ n < s.bl.length := of_decide_eq_true hhas
        obtain ⟨i, rfl⟩ : ∃ i : Nat, n = i := ⟨n.toNat, by omega⟩
        have hi : i < s.bl.length := by omega
        obtain ⟨R, c, g, d, l, rfl, hg, hl, hlen, hown, hc, hf⟩ := h1.slot i hi
        have hgl : s.bl.getD (i : Int).toNat [] = l := by rw [Int.toNat_natCast, List.getD_eq_getElem?_getD, hl]; rfl
        have ht : s.turn i j x = (true, { s with bl := s.bl.set i (l.set j (l.getD j 0 ^^^ x)) }) := by
          unfold DS.turn turned
          rw [if_pos ⟨hhas, by omega, by omega⟩, hgl, Int.toNat_natCast, Int.toNat_natCast]
        rw [ht]
        have key := h1.rot (j := j) hg hl (l.getD j 0 ^^^ x)
        obtain ⟨g', d', cur, e1, _, hB, _, hcell⟩ := hown.blk (by omega)
        simp only [slotV, Value.slice.injEq, Option.some.injEq, Addr.mk.injEq, and_true] at e1
        obtain ⟨rfl, h32l, rfl⟩ := e1
        have hcj : w.cell? ⟨g, j, none⟩ = some (.int .u8 ((l.getD j 0).toNat : Int)) := (hB.cell j).trans (hcell j (by omega))
        have hfj : w.frozen? ⟨g, j, none⟩ = false := hB.frozen j
        have hFg : F g := h2 g (Or.inr (Or.inr ⟨_, List.mem_of_getElem? hg, rfl⟩))
        have c0 := h1.c0
        have KEY := Lib.hid key; have H := Lib.hid h1; have HH := Lib.hid hhas; have H2 := Lib.hid h2
        have hxor := bits_xor8 (l.getD j 0) x
        generalize l.getD j 0 = y at hcj hxor KEY
        generalize (y.toNat : Int) = vy at hcj hxor
        generalize (x.toNat : Int) = vx at hxor ⊢
        have HX := Lib.hid hxor
        have h0 : ((j : Int) < 0) = False := eq_false hneg
        have h32 : ((32 : Int) ≤ (j : Int)) = False := eq_false (by omega)
        clear key h1 hhas hn hgl ht hown hcell hB hl hg hxor hneg hbig h32l hlen
        go_enter Try.func22, Try.ntmps22
        go_wp2_with (go_at_call 36; refine (there_any w i H.out).mono ?_; rintro e w1 ⟨rfl, rfl⟩; rw [HH.out])
        go_ret
        rw [HX.out]
        exact ⟨rfl, ⟨gs, _, KEY.out, H2.out⟩, (Keeps.refl F _).setCell (p := ⟨g, j, none⟩) hFg _⟩
      · have ht : s.turn n at_ x = (false, s) := by unfold DS.turn; rw [if_neg (by omega)]
        rw [ht]
        have h0 : (at_ < 0) = False := eq_false hneg
        have h32 : at_ ≥ 32 := by omega
        have H := Lib.hid h1; have HH := Lib.hid hhas
        have H2 := Lib.hid h2
        clear h1 hhas ht h2 hneg hbig
        go_enter Try.func22, Try.ntmps22
        go_wp2_with (go_at_call 36; refine (there_any w n H.out).mono ?_; rintro e w1 ⟨rfl, rfl⟩; rw [HH.out])
        go_ret
        exact ⟨rfl, ⟨gs, r, H.out, H2.out⟩, Keeps.refl _ _⟩
  · have ht : s.turn n at_ x = (false, s) := by unfold DS.turn; rw [if_neg (fun e => hhas e.1)]
    rw [ht]
    have hhas' : s.has n = false := by simpa using hhas
    have H := Lib.hid h1; have HH := Lib.hid hhas'
    have H2 := Lib.hid h2
    clear h1 hhas hhas' ht h2
    go_enter Try.func22, Try.ntmps22
    go_wp2_with (go_at_call 36; refine (there_any w n H.out).mono ?_; rintro e w1 ⟨rfl, rfl⟩; rw [HH.out])
    go_ret
    exact ⟨rfl, ⟨gs, r, H.out, H2.out⟩, Keeps.refl _ _⟩
end Go.Proofs.Ytpdihggdopdolaa
