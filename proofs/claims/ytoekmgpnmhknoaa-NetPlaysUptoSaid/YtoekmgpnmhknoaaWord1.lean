/- The walks of word's Writer. Conditions: sizes. -/
import Derived.Test.YtoekmgpnmhknoaaKeep
namespace Go.Proofs.Ytoekmgpnmhknoaa
open Go.RowKit
/-- A writer: what was put, and whether something could not be. -/
structure WS where
  out : List UInt8
  bad : Bool
structure WrAt (w : World) (D : Nat) (v : Value) (s : WS) : Prop where
  cells : Blk w D 83 #[v, .bool s.bad]
  own : Own w 0 v s.out
  apart : ∀ k, v.ownBlock = some k → k ≠ D
def WrIs (w : World) (F : Nat → Prop) (D : Nat) (s : WS) : Prop := ∃ v, WrAt w D v s ∧ F D ∧ ∀ k, v.ownBlock = some k → F k
section
variable {w w' : World} {D : Nat} {v : Value} {s : WS} {F G : Nat → Prop}
theorem WrAt.keeps (h : WrAt w D v s) (hk : Keeps G w w') (hD : ¬ G D) (hv : ∀ k, v.ownBlock = some k → ¬ G k) : WrAt w' D v s := ⟨h.cells.keeps hk hD, h.own.keeps hk hv, h.apart⟩
theorem WrIs.keeps (h : WrIs w F D s) (hk : Keeps G w w') (hn : ∀ k, F k → ¬ G k) : WrIs w' F D s := by
  obtain ⟨v, h1, h2, h3⟩ := h
  exact ⟨v, h1.keeps hk (hn D h2) (fun k e => hn k (h3 k e)), h2, h3⟩
theorem WrIs.below (h : WrIs w F D s) (hb : Below w.heap.size w w') : WrIs w' F D s := by
  obtain ⟨v, h1, h2, h3⟩ := h
  exact ⟨v, h1.keeps (Keeps.of_below (F := fun _ => False) hb) id (fun _ _ => id), h2, h3⟩
theorem WrIs.weaken (h : WrIs w F D s) (hn : ∀ k, F k → G k) : WrIs w G D s := by
  obtain ⟨v, h1, h2, h3⟩ := h
  exact ⟨v, h1, hn D h2, fun k e => hn k (h3 k e)⟩
theorem WrAt.c0 (h : WrAt w D v s) : w.cell? ⟨D, 0, none⟩ = some v := (h.cells.cell 0).trans rfl
theorem WrAt.c1 (h : WrAt w D v s) : w.cell? ⟨D, 1, none⟩ = some (.bool s.bad) := (h.cells.cell 1).trans rfl
theorem WrAt.fz (h : WrAt w D v s) (i : Nat) : w.frozen? ⟨D, i, none⟩ = false := h.cells.frozen i
theorem WrAt.set_bad (h : WrAt w D v s) : WrAt (w.setCell ⟨D, 1, none⟩ (.bool true)) D v { s with bad := true } := by
  have hk : Keeps (fun k => k = D) w (w.setCell ⟨D, 1, none⟩ (.bool true)) := (Keeps.refl (fun k => k = D) w).setCell (p := ⟨D, 1, none⟩) rfl _
  exact ⟨h.cells.set_ 1 (.bool true), h.own.keeps hk h.apart, h.apart⟩
/-- The row is another one: what was put, and more. -/
theorem WrAt.grow (h : WrAt w D v s) {wA : World} {v' : Value} {l : List UInt8} {W1 : World} (hb : Below w.heap.size w W1) (hown : Own wA 0 v' (s.out ++ l)) (hg : W1.grownBy wA v.ownBlock) (hat : v'.ownBlock = v.ownBlock ∨ v'.ownBlock = some W1.heap.size) :
    WrAt (wA.setCell ⟨D, 0, none⟩ v') D v' { s with out := s.out ++ l } := by
  have hDl := h.cells.lt
  have hap : ∀ k, v'.ownBlock = some k → k ≠ D := by
    intro k e
    rcases hat with e2 | e2
    · exact h.apart k (e2.symm.trans e)
    · rw [e2] at e; injection e with e; have := hb.size; omega
  have hk : Keeps (fun k => k = D) wA (wA.setCell ⟨D, 0, none⟩ v') := (Keeps.refl (fun k => k = D) wA).setCell (p := ⟨D, 0, none⟩) rfl _
  have hc1 := (h.cells.below hb hDl)
  have hc2 : Blk wA D 83 #[v, .bool s.bad] := hc1.grown hg (fun e => h.apart D e.symm rfl)
  exact ⟨hc2.set_ 0 v', hown.keeps hk hap, hap⟩
theorem WrAt.done (h : WrAt w D v s) (h2 : F D) (h3 : ∀ k, v.ownBlock = some k → F k) {wA W1 : World} {v' : Value} {l : List UInt8} (hb : Below w.heap.size w W1) (hown : Own wA 0 v' (s.out ++ l)) (hg : W1.grownBy wA v.ownBlock) (hat : v'.ownBlock = v.ownBlock ∨ v'.ownBlock = some W1.heap.size) :
    WrIs (wA.setCell ⟨D, 0, none⟩ v') (Grown F w) D { s with out := s.out ++ l } ∧ Keeps F w (wA.setCell ⟨D, 0, none⟩ v') := by
  refine ⟨⟨v', h.grow hb hown hg hat, Or.inl h2, fun k e => ?_⟩, ((Keeps.of_below hb).grown hg (fun k e => Or.inr (h3 k e))).setCell (p := ⟨D, 0, none⟩) h2 _⟩
  rcases hat with e2 | e2
  · exact Or.inl (h3 k (e2.symm.trans e))
  · rw [e2] at e; injection e with e; exact Or.inr (by have := hb.size; omega)
end
theorem WNew_any (w : World) : Calls Try.prog 28 #[] w fun e w' => ∃ D, e = .returned (.pointer (some ⟨D, 0, none⟩)) ∧ WrIs w' (fun k => w.heap.size ≤ k) D { out := [], bad := false } ∧ Below w.heap.size w w' := by
  go_enter Try.func28, Try.ntmps28
  go_wp2
  go_ret
  refine ⟨w.heap.size, rfl, ⟨.slice none 0 0, ⟨Blk.new w _ _, Own.nil_ _ _, fun k e => by cases e⟩, Nat.le_refl _, fun k e => by cases e⟩, (Below.refl _ _).alloc (Nat.le_refl _) _⟩
/-- The two bytes of a number, and the four. -/
def b2 (n : Nat) : List UInt8 := [UInt8.ofNat (n / 256), UInt8.ofNat n]
def b4 (n : Nat) : List UInt8 := [UInt8.ofNat (n / 16777216), UInt8.ofNat (n / 65536), UInt8.ofNat (n / 256), UInt8.ofNat n]
theorem b4_cells (m : Nat) (hm : m ≤ 2147483647) : #[Value.int .u8 ((m : Int) / 16777216), .int .u8 ((m : Int) / 65536 % 256), .int .u8 ((m : Int) / 256 % 256), .int .u8 ((m : Int) % 256)] = ((b4 m).map B8).toArray := by
  simp only [b4, List.map_cons, List.map_nil, B8, UInt8.toNat_ofNat']
  congr <;> omega
theorem b2_cells (m : Nat) (hm : m ≤ 65535) : #[Value.int .u8 ((m : Int) / 256), .int .u8 ((m : Int) % 256)] = ((b2 m).map B8).toArray := by
  simp only [b2, List.map_cons, List.map_nil, B8, UInt8.toNat_ofNat']
  congr <;> omega
def WS.int (s : WS) (n : Int) : WS := if -2 ≤ n ∧ n ≤ 2147483645 then { s with out := s.out ++ b4 (n + 2).toNat } else { s with bad := true }
def WS.bytes (s : WS) (l : List UInt8) : WS := if l.length ≤ 65535 then { s with out := s.out ++ (b2 l.length ++ l) } else { s with bad := true }
theorem WInt_any (w : World) (F : Nat → Prop) (D : Nat) (s : WS) (n : Int) (h : WrIs w F D s) (hs : s.out.length + 4 ≤ 140737488355328) :
    Calls Try.prog 29 #[.pointer (some ⟨D, 0, none⟩), .int .i64 n] w fun e w' => e = .returned (.tuple #[]) ∧ WrIs w' (Grown F w) D (s.int n) ∧ Keeps F w w' := by
  obtain ⟨v, h1, h2, h3⟩ := h
  by_cases hin : -2 ≤ n ∧ n ≤ 2147483645
  · unfold WS.int
    rw [if_pos hin]
    obtain ⟨hlo, hhi⟩ := hin
    obtain ⟨m, rfl⟩ : ∃ m : Nat, n = (m : Int) - 2 := ⟨(n + 2).toNat, by omega⟩
    have hm : m ≤ 2147483647 := by omega
    have c0 := h1.c0
    have f0 := h1.fz 0
    have hDl := h1.cells.lt
    have H1 := Lib.hid h1
    obtain ⟨A, c, hv⟩ := h1.own.shape
    subst hv
    have e1 : ¬ ((m : Int) - 2 < -2) := by omega
    have e2 : ¬ ((m : Int) - 2 > 2147483645) := by omega
    have e3 : (m : Int) - 2 + 2 = m := by omega
    have hB4 := Lib.hid (b4_cells m hm)
    have hM : ((m : Int) - 2 + 2).toNat = m := by omega
    have HM := Lib.hid hM
    clear h1 hM
    go_enter Try.func29, Try.ntmps29
    go_wp2_with (at_builtin; refine app_bytes rfl (.tmp 22) (.tmp 34) rfl 0 (.slice A s.out.length c) s.out rfl (H1.out.own.alloc _) (w.heap.size + 1) _ 4 4 (b4 m) rfl (Rd.new_ w _ _ hB4.out 4 rfl) hs (Nat.zero_le _) ?_; intro v1 w1 hown hg hat; have hkr : w1.heap[D]? = w.heap[D]? := (hg.block D (by simp; omega) (fun e => H1.out.apart D e.symm rfl)).trans (Below.heap_alloc w _ D hDl); have c01 := (World.cell?_of_block (a := ⟨D, 0, none⟩) hkr).trans c0; have f01 := (World.frozen?_of_block (a := ⟨D, 0, none⟩) hkr).trans f0; clear hkr; have hshp := hown.shape; obtain ⟨A1, c1, rfl⟩ := hshp; have HG := Lib.hid hg; have HAT := Lib.hid hat; have HOWN := Lib.hid hown; clear hg hat hown)
    go_end0
    have key := H1.out.done h2 h3 ((Below.refl _ w).alloc (Nat.le_refl _) _) HOWN.out HG.out HAT.out
    rw [List.length_append] at key
    exact ⟨rfl, key⟩
  · unfold WS.int
    rw [if_neg hin]
    have c1 := h1.c1
    have f1 := h1.fz 1
    have hk : Keeps F w (w.setCell ⟨D, 1, none⟩ (.bool true)) := (Keeps.refl F w).setCell (p := ⟨D, 1, none⟩) h2 _
    have key : WrIs (w.setCell ⟨D, 1, none⟩ (.bool true)) (Grown F w) D { s with bad := true } := ⟨v, h1.set_bad, Or.inl h2, fun k e => Or.inl (h3 k e)⟩
    have K := Lib.hid key; have HK := Lib.hid hk
    clear key hk h1
    by_cases hlo : n < -2
    · go_enter Try.func29, Try.ntmps29
      go_wp2
      (try simp only [Exit.inBlock, Exit.then]); refine bodyPost_ret (results_none rfl _ _ _) rfl ?_
      exact ⟨rfl, K.out, HK.out⟩
    · have hhi : n > 2147483645 := by omega
      go_enter Try.func29, Try.ntmps29
      go_wp2
      (try simp only [Exit.inBlock, Exit.then]); refine bodyPost_ret (results_none rfl _ _ _) rfl ?_
      exact ⟨rfl, K.out, HK.out⟩
theorem WBytes_any (w : World) (F : Nat → Prop) (D : Nat) (s : WS) (A2 : Option Addr) (n c2 : Nat) (l : List UInt8) (h : WrIs w F D s) (hst : ∀ W, Keeps F w W → Rd W w.heap.size A2 n l) (hs : s.out.length + 65537 ≤ 140737488355328) :
    Calls Try.prog 30 #[.pointer (some ⟨D, 0, none⟩), .slice A2 n c2] w fun e w' => e = .returned (.tuple #[]) ∧ WrIs w' (Grown F w) D (s.bytes l) ∧ Keeps F w w' := by
  obtain ⟨v, h1, h2, h3⟩ := h
  have hn := (hst w (Keeps.refl F w)).len
  by_cases hin : n ≤ 65535
  · unfold WS.bytes
    rw [if_pos (by omega)]
    have c0 := h1.c0
    have f0 := h1.fz 0
    have hDl := h1.cells.lt
    have H1 := Lib.hid h1; have HST := Lib.hid hst; have HN := Lib.hid hn
    obtain ⟨A, c, hv⟩ := h1.own.shape
    subst hv
    have e1 : ¬ ((n : Int) > 65535) := by omega
    have hB2 := Lib.hid (b2_cells n hin)
    clear h1 hst hn
    go_enter Try.func30, Try.ntmps30
    go_wp2_with (first
      | (at_builtin; refine app_bytes rfl (.tmp 16) (.tmp 24) rfl 0 (.slice A s.out.length c) s.out rfl (H1.out.own.alloc _) (w.heap.size + 1) _ 2 2 (b2 n) rfl (Rd.new_ w _ _ hB2.out 2 rfl) (by omega) (Nat.zero_le _) ?_; intro v1 w1 hown hg hat; have hkr : w1.heap[D]? = w.heap[D]? := (hg.block D (by simp; omega) (fun e => H1.out.apart D e.symm rfl)).trans (Below.heap_alloc w _ D hDl); have c01 := (World.cell?_of_block (a := ⟨D, 0, none⟩) hkr).trans c0; have f01 := (World.frozen?_of_block (a := ⟨D, 0, none⟩) hkr).trans f0; clear hkr; have hshp := hown.shape; rw [show (s.out ++ b2 n).length = s.out.length + 2 by simp [b2]] at hshp; obtain ⟨A1, c1, hv1⟩ := hshp; subst hv1; have H2 := Lib.hid (H1.out.grow ((Below.refl _ w).alloc (Nat.le_refl _) _) hown hg hat); have H3 := Lib.hid (H1.out.done h2 h3 ((Below.refl _ w).alloc (Nat.le_refl _) _) hown hg hat); have HAT := Lib.hid hat; clear hg hat hown c0 f0)
      | (at_builtin; refine app_bytes rfl (.tmp 32) (.tmp 33) rfl 0 (.slice A1 (s.out.length + 2) c1) (s.out ++ b2 n) rfl H2.out.own w.heap.size A2 n c2 l rfl (HST.out _ H3.out.2) (by simp [b2]; omega) (Nat.zero_le _) ?_; intro v2 w2 hown hg hat; have hsz := H3.out.2.size; have hkr := hg.block D (by simp at hsz ⊢; omega) (fun e => H2.out.apart D e.symm rfl); have c02 := (World.cell?_of_block (a := ⟨D, 0, none⟩) hkr).trans H2.out.c0; have f02 := (World.frozen?_of_block (a := ⟨D, 0, none⟩) hkr).trans (H2.out.fz 0); clear hkr hsz; have hshp := hown.shape; rw [show (s.out ++ b2 n ++ l).length = s.out.length + 2 + n by simp [b2]; have := HN.out; omega] at hshp; obtain ⟨A3, c3, hv2⟩ := hshp; subst hv2; have H4 := Lib.hid (H2.out.done (F := Grown F w) (Or.inl h2) (fun k e => by rcases HAT.out with e2 | e2; exact Or.inl (h3 k (e2.symm.trans e)); rw [e2] at e; injection e with e; simp at e; exact Or.inr (by omega)) (Below.refl _ _) hown hg hat); clear hg hat hown)
      | fail)
    go_end0
    rw [List.append_assoc] at H4
    rw [← HN.out]
    have hsz := H3.out.2.size
    refine ⟨rfl, H4.out.1.weaken (fun k e => ?_), H3.out.2.trans H4.out.2 (fun i hi e => ?_)⟩
    · rcases e with e | e
      · exact e
      · exact Or.inr (Nat.le_trans hsz e)
    · rcases e with e | e
      · exact e
      · exact absurd hi (by omega)
  · unfold WS.bytes
    rw [if_neg (by omega)]
    have c1 := h1.c1
    have f1 := h1.fz 1
    have hk : Keeps F w (w.setCell ⟨D, 1, none⟩ (.bool true)) := (Keeps.refl F w).setCell (p := ⟨D, 1, none⟩) h2 _
    have key : WrIs (w.setCell ⟨D, 1, none⟩ (.bool true)) (Grown F w) D { s with bad := true } := ⟨v, h1.set_bad, Or.inl h2, fun k e => Or.inl (h3 k e)⟩
    have K := Lib.hid key; have HK := Lib.hid hk
    clear key hk h1 hst hn
    have hhi : (n : Int) > 65535 := by omega
    go_enter Try.func30, Try.ntmps30
    go_wp2
    (try simp only [Exit.inBlock, Exit.then]); refine bodyPost_ret (results_none rfl _ _ _) rfl ?_
    exact ⟨rfl, K.out, HK.out⟩
/-- slices.Clip of bytes. -/
theorem Clip_any (A : Option Addr) (n c : Nat) (w : World) (hn : n ≤ c) :
    Calls Try.prog 40 #[.slice A n c] w fun e w' => e = .returned (.slice A n n) ∧ w' = w := by
  go_enter Try.func40, Try.ntmps40
  go_wp2
  go_ret
  exact ⟨rfl, rfl⟩
/-- A slice of the call's own making, to be read. -/
def Fresh (w : World) (B : Nat) (v : Value) (l : List UInt8) : Prop := ∃ A c, v = .slice A l.length c ∧ Rd w w.heap.size A l.length l ∧ ∀ ad, A = some ad → B ≤ ad.block
theorem Fresh.nil_ (w : World) (B : Nat) : Fresh w B (.slice none 0 0) [] := ⟨none, 0, rfl, Rd.nil_, fun _ e => by cases e⟩
theorem Fresh.below {w w' : World} {B : Nat} {v : Value} {l : List UInt8} (h : Fresh w B v l) (hb : Below w.heap.size w w') : Fresh w' B v l := by
  obtain ⟨A, c, h1, h2, h3⟩ := h
  exact ⟨A, c, h1, (h2.below hb).more hb.size, h3⟩
theorem Fresh.mono {w : World} {B B' : Nat} {v : Value} {l : List UInt8} (h : Fresh w B v l) (hB : B' ≤ B) : Fresh w B' v l := by
  obtain ⟨A, c, h1, h2, h3⟩ := h
  exact ⟨A, c, h1, h2, fun ad e => Nat.le_trans hB (h3 ad e)⟩
theorem Own.cap {w : World} {base : Nat} {A : Option Addr} {n c : Nat} {l : List UInt8} (h : Own w base (.slice A n c) l) : n = l.length ∧ n ≤ c ∧ c ≤ 9223372036854775807 ∧ ∀ ad, A = some ad → base ≤ ad.block ∧ ad.block < w.heap.size ∧ ∃ g, ad = ⟨g, 0, none⟩ := by
  rcases h.2 with ⟨e, e2⟩ | ⟨g, cap, cur, e, hg, hh, hle, hm, _⟩
  · injection e with e1 e3 e4
    subst e1 e3 e4
    exact ⟨e2.symm, by omega, by omega, fun _ e => by cases e⟩
  · injection e with e1 e3 e4
    subst e1 e3 e4
    exact ⟨rfl, hle, by unfold maxLen at hm; exact hm, fun ad e => by injection e with e; subst e; exact ⟨hg, lt_of_block hh, g, rfl⟩⟩
theorem WOut_any (w : World) (D : Nat) (v : Value) (s : WS) (h : WrAt w D v s) (hs : s.out.length ≤ 140737488355328) :
    Calls Try.prog 32 #[.pointer (some ⟨D, 0, none⟩)] w fun e w' => ∃ v', e = .returned (.tuple #[v', .bool (!s.bad)]) ∧ Fresh w' w.heap.size v' (if s.bad then [] else s.out) ∧ Below w.heap.size w w' := by
  have c0 := h.c0
  have c1 := h.c1
  obtain ⟨A, c, hv⟩ := h.own.shape
  subst hv
  have hr := h.own.rd
  have HR := Lib.hid hr
  clear h hr
  obtain ⟨out, bad⟩ := s
  cases bad
  · simp only [Bool.false_eq_true, if_false, Bool.not_false]
    go_enter Try.func32, Try.ntmps32
    go_wp2_with fail
    refine (Clone_any A _ c w out hs HR.out).mono ?_
    rintro e w1 ⟨v1, rfl, ho, hb⟩
    obtain ⟨A1, c1', rfl⟩ := ho.shape
    obtain ⟨_, hle, _, had⟩ := ho.cap
    have HO := Lib.hid ho; have HB := Lib.hid hb; have HAD := Lib.hid had
    clear ho hb had
    go_wp2_with (go_at_call 40; refine (Clip_any _ _ _ _ hle).mono ?_; rintro e w2 ⟨rfl, rfl⟩)
    go_ret2
    exact ⟨_, rfl, ⟨A1, _, rfl, HO.out.rd, fun ad e => (HAD.out ad e).1⟩, HB.out⟩
  · simp only [if_true, Bool.not_true]
    go_enter Try.func32, Try.ntmps32
    go_wp2
    go_ret2
    exact ⟨_, rfl, Fresh.nil_ _ _, Below.refl _ _⟩
/-- Bytes that may be written: a block of their own. -/
def WrB (w : World) (v : Value) : Prop := ∀ A n c, v = .slice A n c → n ≤ c ∧ c ≤ 9223372036854775807 ∧ ∀ ad, A = some ad → ∃ g cur, ad = ⟨g, 0, none⟩ ∧ Blk w g 5 cur ∧ n ≤ cur.size
theorem WrB.nil_ (w : World) : WrB w (.slice none 0 0) := fun A n c e => by
  injection e with e1 e2 e3
  subst e1 e2 e3
  exact ⟨Nat.le_refl _, by omega, fun ad e => by cases e⟩
theorem WrB.of_own {w : World} {base : Nat} {A : Option Addr} {n c : Nat} {l : List UInt8} (h : Own w base (.slice A n c) l) : WrB w (.slice A n n) := fun A' n' c' e => by
  injection e with e1 e2 e3
  subst e1 e2 e3
  obtain ⟨hn, _, hc, _⟩ := h.cap
  refine ⟨Nat.le_refl _, by have := h.cap.2.1; omega, fun ad e => ?_⟩
  subst e
  rcases h.2 with ⟨e, _⟩ | ⟨g, cap, cur, e, _, hh, hle, _, hsz, _⟩
  · cases e
  · injection e with e1 e2 e3
    injection e1 with e1
    exact ⟨g, cur, e1, hh, by rw [hsz]; omega⟩
theorem WOut_own (w : World) (D : Nat) (v : Value) (s : WS) (h : WrAt w D v s) (hs : s.out.length ≤ 140737488355328) :
    Calls Try.prog 32 #[.pointer (some ⟨D, 0, none⟩)] w fun e w' => ∃ v', e = .returned (.tuple #[v', .bool (!s.bad)]) ∧ Fresh w' w.heap.size v' (if s.bad then [] else s.out) ∧ Below w.heap.size w w' ∧ WrB w' v' := by
  have c0 := h.c0
  have c1 := h.c1
  obtain ⟨A, c, hv⟩ := h.own.shape
  subst hv
  have hr := h.own.rd
  have HR := Lib.hid hr
  clear h hr
  obtain ⟨out, bad⟩ := s
  cases bad
  · simp only [Bool.false_eq_true, if_false, Bool.not_false]
    go_enter Try.func32, Try.ntmps32
    go_wp2_with fail
    refine (Clone_any A _ c w out hs HR.out).mono ?_
    rintro e w1 ⟨v1, rfl, ho, hb⟩
    obtain ⟨A1, c1', rfl⟩ := ho.shape
    obtain ⟨_, hle, _, had⟩ := ho.cap
    have HO := Lib.hid ho; have HB := Lib.hid hb; have HAD := Lib.hid had
    clear ho hb had
    go_wp2_with (go_at_call 40; refine (Clip_any _ _ _ _ hle).mono ?_; rintro e w2 ⟨rfl, rfl⟩)
    go_ret2
    exact ⟨_, rfl, ⟨A1, _, rfl, HO.out.rd, fun ad e => (HAD.out ad e).1⟩, HB.out, WrB.of_own HO.out⟩
  · simp only [if_true, Bool.not_true]
    go_enter Try.func32, Try.ntmps32
    go_wp2
    go_ret2
    exact ⟨_, rfl, Fresh.nil_ _ _, Below.refl _ _, WrB.nil_ _⟩
end Go.Proofs.Ytoekmgpnmhknoaa
