/- Numbers and bytes, written and read. Conditions stand with each theorem. -/
import Derived.Test.YtlabebapjhhkaaaM1
namespace Go.Proofs.Ytlabebapjhhkaaa
open Go.RowKit
/-- A writer: what was put, and whether something could not be. -/
structure WS where
  out : List UInt8
  bad : Bool
structure WrAt (w : World) (D : Nat) (v : Value) (s : WS) : Prop where
  cells : Blk w D 139 #[v, .bool s.bad]
  own : Own w 0 v s.out
  apart : ∀ k, v.ownBlock = some k → k ≠ D
def WrIs (w : World) (F : Nat → Prop) (D : Nat) (s : WS) : Prop := ∃ v, WrAt w D v s ∧ F D ∧ ∀ k, v.ownBlock = some k → F k
section
variable {w w' : World} {D : Nat} {v : Value} {s : WS} {F G : Nat → Prop}
theorem WrAt.keeps (h : WrAt w D v s) (hk : Keeps G w w') (hD : ¬ G D) (hv : ∀ k, v.ownBlock = some k → ¬ G k) : WrAt w' D v s := ⟨h.cells.keeps hk hD, h.own.keeps hk hv, h.apart⟩
theorem WrIs.keeps (h : WrIs w F D s) (hk : Keeps G w w') (hn : ∀ k, F k → ¬ G k) : WrIs w' F D s := by
  obtain ⟨v, h1, h2, h3⟩ := h
  exact ⟨v, h1.keeps hk (hn D h2) (fun k e => hn k (h3 k e)), h2, h3⟩
theorem WrIs.below (h : WrIs w F D s) (hb : Below w.heap.size w w') : WrIs w' F D s := by
  obtain ⟨v, h1, h2, h3⟩ := h
  exact ⟨v, h1.keeps (Keeps.of_below (F := fun _ => False) hb) id (fun _ _ => id), h2, h3⟩
theorem WrIs.weaken (h : WrIs w F D s) (hn : ∀ k, F k → G k) : WrIs w G D s := by
  obtain ⟨v, h1, h2, h3⟩ := h
  exact ⟨v, h1, hn D h2, fun k e => hn k (h3 k e)⟩
theorem WrAt.c0 (h : WrAt w D v s) : w.cell? ⟨D, 0, none⟩ = some v := (h.cells.cell 0).trans rfl
theorem WrAt.c1 (h : WrAt w D v s) : w.cell? ⟨D, 1, none⟩ = some (.bool s.bad) := (h.cells.cell 1).trans rfl
theorem WrAt.fz (h : WrAt w D v s) (i : Nat) : w.frozen? ⟨D, i, none⟩ = false := h.cells.frozen i
theorem WrAt.set_bad (h : WrAt w D v s) : WrAt (w.setCell ⟨D, 1, none⟩ (.bool true)) D v { s with bad := true } := by
  have hk : Keeps (fun k => k = D) w (w.setCell ⟨D, 1, none⟩ (.bool true)) := (Keeps.refl (fun k => k = D) w).setCell (p := ⟨D, 1, none⟩) rfl _
  exact ⟨h.cells.set_ 1 (.bool true), h.own.keeps hk h.apart, h.apart⟩
/-- The row is another one: what was put, and more. -/
theorem WrAt.grow (h : WrAt w D v s) {wA : World} {v' : Value} {l : List UInt8} {W1 : World} (hb : Below w.heap.size w W1) (hown : Own wA 0 v' (s.out ++ l)) (hg : W1.grownBy wA v.ownBlock) (hat : v'.ownBlock = v.ownBlock ∨ v'.ownBlock = some W1.heap.size) :
    WrAt (wA.setCell ⟨D, 0, none⟩ v') D v' { s with out := s.out ++ l } := by
  have hDl := h.cells.lt
  have hap : ∀ k, v'.ownBlock = some k → k ≠ D := by
    intro k e
    rcases hat with e2 | e2
    · exact h.apart k (e2.symm.trans e)
    · rw [e2] at e; injection e with e; have := hb.size; omega
  have hk : Keeps (fun k => k = D) wA (wA.setCell ⟨D, 0, none⟩ v') := (Keeps.refl (fun k => k = D) wA).setCell (p := ⟨D, 0, none⟩) rfl _
  have hc1 := (h.cells.below hb hDl)
  have hc2 : Blk wA D 139 #[v, .bool s.bad] := hc1.grown hg (fun e => h.apart D e.symm rfl)
  exact ⟨hc2.set_ 0 v', hown.keeps hk hap, hap⟩
theorem WrAt.done (h : WrAt w D v s) (h2 : F D) (h3 : ∀ k, v.ownBlock = some k → F k) {wA W1 : World} {v' : Value} {l : List UInt8} (hb : Below w.heap.size w W1) (hown : Own wA 0 v' (s.out ++ l)) (hg : W1.grownBy wA v.ownBlock) (hat : v'.ownBlock = v.ownBlock ∨ v'.ownBlock = some W1.heap.size) :
    WrIs (wA.setCell ⟨D, 0, none⟩ v') (Grown F w) D { s with out := s.out ++ l } ∧ Keeps F w (wA.setCell ⟨D, 0, none⟩ v') := by
  refine ⟨⟨v', h.grow hb hown hg hat, Or.inl h2, fun k e => ?_⟩, ((Keeps.of_below hb).grown hg (fun k e => Or.inr (h3 k e))).setCell (p := ⟨D, 0, none⟩) h2 _⟩
  rcases hat with e2 | e2
  · exact Or.inl (h3 k (e2.symm.trans e))
  · rw [e2] at e; injection e with e; exact Or.inr (by have := hb.size; omega)
end
theorem WNew_any (w : World) : Calls Try.prog 92 #[] w fun e w' => ∃ D, e = .returned (.pointer (some ⟨D, 0, none⟩)) ∧ WrIs w' (fun k => w.heap.size ≤ k) D { out := [], bad := false } ∧ Below w.heap.size w w' := by
  go_enter Try.func92, Try.ntmps92
  go_wp2
  go_ret
  refine ⟨w.heap.size, rfl, ⟨.slice none 0 0, ⟨Blk.new w _ _, Own.nil_ _ _, fun k e => by cases e⟩, Nat.le_refl _, fun k e => by cases e⟩, (Below.refl _ _).alloc (Nat.le_refl _) _⟩
/-- The two bytes of a number, and the four. -/
def b2 (n : Nat) : List UInt8 := [UInt8.ofNat (n / 256), UInt8.ofNat n]
def b4 (n : Nat) : List UInt8 := [UInt8.ofNat (n / 16777216), UInt8.ofNat (n / 65536), UInt8.ofNat (n / 256), UInt8.ofNat n]
theorem b4_cells (m : Nat) (hm : m ≤ 2147483647) : #[Value.int .u8 ((m : Int) / 16777216), .int .u8 ((m : Int) / 65536 % 256), .int .u8 ((m : Int) / 256 % 256), .int .u8 ((m : Int) % 256)] = ((b4 m).map B8).toArray := by
  simp only [b4, List.map_cons, List.map_nil, B8, UInt8.toNat_ofNat']
  congr <;> omega
theorem b2_cells (m : Nat) (hm : m ≤ 65535) : #[Value.int .u8 ((m : Int) / 256), .int .u8 ((m : Int) % 256)] = ((b2 m).map B8).toArray := by
  simp only [b2, List.map_cons, List.map_nil, B8, UInt8.toNat_ofNat']
  congr <;> omega
def WS.int (s : WS) (n : Int) : WS := if -2 ≤ n ∧ n ≤ 2147483645 then { s with out := s.out ++ b4 (n + 2).toNat } else { s with bad := true }
def WS.bytes (s : WS) (l : List UInt8) : WS := if l.length ≤ 65535 then { s with out := s.out ++ (b2 l.length ++ l) } else { s with bad := true }
theorem WInt_any (w : World) (F : Nat → Prop) (D : Nat) (s : WS) (n : Int) (h : WrIs w F D s) (hs : s.out.length + 4 ≤ 140737488355328) :
    Calls Try.prog 95 #[.pointer (some ⟨D, 0, none⟩), .int .i64 n] w fun e w' => e = .returned (.tuple #[]) ∧ WrIs w' (Grown F w) D (s.int n) ∧ Keeps F w w' := by
  obtain ⟨v, h1, h2, h3⟩ := h
  by_cases hin : -2 ≤ n ∧ n ≤ 2147483645
  · unfold WS.int
    rw [if_pos hin]
    obtain ⟨hlo, hhi⟩ := hin
    obtain ⟨m, rfl⟩ : ∃ m : Nat, n = (m : Int) - 2 := ⟨(n + 2).toNat, by omega⟩
    have hm : m ≤ 2147483647 := by omega
    have c0 := h1.c0
    have f0 := h1.fz 0
    have hDl := h1.cells.lt
    have H1 := Lib.hid h1
    obtain ⟨A, c, hv⟩ := h1.own.shape
    subst hv
    have e1 : ¬ ((m : Int) - 2 < -2) := by omega
    have e2 : ¬ ((m : Int) - 2 > 2147483645) := by omega
    have e3 : (m : Int) - 2 + 2 = m := by omega
    have hB4 := Lib.hid (b4_cells m hm)
    have hM : ((m : Int) - 2 + 2).toNat = m := by omega
    have HM := Lib.hid hM
    clear h1 hM
    go_enter Try.func95, Try.ntmps95
    go_wp2_with (at_builtin; refine app_bytes rfl (.tmp 22) (.tmp 34) rfl 0 (.slice A s.out.length c) s.out rfl (H1.out.own.alloc _) (w.heap.size + 1) _ 4 4 (b4 m) rfl (Rd.new_ w _ _ hB4.out 4 rfl) hs (Nat.zero_le _) ?_; intro v1 w1 hown hg hat; have hkr : w1.heap[D]? = w.heap[D]? := (hg.block D (by simp; omega) (fun e => H1.out.apart D e.symm rfl)).trans (Below.heap_alloc w _ D hDl); have c01 := (World.cell?_of_block (a := ⟨D, 0, none⟩) hkr).trans c0; have f01 := (World.frozen?_of_block (a := ⟨D, 0, none⟩) hkr).trans f0; clear hkr; have hshp := hown.shape; obtain ⟨A1, c1, rfl⟩ := hshp; have HG := Lib.hid hg; have HAT := Lib.hid hat; have HOWN := Lib.hid hown; clear hg hat hown)
    go_end0
    have key := H1.out.done h2 h3 ((Below.refl _ w).alloc (Nat.le_refl _) _) HOWN.out HG.out HAT.out
    rw [List.length_append] at key
    exact ⟨rfl, key⟩
  · unfold WS.int
    rw [if_neg hin]
    have c1 := h1.c1
    have f1 := h1.fz 1
    have hk : Keeps F w (w.setCell ⟨D, 1, none⟩ (.bool true)) := (Keeps.refl F w).setCell (p := ⟨D, 1, none⟩) h2 _
    have key : WrIs (w.setCell ⟨D, 1, none⟩ (.bool true)) (Grown F w) D { s with bad := true } := ⟨v, h1.set_bad, Or.inl h2, fun k e => Or.inl (h3 k e)⟩
    have K := Lib.hid key; have HK := Lib.hid hk
    clear key hk h1
    by_cases hlo : n < -2
    · go_enter Try.func95, Try.ntmps95
      go_wp2
      (try simp only [Exit.inBlock, Exit.then]); refine bodyPost_ret (results_none rfl _ _ _) rfl ?_
      exact ⟨rfl, K.out, HK.out⟩
    · have hhi : n > 2147483645 := by omega
      go_enter Try.func95, Try.ntmps95
      go_wp2
      (try simp only [Exit.inBlock, Exit.then]); refine bodyPost_ret (results_none rfl _ _ _) rfl ?_
      exact ⟨rfl, K.out, HK.out⟩
theorem WBytes_any (w : World) (F : Nat → Prop) (D : Nat) (s : WS) (A2 : Option Addr) (n c2 : Nat) (l : List UInt8) (h : WrIs w F D s) (hst : ∀ W, Keeps F w W → Rd W w.heap.size A2 n l) (hs : s.out.length + 65537 ≤ 140737488355328) :
    Calls Try.prog 94 #[.pointer (some ⟨D, 0, none⟩), .slice A2 n c2] w fun e w' => e = .returned (.tuple #[]) ∧ WrIs w' (Grown F w) D (s.bytes l) ∧ Keeps F w w' := by
  obtain ⟨v, h1, h2, h3⟩ := h
  have hn := (hst w (Keeps.refl F w)).len
  by_cases hin : n ≤ 65535
  · unfold WS.bytes
    rw [if_pos (by omega)]
    have c0 := h1.c0
    have f0 := h1.fz 0
    have hDl := h1.cells.lt
    have H1 := Lib.hid h1; have HST := Lib.hid hst; have HN := Lib.hid hn
    obtain ⟨A, c, hv⟩ := h1.own.shape
    subst hv
    have e1 : ¬ ((n : Int) > 65535) := by omega
    have hB2 := Lib.hid (b2_cells n hin)
    clear h1 hst hn
    go_enter Try.func94, Try.ntmps94
    go_wp2_with (first
      | (at_builtin; refine app_bytes rfl (.tmp 16) (.tmp 24) rfl 0 (.slice A s.out.length c) s.out rfl (H1.out.own.alloc _) (w.heap.size + 1) _ 2 2 (b2 n) rfl (Rd.new_ w _ _ hB2.out 2 rfl) (by omega) (Nat.zero_le _) ?_; intro v1 w1 hown hg hat; have hkr : w1.heap[D]? = w.heap[D]? := (hg.block D (by simp; omega) (fun e => H1.out.apart D e.symm rfl)).trans (Below.heap_alloc w _ D hDl); have c01 := (World.cell?_of_block (a := ⟨D, 0, none⟩) hkr).trans c0; have f01 := (World.frozen?_of_block (a := ⟨D, 0, none⟩) hkr).trans f0; clear hkr; have hshp := hown.shape; rw [show (s.out ++ b2 n).length = s.out.length + 2 by simp [b2]] at hshp; obtain ⟨A1, c1, hv1⟩ := hshp; subst hv1; have H2 := Lib.hid (H1.out.grow ((Below.refl _ w).alloc (Nat.le_refl _) _) hown hg hat); have H3 := Lib.hid (H1.out.done h2 h3 ((Below.refl _ w).alloc (Nat.le_refl _) _) hown hg hat); have HAT := Lib.hid hat; clear hg hat hown c0 f0)
      | (at_builtin; refine app_bytes rfl (.tmp 32) (.tmp 33) rfl 0 (.slice A1 (s.out.length + 2) c1) (s.out ++ b2 n) rfl H2.out.own w.heap.size A2 n c2 l rfl (HST.out _ H3.out.2) (by simp [b2]; omega) (Nat.zero_le _) ?_; intro v2 w2 hown hg hat; have hsz := H3.out.2.size; have hkr := hg.block D (by simp at hsz ⊢; omega) (fun e => H2.out.apart D e.symm rfl); have c02 := (World.cell?_of_block (a := ⟨D, 0, none⟩) hkr).trans H2.out.c0; have f02 := (World.frozen?_of_block (a := ⟨D, 0, none⟩) hkr).trans (H2.out.fz 0); clear hkr hsz; have hshp := hown.shape; rw [show (s.out ++ b2 n ++ l).length = s.out.length + 2 + n by simp [b2]; have := HN.out; omega] at hshp; obtain ⟨A3, c3, hv2⟩ := hshp; subst hv2; have H4 := Lib.hid (H2.out.done (F := Grown F w) (Or.inl h2) (fun k e => by rcases HAT.out with e2 | e2; exact Or.inl (h3 k (e2.symm.trans e)); rw [e2] at e; injection e with e; simp at e; exact Or.inr (by omega)) (Below.refl _ _) hown hg hat); clear hg hat hown)
      | fail)
    go_end0
    rw [List.append_assoc] at H4
    rw [← HN.out]
    have hsz := H3.out.2.size
    refine ⟨rfl, H4.out.1.weaken (fun k e => ?_), H3.out.2.trans H4.out.2 (fun i hi e => ?_)⟩
    · rcases e with e | e
      · exact e
      · exact Or.inr (Nat.le_trans hsz e)
    · rcases e with e | e
      · exact e
      · exact absurd hi (by omega)
  · unfold WS.bytes
    rw [if_neg (by omega)]
    have c1 := h1.c1
    have f1 := h1.fz 1
    have hk : Keeps F w (w.setCell ⟨D, 1, none⟩ (.bool true)) := (Keeps.refl F w).setCell (p := ⟨D, 1, none⟩) h2 _
    have key : WrIs (w.setCell ⟨D, 1, none⟩ (.bool true)) (Grown F w) D { s with bad := true } := ⟨v, h1.set_bad, Or.inl h2, fun k e => Or.inl (h3 k e)⟩
    have K := Lib.hid key; have HK := Lib.hid hk
    clear key hk h1 hst hn
    have hhi : (n : Int) > 65535 := by omega
    go_enter Try.func94, Try.ntmps94
    go_wp2
    (try simp only [Exit.inBlock, Exit.then]); refine bodyPost_ret (results_none rfl _ _ _) rfl ?_
    exact ⟨rfl, K.out, HK.out⟩
/-- slices.Clip of bytes. -/
theorem Clip_any (A : Option Addr) (n c : Nat) (w : World) (hn : n ≤ c) :
    Calls Try.prog 91 #[.slice A n c] w fun e w' => e = .returned (.slice A n n) ∧ w' = w := by
  go_enter Try.func91, Try.ntmps91
  go_wp2
  go_ret
  exact ⟨rfl, rfl⟩
/-- A slice of the call's own making, to be read. -/
def Fresh (w : World) (B : Nat) (v : Value) (l : List UInt8) : Prop := ∃ A c, v = .slice A l.length c ∧ Rd w w.heap.size A l.length l ∧ ∀ ad, A = some ad → B ≤ ad.block
theorem Fresh.nil_ (w : World) (B : Nat) : Fresh w B (.slice none 0 0) [] := ⟨none, 0, rfl, Rd.nil_, fun _ e => by cases e⟩
theorem Fresh.below {w w' : World} {B : Nat} {v : Value} {l : List UInt8} (h : Fresh w B v l) (hb : Below w.heap.size w w') : Fresh w' B v l := by
  obtain ⟨A, c, h1, h2, h3⟩ := h
  exact ⟨A, c, h1, (h2.below hb).more hb.size, h3⟩
theorem Fresh.mono {w : World} {B B' : Nat} {v : Value} {l : List UInt8} (h : Fresh w B v l) (hB : B' ≤ B) : Fresh w B' v l := by
  obtain ⟨A, c, h1, h2, h3⟩ := h
  exact ⟨A, c, h1, h2, fun ad e => Nat.le_trans hB (h3 ad e)⟩
theorem Own.cap {w : World} {base : Nat} {A : Option Addr} {n c : Nat} {l : List UInt8} (h : Own w base (.slice A n c) l) : n = l.length ∧ n ≤ c ∧ c ≤ 9223372036854775807 ∧ ∀ ad, A = some ad → base ≤ ad.block ∧ ad.block < w.heap.size ∧ ∃ g, ad = ⟨g, 0, none⟩ := by
  rcases h.2 with ⟨e, e2⟩ | ⟨g, cap, cur, e, hg, hh, hle, hm, _⟩
  · injection e with e1 e3 e4
    subst e1 e3 e4
    exact ⟨e2.symm, by omega, by omega, fun _ e => by cases e⟩
  · injection e with e1 e3 e4
    subst e1 e3 e4
    exact ⟨rfl, hle, by unfold maxLen at hm; exact hm, fun ad e => by injection e with e; subst e; exact ⟨hg, lt_of_block hh, g, rfl⟩⟩
theorem WOut_any (w : World) (D : Nat) (v : Value) (s : WS) (h : WrAt w D v s) (hs : s.out.length ≤ 140737488355328) :
    Calls Try.prog 97 #[.pointer (some ⟨D, 0, none⟩)] w fun e w' => ∃ v', e = .returned (.tuple #[v', .bool (!s.bad)]) ∧ Fresh w' w.heap.size v' (if s.bad then [] else s.out) ∧ Below w.heap.size w w' := by
  have c0 := h.c0
  have c1 := h.c1
  obtain ⟨A, c, hv⟩ := h.own.shape
  subst hv
  have hr := h.own.rd
  have HR := Lib.hid hr
  clear h hr
  obtain ⟨out, bad⟩ := s
  cases bad
  · simp only [Bool.false_eq_true, if_false, Bool.not_false]
    go_enter Try.func97, Try.ntmps97
    go_wp2_with fail
    refine (Clone_any A _ c w out hs HR.out).mono ?_
    rintro e w1 ⟨v1, rfl, ho, hb⟩
    obtain ⟨A1, c1', rfl⟩ := ho.shape
    obtain ⟨_, hle, _, had⟩ := ho.cap
    have HO := Lib.hid ho; have HB := Lib.hid hb; have HAD := Lib.hid had
    clear ho hb had
    go_wp2_with (go_at_call 91; refine (Clip_any _ _ _ _ hle).mono ?_; rintro e w2 ⟨rfl, rfl⟩)
    go_ret2
    exact ⟨_, rfl, ⟨A1, _, rfl, HO.out.rd, fun ad e => (HAD.out ad e).1⟩, HB.out⟩
  · simp only [if_true, Bool.not_true]
    go_enter Try.func97, Try.ntmps97
    go_wp2
    go_ret2
    exact ⟨_, rfl, Fresh.nil_ _ _, Below.refl _ _⟩
/-- Bytes that may be written: a block of their own. -/
def WrB (w : World) (v : Value) : Prop := ∀ A n c, v = .slice A n c → n ≤ c ∧ c ≤ 9223372036854775807 ∧ ∀ ad, A = some ad → ∃ g cur, ad = ⟨g, 0, none⟩ ∧ Blk w g 5 cur ∧ n ≤ cur.size
theorem WrB.nil_ (w : World) : WrB w (.slice none 0 0) := fun A n c e => by
  injection e with e1 e2 e3
  subst e1 e2 e3
  exact ⟨Nat.le_refl _, by omega, fun ad e => by cases e⟩
theorem WrB.of_own {w : World} {base : Nat} {A : Option Addr} {n c : Nat} {l : List UInt8} (h : Own w base (.slice A n c) l) : WrB w (.slice A n n) := fun A' n' c' e => by
  injection e with e1 e2 e3
  subst e1 e2 e3
  obtain ⟨hn, _, hc, _⟩ := h.cap
  refine ⟨Nat.le_refl _, by have := h.cap.2.1; omega, fun ad e => ?_⟩
  subst e
  rcases h.2 with ⟨e, _⟩ | ⟨g, cap, cur, e, _, hh, hle, _, hsz, _⟩
  · cases e
  · injection e with e1 e2 e3
    injection e1 with e1
    exact ⟨g, cur, e1, hh, by rw [hsz]; omega⟩
theorem WOut_own (w : World) (D : Nat) (v : Value) (s : WS) (h : WrAt w D v s) (hs : s.out.length ≤ 140737488355328) :
    Calls Try.prog 97 #[.pointer (some ⟨D, 0, none⟩)] w fun e w' => ∃ v', e = .returned (.tuple #[v', .bool (!s.bad)]) ∧ Fresh w' w.heap.size v' (if s.bad then [] else s.out) ∧ Below w.heap.size w w' ∧ WrB w' v' := by
  have c0 := h.c0
  have c1 := h.c1
  obtain ⟨A, c, hv⟩ := h.own.shape
  subst hv
  have hr := h.own.rd
  have HR := Lib.hid hr
  clear h hr
  obtain ⟨out, bad⟩ := s
  cases bad
  · simp only [Bool.false_eq_true, if_false, Bool.not_false]
    go_enter Try.func97, Try.ntmps97
    go_wp2_with fail
    refine (Clone_any A _ c w out hs HR.out).mono ?_
    rintro e w1 ⟨v1, rfl, ho, hb⟩
    obtain ⟨A1, c1', rfl⟩ := ho.shape
    obtain ⟨_, hle, _, had⟩ := ho.cap
    have HO := Lib.hid ho; have HB := Lib.hid hb; have HAD := Lib.hid had
    clear ho hb had
    go_wp2_with (go_at_call 91; refine (Clip_any _ _ _ _ hle).mono ?_; rintro e w2 ⟨rfl, rfl⟩)
    go_ret2
    exact ⟨_, rfl, ⟨A1, _, rfl, HO.out.rd, fun ad e => (HAD.out ad e).1⟩, HB.out, WrB.of_own HO.out⟩
  · simp only [if_true, Bool.not_true]
    go_enter Try.func97, Try.ntmps97
    go_wp2
    go_ret2
    exact ⟨_, rfl, Fresh.nil_ _ _, Below.refl _ _, WrB.nil_ _⟩
end Go.Proofs.Ytlabebapjhhkaaa
namespace Go.Proofs.Ytlabebapjhhkaaa
open Go.RowKit
/-- A reader: what is left, and whether something was lacking. -/
structure RS where
  left : List UInt8
  bad : Bool
structure ReAt (w : World) (D : Nat) (A : Option Addr) (c : Nat) (s : RS) : Prop where
  cells : Blk w D 125 #[.slice A s.left.length c, .bool s.bad]
  rd : Rd w w.heap.size A s.left.length s.left
  cap : s.left.length ≤ c
  capLe : c ≤ 9223372036854775807
  apart : ∀ ad, A = some ad → ad.block ≠ D
  blk : ∀ ad, A = some ad → ad.block < w.heap.size
def ReIs (w : World) (F : Nat → Prop) (D : Nat) (s : RS) : Prop := ∃ A c, ReAt w D A c s ∧ F D ∧ ∀ ad, A = some ad → F ad.block
section
variable {w w' : World} {D c : Nat} {A : Option Addr} {s : RS} {F G : Nat → Prop}
theorem Rd.keeps {B n : Nat} {l : List UInt8} (h : Rd w B A n l) (hk : Keeps G w w') (hB : B ≤ w.heap.size) (hn : ∀ ad, A = some ad → ¬ G ad.block) : Rd w' B A n l := by
  refine ⟨h.1, fun h0 => ?_⟩
  obtain ⟨ad, e, hb, hc⟩ := h.2 h0
  refine ⟨ad, e, hb, fun j u hu => ?_⟩
  rw [← hc j u hu]
  apply World.cell?_of_block
  rw [block_of_add]
  exact hk.block ad.block (by omega) (hn ad e)
theorem ReAt.keeps (h : ReAt w D A c s) (hk : Keeps G w w') (hD : ¬ G D) (hv : ∀ ad, A = some ad → ¬ G ad.block) : ReAt w' D A c s :=
  ⟨h.cells.keeps hk hD, (h.rd.keeps hk (Nat.le_refl _) hv).more hk.size, h.cap, h.capLe, h.apart, fun ad e => Nat.lt_of_lt_of_le (h.blk ad e) hk.size⟩
theorem ReIs.keeps (h : ReIs w F D s) (hk : Keeps G w w') (hn : ∀ k, F k → ¬ G k) : ReIs w' F D s := by
  obtain ⟨A, c, h1, h2, h3⟩ := h
  exact ⟨A, c, h1.keeps hk (hn D h2) (fun ad e => hn _ (h3 ad e)), h2, h3⟩
theorem ReIs.below (h : ReIs w F D s) (hb : Below w.heap.size w w') : ReIs w' F D s := by
  obtain ⟨A, c, h1, h2, h3⟩ := h
  exact ⟨A, c, h1.keeps (Keeps.of_below (F := fun _ => False) hb) id (fun _ _ => id), h2, h3⟩
theorem ReAt.c0 (h : ReAt w D A c s) : w.cell? ⟨D, 0, none⟩ = some (.slice A s.left.length c) := (h.cells.cell 0).trans rfl
theorem ReAt.c1 (h : ReAt w D A c s) : w.cell? ⟨D, 1, none⟩ = some (.bool s.bad) := (h.cells.cell 1).trans rfl
theorem ReAt.fz (h : ReAt w D A c s) (i : Nat) : w.frozen? ⟨D, i, none⟩ = false := h.cells.frozen i
end
theorem Read_any (A : Option Addr) (n c : Nat) (w : World) (l : List UInt8) (hn : n ≤ 140737488355328) (hr : Rd w w.heap.size A n l) :
    Calls Try.prog 65 #[.slice A n c] w fun e w' => ∃ D, e = .returned (.pointer (some ⟨D, 0, none⟩)) ∧ ReIs w' (fun k => w.heap.size ≤ k) D { left := l, bad := false } ∧ Below w.heap.size w w' := by
  go_enter Try.func65, Try.ntmps65
  go_wp2_with fail
  refine (Clone_any A n c w l hn hr).mono ?_
  rintro e w1 ⟨v1, rfl, ho, hb⟩
  obtain ⟨A1, c1, rfl⟩ := ho.shape
  obtain ⟨_, hle, hc, had⟩ := ho.cap
  have HO := Lib.hid ho; have HB := Lib.hid hb; have HAD := Lib.hid had
  clear ho hb had hr
  go_wp2
  go_ret
  have hbn : ∀ o, Below w1.heap.size w1 (w1.alloc o) := fun o => (Below.refl _ w1).alloc (Nat.le_refl _) o
  refine ⟨w1.heap.size, rfl, ⟨A1, c1, ⟨Blk.new w1 _ _, (HO.out.rd.below (hbn _)).more (hbn _).size, hle, hc, fun ad e => ?_, fun ad e => by have := (HAD.out ad e).2.1; simp; omega⟩, HB.out.size, fun ad e => (HAD.out ad e).1⟩, HB.out.alloc HB.out.size _⟩
  have := (HAD.out ad e).2.1
  omega
theorem Rd.front {w : World} {B n k : Nat} {A : Option Addr} {l : List UInt8} (h : Rd w B A n l) (hk : k ≤ n) : Rd w B A k (l.take k) := by
  have hn := h.len
  refine ⟨by simp; omega, fun h0 => ?_⟩
  obtain ⟨ad, h1, h2, h3⟩ := h.2 (by omega)
  refine ⟨ad, h1, h2, fun j u hu => h3 j u ?_⟩
  rw [List.map_take, List.getElem?_take] at hu
  by_cases hj : j < k
  · rw [if_pos hj] at hu; exact hu
  · rw [if_neg hj] at hu; cases hu
theorem ReAt.took {w : World} {F : Nat → Prop} {D c k : Nat} {A A' : Option Addr} {s : RS} (h : ReAt w D A c s) (hk : k ≤ s.left.length) (hA : A' = if c = k then A else A.map (·.add k)) (h2 : F D) (h3 : ∀ ad, A = some ad → F ad.block) :
    Keeps F w (w.setCell ⟨D, 0, none⟩ (.slice A' (s.left.length - k) (c - k))) ∧ Rd (w.setCell ⟨D, 0, none⟩ (.slice A' (s.left.length - k) (c - k))) (w.setCell ⟨D, 0, none⟩ (.slice A' (s.left.length - k) (c - k))).heap.size A k (s.left.take k) ∧
      ReIs (w.setCell ⟨D, 0, none⟩ (.slice A' (s.left.length - k) (c - k))) F D { s with left := s.left.drop k } := by
  have hb : ∀ ad', A' = some ad' → ∃ ad, A = some ad ∧ ad'.block = ad.block := by
    intro ad' e
    rw [hA] at e
    split at e
    · exact ⟨ad', e, rfl⟩
    · cases hx : A with
      | none => rw [hx] at e; cases e
      | some ad => rw [hx] at e; injection e with e; exact ⟨ad, rfl, by rw [← e, block_of_add]⟩
  have hr := rd_cell h.rd ⟨D, 0, none⟩ (.slice A' (s.left.length - k) (c - k)) h.c0 (fun _ e => by cases e)
  have hsz : (w.setCell ⟨D, 0, none⟩ (.slice A' (s.left.length - k) (c - k))).heap.size = w.heap.size := by simp [World.setCell]
  refine ⟨(Keeps.refl F w).setCell (p := ⟨D, 0, none⟩) h2 _, by rw [hsz]; exact hr.front hk, A', c - k, ⟨?_, ?_, by simp only [List.length_drop]; have := h.cap; omega, by have := h.capLe; omega, fun ad' e => ?_, fun ad' e => by obtain ⟨ad, e1, e2⟩ := hb ad' e; rw [e2, hsz]; exact h.blk ad e1⟩, h2, fun ad' e => ?_⟩
  · have := h.cells.set_ 0 (.slice A' (s.left.length - k) (c - k))
    simp only [List.length_drop]
    exact this
  · have hcut := Reads.cut hr hk h.cap
    rw [hsz]
    simp only [Nat.mul_one] at hcut
    rw [← hA] at hcut
    simp only [List.length_drop]
    unfold Rd
    rw [List.map_drop]
    exact hcut
  · obtain ⟨ad, e1, e2⟩ := hb ad' e
    rw [e2]; exact h.apart ad e1
  · obtain ⟨ad, e1, e2⟩ := hb ad' e
    rw [e2]; exact h3 ad e1
theorem take_any (w : World) (F : Nat → Prop) (D : Nat) (A : Option Addr) (c : Nat) (s : RS) (k : Nat) (hk : k ≤ 65535) (h : ReAt w D A c s) (h2 : F D) (h3 : ∀ ad, A = some ad → F ad.block) :
    Calls Try.prog 90 #[.pointer (some ⟨D, 0, none⟩), .int .i64 k] w fun e w' => ∃ v, e = .returned v ∧ Keeps F w w' ∧
      (if s.bad = false ∧ k ≤ s.left.length then v = .slice A k k ∧ Rd w' w'.heap.size A k (s.left.take k) ∧ ReIs w' F D { s with left := s.left.drop k } else v = .slice none 0 0 ∧ ReIs w' F D { s with bad := true }) := by
  have c0 := h.c0
  have c1 := h.c1
  have f0 := h.fz 0
  have f1 := h.fz 1
  have hcap := h.cap
  have hcl := h.capLe
  have H := Lib.hid h
  clear h
  by_cases hb : s.bad = false
  · rw [hb] at c1
    by_cases hlen : k ≤ s.left.length
    · simp only [if_pos (show s.bad = false ∧ k ≤ s.left.length from ⟨hb, hlen⟩)]
      have hl' : ¬ ((k : Int) > (s.left.length : Int)) := by omega
      have HS := Lib.hid hb
      clear hb
      obtain ⟨m, hm⟩ : ∃ m, m = s.left.length := ⟨_, rfl⟩
      rw [← hm] at hlen hl' hcap c0
      have HM := Lib.hid hm; clear hm
      have HLEN := Lib.hid hlen
      by_cases hck : c = k
      · have key := H.out.took (k := k) (F := F) (A' := A) (by rw [← HM.out]; exact hlen) (by rw [if_pos hck]) h2 h3
        rw [← HM.out] at key
        have K := Lib.hid key
        clear key
        subst hck
        rw [Nat.sub_self, show m - c = 0 by omega] at K
        go_enter Try.func90, Try.ntmps90
        go_wp2
        go_ret
        exact ⟨_, rfl, K.out.1, rfl, K.out.2.1, K.out.2.2⟩
      · have key := H.out.took (k := k) (F := F) (A' := A.map (·.add k)) (by rw [← HM.out]; exact hlen) (by rw [if_neg hck]) h2 h3
        rw [← HM.out] at key
        have K := Lib.hid key
        clear key
        go_enter Try.func90, Try.ntmps90
        go_wp2
        go_ret
        exact ⟨_, rfl, K.out.1, rfl, K.out.2.1, K.out.2.2⟩
    · simp only [if_neg (show ¬ (s.bad = false ∧ k ≤ s.left.length) from fun e => hlen e.2)]
      have hl' : ((k : Int) > (s.left.length : Int)) := by omega
      have hkk : Keeps F w (w.setCell ⟨D, 1, none⟩ (.bool true)) := (Keeps.refl F w).setCell (p := ⟨D, 1, none⟩) h2 _
      have key : ReIs (w.setCell ⟨D, 1, none⟩ (.bool true)) F D { s with bad := true } := ⟨A, c, ⟨H.out.cells.set_ 1 _, rd_cell H.out.rd _ _ c1 (fun _ e => by cases e) |>.more (by simp [World.setCell]), H.out.cap, H.out.capLe, H.out.apart, fun ad e => by simp only [World.setCell, Array.size_modify]; exact H.out.blk ad e⟩, h2, h3⟩
      have K := Lib.hid key; have HK := Lib.hid hkk
      clear key hkk
      go_enter Try.func90, Try.ntmps90
      go_wp2
      go_ret
      exact ⟨_, rfl, HK.out, rfl, K.out⟩
  · simp only [if_neg (show ¬ (s.bad = false ∧ k ≤ s.left.length) from fun e => hb e.1)]
    have hb' : s.bad = true := by simpa using hb
    have hkk : Keeps F w (w.setCell ⟨D, 1, none⟩ (.bool true)) := (Keeps.refl F w).setCell (p := ⟨D, 1, none⟩) h2 _
    have key : ReIs (w.setCell ⟨D, 1, none⟩ (.bool true)) F D { s with bad := true } := ⟨A, c, ⟨H.out.cells.set_ 1 _, rd_cell H.out.rd _ _ c1 (fun _ e => by cases e) |>.more (by simp [World.setCell]), H.out.cap, H.out.capLe, H.out.apart, fun ad e => by simp only [World.setCell, Array.size_modify]; exact H.out.blk ad e⟩, h2, h3⟩
    have K := Lib.hid key; have HK := Lib.hid hkk
    rw [hb'] at c1
    clear key hkk hb hb'
    go_enter Try.func90, Try.ntmps90
    go_wp2
    go_ret
    exact ⟨_, rfl, HK.out, rfl, K.out⟩
/-- What Int answers, and what is left. -/
def i4 (l : List UInt8) : Int := (l.getD 0 0).toNat * 16777216 + (l.getD 1 0).toNat * 65536 + (l.getD 2 0).toNat * 256 + (l.getD 3 0).toNat - 2
def RS.int (s : RS) : Int × RS := if s.bad = false ∧ 4 ≤ s.left.length then (if (s.left.getD 0 0).toNat < 128 then (i4 s.left, { s with left := s.left.drop 4 }) else (0, { left := s.left.drop 4, bad := true })) else (0, { s with bad := true })
def RS.bytes (s : RS) : List UInt8 × RS :=
  if s.bad = false ∧ 2 ≤ s.left.length then
    (if (s.left.getD 0 0).toNat * 256 + (s.left.getD 1 0).toNat ≤ s.left.length - 2 then ((s.left.drop 2).take ((s.left.getD 0 0).toNat * 256 + (s.left.getD 1 0).toNat), { s with left := (s.left.drop 2).drop ((s.left.getD 0 0).toNat * 256 + (s.left.getD 1 0).toNat) }) else ([], { left := s.left.drop 2, bad := true }))
  else ([], { s with bad := true })
theorem ReIs.set_bad {w : World} {F : Nat → Prop} {D : Nat} {s : RS} (h : ReIs w F D s) : Keeps F w (w.setCell ⟨D, 1, none⟩ (.bool true)) ∧ ReIs (w.setCell ⟨D, 1, none⟩ (.bool true)) F D { s with bad := true } := by
  obtain ⟨A, c, h1, h2, h3⟩ := h
  exact ⟨(Keeps.refl F w).setCell (p := ⟨D, 1, none⟩) h2 _, ⟨A, c, ⟨h1.cells.set_ 1 _, rd_cell h1.rd _ _ h1.c1 (fun _ e => by cases e) |>.more (by simp [World.setCell]), h1.cap, h1.capLe, h1.apart, fun ad e => by simp only [World.setCell, Array.size_modify]; exact h1.blk ad e⟩, h2, h3⟩⟩
set_option maxRecDepth 100000 in
theorem RInt_any (w : World) (F : Nat → Prop) (D : Nat) (s : RS) (h : ReIs w F D s) :
    Calls Try.prog 66 #[.pointer (some ⟨D, 0, none⟩)] w fun e w' => e = .returned (.int .i64 s.int.1) ∧ ReIs w' F D s.int.2 ∧ Keeps F w w' := by
  obtain ⟨A, c, h1, h2, h3⟩ := h
  by_cases hok : s.bad = false ∧ 4 ≤ s.left.length
  · by_cases h128 : (s.left.getD 0 0).toNat < 128
    · have hint : s.int = (i4 s.left, { s with left := s.left.drop 4 }) := by unfold RS.int; rw [if_pos hok, if_pos h128]
      rw [hint]
      go_enter Try.func66, Try.ntmps66
      go_wp2_with fail
      refine (take_any w F D A c s 4 (by omega) h1 h2 h3).mono ?_
      simp only [if_pos hok]
      rintro e w1 ⟨v, rfl, hk, rfl, hr, hi⟩
      obtain ⟨ad, hA, _, _⟩ := hr.at_ (k := 0) (by omega)
      subst hA
      have hget : ∀ j, j < 4 → (s.left.take 4).getD j 0 = s.left.getD j 0 := fun j hj => by rw [List.getD_eq_getElem?_getD, List.getElem?_take, if_pos hj, List.getD_eq_getElem?_getD]
      have hcell : ∀ j, j < 4 → w1.cell? (ad.add j) = some (.int .u8 (s.left.getD j 0).toNat) := fun j hj => by
        obtain ⟨ad', e, _, h5⟩ := hr.at_ (k := j) hj
        injection e with e
        subst e
        rw [h5, hget j hj]
      have q0 : w1.cell? ad = some (.int .u8 (s.left.getD 0 0).toNat) := hcell 0 (by omega)
      have hadd : ∀ j, 0 < j → ad.add j = ⟨ad.block, ad.off + j, none⟩ := by
        intro j hj
        unfold Addr.add
        split
        · omega
        · rfl
      have q1 := hcell 1 (by omega)
      have q2 := hcell 2 (by omega)
      have q3 := hcell 3 (by omega)
      rw [hadd _ (by omega)] at q1 q2 q3
      clear hadd
      have hi4 : i4 s.left = (s.left.getD 0 0).toNat * 16777216 + (s.left.getD 1 0).toNat * 65536 + (s.left.getD 2 0).toNat * 256 + (s.left.getD 3 0).toNat - 2 := rfl
      have HI4 := Lib.hid hi4; have HK := Lib.hid hk; have HI := Lib.hid hi
      have he := run_some_slice w1 ad 4 4
      have l0 := (s.left.getD 0 0).toNat_lt
      have l1 := (s.left.getD 1 0).toNat_lt
      have l2 := (s.left.getD 2 0).toNat_lt
      have l3 := (s.left.getD 3 0).toNat_lt
      generalize (s.left.getD 0 0).toNat = x0 at *
      generalize (s.left.getD 1 0).toNat = x1 at *
      generalize (s.left.getD 2 0).toNat = x2 at *
      generalize (s.left.getD 3 0).toNat = x3 at *
      clear hcell hget hr hk hi hi4 hint
      go_wp2_with fail
      refine wp_region_q (by kernel_rfl) (by kernel_rfl) ?_
      repeat (first | go_big_quiet_skip | (go_big_quiet_want; go_big_quiet_op; first | go_big_quiet_on))
      refine wpQuiet_nil ?_
      go_wp2
      go_ret
      refine ⟨?_, HI.out.below ((Below.refl _ _).drew), HK.out.drew⟩
      rw [HI4.out]
      rfl
    · have hint : s.int = (0, { left := s.left.drop 4, bad := true }) := by unfold RS.int; rw [if_pos hok, if_neg h128]
      rw [hint]
      go_enter Try.func66, Try.ntmps66
      go_wp2_with fail
      refine (take_any w F D A c s 4 (by omega) h1 h2 h3).mono ?_
      simp only [if_pos hok]
      rintro e w1 ⟨v, rfl, hk, rfl, hr, hi⟩
      obtain ⟨ad, hA, _, q0⟩ := hr.at_ (k := 0) (by omega)
      subst hA
      have hget : (s.left.take 4).getD 0 0 = s.left.getD 0 0 := by rw [List.getD_eq_getElem?_getD, List.getElem?_take, if_pos (by omega), List.getD_eq_getElem?_getD]
      rw [hget] at q0
      replace q0 : w1.cell? ad = some (.int .u8 (s.left.getD 0 0).toNat) := q0
      have he := run_some_slice w1 ad 4 4
      have hsb := hi.set_bad
      obtain ⟨A3, c3, h4, _, _⟩ := hi
      have q1 := h4.c1
      have qf := h4.fz 1
      have HS := Lib.hid hsb; have HK := Lib.hid hk
      generalize (s.left.getD 0 0).toNat = x0 at *
      clear hget hr hk hsb hint h4
      go_wp2
      go_ret
      exact ⟨rfl, HS.out.2, HK.out.trans HS.out.1 (fun _ _ e => e)⟩
  · have hint : s.int = (0, { s with bad := true }) := by unfold RS.int; rw [if_neg hok]
    rw [hint]
    go_enter Try.func66, Try.ntmps66
    go_wp2_with fail
    refine (take_any w F D A c s 4 (by omega) h1 h2 h3).mono ?_
    simp only [if_neg hok]
    rintro e w1 ⟨v, rfl, hk, rfl, hi⟩
    have he := run_nil_slice w1 0
    have hsb := hi.set_bad
    obtain ⟨A3, c3, h4, _, _⟩ := hi
    have q1 := h4.c1
    have qf := h4.fz 1
    have HS := Lib.hid hsb; have HK := Lib.hid hk
    clear hk hsb hint h4
    go_wp2
    go_ret
    exact ⟨rfl, HS.out.2, HK.out.trans HS.out.1 (fun _ _ e => e)⟩
set_option maxRecDepth 100000 in
set_option maxHeartbeats 2000000 in
theorem RBytes_any (w : World) (F : Nat → Prop) (D : Nat) (s : RS) (h : ReIs w F D s) :
    Calls Try.prog 68 #[.pointer (some ⟨D, 0, none⟩)] w fun e w' => ∃ v, e = .returned v ∧ Fresh w' w.heap.size v s.bytes.1 ∧ ReIs w' F D s.bytes.2 ∧ Keeps F w w' := by
  obtain ⟨A, c, h1, h2, h3⟩ := h
  by_cases hok : s.bad = false ∧ 2 ≤ s.left.length
  · obtain ⟨k, hk⟩ : ∃ k, k = (s.left.getD 0 0).toNat * 256 + (s.left.getD 1 0).toNat := ⟨_, rfl⟩
    have l0 := (s.left.getD 0 0).toNat_lt
    have l1 := (s.left.getD 1 0).toNat_lt
    have hk6 : k ≤ 65535 := by omega
    have hbytes : s.bytes = if k ≤ s.left.length - 2 then ((s.left.drop 2).take k, { s with left := (s.left.drop 2).drop k }) else ([], { left := s.left.drop 2, bad := true }) := by
      unfold RS.bytes
      rw [if_pos hok, ← hk]
    have HBY := Lib.hid hbytes; clear hbytes
    go_enter Try.func68, Try.ntmps68
    go_wp2_with fail
    refine (take_any w F D A c s 2 (by omega) h1 h2 h3).mono ?_
    simp only [if_pos hok]
    rintro e w1 ⟨v, rfl, hkp, rfl, hr, hi⟩
    obtain ⟨ad, hA, _, _⟩ := hr.at_ (k := 0) (by omega)
    subst hA
    have hget : ∀ j, j < 2 → (s.left.take 2).getD j 0 = s.left.getD j 0 := fun j hj => by rw [List.getD_eq_getElem?_getD, List.getElem?_take, if_pos hj, List.getD_eq_getElem?_getD]
    have hcell : ∀ j, j < 2 → w1.cell? (ad.add j) = some (.int .u8 (s.left.getD j 0).toNat) := fun j hj => by
      obtain ⟨ad', e, _, h5⟩ := hr.at_ (k := j) hj
      injection e with e
      subst e
      rw [h5, hget j hj]
    have q0 : w1.cell? ad = some (.int .u8 (s.left.getD 0 0).toNat) := hcell 0 (by omega)
    have q1 := hcell 1 (by omega)
    rw [show ad.add 1 = ⟨ad.block, ad.off + 1, none⟩ by unfold Addr.add; split; omega; rfl] at q1
    have he := run_some_slice w1 ad 2 2
    generalize (s.left.getD 0 0).toNat = x0 at *
    generalize (s.left.getD 1 0).toNat = x1 at *
    have hk' : (x0 : Int) * 256 + (x1 : Int) = (k : Int) := by omega
    have HKP := Lib.hid hkp; have HI := Lib.hid hi; have HKK := Lib.hid hk'
    clear hcell hget hr hkp hi hk hk'
    go_wp2_with fail
    refine wp_region_qt 11 (by kernel_rfl) (by kernel_rfl) ?_
    simp only [List.take_succ_cons, List.take_zero, List.drop_succ_cons, List.drop_zero]
    repeat (first | go_big_quiet_skip | (go_big_quiet_want; go_big_quiet_op; first | go_big_quiet_on))
    refine wpQuiet_nil ?_
    go_wp2_with fail
    rw [HKK.out]
    obtain ⟨A3, c3, h4, _, h6⟩ := HI.out
    have h4' : ReAt w1.drew D A3 c3 { s with left := s.left.drop 2 } := h4.keeps (Keeps.of_below (F := fun _ => False) ((Below.refl _ _).drew)) id (fun _ _ => id)
    refine (take_any w1.drew F D A3 c3 { s with left := s.left.drop 2 } k hk6 h4' h2 h6).mono ?_
    by_cases hkl : k ≤ s.left.length - 2
    · have hok2 : ({ s with left := s.left.drop 2 } : RS).bad = false ∧ k ≤ ({ s with left := s.left.drop 2 } : RS).left.length := ⟨hok.1, by simp only [List.length_drop]; exact hkl⟩
      have hb : s.bytes = ((s.left.drop 2).take k, { s with left := (s.left.drop 2).drop k }) := by rw [HBY.out, if_pos hkl]
      have HBB := Lib.hid hb
      simp only [if_pos hok2]
      rintro e w2 ⟨v2, rfl, hkp2, rfl, hr2, hi2⟩
      obtain ⟨L, hL⟩ : ∃ L, L = (s.left.drop 2).take k := ⟨_, rfl⟩
      obtain ⟨S2, hS2⟩ : ∃ S2 : RS, S2 = { s with left := (s.left.drop 2).drop k } := ⟨_, rfl⟩
      have hr2' : Rd w2 w2.heap.size A3 k L := by rw [hL]; exact hr2
      have hi2' : ReIs w2 F D S2 := by rw [hS2]; exact hi2
      rw [← hL, ← hS2] at HBB
      have HR2 := Lib.hid hr2'; have HI2 := Lib.hid hi2'; have HK2 := Lib.hid hkp2
      clear hr2 hi2 hkp2 hb hok2 h4 h4' hr2' hi2' hL hS2
      go_wp2_with fail
      refine (Clone_any A3 k k w2 _ (by omega) HR2.out).mono ?_
      rintro e w3 ⟨v3, rfl, ho, hb3⟩
      obtain ⟨A4, c4, rfl⟩ := ho.shape
      obtain ⟨_, hle, _, had⟩ := ho.cap
      have HO := Lib.hid ho; have HB := Lib.hid hb3; have HAD := Lib.hid had
      clear ho hb3 had
      go_wp2_with (go_at_call 91; refine (Clip_any _ _ _ _ hle).mono ?_; rintro e w4 ⟨rfl, rfl⟩)
      go_ret
      rw [HBB.out]
      dsimp only
      have hs1 := HKP.out.size
      have hs2 := HK2.out.size
      have hfr := HO.out.rd
      refine ⟨_, rfl, ⟨A4, _, rfl, hfr, fun ad e => Nat.le_trans (Nat.le_trans hs1 hs2) (HAD.out ad e).1⟩, HI2.out.below HB.out, ?_⟩
      exact (HKP.out.drew.trans HK2.out (fun _ _ e => e)).trans (Keeps.of_below (F := F) HB.out) (fun _ _ e => e)
    · have hok2 : ¬ (({ s with left := s.left.drop 2 } : RS).bad = false ∧ k ≤ ({ s with left := s.left.drop 2 } : RS).left.length) := fun e => hkl (by have := e.2; simp only [List.length_drop] at this; exact this)
      have hb : s.bytes = ([], { left := s.left.drop 2, bad := true }) := by rw [HBY.out, if_neg hkl]
      have HBB := Lib.hid hb
      simp only [if_neg hok2]
      rintro e w2 ⟨v2, rfl, hkp2, rfl, hi2⟩
      have HI2 := Lib.hid hi2; have HK2 := Lib.hid hkp2
      clear hi2 hkp2 hb hok2 h4 h4'
      go_wp2_with fail
      refine (Clone_any none 0 0 w2 [] (by omega) Rd.nil_).mono ?_
      rintro e w3 ⟨v3, rfl, ho, hb3⟩
      obtain ⟨A4, c4, rfl⟩ := ho.shape
      obtain ⟨_, hle, _, had⟩ := ho.cap
      have HO := Lib.hid ho; have HB := Lib.hid hb3; have HAD := Lib.hid had
      clear ho hb3 had
      go_wp2_with (go_at_call 91; refine (Clip_any _ _ _ _ hle).mono ?_; rintro e w4 ⟨rfl, rfl⟩)
      go_ret
      rw [HBB.out]
      dsimp only
      have hs1 := HKP.out.size
      have hs2 := HK2.out.size
      have hfr := HO.out.rd
      refine ⟨_, rfl, ⟨A4, _, rfl, hfr, fun ad e => Nat.le_trans (Nat.le_trans hs1 hs2) (HAD.out ad e).1⟩, HI2.out.below HB.out, ?_⟩
      exact (HKP.out.drew.trans HK2.out (fun _ _ e => e)).trans (Keeps.of_below (F := F) HB.out) (fun _ _ e => e)
  · have hbytes : s.bytes = ([], { s with bad := true }) := by unfold RS.bytes; rw [if_neg hok]
    rw [hbytes]
    go_enter Try.func68, Try.ntmps68
    go_wp2_with fail
    refine (take_any w F D A c s 2 (by omega) h1 h2 h3).mono ?_
    simp only [if_neg hok]
    rintro e w1 ⟨v, rfl, hkp, rfl, hi⟩
    have he := run_nil_slice w1 0
    have HKP := Lib.hid hkp; have HI := Lib.hid hi
    clear hkp hi hbytes
    go_wp2
    go_ret
    exact ⟨_, rfl, Fresh.nil_ _ _, HI.out, HKP.out⟩
theorem Done_any (w : World) (F : Nat → Prop) (D : Nat) (s : RS) (h : ReIs w F D s) :
    Calls Try.prog 70 #[.pointer (some ⟨D, 0, none⟩)] w fun e w' => e = .returned (.bool (!s.bad && decide (s.left.length = 0))) ∧ w' = w := by
  obtain ⟨A, c, h1, h2, h3⟩ := h
  have c0 := h1.c0
  have c1 := h1.c1
  clear h1
  obtain ⟨left, bad⟩ := s
  simp only at c0 c1 ⊢
  generalize left.length = m at *
  cases bad
  · by_cases hm : m = 0
    · subst hm
      go_enter Try.func70, Try.ntmps70
      go_wp2
      go_ret
      exact ⟨rfl, rfl⟩
    · have hm' : ¬ (m : Int) = 0 := by omega
      have hd : decide (m = 0) = false := by simp [hm]
      have hq : ((m : Int) == 0) = false := by simp; omega
      have HQ := Lib.hid hq
      rw [hd]
      clear hq
      go_enter Try.func70, Try.ntmps70
      go_wp2
      go_ret
      refine ⟨?_, rfl⟩
      show Ending.returned (.bool ((m : Int) == 0)) = _
      rw [HQ.out]
      rfl
  · go_enter Try.func70, Try.ntmps70
    go_wp2
    go_ret
    exact ⟨rfl, rfl⟩
end Go.Proofs.Ytlabebapjhhkaaa
namespace Go.Proofs.Ytlabebapjhhkaaa
open Go.RowKit
structure BkAt (w : World) (D : Nat) (v : Value) (s : WS) : Prop where
  cells : Blk w D 92 #[v, .bool s.bad]
  own : Own w 0 v s.out
  apart : ∀ k, v.ownBlock = some k → k ≠ D
def BkIs (w : World) (F : Nat → Prop) (D : Nat) (s : WS) : Prop := ∃ v, BkAt w D v s ∧ F D ∧ ∀ k, v.ownBlock = some k → F k
section
variable {w w' : World} {D : Nat} {v : Value} {s : WS} {F G : Nat → Prop}
theorem BkAt.keeps (h : BkAt w D v s) (hk : Keeps G w w') (hD : ¬ G D) (hv : ∀ k, v.ownBlock = some k → ¬ G k) : BkAt w' D v s := ⟨h.cells.keeps hk hD, h.own.keeps hk hv, h.apart⟩
theorem BkIs.keeps (h : BkIs w F D s) (hk : Keeps G w w') (hn : ∀ k, F k → ¬ G k) : BkIs w' F D s := by
  obtain ⟨v, h1, h2, h3⟩ := h
  exact ⟨v, h1.keeps hk (hn D h2) (fun k e => hn k (h3 k e)), h2, h3⟩
theorem BkIs.below (h : BkIs w F D s) (hb : Below w.heap.size w w') : BkIs w' F D s := by
  obtain ⟨v, h1, h2, h3⟩ := h
  exact ⟨v, h1.keeps (Keeps.of_below (F := fun _ => False) hb) id (fun _ _ => id), h2, h3⟩
theorem BkIs.weaken (h : BkIs w F D s) (hn : ∀ k, F k → G k) : BkIs w G D s := by
  obtain ⟨v, h1, h2, h3⟩ := h
  exact ⟨v, h1, hn D h2, fun k e => hn k (h3 k e)⟩
theorem BkAt.c0 (h : BkAt w D v s) : w.cell? ⟨D, 0, none⟩ = some v := (h.cells.cell 0).trans rfl
theorem BkAt.c1 (h : BkAt w D v s) : w.cell? ⟨D, 1, none⟩ = some (.bool s.bad) := (h.cells.cell 1).trans rfl
theorem BkAt.fz (h : BkAt w D v s) (i : Nat) : w.frozen? ⟨D, i, none⟩ = false := h.cells.frozen i
theorem BkAt.set_bad (h : BkAt w D v s) : BkAt (w.setCell ⟨D, 1, none⟩ (.bool true)) D v { s with bad := true } := by
  have hk : Keeps (fun k => k = D) w (w.setCell ⟨D, 1, none⟩ (.bool true)) := (Keeps.refl (fun k => k = D) w).setCell (p := ⟨D, 1, none⟩) rfl _
  exact ⟨h.cells.set_ 1 (.bool true), h.own.keeps hk h.apart, h.apart⟩
/-- The row is another one: what was put, and more. -/
theorem BkAt.grow (h : BkAt w D v s) {wA : World} {v' : Value} {l : List UInt8} {W1 : World} (hb : Below w.heap.size w W1) (hown : Own wA 0 v' (s.out ++ l)) (hg : W1.grownBy wA v.ownBlock) (hat : v'.ownBlock = v.ownBlock ∨ v'.ownBlock = some W1.heap.size) :
    BkAt (wA.setCell ⟨D, 0, none⟩ v') D v' { s with out := s.out ++ l } := by
  have hDl := h.cells.lt
  have hap : ∀ k, v'.ownBlock = some k → k ≠ D := by
    intro k e
    rcases hat with e2 | e2
    · exact h.apart k (e2.symm.trans e)
    · rw [e2] at e; injection e with e; have := hb.size; omega
  have hk : Keeps (fun k => k = D) wA (wA.setCell ⟨D, 0, none⟩ v') := (Keeps.refl (fun k => k = D) wA).setCell (p := ⟨D, 0, none⟩) rfl _
  have hc1 := (h.cells.below hb hDl)
  have hc2 : Blk wA D 92 #[v, .bool s.bad] := hc1.grown hg (fun e => h.apart D e.symm rfl)
  exact ⟨hc2.set_ 0 v', hown.keeps hk hap, hap⟩
/-- Both cells are set: the row with more, and whether something could not be put. -/
theorem BkAt.done2 (h : BkAt w D v s) (h2 : F D) (h3 : ∀ k, v.ownBlock = some k → F k) {wA W1 : World} {v' : Value} {l : List UInt8} (b : Bool) (hb : Below w.heap.size w W1) (hown : Own wA 0 v' (s.out ++ l)) (hg : W1.grownBy wA v.ownBlock) (hat : v'.ownBlock = v.ownBlock ∨ v'.ownBlock = some W1.heap.size) :
    BkIs ((wA.setCell ⟨D, 0, none⟩ v').setCell ⟨D, 1, none⟩ (.bool b)) (Grown F w) D { out := s.out ++ l, bad := b } ∧ Keeps F w ((wA.setCell ⟨D, 0, none⟩ v').setCell ⟨D, 1, none⟩ (.bool b)) := by
  have h4 := h.grow hb hown hg hat
  have hk : Keeps (fun k => k = D) (wA.setCell ⟨D, 0, none⟩ v') ((wA.setCell ⟨D, 0, none⟩ v').setCell ⟨D, 1, none⟩ (.bool b)) := (Keeps.refl (fun k => k = D) _).setCell (p := ⟨D, 1, none⟩) rfl _
  have h5 : BkAt ((wA.setCell ⟨D, 0, none⟩ v').setCell ⟨D, 1, none⟩ (.bool b)) D v' { out := s.out ++ l, bad := b } := ⟨h4.cells.set_ 1 (.bool b), h4.own.keeps hk h4.apart, h4.apart⟩
  refine ⟨⟨v', h5, Or.inl h2, fun k e => ?_⟩, (((Keeps.of_below hb).grown hg (fun k e => Or.inr (h3 k e))).setCell (p := ⟨D, 0, none⟩) h2 _).setCell (p := ⟨D, 1, none⟩) h2 _⟩
  rcases hat with e2 | e2
  · exact Or.inl (h3 k (e2.symm.trans e))
  · rw [e2] at e; injection e with e; exact Or.inr (by have := hb.size; omega)
theorem BkAt.done (h : BkAt w D v s) (h2 : F D) (h3 : ∀ k, v.ownBlock = some k → F k) {wA W1 : World} {v' : Value} {l : List UInt8} (hb : Below w.heap.size w W1) (hown : Own wA 0 v' (s.out ++ l)) (hg : W1.grownBy wA v.ownBlock) (hat : v'.ownBlock = v.ownBlock ∨ v'.ownBlock = some W1.heap.size) :
    BkIs (wA.setCell ⟨D, 0, none⟩ v') (Grown F w) D { s with out := s.out ++ l } ∧ Keeps F w (wA.setCell ⟨D, 0, none⟩ v') := by
  refine ⟨⟨v', h.grow hb hown hg hat, Or.inl h2, fun k e => ?_⟩, ((Keeps.of_below hb).grown hg (fun k e => Or.inr (h3 k e))).setCell (p := ⟨D, 0, none⟩) h2 _⟩
  rcases hat with e2 | e2
  · exact Or.inl (h3 k (e2.symm.trans e))
  · rw [e2] at e; injection e with e; exact Or.inr (by have := hb.size; omega)
end
/-- ref.Bytes: the bytes with their number, if they have one. -/
theorem RefBytes_any (w : World) (A : Option Addr) (n c : Nat) (l : List UInt8) (hn : n ≤ 140737488351232) (hr : Rd w w.heap.size A n l) :
    Calls Try.prog 103 #[.slice A n c] w fun e w' => ∃ v, e = .returned (.tuple #[v, .bool (decide (l.length ≤ 65535))]) ∧ Own w' w.heap.size v (if l.length ≤ 65535 then b2 l.length ++ l else []) ∧ Below w.heap.size w w' := by
  have hl := hr.len
  by_cases h6 : n ≤ 65535
  · have hd : decide (l.length ≤ 65535) = true := by simp; omega
    rw [hd]
    simp only [if_pos (show l.length ≤ 65535 by omega)]
    have hB2 := Lib.hid (b2_cells n h6)
    have HL := Lib.hid hl
    have h6' : ¬ (n : Int) > 65535 := by omega
    clear hd hl
    go_enter Try.func103, Try.ntmps103
    go_wp2_with (at_builtin; refine app_bytes rfl (.tmp 15) (.tmp 16) rfl w.heap.size (.slice (some ⟨w.heap.size, 0, none⟩) 2 2) (b2 n) rfl (Own.new_ w w.heap.size (Nat.le_refl _) (b2 n) (by simp [b2]) _ hB2.out) w.heap.size A n c l rfl (hr.alloc (Nat.le_refl _) _) (by simp [b2]; omega) (by simp) ?_; intro v1 w1 hown1 hg1 hat1)
    have hb1 : Below w.heap.size w w1 := below_app ((Below.refl w.heap.size w).alloc (Nat.le_refl _) _) (Own.new_ w w.heap.size (Nat.le_refl _) (b2 n) (by simp [b2]) _ hB2.out) (by simp) hg1
    go_ret2
    rw [← HL.out]
    exact ⟨_, rfl, hown1, hb1⟩
  · have hd : decide (l.length ≤ 65535) = false := by simp; omega
    rw [hd]
    simp only [if_neg (show ¬ l.length ≤ 65535 by omega)]
    have h6' : (n : Int) > 65535 := by omega
    clear hd hl
    go_enter Try.func103, Try.ntmps103
    go_wp2
    go_ret2
    exact ⟨_, rfl, Own.nil_ _ _, Below.refl _ _⟩
end Go.Proofs.Ytlabebapjhhkaaa
namespace Go.Proofs.Ytlabebapjhhkaaa
open Go.RowKit
theorem grown_chain {F : Nat → Prop} {w w1 : World} {k : Nat} (h : w.heap.size ≤ w1.heap.size) (e : Grown F w1 k) : Grown F w k := by
  rcases e with e | e
  · exact Or.inl e
  · exact Or.inr (Nat.le_trans h e)
set_option maxRecDepth 100000 in
set_option maxHeartbeats 1000000 in
theorem Lay_any (w : World) (F : Nat → Prop) (D : Nat) (s : WS) (A : Option Addr) (n c : Nat) (l : List UInt8) (h : BkIs w F D s) (hn : n ≤ 140737488351232) (hr : Rd w w.heap.size A n l) (hs : s.out.length + 65537 ≤ 140737488355328) :
    Calls Try.prog 87 #[.pointer (some ⟨D, 0, none⟩), .slice A n c] w fun e w' => e = .returned (.tuple #[]) ∧ BkIs w' (Grown F w) D (s.bytes l) ∧ Keeps F w w' := by
  obtain ⟨v, hB, h2, h3⟩ := h
  have hbytes : s.bytes l = { out := s.out ++ (if l.length ≤ 65535 then b2 l.length ++ l else []), bad := s.bad || !(decide (l.length ≤ 65535)) } := by
    unfold WS.bytes
    by_cases hl : l.length ≤ 65535
    · simp [hl]
    · simp [hl]
  have hXl : (if l.length ≤ 65535 then b2 l.length ++ l else []).length ≤ 65537 := by
    split
    · simp [b2]; omega
    · simp
  have HBY := Lib.hid hbytes; have HXL := Lib.hid hXl; have HSS := Lib.hid hs
  clear hbytes hXl hs
  go_enter Try.func87, Try.ntmps87
  go_wp2_with fail
  refine (RefBytes_any w A n c l hn hr).mono ?_
  rintro e w1 ⟨v1, rfl, ho1, hb1⟩
  generalize (if l.length ≤ 65535 then b2 l.length ++ l else []) = X at ho1 HXL HBY
  generalize decide (l.length ≤ 65535) = ok at HBY ⊢
  obtain ⟨A1, c1, rfl⟩ := ho1.shape
  have hB1 : BkAt w1 D v s := hB.keeps (Keeps.of_below (F := fun _ => False) hb1) id (fun _ _ => id)
  obtain ⟨Av, cv, hv⟩ := hB1.own.shape
  subst hv
  have q0 := hB1.c0
  have f0 := hB1.fz 0
  have q1 := hB1.c1
  have f1 := hB1.fz 1
  have hS : s.out.length + X.length ≤ 140737488355328 := by have := HXL.out; have := HSS.out; omega
  have HB := Lib.hid hB1; have HX := Lib.hid ho1.rd; have HS := Lib.hid hS; have HW := Lib.hid hb1
  clear hB hB1 ho1 hb1 hS hr
  cases hbb : s.bad
  · rw [hbb] at q1 HBY
    have HBB := Lib.hid hbb; clear hbb
    cases ok
    · have HEQ := Lib.hid (show s.bytes l = { out := s.out ++ X, bad := true } from HBY.out)
      go_wp2_with fail
      refine wp_region_anyDN (fun W => W.cell? ⟨D, 1, none⟩ = some (.bool false)) 21 (by kernel_rfl) ?_
      refine anyD_takes (by kernel_rfl) (fun _ _ _ _ _ h => h) [0, 1, 2, 3, 4, 6, 8, 9, 10, 11] 12 _ _ (by kernel_rfl) ?_
      simp only [List.filterMap_cons, List.filterMap_nil, List.getElem?_toArray, List.getElem?_cons_succ, List.getElem?_cons_zero]
      show wpQuiet _ _ _ _ (_ :: _ :: _ :: _ :: _ :: _ :: _ :: _ :: _ :: _ :: List.nil) _
      repeat (first | go_big_quiet_skip | (go_big_quiet_want; first | (refine quiet_load 4 (.tmp 21) rfl ⟨D, 1, none⟩ rfl _ (fun W hW => hW) (fun _ => by kernel_rfl) ?_; simp only [Act.put, List.setIfInBounds_toArray, List.set_cons_succ, List.set_cons_zero]; go_big_quiet_on) | (go_big_quiet_op; first | go_big_quiet_on | (refine ⟨_, fun _ _ => rfl, ?_⟩; go_big_quiet_on))))
      refine wpQuiet_nil ?_
      refine anyD_only (i := 5) rfl (by kernel_rfl) q1 ?_
      go_wp2_with fail
      refine anyD_only (i := 7) rfl (by kernel_rfl) q1 ?_
      refine app_bytes rfl (.tmp 16) (.tmp 17) rfl 0 (.slice Av s.out.length cv) s.out rfl HB.out.own.drew w1.heap.size A1 X.length c1 X rfl HX.out.drew (by have := HS.out; omega) (Nat.zero_le _) ?_
      intro v2 w2 hown2 hg2 hat2
      have hkr := hg2.block D HB.out.cells.lt (fun e => HB.out.apart D e.symm rfl)
      have q02 := (World.cell?_of_block (a := ⟨D, 0, none⟩) hkr).trans q0
      have f02 := (World.frozen?_of_block (a := ⟨D, 0, none⟩) hkr).trans f0
      have q12 := (World.cell?_of_block (a := ⟨D, 1, none⟩) hkr).trans q1
      have f12 := (World.frozen?_of_block (a := ⟨D, 1, none⟩) hkr).trans f1
      obtain ⟨A2, c2, hv2⟩ := hown2.shape
      obtain ⟨n2, hn2⟩ : ∃ n2, n2 = (s.out ++ X).length := ⟨_, rfl⟩
      rw [← hn2] at hv2
      subst hv2
      clear hn2
      have HD := Lib.hid (fun (b : Bool) => HB.out.done2 h2 h3 b ((Below.refl _ _).drew) hown2 hg2 hat2)
      clear hkr hown2 hg2 hat2
      simp only [List.getElem_toArray, List.getElem_cons_succ, List.getElem_cons_zero, Act.put, List.setIfInBounds_toArray, List.set_cons_succ, List.set_cons_zero]
      go_wp2_with fail
      refine anyD_takes (by kernel_rfl) (fun _ _ _ _ _ h => h) [12, 13, 14, 15, 16, 17] 4 _ _ (by kernel_rfl) ?_
      simp only [List.filterMap_cons, List.filterMap_nil, List.getElem?_toArray, List.getElem?_cons_succ, List.getElem?_cons_zero]
      show wpQuiet _ _ _ _ (_ :: _ :: _ :: _ :: _ :: _ :: List.nil) _
      repeat (first | go_big_quiet_skip | (go_big_quiet_want; first | (fail; simp only [Act.put, List.setIfInBounds_toArray, List.set_cons_succ, List.set_cons_zero]; go_big_quiet_on) | (go_big_quiet_op; first | go_big_quiet_on | (refine ⟨_, fun _ _ => rfl, ?_⟩; go_big_quiet_on))))
      refine wpQuiet_nil ?_
      refine anyD_only (i := 18) rfl (by kernel_rfl) q12 ?_
      go_wp2_with fail
      have q13 : (w2.setCell ⟨D, 0, none⟩ (.slice A2 n2 c2)).cell? ⟨D, 1, none⟩ = some (.bool false) := (World.cell?_setCell_other w2 ⟨D, 0, none⟩ ⟨D, 1, none⟩ _ (by intro e; injection e with _ e2 _; cases e2)).trans q12
      refine anyD_only (i := 19) rfl (by kernel_rfl) q13 ?_
      go_wp2_with fail
      refine anyD_only (i := 20) rfl (by kernel_rfl) q13 ?_
      go_wp2_with fail
      refine anyD_only (i := 21) rfl (by kernel_rfl) q13 ?_
      go_wp2_with fail
      refine anyD_end (by kernel_rfl) (by kernel_rfl) ?_
      go_end0
      have hd := HD.out true
      have hsz := HW.out.size
      rw [HEQ.out]
      exact ⟨rfl, hd.1.weaken (fun k e => grown_chain hsz e), (Keeps.of_below (F := F) HW.out).trans hd.2 (fun _ _ e => e)⟩
    · have HEQ := Lib.hid (show s.bytes l = { out := s.out ++ X, bad := false } from HBY.out)
      go_wp2_with fail
      refine wp_region_anyDN (fun W => W.cell? ⟨D, 1, none⟩ = some (.bool false)) 21 (by kernel_rfl) ?_
      refine anyD_takes (by kernel_rfl) (fun _ _ _ _ _ h => h) [0, 1, 2, 3, 4, 6, 8, 9, 10, 11] 12 _ _ (by kernel_rfl) ?_
      simp only [List.filterMap_cons, List.filterMap_nil, List.getElem?_toArray, List.getElem?_cons_succ, List.getElem?_cons_zero]
      show wpQuiet _ _ _ _ (_ :: _ :: _ :: _ :: _ :: _ :: _ :: _ :: _ :: _ :: List.nil) _
      repeat (first | go_big_quiet_skip | (go_big_quiet_want; first | (refine quiet_load 4 (.tmp 21) rfl ⟨D, 1, none⟩ rfl _ (fun W hW => hW) (fun _ => by kernel_rfl) ?_; simp only [Act.put, List.setIfInBounds_toArray, List.set_cons_succ, List.set_cons_zero]; go_big_quiet_on) | (go_big_quiet_op; first | go_big_quiet_on | (refine ⟨_, fun _ _ => rfl, ?_⟩; go_big_quiet_on))))
      refine wpQuiet_nil ?_
      refine anyD_only (i := 5) rfl (by kernel_rfl) q1 ?_
      go_wp2_with fail
      refine anyD_only (i := 7) rfl (by kernel_rfl) q1 ?_
      refine app_bytes rfl (.tmp 16) (.tmp 17) rfl 0 (.slice Av s.out.length cv) s.out rfl HB.out.own.drew w1.heap.size A1 X.length c1 X rfl HX.out.drew (by have := HS.out; omega) (Nat.zero_le _) ?_
      intro v2 w2 hown2 hg2 hat2
      have hkr := hg2.block D HB.out.cells.lt (fun e => HB.out.apart D e.symm rfl)
      have q02 := (World.cell?_of_block (a := ⟨D, 0, none⟩) hkr).trans q0
      have f02 := (World.frozen?_of_block (a := ⟨D, 0, none⟩) hkr).trans f0
      have q12 := (World.cell?_of_block (a := ⟨D, 1, none⟩) hkr).trans q1
      have f12 := (World.frozen?_of_block (a := ⟨D, 1, none⟩) hkr).trans f1
      obtain ⟨A2, c2, hv2⟩ := hown2.shape
      obtain ⟨n2, hn2⟩ : ∃ n2, n2 = (s.out ++ X).length := ⟨_, rfl⟩
      rw [← hn2] at hv2
      subst hv2
      clear hn2
      have HD := Lib.hid (fun (b : Bool) => HB.out.done2 h2 h3 b ((Below.refl _ _).drew) hown2 hg2 hat2)
      clear hkr hown2 hg2 hat2
      simp only [List.getElem_toArray, List.getElem_cons_succ, List.getElem_cons_zero, Act.put, List.setIfInBounds_toArray, List.set_cons_succ, List.set_cons_zero]
      go_wp2_with fail
      refine anyD_takes (by kernel_rfl) (fun _ _ _ _ _ h => h) [12, 13, 14, 15, 16, 17] 4 _ _ (by kernel_rfl) ?_
      simp only [List.filterMap_cons, List.filterMap_nil, List.getElem?_toArray, List.getElem?_cons_succ, List.getElem?_cons_zero]
      show wpQuiet _ _ _ _ (_ :: _ :: _ :: _ :: _ :: _ :: List.nil) _
      repeat (first | go_big_quiet_skip | (go_big_quiet_want; first | (fail; simp only [Act.put, List.setIfInBounds_toArray, List.set_cons_succ, List.set_cons_zero]; go_big_quiet_on) | (go_big_quiet_op; first | go_big_quiet_on | (refine ⟨_, fun _ _ => rfl, ?_⟩; go_big_quiet_on))))
      refine wpQuiet_nil ?_
      refine anyD_only (i := 18) rfl (by kernel_rfl) q12 ?_
      go_wp2_with fail
      have q13 : (w2.setCell ⟨D, 0, none⟩ (.slice A2 n2 c2)).cell? ⟨D, 1, none⟩ = some (.bool false) := (World.cell?_setCell_other w2 ⟨D, 0, none⟩ ⟨D, 1, none⟩ _ (by intro e; injection e with _ e2 _; cases e2)).trans q12
      refine anyD_only (i := 19) rfl (by kernel_rfl) q13 ?_
      go_wp2_with fail
      refine anyD_only (i := 20) rfl (by kernel_rfl) q13 ?_
      go_wp2_with fail
      refine anyD_only (i := 21) rfl (by kernel_rfl) q13 ?_
      go_wp2_with fail
      refine anyD_end (by kernel_rfl) (by kernel_rfl) ?_
      go_end0
      have hd := HD.out false
      have hsz := HW.out.size
      rw [HEQ.out]
      exact ⟨rfl, hd.1.weaken (fun k e => grown_chain hsz e), (Keeps.of_below (F := F) HW.out).trans hd.2 (fun _ _ e => e)⟩
  · rw [hbb] at q1 HBY
    have HBB := Lib.hid hbb; clear hbb
    have HEQ := Lib.hid (show s.bytes l = { out := s.out ++ X, bad := true } from by rw [HBY.out]; simp)
    go_wp2_with fail
    refine wp_region_anyDN (fun W => W.cell? ⟨D, 1, none⟩ = some (.bool true)) 21 (by kernel_rfl) ?_
    refine anyD_takes (by kernel_rfl) (fun _ _ _ _ _ h => h) [0, 1, 2, 3, 4, 6, 8, 9, 10, 11] 12 _ _ (by kernel_rfl) ?_
    simp only [List.filterMap_cons, List.filterMap_nil, List.getElem?_toArray, List.getElem?_cons_succ, List.getElem?_cons_zero]
    show wpQuiet _ _ _ _ (_ :: _ :: _ :: _ :: _ :: _ :: _ :: _ :: _ :: _ :: List.nil) _
    repeat (first | go_big_quiet_skip | (go_big_quiet_want; first | (refine quiet_load 4 (.tmp 21) rfl ⟨D, 1, none⟩ rfl _ (fun W hW => hW) (fun _ => by kernel_rfl) ?_; simp only [Act.put, List.setIfInBounds_toArray, List.set_cons_succ, List.set_cons_zero]; go_big_quiet_on) | (go_big_quiet_op; first | go_big_quiet_on | (refine ⟨_, fun _ _ => rfl, ?_⟩; go_big_quiet_on))))
    refine wpQuiet_nil ?_
    refine anyD_only (i := 5) rfl (by kernel_rfl) q1 ?_
    go_wp2_with fail
    refine anyD_only (i := 7) rfl (by kernel_rfl) q1 ?_
    refine app_bytes rfl (.tmp 16) (.tmp 17) rfl 0 (.slice Av s.out.length cv) s.out rfl HB.out.own.drew w1.heap.size A1 X.length c1 X rfl HX.out.drew (by have := HS.out; omega) (Nat.zero_le _) ?_
    intro v2 w2 hown2 hg2 hat2
    have hkr := hg2.block D HB.out.cells.lt (fun e => HB.out.apart D e.symm rfl)
    have q02 := (World.cell?_of_block (a := ⟨D, 0, none⟩) hkr).trans q0
    have f02 := (World.frozen?_of_block (a := ⟨D, 0, none⟩) hkr).trans f0
    have q12 := (World.cell?_of_block (a := ⟨D, 1, none⟩) hkr).trans q1
    have f12 := (World.frozen?_of_block (a := ⟨D, 1, none⟩) hkr).trans f1
    obtain ⟨A2, c2, hv2⟩ := hown2.shape
    obtain ⟨n2, hn2⟩ : ∃ n2, n2 = (s.out ++ X).length := ⟨_, rfl⟩
    rw [← hn2] at hv2
    subst hv2
    clear hn2
    have HD := Lib.hid (fun (b : Bool) => HB.out.done2 h2 h3 b ((Below.refl _ _).drew) hown2 hg2 hat2)
    clear hkr hown2 hg2 hat2
    simp only [List.getElem_toArray, List.getElem_cons_succ, List.getElem_cons_zero, Act.put, List.setIfInBounds_toArray, List.set_cons_succ, List.set_cons_zero]
    go_wp2_with fail
    refine anyD_takes (by kernel_rfl) (fun _ _ _ _ _ h => h) [12, 13, 14, 15, 16, 17] 4 _ _ (by kernel_rfl) ?_
    simp only [List.filterMap_cons, List.filterMap_nil, List.getElem?_toArray, List.getElem?_cons_succ, List.getElem?_cons_zero]
    show wpQuiet _ _ _ _ (_ :: _ :: _ :: _ :: _ :: _ :: List.nil) _
    repeat (first | go_big_quiet_skip | (go_big_quiet_want; first | (fail; simp only [Act.put, List.setIfInBounds_toArray, List.set_cons_succ, List.set_cons_zero]; go_big_quiet_on) | (go_big_quiet_op; first | go_big_quiet_on | (refine ⟨_, fun _ _ => rfl, ?_⟩; go_big_quiet_on))))
    refine wpQuiet_nil ?_
    refine anyD_only (i := 18) rfl (by kernel_rfl) q12 ?_
    go_wp2_with fail
    have q13 : (w2.setCell ⟨D, 0, none⟩ (.slice A2 n2 c2)).cell? ⟨D, 1, none⟩ = some (.bool true) := (World.cell?_setCell_other w2 ⟨D, 0, none⟩ ⟨D, 1, none⟩ _ (by intro e; injection e with _ e2 _; cases e2)).trans q12
    refine anyD_only (i := 19) rfl (by kernel_rfl) q13 ?_
    go_wp2_with fail
    refine anyD_only (i := 20) rfl (by kernel_rfl) q13 ?_
    go_wp2_with fail
    refine anyD_only (i := 21) rfl (by kernel_rfl) q13 ?_
    go_wp2_with fail
    refine anyD_end (by kernel_rfl) (by kernel_rfl) ?_
    go_end0
    have hd := HD.out true
    have hsz := HW.out.size
    rw [HEQ.out]
    exact ⟨rfl, hd.1.weaken (fun k e => grown_chain hsz e), (Keeps.of_below (F := F) HW.out).trans hd.2 (fun _ _ e => e)⟩
end Go.Proofs.Ytlabebapjhhkaaa
namespace Go.Proofs.Ytlabebapjhhkaaa
open Go.RowKit
theorem grown_chain2 {F : Nat → Prop} {w w1 : World} {k : Nat} (h : w.heap.size ≤ w1.heap.size) (e : Grown (Grown F w) w1 k) : Grown F w k := by
  rcases e with e | e
  · exact e
  · exact Or.inr (Nat.le_trans h e)
/-- ref.Int: a number's bytes, if it has some. -/
theorem RefInt_own (w : World) (n : Int) : Calls Try.prog 86 #[.int .i64 n] w fun e w' => ∃ v, e = .returned (.tuple #[v, .bool (decide (-2 ≤ n ∧ n ≤ 2147483645))]) ∧ Own w' w.heap.size v (if -2 ≤ n ∧ n ≤ 2147483645 then b4 (n + 2).toNat else []) ∧ Below w.heap.size w w' := by
  by_cases hlo : n < -2
  · have hd : decide (-2 ≤ n ∧ n ≤ 2147483645) = false := by simp; omega
    rw [hd]
    simp only [if_neg (show ¬ (-2 ≤ n ∧ n ≤ 2147483645) by omega)]
    clear hd
    go_enter Try.func86, Try.ntmps86
    go_wp2
    go_ret2
    exact ⟨_, rfl, Own.nil_ _ _, Below.refl _ _⟩
  · by_cases hhi : n > 2147483645
    · have hd : decide (-2 ≤ n ∧ n ≤ 2147483645) = false := by simp; omega
      rw [hd]
      simp only [if_neg (show ¬ (-2 ≤ n ∧ n ≤ 2147483645) by omega)]
      clear hd
      go_enter Try.func86, Try.ntmps86
      go_wp2
      go_ret2
      exact ⟨_, rfl, Own.nil_ _ _, Below.refl _ _⟩
    · have hd : decide (-2 ≤ n ∧ n ≤ 2147483645) = true := by simp; omega
      rw [hd]
      simp only [if_pos (show (-2 ≤ n ∧ n ≤ 2147483645) by omega)]
      obtain ⟨m, rfl⟩ : ∃ m : Nat, n = (m : Int) - 2 := ⟨(n + 2).toNat, by omega⟩
      have hm : m ≤ 2147483647 := by omega
      have e3 : (m : Int) - 2 + 2 = m := by omega
      have hB4 := Lib.hid (b4_cells m hm)
      have HM := Lib.hid (show ((m : Int) - 2 + 2).toNat = m by omega)
      clear hd
      go_enter Try.func86, Try.ntmps86
      go_wp2
      go_ret2
      refine ⟨_, rfl, ?_, (Below.refl _ _).alloc (Nat.le_refl _) _⟩
      have hl : (b4 m).length = 4 := rfl
      have := Own.new_ w w.heap.size (Nat.le_refl _) (b4 m) (by rw [hl]; omega) _ hB4.out
      first | exact this | (rw [HM.out]; exact this) | (simp only [e3, Int.toNat_natCast]; exact this)
set_option maxRecDepth 100000 in
set_option maxHeartbeats 1000000 in
theorem Put_any (w : World) (F : Nat → Prop) (D : Nat) (s : WS) (A : Option Addr) (n c : Nat) (ns : List Int) (h : BkIs w F D s) (hst : ∀ W, Keeps F w W → Reads W w.heap.size 1 A n (ns.map (Value.int .i64))) (hs : s.out.length + 4 * n ≤ 140737488355000) (hn : n ≤ 9223372036854775807) :
    Calls Try.prog 58 #[.pointer (some ⟨D, 0, none⟩), .slice A n c] w fun e w' => e = .returned (.tuple #[]) ∧ BkIs w' (Grown F w) D (ns.foldl WS.int s) ∧ Keeps F w w' := by
  have hnl : ns.length = n := by have := (hst w (Keeps.refl F w)).1; simpa using this
  have hgrow : ∀ (l : List Int) (x : WS), (l.foldl WS.int x).out.length ≤ x.out.length + 4 * l.length := by
    intro l
    induction l with
    | nil => intro x; simp
    | cons y ys ih =>
      intro x
      rw [List.foldl_cons]
      have h1 := ih (x.int y)
      have h2 : (x.int y).out.length ≤ x.out.length + 4 := by
        unfold WS.int
        split
        · simp only [List.length_append]; have : (b4 (y + 2).toNat).length = 4 := rfl; omega
        · simp
      rw [List.length_cons]
      omega
  have HNL := Lib.hid hnl; have HST := Lib.hid hst; have HGR := Lib.hid hgrow; have HS0 := Lib.hid hs; have H0 := Lib.hid h
  clear hnl hst hgrow hs h
  go_enter Try.func58, Try.ntmps58
  go_wp2_with fail
  go_loopw [4] (fun q wr => ∃ i : Nat, i ≤ n ∧ q = .int .i64 (i : Int) ∧ BkIs wr (Grown F w) D ((ns.take i).foldl WS.int s) ∧ Keeps F w wr) (fun q _ => n - (intOf q).toNat)
  case atStart => exact ⟨0, by omega, rfl, by rw [List.take_zero]; exact H0.out.weaken (fun k e => Or.inl e), Keeps.refl _ _⟩
  case round =>
    obtain ⟨i, hi, rfl, hbk, hkp⟩ := hrel
    by_cases hin : i < n
    · have hin' : (i : Int) < (n : Int) := by omega
      obtain ⟨ad, u, hA, _, hu, hcell⟩ := (HST.out wr hkp).at_ hin
      subst hA
      have hgi : ns[i]? = some (ns[i]'(by rw [HNL.out]; exact hin)) := List.getElem?_eq_getElem _
      rw [List.getElem?_map, hgi] at hu
      injection hu with hu
      subst hu
      have hstep : (ns.take (i + 1)).foldl WS.int s = ((ns.take i).foldl WS.int s).int (ns[i]'(by rw [HNL.out]; exact hin)) := by
        rw [List.take_add_one, hgi, List.foldl_append]
        rfl
      have hlen := HGR.out (ns.take i) s
      have hlen2 : ((ns.take i).foldl WS.int s).out.length + 4 ≤ 140737488355328 := by
        have h1 : (ns.take i).length ≤ i := by rw [List.length_take]; omega
        have := HS0.out
        omega
      generalize (ns.take i).foldl WS.int s = st at hbk hstep hlen hlen2
      generalize ns[i]'(by rw [HNL.out]; exact hin) = m at hcell hstep
      have hint : st.int m = { out := st.out ++ (if -2 ≤ m ∧ m ≤ 2147483645 then b4 (m + 2).toNat else []), bad := st.bad || !(decide (-2 ≤ m ∧ m ≤ 2147483645)) } := by
        unfold WS.int
        by_cases hm : -2 ≤ m ∧ m ≤ 2147483645
        · simp [hm]
        · simp only [if_neg hm, List.append_nil]
          simp [hm]
      have hXl : (if -2 ≤ m ∧ m ≤ 2147483645 then b4 (m + 2).toNat else []).length ≤ 4 := by
        split
        · exact Nat.le_of_eq rfl
        · simp
      have HBY := Lib.hid hint; have HXL := Lib.hid hXl; have HSTEP := Lib.hid hstep; have HL2 := Lib.hid hlen2; have HKP := Lib.hid hkp
      obtain ⟨v, hB, h2, h3⟩ := hbk
      have HB0 := Lib.hid hB
      clear hint hXl hstep hlen hlen2 hkp hB hgi
      go_wp2_with fail
      refine (RefInt_own wr m).mono ?_
      rintro e w1 ⟨v1, rfl, ho1, hb1⟩
      generalize (if -2 ≤ m ∧ m ≤ 2147483645 then b4 (m + 2).toNat else []) = X at ho1 HXL HBY
      generalize decide (-2 ≤ m ∧ m ≤ 2147483645) = ok at HBY ⊢
      obtain ⟨A1, c1, rfl⟩ := ho1.shape
      have hB1 : BkAt w1 D v st := HB0.out.keeps (Keeps.of_below (F := fun _ => False) hb1) id (fun _ _ => id)
      obtain ⟨Av, cv, hv⟩ := hB1.own.shape
      subst hv
      have q0 := hB1.c0
      have f0 := hB1.fz 0
      have q1 := hB1.c1
      have f1 := hB1.fz 1
      have hS : st.out.length + X.length ≤ 140737488355328 := by have := HXL.out; have := HL2.out; omega
      have HB := Lib.hid hB1; have HX := Lib.hid ho1.rd; have HS := Lib.hid hS; have HW := Lib.hid hb1
      clear hB1 ho1 hb1 hS
      cases hbb : st.bad
      · rw [hbb] at q1 HBY
        have HBB := Lib.hid hbb; clear hbb
        cases ok
        · have HEQ := Lib.hid (show st.int m = { out := st.out ++ X, bad := true } from HBY.out)
          go_wp2_with fail
          refine wp_region_anyDN (fun W => W.cell? ⟨D, 1, none⟩ = some (.bool false)) 21 (by kernel_rfl) ?_
          refine anyD_takes (by kernel_rfl) (fun _ _ _ _ _ h => h) [0, 1, 2, 3, 4, 6, 8, 9, 10, 11] 12 _ _ (by kernel_rfl) ?_
          simp only [List.filterMap_cons, List.filterMap_nil, List.getElem?_toArray, List.getElem?_cons_succ, List.getElem?_cons_zero]
          show wpQuiet _ _ _ _ (_ :: _ :: _ :: _ :: _ :: _ :: _ :: _ :: _ :: _ :: List.nil) _
          repeat (first | go_big_quiet_skip | (go_big_quiet_want; first | (refine quiet_load 4 (.tmp 31) rfl ⟨D, 1, none⟩ rfl _ (fun W hW => hW) (fun _ => by kernel_rfl) ?_; simp only [Act.put, List.setIfInBounds_toArray, List.set_cons_succ, List.set_cons_zero]; go_big_quiet_on) | (go_big_quiet_op; first | go_big_quiet_on | (refine ⟨_, fun _ _ => rfl, ?_⟩; go_big_quiet_on))))
          refine wpQuiet_nil ?_
          refine anyD_only (i := 5) rfl (by kernel_rfl) q1 ?_
          go_wp2_with fail
          refine anyD_only (i := 7) rfl (by kernel_rfl) q1 ?_
          refine app_bytes rfl (.tmp 26) (.tmp 27) rfl 0 (.slice Av st.out.length cv) st.out rfl HB.out.own.drew w1.heap.size A1 X.length c1 X rfl HX.out.drew (by have := HS.out; omega) (Nat.zero_le _) ?_
          intro v2 w2 hown2 hg2 hat2
          have hkr := hg2.block D HB.out.cells.lt (fun e => HB.out.apart D e.symm rfl)
          have q02 := (World.cell?_of_block (a := ⟨D, 0, none⟩) hkr).trans q0
          have f02 := (World.frozen?_of_block (a := ⟨D, 0, none⟩) hkr).trans f0
          have q12 := (World.cell?_of_block (a := ⟨D, 1, none⟩) hkr).trans q1
          have f12 := (World.frozen?_of_block (a := ⟨D, 1, none⟩) hkr).trans f1
          obtain ⟨A2, c2, hv2⟩ := hown2.shape
          obtain ⟨n2, hn2⟩ : ∃ n2, n2 = (st.out ++ X).length := ⟨_, rfl⟩
          rw [← hn2] at hv2
          subst hv2
          clear hn2
          have HD := Lib.hid (fun (b : Bool) => HB.out.done2 h2 h3 b ((Below.refl _ _).drew) hown2 hg2 hat2)
          clear hkr hown2 hg2 hat2
          simp only [List.getElem_toArray, List.getElem_cons_succ, List.getElem_cons_zero, Act.put, List.setIfInBounds_toArray, List.set_cons_succ, List.set_cons_zero]
          go_wp2_with fail
          refine anyD_takes (by kernel_rfl) (fun _ _ _ _ _ h => h) [12, 13, 14, 15, 16, 17] 4 _ _ (by kernel_rfl) ?_
          simp only [List.filterMap_cons, List.filterMap_nil, List.getElem?_toArray, List.getElem?_cons_succ, List.getElem?_cons_zero]
          show wpQuiet _ _ _ _ (_ :: _ :: _ :: _ :: _ :: _ :: List.nil) _
          repeat (first | go_big_quiet_skip | (go_big_quiet_want; first | (fail; simp only [Act.put, List.setIfInBounds_toArray, List.set_cons_succ, List.set_cons_zero]; go_big_quiet_on) | (go_big_quiet_op; first | go_big_quiet_on | (refine ⟨_, fun _ _ => rfl, ?_⟩; go_big_quiet_on))))
          refine wpQuiet_nil ?_
          refine anyD_only (i := 18) rfl (by kernel_rfl) q12 ?_
          go_wp2_with fail
          have q13 : (w2.setCell ⟨D, 0, none⟩ (.slice A2 n2 c2)).cell? ⟨D, 1, none⟩ = some (.bool false) := (World.cell?_setCell_other w2 ⟨D, 0, none⟩ ⟨D, 1, none⟩ _ (by intro e; injection e with _ e2 _; cases e2)).trans q12
          refine anyD_only (i := 19) rfl (by kernel_rfl) q13 ?_
          go_wp2_with fail
          refine anyD_only (i := 20) rfl (by kernel_rfl) q13 ?_
          go_wp2_with fail
          refine anyD_only (i := 21) rfl (by kernel_rfl) q13 ?_
          go_wp2_with fail
          refine anyD_end (by kernel_rfl) (by kernel_rfl) ?_
          go_wp2
          go_roundw
          case rel =>
            have hd := HD.out true
            refine ⟨i + 1, by omega, by go_num, ?_, HKP.out.trans ((Keeps.of_below (F := Grown F w) HW.out).trans hd.2 (fun _ _ e => e)) (fun k hk e => by rcases e with e | e; exact e; exact absurd hk (by omega))⟩
            rw [HSTEP.out, HEQ.out]
            exact hd.1.weaken (fun k e => grown_chain2 (Nat.le_trans HKP.out.size HW.out.size) e)
          case measure => simp [intOf]; omega
        · have HEQ := Lib.hid (show st.int m = { out := st.out ++ X, bad := false } from HBY.out)
          go_wp2_with fail
          refine wp_region_anyDN (fun W => W.cell? ⟨D, 1, none⟩ = some (.bool false)) 21 (by kernel_rfl) ?_
          refine anyD_takes (by kernel_rfl) (fun _ _ _ _ _ h => h) [0, 1, 2, 3, 4, 6, 8, 9, 10, 11] 12 _ _ (by kernel_rfl) ?_
          simp only [List.filterMap_cons, List.filterMap_nil, List.getElem?_toArray, List.getElem?_cons_succ, List.getElem?_cons_zero]
          show wpQuiet _ _ _ _ (_ :: _ :: _ :: _ :: _ :: _ :: _ :: _ :: _ :: _ :: List.nil) _
          repeat (first | go_big_quiet_skip | (go_big_quiet_want; first | (refine quiet_load 4 (.tmp 31) rfl ⟨D, 1, none⟩ rfl _ (fun W hW => hW) (fun _ => by kernel_rfl) ?_; simp only [Act.put, List.setIfInBounds_toArray, List.set_cons_succ, List.set_cons_zero]; go_big_quiet_on) | (go_big_quiet_op; first | go_big_quiet_on | (refine ⟨_, fun _ _ => rfl, ?_⟩; go_big_quiet_on))))
          refine wpQuiet_nil ?_
          refine anyD_only (i := 5) rfl (by kernel_rfl) q1 ?_
          go_wp2_with fail
          refine anyD_only (i := 7) rfl (by kernel_rfl) q1 ?_
          refine app_bytes rfl (.tmp 26) (.tmp 27) rfl 0 (.slice Av st.out.length cv) st.out rfl HB.out.own.drew w1.heap.size A1 X.length c1 X rfl HX.out.drew (by have := HS.out; omega) (Nat.zero_le _) ?_
          intro v2 w2 hown2 hg2 hat2
          have hkr := hg2.block D HB.out.cells.lt (fun e => HB.out.apart D e.symm rfl)
          have q02 := (World.cell?_of_block (a := ⟨D, 0, none⟩) hkr).trans q0
          have f02 := (World.frozen?_of_block (a := ⟨D, 0, none⟩) hkr).trans f0
          have q12 := (World.cell?_of_block (a := ⟨D, 1, none⟩) hkr).trans q1
          have f12 := (World.frozen?_of_block (a := ⟨D, 1, none⟩) hkr).trans f1
          obtain ⟨A2, c2, hv2⟩ := hown2.shape
          obtain ⟨n2, hn2⟩ : ∃ n2, n2 = (st.out ++ X).length := ⟨_, rfl⟩
          rw [← hn2] at hv2
          subst hv2
          clear hn2
          have HD := Lib.hid (fun (b : Bool) => HB.out.done2 h2 h3 b ((Below.refl _ _).drew) hown2 hg2 hat2)
          clear hkr hown2 hg2 hat2
          simp only [List.getElem_toArray, List.getElem_cons_succ, List.getElem_cons_zero, Act.put, List.setIfInBounds_toArray, List.set_cons_succ, List.set_cons_zero]
          go_wp2_with fail
          refine anyD_takes (by kernel_rfl) (fun _ _ _ _ _ h => h) [12, 13, 14, 15, 16, 17] 4 _ _ (by kernel_rfl) ?_
          simp only [List.filterMap_cons, List.filterMap_nil, List.getElem?_toArray, List.getElem?_cons_succ, List.getElem?_cons_zero]
          show wpQuiet _ _ _ _ (_ :: _ :: _ :: _ :: _ :: _ :: List.nil) _
          repeat (first | go_big_quiet_skip | (go_big_quiet_want; first | (fail; simp only [Act.put, List.setIfInBounds_toArray, List.set_cons_succ, List.set_cons_zero]; go_big_quiet_on) | (go_big_quiet_op; first | go_big_quiet_on | (refine ⟨_, fun _ _ => rfl, ?_⟩; go_big_quiet_on))))
          refine wpQuiet_nil ?_
          refine anyD_only (i := 18) rfl (by kernel_rfl) q12 ?_
          go_wp2_with fail
          have q13 : (w2.setCell ⟨D, 0, none⟩ (.slice A2 n2 c2)).cell? ⟨D, 1, none⟩ = some (.bool false) := (World.cell?_setCell_other w2 ⟨D, 0, none⟩ ⟨D, 1, none⟩ _ (by intro e; injection e with _ e2 _; cases e2)).trans q12
          refine anyD_only (i := 19) rfl (by kernel_rfl) q13 ?_
          go_wp2_with fail
          refine anyD_only (i := 20) rfl (by kernel_rfl) q13 ?_
          go_wp2_with fail
          refine anyD_only (i := 21) rfl (by kernel_rfl) q13 ?_
          go_wp2_with fail
          refine anyD_end (by kernel_rfl) (by kernel_rfl) ?_
          go_wp2
          go_roundw
          case rel =>
            have hd := HD.out false
            refine ⟨i + 1, by omega, by go_num, ?_, HKP.out.trans ((Keeps.of_below (F := Grown F w) HW.out).trans hd.2 (fun _ _ e => e)) (fun k hk e => by rcases e with e | e; exact e; exact absurd hk (by omega))⟩
            rw [HSTEP.out, HEQ.out]
            exact hd.1.weaken (fun k e => grown_chain2 (Nat.le_trans HKP.out.size HW.out.size) e)
          case measure => simp [intOf]; omega
      · rw [hbb] at q1 HBY
        have HBB := Lib.hid hbb; clear hbb
        have HEQ := Lib.hid (show st.int m = { out := st.out ++ X, bad := true } from by rw [HBY.out]; simp)
        go_wp2_with fail
        refine wp_region_anyDN (fun W => W.cell? ⟨D, 1, none⟩ = some (.bool true)) 21 (by kernel_rfl) ?_
        refine anyD_takes (by kernel_rfl) (fun _ _ _ _ _ h => h) [0, 1, 2, 3, 4, 6, 8, 9, 10, 11] 12 _ _ (by kernel_rfl) ?_
        simp only [List.filterMap_cons, List.filterMap_nil, List.getElem?_toArray, List.getElem?_cons_succ, List.getElem?_cons_zero]
        show wpQuiet _ _ _ _ (_ :: _ :: _ :: _ :: _ :: _ :: _ :: _ :: _ :: _ :: List.nil) _
        repeat (first | go_big_quiet_skip | (go_big_quiet_want; first | (refine quiet_load 4 (.tmp 31) rfl ⟨D, 1, none⟩ rfl _ (fun W hW => hW) (fun _ => by kernel_rfl) ?_; simp only [Act.put, List.setIfInBounds_toArray, List.set_cons_succ, List.set_cons_zero]; go_big_quiet_on) | (go_big_quiet_op; first | go_big_quiet_on | (refine ⟨_, fun _ _ => rfl, ?_⟩; go_big_quiet_on))))
        refine wpQuiet_nil ?_
        refine anyD_only (i := 5) rfl (by kernel_rfl) q1 ?_
        go_wp2_with fail
        refine anyD_only (i := 7) rfl (by kernel_rfl) q1 ?_
        refine app_bytes rfl (.tmp 26) (.tmp 27) rfl 0 (.slice Av st.out.length cv) st.out rfl HB.out.own.drew w1.heap.size A1 X.length c1 X rfl HX.out.drew (by have := HS.out; omega) (Nat.zero_le _) ?_
        intro v2 w2 hown2 hg2 hat2
        have hkr := hg2.block D HB.out.cells.lt (fun e => HB.out.apart D e.symm rfl)
        have q02 := (World.cell?_of_block (a := ⟨D, 0, none⟩) hkr).trans q0
        have f02 := (World.frozen?_of_block (a := ⟨D, 0, none⟩) hkr).trans f0
        have q12 := (World.cell?_of_block (a := ⟨D, 1, none⟩) hkr).trans q1
        have f12 := (World.frozen?_of_block (a := ⟨D, 1, none⟩) hkr).trans f1
        obtain ⟨A2, c2, hv2⟩ := hown2.shape
        obtain ⟨n2, hn2⟩ : ∃ n2, n2 = (st.out ++ X).length := ⟨_, rfl⟩
        rw [← hn2] at hv2
        subst hv2
        clear hn2
        have HD := Lib.hid (fun (b : Bool) => HB.out.done2 h2 h3 b ((Below.refl _ _).drew) hown2 hg2 hat2)
        clear hkr hown2 hg2 hat2
        simp only [List.getElem_toArray, List.getElem_cons_succ, List.getElem_cons_zero, Act.put, List.setIfInBounds_toArray, List.set_cons_succ, List.set_cons_zero]
        go_wp2_with fail
        refine anyD_takes (by kernel_rfl) (fun _ _ _ _ _ h => h) [12, 13, 14, 15, 16, 17] 4 _ _ (by kernel_rfl) ?_
        simp only [List.filterMap_cons, List.filterMap_nil, List.getElem?_toArray, List.getElem?_cons_succ, List.getElem?_cons_zero]
        show wpQuiet _ _ _ _ (_ :: _ :: _ :: _ :: _ :: _ :: List.nil) _
        repeat (first | go_big_quiet_skip | (go_big_quiet_want; first | (fail; simp only [Act.put, List.setIfInBounds_toArray, List.set_cons_succ, List.set_cons_zero]; go_big_quiet_on) | (go_big_quiet_op; first | go_big_quiet_on | (refine ⟨_, fun _ _ => rfl, ?_⟩; go_big_quiet_on))))
        refine wpQuiet_nil ?_
        refine anyD_only (i := 18) rfl (by kernel_rfl) q12 ?_
        go_wp2_with fail
        have q13 : (w2.setCell ⟨D, 0, none⟩ (.slice A2 n2 c2)).cell? ⟨D, 1, none⟩ = some (.bool true) := (World.cell?_setCell_other w2 ⟨D, 0, none⟩ ⟨D, 1, none⟩ _ (by intro e; injection e with _ e2 _; cases e2)).trans q12
        refine anyD_only (i := 19) rfl (by kernel_rfl) q13 ?_
        go_wp2_with fail
        refine anyD_only (i := 20) rfl (by kernel_rfl) q13 ?_
        go_wp2_with fail
        refine anyD_only (i := 21) rfl (by kernel_rfl) q13 ?_
        go_wp2_with fail
        refine anyD_end (by kernel_rfl) (by kernel_rfl) ?_
        go_wp2
        go_roundw
        case rel =>
          have hd := HD.out true
          refine ⟨i + 1, by omega, by go_num, ?_, HKP.out.trans ((Keeps.of_below (F := Grown F w) HW.out).trans hd.2 (fun _ _ e => e)) (fun k hk e => by rcases e with e | e; exact e; exact absurd hk (by omega))⟩
          rw [HSTEP.out, HEQ.out]
          exact hd.1.weaken (fun k e => grown_chain2 (Nat.le_trans HKP.out.size HW.out.size) e)
        case measure => simp [intOf]; omega
    · obtain rfl : i = n := by omega
      have hall : ns.take i = ns := List.take_of_length_le (by rw [HNL.out]; exact Nat.le_refl _)
      rw [hall] at hbk
      clear hall
      go_wp2
      go_end0
      exact ⟨rfl, hbk, hkp⟩
end Go.Proofs.Ytlabebapjhhkaaa
namespace Go.Proofs.Ytlabebapjhhkaaa
/-- A part: a number, or, if there are any, bytes. -/
abbrev PartV := Int × List UInt8
def putP (s : WS) (p : PartV) : WS := if 0 < p.2.length then s.bytes p.2 else s.int p.1
def encP (p : PartV) : List UInt8 := if 0 < p.2.length then b2 p.2.length ++ p.2 else b4 (p.1 + 2).toNat
def okP (p : PartV) : Prop := if 0 < p.2.length then p.2.length ≤ 65535 else (-2 ≤ p.1 ∧ p.1 ≤ 2147483645)
theorem putP_bad (s : WS) (p : PartV) (h : s.bad = true) : (putP s p).bad = true := by
  unfold putP WS.bytes WS.int
  split <;> split <;> simp [h]
theorem putP_ok (s : WS) (p : PartV) (h : (putP s p).bad = false) : okP p ∧ s.bad = false ∧ (putP s p).out = s.out ++ encP p := by
  have hb : s.bad = false := by
    cases hs : s.bad
    · rfl
    · rw [putP_bad s p hs] at h; cases h
  unfold putP WS.bytes WS.int at h
  unfold okP encP putP WS.bytes WS.int
  by_cases h1 : 0 < p.2.length
  · simp only [h1, if_true] at h ⊢
    by_cases h2 : p.2.length ≤ 65535
    · simp only [h2, if_true] at h ⊢
      exact ⟨trivial, hb, trivial⟩
    · simp only [h2, if_false] at h
      cases h
  · simp only [h1, if_false] at h ⊢
    by_cases h2 : -2 ≤ p.1 ∧ p.1 ≤ 2147483645
    · rw [if_pos h2] at h ⊢
      exact ⟨h2, hb, rfl⟩
    · rw [if_neg h2] at h
      cases h
theorem fold_ok (ps : List PartV) : ∀ (s : WS), (ps.foldl putP s).bad = false → s.bad = false ∧ (∀ p ∈ ps, okP p) ∧ (ps.foldl putP s).out = s.out ++ ps.flatMap encP := by
  induction ps with
  | nil => intro s h; exact ⟨h, by simp, by simp⟩
  | cons p ps ih =>
    intro s h
    rw [List.foldl_cons] at h ⊢
    obtain ⟨h1, h2, h3⟩ := ih _ h
    obtain ⟨h4, h5, h6⟩ := putP_ok s p h1
    refine ⟨h5, ?_, ?_⟩
    · intro q hq
      rcases List.mem_cons.1 hq with rfl | hq
      · exact h4
      · exact h2 q hq
    · rw [h3, h6, List.flatMap_cons, List.append_assoc]
theorem encP_pos (p : PartV) : 0 < (encP p).length := by
  unfold encP
  split
  · simp [b2]
  · exact Nat.lt_of_lt_of_eq (by decide : 0 < 4) rfl
theorem b2_read (k : Nat) (hk : k ≤ 65535) : ((UInt8.ofNat (k / 256)).toNat * 256 + (UInt8.ofNat k).toNat) = k := by
  simp only [UInt8.toNat_ofNat']
  omega
theorem bytes_enc (p : PartV) (rest : List UInt8) (h1 : 0 < p.2.length) (h : okP p) : ({ left := encP p ++ rest, bad := false } : RS).bytes = (p.2, { left := rest, bad := false }) := by
  unfold okP at h
  rw [if_pos h1] at h
  have he : encP p ++ rest = UInt8.ofNat (p.2.length / 256) :: UInt8.ofNat p.2.length :: (p.2 ++ rest) := by
    unfold encP
    rw [if_pos h1]
    rfl
  unfold RS.bytes
  rw [he]
  simp only [List.length_cons, List.getD_cons_zero, List.getD_cons_succ, b2_read _ h, List.length_append, List.drop_succ_cons, List.drop_zero]
  rw [if_pos ⟨trivial, by omega⟩, if_pos (by omega)]
  simp
theorem int_enc (p : PartV) (rest : List UInt8) (h1 : ¬ 0 < p.2.length) (h : okP p) : ({ left := encP p ++ rest, bad := false } : RS).int = (p.1, { left := rest, bad := false }) := by
  unfold okP at h
  rw [if_neg h1] at h
  obtain ⟨m, hm⟩ : ∃ m : Nat, p.1 = (m : Int) - 2 := ⟨(p.1 + 2).toNat, by omega⟩
  have hm2 : m ≤ 2147483647 := by omega
  have he : encP p ++ rest = UInt8.ofNat (m / 16777216) :: UInt8.ofNat (m / 65536) :: UInt8.ofNat (m / 256) :: UInt8.ofNat m :: rest := by
    unfold encP
    rw [if_neg h1, show (p.1 + 2).toNat = m by omega]
    rfl
  unfold RS.int i4
  rw [he]
  simp only [List.length_cons, List.getD_cons_zero, List.getD_cons_succ, List.drop_succ_cons, List.drop_zero, UInt8.toNat_ofNat']
  rw [if_pos ⟨trivial, by omega⟩, if_pos (by omega)]
  simp only [Prod.mk.injEq, and_true]
  omega
end Go.Proofs.Ytlabebapjhhkaaa
