/- Two books apart; what a call leaves when the power goes at some write: the plain law. Conditions stand with each theorem. -/
import Derived.Test.YtlabebapjhhkaaaBkC
namespace Go.Proofs.Ytlabebapjhhkaaa
open Go.RowKit Go.Shelf
/-- What a change leaves on a book whose power goes at some write, next to one whose power does not. -/
structure Cut (m : BM) (e : Int × BM) (f : Int × BM) : Prop where
  zero : f.1 = 0 → f.2.v = e.2.v
  code : f.1 = e.1 ∨ f.1 = 3
  all_ : f.2.v = m.v ∨ f.2.v = e.2.v
theorem keep_code (m : BM) (x : BookV) : (m.keep x).1 = 0 ∨ (m.keep x).1 = 3 := by
  unfold BM.keep
  dsimp only
  split
  · exact Or.inl rfl
  · exact Or.inr rfl
theorem cut_change {m F : BM} (hm : m.free) (hv : F.v = m.v) (how : BookV → Int × BookV) : Cut m (m.change how) (F.change how) := by
  obtain ⟨h1, _, h3⟩ := BM.free_change hm how
  generalize m.change how = Z at h1 h3 ⊢
  unfold BM.change
  rw [hv]
  by_cases hd : F.down = true
  · rw [if_pos hd]
    exact ⟨fun e => (by cases e), Or.inr rfl, Or.inl hv⟩
  rw [if_neg hd]
  by_cases h0 : (how m.v).1 ≠ 0
  · rw [if_pos h0]
    exact ⟨fun e => absurd e h0, Or.inl h1.symm, Or.inl hv⟩
  rw [if_neg h0]
  have h0' : (how m.v).1 = 0 := Classical.byContradiction fun e => h0 e
  rw [if_pos h0'] at h3
  rw [h0'] at h1
  refine ⟨fun e => by rw [keep_zero F _ e]; exact h3.symm, ?_, ?_⟩
  · rcases keep_code F (how m.v).2 with e | e
    · exact Or.inl (e.trans h1.symm)
    · exact Or.inr e
  · rcases keep_cases F (how m.v).2 with e | e
    · exact Or.inr (e.trans h3.symm)
    · exact Or.inl (e.trans hv)
theorem cut_act {N : Nat} {o : OpV} {m F Ma Mb : BM} {ra rb : Int × Int} (hm : m.free) (hv : F.v = m.v) (ha : DoR N o m ra Ma) (hb : DoR N o F rb Mb) (hk : o.k < 7) : Cut m (ra.2, Ma) (rb.2, Mb) := by
  unfold DoR at ha hb
  rw [if_neg (by omega)] at ha hb
  unfold BM.act at ha hb
  by_cases e1 : o.k = 1
  · rw [if_pos e1] at ha hb
    rw [(Prod.mk.inj ha).1, (Prod.mk.inj ha).2, (Prod.mk.inj hb).1, (Prod.mk.inj hb).2]
    exact cut_change hm hv _
  rw [if_neg e1] at ha hb
  by_cases e2 : o.k = 2
  · rw [if_pos e2] at ha hb
    rw [(Prod.mk.inj ha).1, (Prod.mk.inj ha).2, (Prod.mk.inj hb).1, (Prod.mk.inj hb).2]
    exact cut_change hm hv _
  rw [if_neg e2] at ha hb
  by_cases e3 : o.k = 3
  · rw [if_pos e3] at ha hb
    rw [(Prod.mk.inj ha).1, (Prod.mk.inj ha).2, (Prod.mk.inj hb).1, (Prod.mk.inj hb).2]
    exact cut_change hm hv _
  rw [if_neg e3] at ha hb
  by_cases e4 : o.k = 4
  · rw [if_pos e4] at ha hb
    rw [(Prod.mk.inj ha).1, (Prod.mk.inj ha).2, (Prod.mk.inj hb).1, (Prod.mk.inj hb).2]
    exact cut_change hm hv _
  rw [if_neg e4] at ha hb
  by_cases e5 : o.k = 5
  · rw [if_pos e5] at ha hb
    rw [(Prod.mk.inj ha).1, (Prod.mk.inj ha).2, (Prod.mk.inj hb).1, (Prod.mk.inj hb).2]
    exact cut_change hm hv _
  rw [if_neg e5] at ha hb
  by_cases e6 : o.k = 6
  · rw [if_pos e6] at ha hb
    rw [(Prod.mk.inj ha).1, (Prod.mk.inj ha).2, (Prod.mk.inj hb).1, (Prod.mk.inj hb).2]
    exact cut_change hm hv _
  rw [if_neg e6, if_neg (by omega), if_neg (by omega)] at ha hb
  rw [(Prod.mk.inj ha).1, (Prod.mk.inj ha).2, (Prod.mk.inj hb).1, (Prod.mk.inj hb).2]
  exact ⟨fun _ => hv, Or.inl rfl, Or.inl hv⟩
/-- A call below 7 answers the same on the same book. -/
theorem dor_same {N : Nat} {o : OpV} {m M M' : BM} {r r' : Int × Int} (ha : DoR N o m r M) (hb : DoR N o m r' M') (hk : o.k < 7) : M' = M := by
  unfold DoR at ha hb
  rw [if_neg (by omega)] at ha hb
  rw [← ha] at hb
  exact (Prod.mk.inj hb).2
/-- Two books, apart from each other and from what is protected. -/
def Duo2 (w : World) (S : Nat → Prop) (K1 K2 : Nat) (p : PrmV) (m1 m2 : BM) : Prop :=
  (∀ k, S k → k < w.heap.size) ∧ ∃ Fa Fb : Nat → Prop, KbIs w Fa K1 p m1 ∧ KbIs w Fb K2 p m2 ∧ (∀ k, Fa k → ¬ Fb k ∧ ¬ S k ∧ k < w.heap.size) ∧ (∀ k, Fb k → ¬ S k ∧ k < w.heap.size)
section
variable {w w' : World} {S : Nat → Prop} {K1 K2 : Nat} {p : PrmV} {m1 m2 M : BM}
theorem Duo2.swap (h : Duo2 w S K1 K2 p m1 m2) : Duo2 w S K2 K1 p m2 m1 := by
  obtain ⟨h0, Fa, Fb, h1, h2, h3, h4⟩ := h
  exact ⟨h0, Fb, Fa, h2, h1, fun k e => ⟨fun f => (h3 k f).1 e, h4 k e⟩, fun k e => (h3 k e).2⟩
theorem Duo2.goodL (h : Duo2 w S K1 K2 p m1 m2) : m1.ok p.n := by
  obtain ⟨_, _, _, h1, _⟩ := h
  exact h1.good
theorem Duo2.below (h : Duo2 w S K1 K2 p m1 m2) (hb : Below w.heap.size w w') : Duo2 w' S K1 K2 p m1 m2 := by
  obtain ⟨h0, Fa, Fb, h1, h2, h3, h4⟩ := h
  have hs := hb.size
  exact ⟨fun k e => Nat.lt_of_lt_of_le (h0 k e) hs, Fa, Fb, h1.below hb, h2.below hb, fun k e => ⟨(h3 k e).1, (h3 k e).2.1, Nat.lt_of_lt_of_le (h3 k e).2.2 hs⟩, fun k e => ⟨(h4 k e).1, Nat.lt_of_lt_of_le (h4 k e).2 hs⟩⟩
/-- What is new is protected from here on. -/
theorem Duo2.grow (h : Duo2 w S K1 K2 p m1 m2) (hb : Below w.heap.size w w') : Duo2 w' (fun k => S k ∨ (w.heap.size ≤ k ∧ k < w'.heap.size)) K1 K2 p m1 m2 := by
  obtain ⟨h0, Fa, Fb, h1, h2, h3, h4⟩ := h
  have hs := hb.size
  refine ⟨fun k e => ?_, Fa, Fb, h1.below hb, h2.below hb, fun k e => ⟨(h3 k e).1, fun f => ?_, Nat.lt_of_lt_of_le (h3 k e).2.2 hs⟩, fun k e => ⟨fun f => ?_, Nat.lt_of_lt_of_le (h4 k e).2 hs⟩⟩
  · rcases e with e | e
    · exact Nat.lt_of_lt_of_le (h0 k e) hs
    · exact e.2
  · rcases f with f | f
    · exact (h3 k e).2.1 f
    · have := (h3 k e).2.2; omega
  · rcases f with f | f
    · exact (h4 k e).1 f
    · have := (h4 k e).2; omega
theorem Duo2.stepL {Fa Fb : Nat → Prop} (h0 : ∀ k, S k → k < w.heap.size) (h2 : KbIs w Fb K2 p m2) (h3 : ∀ k, Fa k → ¬ Fb k ∧ ¬ S k ∧ k < w.heap.size) (h4 : ∀ k, Fb k → ¬ S k ∧ k < w.heap.size) (hk : KbIs w' (Grown Fa w) K1 p M) (hp : Keeps Fa w w') :
    Duo2 w' S K1 K2 p M m2 ∧ Keeps (fun k => ¬ S k) w w' := by
  have hs := hp.size
  refine ⟨⟨fun k e => Nat.lt_of_lt_of_le (h0 k e) hs, _, Fb, hk.tight, h2.keeps hp (fun k e f => (h3 k f).1 e), fun k e => ⟨fun f => ?_, fun f => ?_, e.2⟩, fun k e => ⟨(h4 k e).1, Nat.lt_of_lt_of_le (h4 k e).2 hs⟩⟩, hp.weaken (fun k _ e => (h3 k e).2.1)⟩
  · rcases e.1 with e1 | e1
    · exact (h3 k e1).1 f
    · have := (h4 k f).2; have : w.heap.size ≤ k := e1; omega
  · rcases e.1 with e1 | e1
    · exact (h3 k e1).2.1 f
    · have := h0 k f; have : w.heap.size ≤ k := e1; omega
theorem Duo2.doL (h : Duo2 w S K1 K2 p m1 m2) (o : OpV) (A : Option Addr) (c : Nat) (hwr : m1.pw.writes ≤ 4611686018400000000) (hr : IRd w w.heap.size A o.parts.length o.parts) (hn : o.parts.length ≤ 9223372036854775807) (hmx : o.n ≤ 9223372036854775807) :
    Calls Try.prog 13 #[.pointer (some ⟨K1, 0, none⟩), .agg (opC o A c)] w fun e w' => ∃ r M, DoR p.n o m1 r M ∧ e = .returned (.tuple #[.int .i64 r.1, .int .i64 r.2]) ∧ Duo2 w' S K1 K2 p M m2 ∧ Keeps (fun k => ¬ S k) w w' := by
  obtain ⟨h0, Fa, Fb, h1, h2, h3, h4⟩ := h
  refine (do_any w Fa K1 p m1 o A c h1 hwr hr hn hmx).mono ?_
  rintro e w' ⟨r, M, hd, he, hk, hp⟩
  obtain ⟨a, b⟩ := Duo2.stepL h0 h2 h3 h4 hk hp
  exact ⟨r, M, hd, he, a, b⟩
theorem Duo2.doR (h : Duo2 w S K1 K2 p m1 m2) (o : OpV) (A : Option Addr) (c : Nat) (hwr : m2.pw.writes ≤ 4611686018400000000) (hr : IRd w w.heap.size A o.parts.length o.parts) (hn : o.parts.length ≤ 9223372036854775807) (hmx : o.n ≤ 9223372036854775807) :
    Calls Try.prog 13 #[.pointer (some ⟨K2, 0, none⟩), .agg (opC o A c)] w fun e w' => ∃ r M, DoR p.n o m2 r M ∧ e = .returned (.tuple #[.int .i64 r.1, .int .i64 r.2]) ∧ Duo2 w' S K1 K2 p m1 M ∧ Keeps (fun k => ¬ S k) w w' :=
  (h.swap.doL o A c hwr hr hn hmx).mono (fun _ _ ⟨r, M, a, b, c, d⟩ => ⟨r, M, a, b, c.swap, d⟩)
theorem Duo2.fuseR (h : Duo2 w S K1 K2 p m1 m2) (n : Int) (hn : n ≤ 9223372036854775807) :
    Calls Try.prog 19 #[.pointer (some ⟨K2, 0, none⟩), .int .i64 n] w fun e w' => e = .returned (.tuple #[]) ∧ Duo2 w' S K1 K2 p m1 (m2.fuse n) ∧ Keeps (fun k => ¬ S k) w w' := by
  obtain ⟨h0, Fa, Fb, h1, h2, h3, h4⟩ := h.swap
  refine (BFuse_any w Fa K2 p m2 n hn h1).mono ?_
  rintro e w' ⟨he, hk, hp⟩
  obtain ⟨a, b⟩ := Duo2.stepL h0 h2 h3 h4 hk hp
  exact ⟨he, a.swap, b⟩
theorem Duo2.startR (h : Duo2 w S K1 K2 p m1 m2) (hwr : m2.pw.writes ≤ 4611686018400000000) :
    Calls Try.prog 20 #[.pointer (some ⟨K2, 0, none⟩)] w fun e w' => e = .returned (.tuple #[]) ∧ ∃ M, Started m2 M ∧ Duo2 w' S K1 K2 p m1 M ∧ Keeps (fun k => ¬ S k) w w' := by
  obtain ⟨h0, Fa, Fb, h1, h2, h3, h4⟩ := h.swap
  refine (BStart_any w Fa K2 p m2 h1 hwr).mono ?_
  rintro e w' ⟨he, ⟨M, hM, hk⟩, hp⟩
  obtain ⟨a, b⟩ := Duo2.stepL h0 h2 h3 h4 hk hp
  exact ⟨he, M, hM, a.swap, b⟩
theorem Duo2.viewL (h : Duo2 w S K1 K2 p m1 m2) : Calls Try.prog 18 #[.pointer (some ⟨K1, 0, none⟩)] w (ViewPost w m1.v) := by
  obtain ⟨h0, Fa, Fb, h1, h2, h3, h4⟩ := h
  exact View_any w Fa K1 p m1 h1
theorem Duo2.viewR (h : Duo2 w S K1 K2 p m1 m2) : Calls Try.prog 18 #[.pointer (some ⟨K2, 0, none⟩)] w (ViewPost w m2.v) := h.swap.viewL
theorem Duo2.make {L : Nat} {W1 W2 : World} (hL : L ≤ w.heap.size) (hb : Below w.heap.size w W1) (h1 : KbIs W1 (fun k => w.heap.size ≤ k) K1 p m1) (hb2 : Below W1.heap.size W1 W2) (h2 : KbIs W2 (fun k => W1.heap.size ≤ k) K2 p m2) : Duo2 W2 (fun k => k < L) K1 K2 p m1 m2 := by
  have s1 := hb.size
  have s2 := hb2.size
  refine ⟨fun k e => ?_, _, _, h1.tight.below hb2, h2.tight, fun k e => ⟨fun f => ?_, fun f => ?_, ?_⟩, fun k e => ⟨fun f => ?_, e.2⟩⟩
  · have : k < L := e; omega
  · have := e.2; have : W1.heap.size ≤ k := f.1; omega
  · have : w.heap.size ≤ k := e.1; have : k < L := f; omega
  · have := e.2; omega
  · have : W1.heap.size ≤ k := e.1; have : k < L := f; omega
end
theorem quiet_eqlB {P : Program} {C : World → Prop} {o : Oper} {a : Act} {K : Act → Prop} (t t' : TypeId) (x y : Operand) (ho : o.op = .binOp .eql t x y t') (k : IntKind) (i j : Int) (hx : a.eval x = .int k i) (hy : a.eval y = .int k j) (e : Bool) (he : decide (i = j) = e) (hK : K (a.put o.dst (.bool e))) : o.quiet P a C K := by
  refine ⟨_, fun w _ => ?_, hK⟩
  unfold Oper.quietAt execOp
  have h1 : (eqGuard .eql t x y (.int k i) (.int k j)) = pure () := rfl
  have h2 : (binOp .eql t (.int k i) (.int k j)).run P w = .ok (.bool e) w := by
    rw [← he]
    by_cases h : i = j <;> simp [go_sem, h]
  simp only [ho, hx, hy, h1, h2, Sem.run_bind, Sem.run_pure, Result.andThen_ok, Oper.quietUpon, and_self]
theorem anyC_skipB {P : Program} {ops : Array Oper} {md : Region.Mode} {Q : Exit → Act → World → Prop} {C : World → Prop} {i : Nat} {o : Oper} {f : Nat} {listed : Array Bool} {a : Act} {w : World} (hi : ops[i]? = some o) (hr : Region.ready md ops listed = [i]) (hC : C w) (hw : Region.wanted o (yielded ops a.tmps) = false)
    (h : anyC P md ops C Q f (listed.setIfInBounds i true) (a.put o.dst undef) w) : anyC P md ops C Q (f + 1) listed a w := by
  refine anyC_only hi hr hC ?_
  unfold wpList
  rw [if_neg (by rw [hw]; decide)]
  exact h
end Go.Proofs.Ytlabebapjhhkaaa
