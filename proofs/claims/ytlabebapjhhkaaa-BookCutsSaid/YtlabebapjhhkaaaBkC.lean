/- What a book becomes behind free calls; what a count leaves: the plain law. No conditions. -/
import Derived.Test.YtlabebapjhhkaaaBkL
namespace Go.Proofs.Ytlabebapjhhkaaa
open Go.RowKit Go.Shelf
theorem free_step {m : BM} (h : m.free) (how : BookV → Int × BookV) (hs : (how m.v).1 = 0 → (how m.v).2.session ≤ m.v.session + 1) : (m.change how).2.free ∧ (m.change how).2.v.session ≤ m.v.session + 1 := by
  obtain ⟨_, h2, h3⟩ := BM.free_change h how
  refine ⟨h2, ?_⟩
  rw [h3]
  by_cases h0 : (how m.v).1 = 0
  · rw [if_pos h0]; exact hs h0
  · rw [if_neg h0]; omega
/-- A call below 7 leaves a power that never goes, and a session more at most. -/
theorem dor_free {N : Nat} {o : OpV} {m M : BM} {r : Int × Int} (hm : m.free) (h : DoR N o m r M) (hk : o.k < 7) : M.free ∧ M.v.session ≤ m.v.session + 1 := by
  unfold DoR at h
  rw [if_neg (by omega)] at h
  unfold BM.act at h
  by_cases e1 : o.k = 1
  · rw [if_pos e1] at h
    rw [(Prod.mk.inj h).2]
    refine free_step hm _ (fun e => ?_)
    unfold nextV at e ⊢
    split at e
    · cases e
    · next h1 => rw [if_neg h1]; exact Int.le_refl _
  rw [if_neg e1] at h
  by_cases e2 : o.k = 2
  · rw [if_pos e2] at h
    rw [(Prod.mk.inj h).2]
    refine free_step hm _ (fun e => ?_)
    unfold putV at e ⊢
    split at e
    · cases e
    · next q1 =>
      rw [if_neg q1]
      split at e
      · cases e
      · next q2 =>
        rw [if_neg q2]
        split at e
        · cases e
        · next q3 =>
          rw [if_neg q3]
          split at e
          · cases e
          · next q4 => rw [if_neg q4]; show m.v.session ≤ _; omega
  rw [if_neg e2] at h
  by_cases e3 : o.k = 3
  · rw [if_pos e3] at h
    rw [(Prod.mk.inj h).2]
    refine free_step hm _ (fun e => ?_)
    unfold deleteV at e ⊢
    split at e
    · cases e
    · next q1 =>
      rw [if_neg q1]
      split at e
      · cases e
      · next q2 => rw [if_neg q2]; exact Int.le_refl _
  rw [if_neg e3] at h
  by_cases e4 : o.k = 4
  · rw [if_pos e4] at h
    rw [(Prod.mk.inj h).2]
    refine free_step hm _ (fun e => ?_)
    unfold refreshV at e ⊢
    split at e
    · cases e
    · next q1 => rw [if_neg q1]; show m.v.session ≤ _; omega
  rw [if_neg e4] at h
  by_cases e5 : o.k = 5
  · rw [if_pos e5] at h
    rw [(Prod.mk.inj h).2]
    refine free_step hm _ (fun e => ?_)
    unfold recoverV at e ⊢
    split at e
    · next q1 => rw [if_pos q1]; show m.v.session ≤ _; omega
    · cases e
  rw [if_neg e5] at h
  by_cases e6 : o.k = 6
  · rw [if_pos e6] at h
    rw [(Prod.mk.inj h).2]
    exact free_step hm _ (fun _ => by show m.v.session ≤ _; omega)
  rw [if_neg e6, if_neg (by omega), if_neg (by omega)] at h
  rw [(Prod.mk.inj h).2]
  exact ⟨hm, by omega⟩
/-- A Begin on a book whose power never goes. -/
theorem free_begin {m : BM} (h : m.free) (hs : m.v.session < 1073741824) : (m.change nextV).1 = 0 ∧ (m.change nextV).2.free ∧ (m.change nextV).2.v = { m.v with session := m.v.session + 1 } := by
  obtain ⟨h1, h2, h3⟩ := BM.free_change h nextV
  have e : nextV m.v = (0, { m.v with session := m.v.session + 1 }) := by unfold nextV; rw [if_neg (by omega)]
  rw [e] at h1 h3
  exact ⟨h1, h2, h3.trans (if_pos rfl)⟩
theorem wpList_wantedB {P : Program} {ops : Array Oper} {Q : Exit → Act → World → Prop} {rest : List Oper} {o : Oper} {a : Act} {w : World} (hw : Region.wanted o (yielded ops a.tmps) = true) (h : wpList P ops Q ({ o with guard := none } :: rest) a w) : wpList P ops Q (o :: rest) a w := by
  obtain ⟨dst, op, ty, pos, after, guard⟩ := o
  unfold wpList at h ⊢
  rw [if_pos hw]
  rw [if_pos (by rfl)] at h
  exact h
/-- Behind a count. -/
structure Cnt (N : Nat) (l : List Int) (v x : BookV) : Prop where
  up : ∀ i, i < N → ∃ b, v.up[i]? = some b ∧ x.up[i]? = some (b && l.contains (i : Int))
  cm : ∀ i, i < N → ∃ c, v.commit[i]? = some c ∧ x.commit[i]? = some (if l.contains (i : Int) = true then v.session else c)
  dec : x.decided = v.session
theorem cnt_count {N : Nat} {v : BookV} (l : List Int) (hu : v.up.length = N) (hc : v.commit.length = N) : Cnt N l v (countV v l) := by
  refine ⟨fun i hi => ⟨_, List.getElem?_eq_getElem (by omega), ?_⟩, fun i hi => ⟨_, List.getElem?_eq_getElem (by omega), ?_⟩, rfl⟩
  · show (v.up.mapIdx _)[i]? = _
    rw [List.getElem?_mapIdx, List.getElem?_eq_getElem (by omega : i < v.up.length)]
    simp only [Option.map_some, if_pos (by omega : i < v.up.length)]
  · show (v.commit.mapIdx _)[i]? = _
    rw [List.getElem?_mapIdx, List.getElem?_eq_getElem (by omega : i < v.commit.length)]
    have hi' : i < v.up.length := by omega
    simp only [Option.map_some, hi', true_and]
theorem Cnt.of {N : Nat} {l : List Int} {v y x : BookV} (h : Cnt N l y x) (e1 : y.up = v.up) (e2 : y.commit = v.commit) (e3 : y.session = v.session) : Cnt N l v x := by
  refine ⟨fun i hi => ?_, fun i hi => ?_, ?_⟩
  · have := h.up i hi; rw [e1] at this; exact this
  · have := h.cm i hi; rw [e2, e3] at this; exact this
  · rw [h.dec, e3]
theorem cnt_put {N : Nat} {m : BM} (h : m.free) (g : GoodV N m.v) (hd : HeadV) (l : List Int) : (m.change (putV hd l)).2.free ∧ ((m.change (putV hd l)).1 ≠ 0 ∧ (m.change (putV hd l)).2.v = m.v ∨ (m.change (putV hd l)).1 = 0 ∧ Cnt N l m.v (m.change (putV hd l)).2.v) := by
  obtain ⟨h1, h2, h3⟩ := BM.free_change h (putV hd l)
  refine ⟨h2, ?_⟩
  rw [h1, h3]
  by_cases h0 : (putV hd l m.v).1 = 0
  · rw [if_pos h0]
    refine Or.inr ⟨h0, ?_⟩
    unfold putV at h0 ⊢
    split at h0
    · cases h0
    · next q1 =>
      rw [if_neg q1]
      split at h0
      · cases h0
      · next q2 =>
        rw [if_neg q2]
        split at h0
        · cases h0
        · next q3 =>
          rw [if_neg q3]
          split at h0
          · cases h0
          · next q4 =>
            rw [if_neg q4]
            exact (cnt_count (v := { m.v with dir := insAt m.v.dir (pos m.v.dir hd.id) hd }) l g.ul g.cl).of rfl rfl rfl
  · rw [if_neg h0]
    exact Or.inl ⟨h0, rfl⟩
theorem cnt_refresh {N : Nat} {m : BM} (h : m.free) (g : GoodV N m.v) (l : List Int) : (m.change (refreshV l)).2.free ∧ ((m.change (refreshV l)).1 ≠ 0 ∧ (m.change (refreshV l)).2.v = m.v ∨ (m.change (refreshV l)).1 = 0 ∧ Cnt N l m.v (m.change (refreshV l)).2.v) := by
  obtain ⟨h1, h2, h3⟩ := BM.free_change h (refreshV l)
  refine ⟨h2, ?_⟩
  rw [h1, h3]
  by_cases h0 : (refreshV l m.v).1 = 0
  · rw [if_pos h0]
    refine Or.inr ⟨h0, ?_⟩
    unfold refreshV at h0 ⊢
    split at h0
    · cases h0
    · next q1 =>
      rw [if_neg q1]
      exact (cnt_count (v := { m.v with epoch := m.v.epoch + 1 }) l g.ul g.cl).of rfl rfl rfl
  · rw [if_neg h0]
    exact Or.inl ⟨h0, rfl⟩
theorem free_delete {m : BM} (h : m.free) (id : List UInt8) : (m.change (deleteV id)).2.free ∧ (m.change (deleteV id)).2.v.session ≤ m.v.session + 1 := by
  refine free_step h _ (fun e => ?_)
  unfold deleteV at e ⊢
  split at e
  · cases e
  · next q1 =>
    rw [if_neg q1]
    split at e
    · cases e
    · next q2 => rw [if_neg q2]; exact Int.le_refl _
theorem reads_get {w : World} {B n i : Nat} {A : Option Addr} {xs : List Value} {u : Value} (h : Reads w B 1 A n xs) (hx : xs[i]? = some u) : ∃ ad, A = some ad ∧ w.cell? (ad.add i) = some u := by
  have hi : i < n := by
    have h1 := h.1
    have h2 := List.getElem?_eq_some_iff.1 hx
    obtain ⟨h3, _⟩ := h2
    omega
  obtain ⟨ad, u', rfl, _, e1, e2⟩ := Reads.at_ h hi
  rw [hx] at e1
  injection e1 with e1
  subst e1
  exact ⟨ad, rfl, e2⟩
theorem up_get {w : World} {S : Nat → Prop} {v : BookV} {Ad Au Ac : Option Addr} {i : Nat} {b : Bool} (h : BookRd w S v Ad Au Ac) (hx : v.up[i]? = some b) : ∃ ad, Au = some ad ∧ w.cell? (ad.add i) = some (.bool b) := reads_get h.up (by rw [List.getElem?_map, hx]; rfl)
theorem com_get {w : World} {S : Nat → Prop} {v : BookV} {Ad Au Ac : Option Addr} {i : Nat} {c : Int} (h : BookRd w S v Ad Au Ac) (hx : v.commit[i]? = some c) : ∃ ad, Ac = some ad ∧ w.cell? (ad.add i) = some (.int .i64 c) := reads_get h.commit (by rw [List.getElem?_map, hx]; rfl)
/-- A book, and the params it was made of. -/
structure CB (w wr : World) (b K : Nat) (p : PrmV) (m : BM) : Prop where
  kb : KbIs wr (fun k => b < k) K p m
  below : Below b w wr
  prm : Blk wr b 23 (prmC p)
theorem CB.step {w wr w' : World} {b K : Nat} {p : PrmV} {m M : BM} (h : CB w wr b K p m) (hk : KbIs w' (Grown (fun k => b < k) wr) K p M) (hp : Keeps (fun k => b < k) wr w') : CB w w' b K p M := by
  have hl := h.prm.lt
  exact ⟨hk.weaken (fun k e => by rcases e with e | e; exact e; show b < k; have : wr.heap.size ≤ k := e; omega), h.below.trans (hp.below (fun _ e => Nat.le_of_lt e) (Nat.le_of_lt hl)), h.prm.keeps hp (fun e => absurd e (Nat.lt_irrefl b))⟩
theorem CB.under {w wr w' : World} {b K : Nat} {p : PrmV} {m : BM} (h : CB w wr b K p m) (hb : Below wr.heap.size wr w') : CB w w' b K p m :=
  ⟨h.kb.below hb, h.below.trans (hb.mono (Nat.le_of_lt h.prm.lt)), h.prm.below hb h.prm.lt⟩
end Go.Proofs.Ytlabebapjhhkaaa
