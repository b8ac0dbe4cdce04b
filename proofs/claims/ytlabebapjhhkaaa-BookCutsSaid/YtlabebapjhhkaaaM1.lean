/- Words of this seat's own: memory, regions, what a call leaves alone. Conditions stand with each theorem. -/
import Derived.WalkKit
import Derived.Outline
import Derived.BigRegion
import Derived.BigQuiet
import Derived.Deep.QuietTactic
import Derived.WalkLawsBesides
import Derived.StillTailTactics
import Derived.Below
import Derived.Laws.OwnMore
import Derived.Deep.Draws
import Derived.Laws.Rows
import Derived.Lib.Hide
import Derived.Deep.DeepCutAuto
import Derived.Deep.CutBlock
import Derived.Deep.LoopGhost
import Derived.Maps.AppendAt
import Derived.Deep.AppendLies
import Derived.RegionTactic
import Derived.OwnWalk
import Derived.Laws.CopyOwn
import Derived.Test.YtlabebapjhhkaaaProg
import Derived.Laws.MakeOwn
namespace Go.Proofs.Ytlabebapjhhkaaa
open Go.RowKit
section
variable {P : Program} {ops : Array Oper} {w : World}
theorem still_of_quiet {o : Oper} {a : Act} {K : Act → Prop} (h : o.quiet P a (fun w' => w' = w) K) : o.still P a w K := by
  obtain ⟨v, h1, h2⟩ := h
  have h3 := h1 w rfl
  unfold Oper.quietAt at h3
  unfold Oper.still
  generalize (execOp a.eval o).run P w = r at *
  cases r with
  | ok n w' =>
    cases n <;> simp only [Oper.quietUpon] at h3 <;> simp only [Oper.stillUpon]
    case value u => exact ⟨h3.1, by rw [h3.2]; exact h2⟩
    case skip => exact ⟨h3.1, by rw [← h3.2]; exact h2⟩
    case enter f args => exact ⟨h3.1, v, h3.2, h2⟩
  | halt x w' => simp only [Oper.quietUpon] at h3
theorem wpStill_of_quiet {Q : Act → Prop} : ∀ (l : List Oper) (a : Act), wpQuiet P ops (fun w' => w' = w) Q l a → wpStill P ops w Q l a
  | [], _, h => h
  | o :: rest, a, h => by
    unfold wpQuiet at h
    unfold wpStill
    split
    · rename_i hw
      rw [if_pos hw] at h
      exact still_of_quiet (Oper.quiet_mono (fun a' h' => wpStill_of_quiet rest a' h') h)
    · rename_i hw
      rw [if_neg hw] at h
      exact wpStill_of_quiet rest _ h
/-- A region that draws: the first n operations are quiet, the rest come in one forced order. -/
theorem wp_region_qt {id : Nat} {Q : Exit → Act → World → Prop} {a : Act} {w : World} {l : List Oper} (n : Nat) (hm : P.follows .mixedOrders = true) (hB : Region.lexTailB .any l.toArray n = true)
    (h : wpQuiet P l.toArray (fun w' => w' = w.drew) (fun a' => wpList P l.toArray Q (l.drop n) a' w.drew) (l.take n) a) : (Code.region id l.toArray true).wp P Q a w :=
  wp_region_still_tail n hm hB (wpStill_of_quiet _ _ h)
/-- A region that draws, all of whose operations are quiet. -/
theorem wp_region_q {id : Nat} {Q : Exit → Act → World → Prop} {a : Act} {w : World} {l : List Oper} (hm : P.follows .mixedOrders = true) (hB : Region.lexB .any l.toArray = true)
    (h : wpQuiet P l.toArray (fun w' => w' = w.drew) (fun a' => Q .normal a' w.drew) l a) : (Code.region id l.toArray true).wp P Q a w :=
  wp_region_quiet (C := fun w' => w' = w.drew) hm hB rfl (by
    have : (fun a' => ∀ w', w' = w.drew → Q .normal a' w') = (fun a' => Q .normal a' w.drew) := by funext a'; simp
    rw [this]; exact h)
end
/-! A region that draws: a head of operations that are quiet IN A CLASS OF WORLDS, then a tail in one forced order. -/
section
variable {P : Program} {ops : Array Oper} {md : Region.Mode} {C : World → Prop}
def headQ (P : Program) (md : Region.Mode) (ops : Array Oper) (C : World → Prop) (n : Nat) (L : Array Bool → Act → Prop) : Nat → Array Bool → Act → Prop
  | 0, listed, a => L listed a
  | f + 1, listed, a => Region.ready md ops listed ≠ [] ∧ ∀ i ∈ Region.ready md ops listed, i < n ∧ qOp P ops C i (headQ P md ops C n L f (listed.setIfInBounds i true)) a
theorem any_of_headQ {n g : Nat} {L : Array Bool → Act → Prop} {Q' : Exit → Act → World → Prop} (hL : ∀ listed a w, C w → L listed a → wpAny P md ops Q' g listed a w) :
    ∀ (f : Nat) (listed : Array Bool) (a : Act) (w : World), C w → headQ P md ops C n L f listed a → wpAny P md ops Q' (f + g) listed a w := by
  intro f
  induction f with
  | zero => intro listed a w hw h; rw [Nat.zero_add]; exact hL _ _ _ hw h
  | succ f ih =>
    intro listed a w hw h
    rw [show f + 1 + g = (f + g) + 1 by omega]
    exact ⟨fun h0 => absurd h0 h.1, fun i hi => wpOp_of_qOp hw (fun a' w' hw' h' => ih _ a' w' hw' h') (h.2 i hi).2⟩
theorem headQ_first {n i : Nat} {oi : Oper} {v : Value} {L : Array Bool → Act → Prop} (hi : ops[i]? = some oi) (hsel : ∀ (j : Nat) (o : Oper) cs b, ops[j]? = some o → o.op ≠ .select cs b)
    (hs : Region.sinkB md ops n = true) (hc : Region.chainB md ops n = true) (hn : n < ops.size) (hin : i < n) (hdone : ∀ listed a, L listed a → ∀ j ∈ Region.ready md ops listed, n ≤ j) :
    ∀ (f : Nat) (listed : Array Bool) (a : Act), HeadInv md ops n listed →
      (∀ j oj, ops[j]? = some oj → j ≠ i → listed.getD j true = false → (∀ e ∈ oj.after, Region.binds md e = true → e.on ≠ i) → oi.apart ops oj = true) →
      i ∈ Region.ready md ops listed → YieldsIn P ops C oi v a → headQ P md ops C n L f (listed.setIfInBounds i true) (a.put oi.dst v) → headQ P md ops C n L (f + 1) listed a := by
  intro f
  induction f with
  | zero =>
    intro listed a inv _ hr hy H
    have hun := (mem_ready.1 hr).1
    refine ⟨fun h => (by rw [h] at hr; cases hr), fun j hj => ?_⟩
    have hjn : j < n := (Nat.lt_or_ge j n).resolve_right fun h => tail_waits hs hc hn inv _ i rfl hin hun j h hj
    refine ⟨hjn, ?_⟩
    by_cases hji : j = i
    · subst hji; exact hy.qOp hi H
    · have := hdone _ _ H j (ready_mono hj hji)
      omega
  | succ f ih =>
    intro listed a inv hfree hr hy H
    have hun := (mem_ready.1 hr).1
    refine ⟨fun h => (by rw [h] at hr; cases hr), fun j hj => ?_⟩
    have hjn : j < n := (Nat.lt_or_ge j n).resolve_right fun h => tail_waits hs hc hn inv _ i rfl hin hun j h hj
    refine ⟨hjn, ?_⟩
    by_cases hji : j = i
    · subst hji; exact hy.qOp hi H
    obtain ⟨hjun, oj, hoj, hall⟩ := mem_ready.1 hj
    have hnot : ∀ e ∈ oj.after, Region.binds md e = true → e.on ≠ i := fun e he hb heq => by
      have h1 := hall e he hb
      rw [heq, getD_both hun] at h1
      cases h1
    have h2 := qOp_put hoj (hfree j oj hoj hji hjun hnot) (fun cs b => hsel i oi cs b hi) (fun cs b => hsel j oj cs b hoj) hy (H.2 j (ready_mono hj hji)).2
    refine qOp_mono (fun a' h3 => ih (listed.setIfInBounds j true) a' (inv.set hj hjn) (fun k ok hk hki hk2 hno => hfree k ok hk hki ?_ hno) (ready_mono hr (Ne.symm hji)) h3.1 ?_) h2
    · by_cases hjk : j = k
      · subst hjk; exact hjun
      · rwa [getD_set_ne true hjk] at hk2
    · rw [Array.setIfInBounds_comm _ _ hji]
      exact h3.2
theorem headQ_lex {n g : Nat} {Lq : Act → Prop} (hsel : Region.noSelect ops = true) (hs : Region.sinkB md ops n = true) (hc : Region.chainB md ops n = true) (hn : n < ops.size) :
    ∀ (l : List Oper) (k : Nat) (listed : Array Bool) (a : Act), (∀ j, j < l.length → l[j]? = ops[k + j]?) → k + l.length = n → HeadInv md ops n listed →
    Region.lexHead md ops g l.length k listed = true → wpQuiet P ops C Lq l a → headQ P md ops C n (fun listed' a' => Region.seqB md ops g n listed' = true ∧ Lq a') l.length listed a := by
  intro l
  induction l with
  | nil =>
    intro k listed a _ hk _ hB h
    obtain rfl : k = n := by simpa using hk
    exact ⟨by simpa [Region.lexHead] using hB, h⟩
  | cons o l ih =>
    intro k listed a hl hk inv hB h
    have h0 : ops[k]? = some o := by simpa using (hl 0 (by simp)).symm
    simp only [List.length_cons] at hk hl
    simp only [List.length_cons, Region.lexHead, Bool.and_eq_true] at hB
    obtain ⟨⟨hr, hf⟩, hB'⟩ := hB
    have hr' : k ∈ Region.ready md ops listed := by simpa using hr
    have hq : qOp P ops C k (wpQuiet P ops C Lq l) a := by unfold qOp; simp only [h0]; exact h
    obtain ⟨v, hy, hK⟩ := yieldsIn_of_qOp h0 hq
    exact headQ_first h0 (Region.noSelect_spec hsel) hs hc hn (by omega) (fun listed' a' hL => seqB_ready hL.1) l.length listed a inv (Region.free_spec h0 hf) hr' hy
      (ih (k + 1) _ _ (fun j hj => by have := hl (j + 1) (by omega); simpa [Nat.add_assoc, Nat.add_comm 1 j] using this) (by omega) (inv.set hr' (by omega)) hB' hK)
theorem wp_region_qc {id : Nat} {Q : Exit → Act → World → Prop} {a : Act} {w : World} {l : List Oper} (C : World → Prop) (n : Nat) (hm : P.follows .mixedOrders = true) (hB : Region.lexTailB .any l.toArray n = true) (hC : C w.drew)
    (h : wpQuiet P l.toArray C (fun a' => ∀ w', C w' → wpList P l.toArray Q (l.drop n) a' w') (l.take n) a) : (Code.region id l.toArray true).wp P Q a w := by
  simp only [Region.lexTailB, Bool.and_eq_true, decide_eq_true_eq] at hB
  obtain ⟨⟨⟨⟨hsel, hn⟩, hs⟩, hc⟩, hlex⟩ := hB
  have hn' : n < l.length := by simpa using hn
  have htl : (l.take n).length = n := by simp; omega
  have hdl : (l.drop n).length = l.toArray.size - n := by simp
  have inv0 : HeadInv .any l.toArray n (Array.replicate l.toArray.size false) :=
    ⟨by simp, fun j oj _ hl => (by rw [getD_replicate_false] at hl; cases hl), fun t _ ht => getD_in (by simpa using ht) (getD_replicate_false _ _)⟩
  have H := headQ_lex (md := .any) (g := l.toArray.size - n) hsel hs hc hn (l.take n) 0 _ a (fun j hj => by
    have hj' : j < n := by rw [htl] at hj; exact hj
    simp [hj']) (by simpa using htl) inv0 (by rw [htl]; exact hlex) h
  refine wp_region_any hm ?_
  have := any_of_headQ (Q' := Q) (g := l.toArray.size - n) (fun listed a' w' hw' hL => by
    have := wpAny_of_seq (md := .any) (Q' := Q) (l.drop n) n listed a' w' (fun j => by simp [List.getElem?_drop]) (by rw [hdl]; exact hL.1) (hL.2 w' hw')
    rwa [hdl] at this) _ _ _ _ hC H
  rw [htl, show n + (l.toArray.size - n) = l.toArray.size by omega] at this
  exact this
end
/-! The same where the first operation is a move whose value the tail alone reads. -/
section
variable {P : Program} {ops : Array Oper} {md : Region.Mode} {C : World → Prop}
def sinkFrom (md : Region.Mode) (ops : Array Oper) (k0 n : Nat) : Bool :=
  (List.range n).all fun i => decide (i < k0) || (List.range (n + 1)).any fun j => decide (i < j) && Region.waitsFor md ops j i
theorem tail_waits2 {k0 n : Nat} {listed : Array Bool} (hs : sinkFrom md ops k0 n = true) (hc : Region.chainB md ops n = true) (hn : n < ops.size) (inv : HeadInv md ops n listed) (h0 : ∀ i, i < k0 → listed.getD i true = true) :
    ∀ (d i : Nat), n - i = d → i < n → listed.getD i true = false → ∀ t, n ≤ t → t ∉ Region.ready md ops listed := by
  intro d
  induction d using Nat.strongRecOn with
  | _ d ih =>
    intro i hd hi hun t ht hr
    obtain ⟨_, ot, hot, hall⟩ := mem_ready.1 hr
    have htlt : t < ops.size := (Array.getElem?_eq_some_iff.1 hot).1
    have hik : ¬ i < k0 := fun h => by rw [h0 i h] at hun; cases hun
    rcases Nat.lt_or_ge n t with htn | htn
    · have h1 := List.all_eq_true.1 hc t (List.mem_range.2 htlt)
      simp only [Bool.or_eq_true, decide_eq_true_eq] at h1
      obtain ⟨o', ho', e, he, hb, hon⟩ := Region.waitsFor_spec (h1.resolve_left (by omega))
      obtain rfl : o' = ot := Option.some.inj (ho'.symm.trans hot)
      have h2 := hall e he hb
      rw [hon, getD_both (inv.tail (t - 1) (by omega) (by omega))] at h2
      cases h2
    · obtain rfl : t = n := by omega
      have h1 := List.all_eq_true.1 hs i (List.mem_range.2 hi)
      simp only [Bool.or_eq_true, decide_eq_true_eq] at h1
      obtain ⟨j, hj, hj2⟩ := List.any_eq_true.1 (h1.resolve_left hik)
      simp only [Bool.and_eq_true, decide_eq_true_eq] at hj2
      obtain ⟨oj, hoj, e, he, hb, hon⟩ := Region.waitsFor_spec hj2.2
      have hjle : j ≤ t := by have := List.mem_range.1 hj; omega
      by_cases hjt : j = t
      · subst hjt
        obtain rfl : oj = ot := Option.some.inj (hoj.symm.trans hot)
        have h2 := hall e he hb
        rw [hon, getD_both hun] at h2
        cases h2
      · cases hl : listed.getD j false with
        | true =>
          have h2 := inv.closed j oj hoj hl e he hb
          rw [hon, getD_both hun] at h2
          cases h2
        | false =>
          have hjs : j < listed.size := by rw [inv.size]; omega
          exact ih (t - j) (by omega) j rfl (by omega) (getD_in hjs hl) t (Nat.le_refl _) hr
theorem headQ_first2 {k0 n i : Nat} {oi : Oper} {v : Value} {L : Array Bool → Act → Prop} (hi : ops[i]? = some oi) (hsel : ∀ (j : Nat) (o : Oper) cs b, ops[j]? = some o → o.op ≠ .select cs b)
    (hs : sinkFrom md ops k0 n = true) (hc : Region.chainB md ops n = true) (hn : n < ops.size) (hin : i < n) (hdone : ∀ listed a, L listed a → ∀ j ∈ Region.ready md ops listed, n ≤ j) :
    ∀ (f : Nat) (listed : Array Bool) (a : Act), HeadInv md ops n listed → (∀ i, i < k0 → listed.getD i true = true) →
      (∀ j oj, ops[j]? = some oj → j ≠ i → listed.getD j true = false → (∀ e ∈ oj.after, Region.binds md e = true → e.on ≠ i) → oi.apart ops oj = true) →
      i ∈ Region.ready md ops listed → YieldsIn P ops C oi v a → headQ P md ops C n L f (listed.setIfInBounds i true) (a.put oi.dst v) → headQ P md ops C n L (f + 1) listed a := by
  intro f
  induction f with
  | zero =>
    intro listed a inv h0 _ hr hy H
    have hun := (mem_ready.1 hr).1
    refine ⟨fun h => (by rw [h] at hr; cases hr), fun j hj => ?_⟩
    have hjn : j < n := (Nat.lt_or_ge j n).resolve_right fun h => tail_waits2 hs hc hn inv h0 _ i rfl hin hun j h hj
    refine ⟨hjn, ?_⟩
    by_cases hji : j = i
    · subst hji; exact hy.qOp hi H
    · have := hdone _ _ H j (ready_mono hj hji)
      omega
  | succ f ih =>
    intro listed a inv h0 hfree hr hy H
    have hun := (mem_ready.1 hr).1
    refine ⟨fun h => (by rw [h] at hr; cases hr), fun j hj => ?_⟩
    have hjn : j < n := (Nat.lt_or_ge j n).resolve_right fun h => tail_waits2 hs hc hn inv h0 _ i rfl hin hun j h hj
    refine ⟨hjn, ?_⟩
    by_cases hji : j = i
    · subst hji; exact hy.qOp hi H
    obtain ⟨hjun, oj, hoj, hall⟩ := mem_ready.1 hj
    have hnot : ∀ e ∈ oj.after, Region.binds md e = true → e.on ≠ i := fun e he hb heq => by
      have h1 := hall e he hb
      rw [heq, getD_both hun] at h1
      cases h1
    have h2 := qOp_put hoj (hfree j oj hoj hji hjun hnot) (fun cs b => hsel i oi cs b hi) (fun cs b => hsel j oj cs b hoj) hy (H.2 j (ready_mono hj hji)).2
    refine qOp_mono (fun a' h3 => ih (listed.setIfInBounds j true) a' (inv.set hj hjn) (fun q hq => ?_) (fun k ok hk hki hk2 hno => hfree k ok hk hki ?_ hno) (ready_mono hr (Ne.symm hji)) h3.1 ?_) h2
    · by_cases hjq : j = q
      · subst hjq
        rw [h0 j hq] at hjun
        cases hjun
      · rw [getD_set_ne true hjq]; exact h0 q hq
    · by_cases hjk : j = k
      · subst hjk; exact hjun
      · rwa [getD_set_ne true hjk] at hk2
    · rw [Array.setIfInBounds_comm _ _ hji]
      exact h3.2
theorem headQ_lex2 {k0 n g : Nat} {Lq : Act → Prop} (hsel : Region.noSelect ops = true) (hs : sinkFrom md ops k0 n = true) (hc : Region.chainB md ops n = true) (hn : n < ops.size) :
    ∀ (l : List Oper) (k : Nat) (listed : Array Bool) (a : Act), (∀ j, j < l.length → l[j]? = ops[k + j]?) → k + l.length = n → HeadInv md ops n listed → (∀ i, i < k0 → listed.getD i true = true) → k0 ≤ k →
    Region.lexHead md ops g l.length k listed = true → wpQuiet P ops C Lq l a → headQ P md ops C n (fun listed' a' => Region.seqB md ops g n listed' = true ∧ Lq a') l.length listed a := by
  intro l
  induction l with
  | nil =>
    intro k listed a _ hk _ _ _ hB h
    obtain rfl : k = n := by simpa using hk
    exact ⟨by simpa [Region.lexHead] using hB, h⟩
  | cons o l ih =>
    intro k listed a hl hk inv h0' hk0 hB h
    have h0 : ops[k]? = some o := by simpa using (hl 0 (by simp)).symm
    simp only [List.length_cons] at hk hl
    simp only [List.length_cons, Region.lexHead, Bool.and_eq_true] at hB
    obtain ⟨⟨hr, hf⟩, hB'⟩ := hB
    have hr' : k ∈ Region.ready md ops listed := by simpa using hr
    have hq : qOp P ops C k (wpQuiet P ops C Lq l) a := by unfold qOp; simp only [h0]; exact h
    obtain ⟨v, hy, hK⟩ := yieldsIn_of_qOp h0 hq
    exact headQ_first2 h0 (Region.noSelect_spec hsel) hs hc hn (by omega) (fun listed' a' hL => seqB_ready hL.1) l.length listed a inv h0' (Region.free_spec h0 hf) hr' hy
      (ih (k + 1) _ _ (fun j hj => by have := hl (j + 1) (by omega); simpa [Nat.add_assoc, Nat.add_comm 1 j] using this) (by omega) (inv.set hr' (by omega)) (fun i hi => by rw [getD_set_ne true (by omega)]; exact h0' i hi) (by omega) hB' hK)
def lexTail1B (ops : Array Oper) (n : Nat) : Bool :=
  Region.noSelect ops && decide (0 < n) && decide (n < ops.size) && sinkFrom .any ops 1 n && Region.chainB .any ops n && (Region.ready .any ops (Array.replicate ops.size false)).contains 0 && Region.free .any ops (Array.replicate ops.size false) 0 &&
    Region.lexHead .any ops (ops.size - n) (n - 1) 1 ((Array.replicate ops.size false).setIfInBounds 0 true)
theorem wp_region_qk {id : Nat} {Q : Exit → Act → World → Prop} {a : Act} {w : World} {l : List Oper} (C : World → Prop) (n : Nat) (o0 : Oper) (x : Operand) (v : Value) (ho : l[0]? = some o0) (hx : o0.op = .move x) (hg : o0.guard = none) (hv : a.eval x = v)
    (hm : P.follows .mixedOrders = true) (hB : lexTail1B l.toArray n = true) (hQ : ∀ c a w, Q (.panic c) (a.put o0.dst v) w → Q (.panic c) a w) (hC : C w.drew)
    (h : wpQuiet P l.toArray C (fun a' => ∀ w', C w' → wpList P l.toArray Q (l.drop n) a' w') ((l.take n).drop 1) (a.put o0.dst v)) : (Code.region id l.toArray true).wp P Q a w := by
  simp only [lexTail1B, Bool.and_eq_true, decide_eq_true_eq] at hB
  obtain ⟨⟨⟨⟨⟨⟨⟨hsel, hn0⟩, hn⟩, hs⟩, hc⟩, hr0⟩, hf0⟩, hlex⟩ := hB
  have hn' : n < l.length := by simpa using hn
  have htl : ((l.take n).drop 1).length = n - 1 := by simp; omega
  have hdl : (l.drop n).length = l.toArray.size - n := by simp
  have ho' : l.toArray[0]? = some o0 := by simpa using ho
  have hl1 : 0 < (Array.replicate l.toArray.size false).size := by simp; omega
  have inv0 : HeadInv .any l.toArray n (Array.replicate l.toArray.size false) :=
    ⟨by simp, fun j oj _ hl => (by rw [getD_replicate_false] at hl; cases hl), fun t _ ht => getD_in (by simpa using ht) (getD_replicate_false _ _)⟩
  have inv1 := inv0.set (i := 0) (by simpa using hr0) hn0
  have H := headQ_lex2 (md := .any) (k0 := 1) (g := l.toArray.size - n) hsel hs hc hn ((l.take n).drop 1) 1 _ (a.put o0.dst v) (fun j hj => by
    have hj' : j < n - 1 := by rw [htl] at hj; exact hj
    rw [List.getElem?_drop, List.getElem?_take, if_pos (by omega)]
    simp) (by rw [htl]; omega) inv1 (fun i hi => by
      obtain rfl : i = 0 := by omega
      simp [show 0 < l.length by omega]) (Nat.le_refl _) (by rw [htl]; exact hlex) h
  refine wp_region_any hm ?_
  have := any_of_headQ (Q' := Q) (g := l.toArray.size - n) (fun listed a' w' hw' hL => by
    have := wpAny_of_seq (md := .any) (Q' := Q) (l.drop n) n listed a' w' (fun j => by simp [List.getElem?_drop]) (by rw [hdl]; exact hL.1) (hL.2 w' hw')
    rwa [hdl] at this) _ _ _ _ hC H
  rw [htl] at this
  have hsz : l.toArray.size = (n - 1 + (l.toArray.size - n)) + 1 := by omega
  rw [hsz]
  refine wpAny_take (i := 0) (v := v) ho' hsel ?_ ?_ hQ (Or.inl ⟨by simp [Region.wanted, hg], fun w => ?_⟩) ?_
  · rw [← hsz]; exact hf0
  · rw [← hsz]; exact hr0
  · rw [BigFrame.run_move x hx, hv]
  · rw [← hsz]; exact this
end
def Blk (w : World) (g : Nat) (t : TypeId) (cs : Array Value) : Prop := w.heap[g]? = some (.cells cs t (0, 0))
section
variable {w w' : World} {g : Nat} {t : TypeId} {cs : Array Value}
theorem Blk.lt (h : Blk w g t cs) : g < w.heap.size := by
  rcases Nat.lt_or_ge g w.heap.size with hlt | hge
  · exact hlt
  · unfold Blk at h; rw [Array.getElem?_eq_none hge] at h; cases h
theorem Blk.cell (h : Blk w g t cs) (i : Nat) : w.cell? ⟨g, i, none⟩ = cs[i]? := cell_of_row w g i cs t (0, 0) h
theorem Blk.frozen (h : Blk w g t cs) (i : Nat) : w.frozen? ⟨g, i, none⟩ = false := by
  unfold Blk at h
  simp [World.frozen?, h]
theorem Blk.new (w : World) (t : TypeId) (cs : Array Value) : Blk (w.alloc (.cells cs t)) w.heap.size t cs := heap_alloc_new w _
theorem Blk.new' {w : World} {g : Nat} {t : TypeId} {cs : Array Value} (h : g = w.heap.size) : Blk (w.alloc (.cells cs t)) g t cs := by subst h; exact heap_alloc_new w _
theorem Blk.drew (h : Blk w g t cs) : Blk w.drew g t cs := h
theorem Blk.drewN (h : Blk w g t cs) (n : Nat) : Blk (w.drewN n) g t cs := h
theorem Blk.alloc (h : Blk w g t cs) (o : Obj) : Blk (w.alloc o) g t cs := (Below.heap_alloc w o g h.lt).trans h
theorem Blk.set_ (h : Blk w g t cs) (i : Nat) (u : Value) : Blk (w.setCell ⟨g, i, none⟩ u) g t (cs.setIfInBounds i u) := by
  unfold Blk at h ⊢
  simp [World.setCell, Array.getElem?_modify, h]
theorem Blk.far (h : Blk w g t cs) {p : Addr} (hp : g ≠ p.block) (u : Value) : Blk (w.setCell p u) g t cs := (Below.heap_setCell w p u g hp).trans h
theorem Blk.below {B : Nat} (h : Blk w g t cs) (hb : Below B w w') (hg : g < B) : Blk w' g t cs := (hb.block g hg).trans h
theorem Blk.grown {row : Option Nat} (h : Blk w g t cs) (hb : w.grownBy w' row) (hg : some g ≠ row) : Blk w' g t cs := (hb.block g h.lt hg).trans h
theorem Blk.ne_ {g' : Nat} {t' : TypeId} {cs' : Array Value} (h : Blk w g t cs) (h' : Blk w g' t' cs') (hne : t ≠ t') : g ≠ g' := by
  rintro rfl
  unfold Blk at h h'
  rw [h] at h'
  injection h' with h'
  injection h' with _ ht
  exact hne ht
end
/-! Loads in a class of worlds. -/
section
variable {P : Program} {C : World → Prop} {o : Oper} {a : Act} {K : Act → Prop}
theorem quiet_load_row (ty : TypeId) (x : Operand) (ho : o.op = .load ty x) (g : Nat) (hx : a.eval x = .pointer (some ⟨g, 0, none⟩)) (t : TypeId) (cs : Array Value) (d : TypeDesc) (hg : ∀ w, C w → Blk w g t cs)
    (hu : P.underlying ty = some d) (hd : (match d with | .struct _ | .array _ _ => true | _ => false) = true) (hi : (P.info? ty).map (·.size) = some cs.size)
    (h : K (a.put o.dst (.agg cs))) : o.quiet P a C K := by
  refine ⟨_, fun w hw => ?_, h⟩
  unfold Oper.quietAt execOp
  simp only [ho, hx, Instr.loadAt, Instr.sureAddr, Sem.run_bind, Sem.run_pure, Result.andThen_ok, run_loadVar_row w g t ty cs (0, 0) d (hg w hw) hu hd hi, Oper.quietUpon, and_self]
end
theorem run_index_one (P : Program) (ty e : TypeId) (n : Nat) (cs : Array Value) (k : IntKind) (i : Nat) (v : Value) (hu : P.underlying ty = some (.array n e)) (hs : (P.info? e).map (·.size) = some 1) (hag : ∀ w, (isAgg e).run P w = .ok false w)
    (hi : i < n) (hc : cs[i]? = some v) (w : World) : (Instr.index ty (.agg cs) (.int k (i : Int))).run P w = .ok v w := by
  cases hq : P.info? e with
  | none => simp [hq] at hs
  | some inf =>
    have hsz : inf.size = 1 := by simpa [hq] using hs
    simp [Instr.index, asIntOf, run_underlying hu, part, sizeOf, typeInfo, hq, hsz, hag, hi, hc]
theorem wpList_index_one {P : Program} {ops : Array Oper} {rest : List Oper} {o : Oper} {a : Act} {Q : Exit → Act → World → Prop} {w : World} (hgd : o.guard = none) (ty : TypeId) (x ix : Operand) (ho : o.op = .index ty x ix) (e : TypeId) (n : Nat) (cs : Array Value) (k : IntKind) (i : Nat) (v : Value)
    (hx : a.eval x = .agg cs) (hix : a.eval ix = .int k (i : Int)) (hu : P.underlying ty = some (.array n e)) (hs : (P.info? e).map (·.size) = some 1) (hag : ∀ w, (isAgg e).run P w = .ok false w)
    (hi : i < n) (hc : cs[i]? = some v) (h : wpList P ops Q rest (a.put o.dst v) w) : wpList P ops Q (o :: rest) a w :=
  wpList_plain hgd fun _ hK => by
    unfold Oper.wp execOp
    simp only [ho, hx, hix, Sem.run_bind, run_index_one P ty e n cs k i v hu hs hag hi hc w, Result.andThen_ok, Sem.run_pure]
    exact hK _ _ h
theorem grownBy_below {w W : World} {g : Option Nat} (h : Below w.heap.size w W) : w.grownBy W g := ⟨h.os, h.tape, h.output, h.size, fun i hi _ => h.block i hi⟩
theorem grownBy_set {w W : World} {g : Nat} (h : w.grownBy W (some g)) (i : Nat) (u : Value) : w.grownBy (W.setCell ⟨g, i, none⟩ u) (some g) :=
  ⟨h.os, h.tape, h.output, by simp only [World.setCell, Array.size_modify]; exact h.size, fun k hk hne => (Below.heap_setCell _ _ _ _ (fun e => hne (by rw [e]))).trans (h.block k hk hne)⟩
theorem grownBy_drew {w W : World} {g : Option Nat} (h : w.grownBy W g) : w.grownBy W.drew g := ⟨h.os, h.tape, h.output, h.size, h.block⟩
/-! Words for memory: turned from the guide's page of words to copy. -/
theorem block_of_add (a : Addr) (n : Nat) : (a.add n).block = a.block := by unfold Addr.add; split <;> rfl
theorem add_of_add (a : Addr) (i j : Nat) : (a.add i).add j = a.add (i + j) := by
  unfold Addr.add
  by_cases hi : i = 0 <;> by_cases hj : j = 0 <;> simp [hi, hj, Nat.add_assoc]

def Reads (w : World) (B size : Nat) (A : Option Addr) (n : Nat) (xs : List Value) : Prop :=
  xs.length = n * size ∧ (0 < n → ∃ ad, A = some ad ∧ ad.block < B ∧ ∀ j u, xs[j]? = some u → w.cell? (ad.add j) = some u)

section
variable {w w' : World} {B B' size n : Nat} {A : Option Addr} {xs : List Value}
theorem Reads.none_ : Reads w B size A 0 [] := ⟨by simp, fun h => absurd h (by omega)⟩
theorem Reads.at_ {k : Nat} (h : Reads w B 1 A n xs) (hk : k < n) : ∃ ad u, A = some ad ∧ ad.block < B ∧ xs[k]? = some u ∧ w.cell? (ad.add k) = some u := by
  obtain ⟨ad, e, hb, hc⟩ := h.2 (by omega)
  have hl : k < xs.length := by have := h.1; omega
  exact ⟨ad, xs[k], e, hb, List.getElem?_eq_getElem hl, hc k _ (List.getElem?_eq_getElem hl)⟩
theorem Reads.keep (h : Reads w B size A n xs) (hk : ∀ p : Addr, p.block < B → w'.cell? p = w.cell? p) : Reads w' B size A n xs :=
  ⟨h.1, fun hn => by
    obtain ⟨ad, e, hb, hc⟩ := h.2 hn
    exact ⟨ad, e, hb, fun j u hu => (hk _ (by rw [block_of_add]; exact hb)).trans (hc j u hu)⟩⟩
theorem Reads.more (h : Reads w B size A n xs) (hB : B ≤ B') : Reads w B' size A n xs :=
  ⟨h.1, fun hn => by
    obtain ⟨ad, e, hb, hc⟩ := h.2 hn
    exact ⟨ad, e, by omega, hc⟩⟩
theorem Reads.below (h : Reads w B size A n xs) (hb : Below B w w') : Reads w' B size A n xs := h.keep fun _ hp => hb.cell hp
theorem Reads.drew (h : Reads w B size A n xs) : Reads w.drew B size A n xs := h
theorem Reads.drewN (h : Reads w B size A n xs) (k : Nat) : Reads (w.drewN k) B size A n xs := h
theorem Reads.alloc (h : Reads w B size A n xs) (hB : B ≤ w.heap.size) (o : Obj) : Reads (w.alloc o) B size A n xs := h.keep fun p hp => World.cell?_alloc_lt w o p (by omega)
theorem Reads.setCell (h : Reads w B size A n xs) {p : Addr} (hB : B ≤ p.block) (u : Value) : Reads (w.setCell p u) B size A n xs :=
  h.keep fun q hq => World.cell?_setCell_other w p q u (fun e => by subst e; omega)
theorem Reads.grown (h : Reads w B size A n xs) {row : Option Nat} (hg : w.grownBy w' row) (hB : B ≤ w.heap.size) (hr : ∀ g, row = some g → B ≤ g) : Reads w' B size A n xs :=
  h.keep fun p hp => World.cell?_of_block (hg.block p.block (by omega) (fun e => by have := hr _ e.symm; omega))
theorem Reads.cut (h : Reads w B size A n xs) {k cap : Nat} (hk : k ≤ n) (hc : n ≤ cap) :
    Reads w B size (if cap = k then A else A.map (·.add (k * size))) (n - k) (xs.drop (k * size)) := by
  refine ⟨by rw [List.length_drop, h.1, Nat.sub_mul], fun hn => ?_⟩
  obtain ⟨ad, rfl, hb, hcell⟩ := h.2 (by omega)
  rw [if_neg (by omega)]
  refine ⟨ad.add (k * size), rfl, by rw [block_of_add]; exact hb, fun j u hu => ?_⟩
  rw [add_of_add]
  exact hcell _ u (by rw [← hu, List.getElem?_drop])
theorem Reads.of_own {base : Nat} {e : TypeId} {c : Nat} (h : w.ownsRow base e size (.slice A n c) n xs) : Reads w w.heap.size size A n xs := by
  refine ⟨h.1, fun hn => ?_⟩
  obtain ⟨g, cap, hv, _, hlt⟩ := h.form hn
  have hA : A = some ⟨g, 0, none⟩ := by injection hv
  subst hA
  exact ⟨_, rfl, hlt, h.cells (g := g) rfl⟩
end
section
variable {P : Program} (w : World)

theorem run_append_of_nil (base : Nat) (t ty e : TypeId) (i : TypeInfo) (size : Nat) (ht : P.underlying t = some (.slice e)) (hi : P.info? e = some i)
    (v : Value) (n : Nat) (xs : List Value) (hown : w.ownsRow base e size v n xs) (c : Nat) : (Builtin.append_ #[t, t] ty #[v, .slice none 0 c]).run P w = .ok v w := by
  rcases hown.2 with ⟨rfl, rfl⟩ | ⟨g, cap, cur, rfl, _, _, hnc, _⟩
  · simp [Builtin.append_, run_underlying ht, sizeOf, typeInfo, hi, Builtin.lenOf, Builtin.firstCells]
  · simp [Builtin.append_, run_underlying ht, sizeOf, typeInfo, hi, Builtin.lenOf, Builtin.firstCells, hnc, storeCells]

theorem run_append_any (base : Nat) (t ty e : TypeId) (i : TypeInfo) (z : Value) (size bytes : Nat) (ht : P.underlying t = some (.slice e)) (hi : P.info? e = some i) (hz : i.zero = some z)
    (hsize : i.size = size) (hby : i.bytes = bytes) (hzs : z.cells.size = size) (hsz : 0 < size)
    (v : Value) (n : Nat) (xs : List Value) (hown : w.ownsRow base e size v n xs)
    (B : Nat) (A : Option Addr) (m c : Nat) (news : List Value) (hr : Reads w B size A m news) (h1 : ∀ u ∈ news, u.oneCell' = true)
    (h63 : n + m ≤ maxLen) (hbytes : (n + m) * bytes ≤ 140737488355328) (hbase : base ≤ w.heap.size) :
    ∃ v' w', (Builtin.append_ #[t, t] ty #[v, .slice A m c]).run P w = .ok v' w' ∧ w'.ownsRow base e size v' (n + m) (xs ++ news) ∧ w.grownBy w' v.ownBlock ∧
      (v'.ownBlock = v.ownBlock ∨ v'.ownBlock = some w.heap.size) := by
  rcases A with _ | ad
  · have hm : m = 0 := by
      rcases Nat.eq_zero_or_pos m with h0 | h0
      · exact h0
      · obtain ⟨ad, h, _⟩ := hr.2 h0
        cases h
    subst hm
    have hn : news = [] := List.eq_nil_of_length_eq_zero (by simpa using hr.1)
    subst hn
    exact ⟨v, w, run_append_of_nil w base t ty e i size ht hi v n xs hown c, by simpa using hown, World.grownBy.refl w _, .inl rfl⟩
  · have hcells : ∀ j u, news[j]? = some u → w.cell? (ad.add j) = some u := by
      intro j u hu
      rcases Nat.eq_zero_or_pos m with h0 | h0
      · subst h0
        have hn : news = [] := List.eq_nil_of_length_eq_zero (by simpa using hr.1)
        subst hn
        simp at hu
      · obtain ⟨ad', h, _, hc⟩ := hr.2 h0
        injection h with h
        subst h
        exact hc j u hu
    obtain ⟨v', w', hrun, h2, h3, _, h5⟩ := run_append_own_at (P := P) w base t ty e i z size bytes ht hi hz hsize hby hzs hsz v n xs hown ad m c news hr.1 hcells h1 h63 hbytes hbase
    exact ⟨v', w', hrun, h2, h3, h5⟩

theorem wp_append_any {o : Oper} {a : Act} {K : Act → World → Prop} {Q : Exit → Act → World → Prop} (s x : Operand) (t : TypeId)
    (ho : o.op = .call { callee := .builtin .append, args := #[s, x], argTypes := #[t, t] })
    (base : Nat) (e : TypeId) (i : TypeInfo) (z : Value) (size bytes : Nat) (ht : P.underlying t = some (.slice e)) (hi : P.info? e = some i) (hz : i.zero = some z)
    (hsize : i.size = size) (hby : i.bytes = bytes) (hzs : z.cells.size = size) (hsz : 0 < size)
    (v : Value) (n : Nat) (xs : List Value) (hs : a.eval s = v) (hown : w.ownsRow base e size v n xs)
    (B : Nat) (A : Option Addr) (m c : Nat) (news : List Value) (hx : a.eval x = .slice A m c) (hr : Reads w B size A m news) (h1 : ∀ u ∈ news, u.oneCell' = true)
    (h63 : n + m ≤ maxLen) (hbytes : (n + m) * bytes ≤ 140737488355328) (hbase : base ≤ w.heap.size)
    (h : ∀ v' w', w'.ownsRow base e size v' (n + m) (xs ++ news) → w.grownBy w' v.ownBlock → (v'.ownBlock = v.ownBlock ∨ v'.ownBlock = some w.heap.size) → K (a.put o.dst v') w') : o.wp P a w K Q := by
  obtain ⟨v', w', hrun, h2, h3, h4⟩ := run_append_any (P := P) w base t o.type e i z size bytes ht hi hz hsize hby hzs hsz v n xs hown B A m c news hr h1 h63 hbytes hbase
  unfold Oper.wp execOp
  simp only [ho, resolve, invoke, builtin, Sem.run_bind, Sem.run_pure, Result.andThen_ok, List.map_toArray, List.map_cons, List.map_nil, hs, hx, hrun]
  exact h v' w' h2 h3 h4

theorem wpList_append_any {ops : Array Oper} {rest : List Oper} {o : Oper} {a : Act} {Q : Exit → Act → World → Prop} (hgd : o.guard = none) (s x : Operand) (t : TypeId)
    (ho : o.op = .call { callee := .builtin .append, args := #[s, x], argTypes := #[t, t] })
    (base : Nat) (e : TypeId) (i : TypeInfo) (z : Value) (size bytes : Nat) (ht : P.underlying t = some (.slice e)) (hi : P.info? e = some i) (hz : i.zero = some z)
    (hsize : i.size = size) (hby : i.bytes = bytes) (hzs : z.cells.size = size) (hsz : 0 < size)
    (v : Value) (n : Nat) (xs : List Value) (hs : a.eval s = v) (hown : w.ownsRow base e size v n xs)
    (B : Nat) (A : Option Addr) (m c : Nat) (news : List Value) (hx : a.eval x = .slice A m c) (hr : Reads w B size A m news) (h1 : ∀ u ∈ news, u.oneCell' = true)
    (h63 : n + m ≤ maxLen) (hbytes : (n + m) * bytes ≤ 140737488355328) (hbase : base ≤ w.heap.size)
    (h : ∀ v' w', w'.ownsRow base e size v' (n + m) (xs ++ news) → w.grownBy w' v.ownBlock → (v'.ownBlock = v.ownBlock ∨ v'.ownBlock = some w.heap.size) → wpList P ops Q rest (a.put o.dst v') w') : wpList P ops Q (o :: rest) a w :=
  wpList_plain hgd fun _ hK => wp_append_any w s x t ho base e i z size bytes ht hi hz hsize hby hzs hsz v n xs hs hown B A m c news hx hr h1 h63 hbytes hbase fun v' w' h2 h3 h4 => hK _ _ (h v' w' h2 h3 h4)

theorem step_append_any {ops : Array Oper} {o : Oper} {a : Act} {K : Act → World → Prop} {Q : Exit → Act → World → Prop} {E : Prop} (hgd : o.guard = none) (s x : Operand) (t : TypeId)
    (ho : o.op = .call { callee := .builtin .append, args := #[s, x], argTypes := #[t, t] })
    (base : Nat) (e : TypeId) (i : TypeInfo) (z : Value) (size bytes : Nat) (ht : P.underlying t = some (.slice e)) (hi : P.info? e = some i) (hz : i.zero = some z)
    (hsize : i.size = size) (hby : i.bytes = bytes) (hzs : z.cells.size = size) (hsz : 0 < size)
    (v : Value) (n : Nat) (xs : List Value) (hs : a.eval s = v) (hown : w.ownsRow base e size v n xs)
    (B : Nat) (A : Option Addr) (m c : Nat) (news : List Value) (hx : a.eval x = .slice A m c) (hr : Reads w B size A m news) (h1 : ∀ u ∈ news, u.oneCell' = true)
    (h63 : n + m ≤ maxLen) (hbytes : (n + m) * bytes ≤ 140737488355328) (hbase : base ≤ w.heap.size)
    (h : ∀ v' w', w'.ownsRow base e size v' (n + m) (xs ++ news) → w.grownBy w' v.ownBlock → (v'.ownBlock = v.ownBlock ∨ v'.ownBlock = some w.heap.size) → K (a.put o.dst v') w') :
    if Region.wanted o (yielded ops a.tmps) = true then Oper.wp P o a w K Q else E := by
  have hw : Region.wanted o (yielded ops a.tmps) = true := by simp [Region.wanted, hgd]
  rw [if_pos hw]
  exact wp_append_any w s x t ho base e i z size bytes ht hi hz hsize hby hzs hsz v n xs hs hown B A m c news hx hr h1 h63 hbytes hbase h
end
/-! Bytes. -/
def B8 (b : UInt8) : Value := .int .u8 (b.toNat : Int)
theorem B8_one (l : List UInt8) : ∀ u ∈ l.map B8, u.oneCell' = true := by
  intro u hu
  obtain ⟨b, _, rfl⟩ := List.mem_map.1 hu
  rfl
end Go.Proofs.Ytlabebapjhhkaaa
namespace Go.Proofs.Ytlabebapjhhkaaa
open Go.RowKit
theorem u8_info : (Try.prog.info? 5).map (fun i => (i.zero, i.size, i.bytes)) = some (some (.int .u8 0), 1, 1) := by kernel_rfl
/-- A row of bytes of the call's own. -/
def Own (w : World) (base : Nat) (v : Value) (l : List UInt8) : Prop := w.ownsRow base 5 1 v l.length (l.map B8)
/-- A slice of bytes that is read. -/
def Rd (w : World) (B : Nat) (A : Option Addr) (n : Nat) (l : List UInt8) : Prop := Reads w B 1 A n (l.map B8)
section
variable {w w' : World} {base B n : Nat} {v : Value} {l : List UInt8} {A : Option Addr}
theorem Rd.len (h : Rd w B A n l) : n = l.length := by have := h.1; simp at this; exact this.symm
theorem Rd.below (h : Rd w B A n l) (hb : Below B w w') : Rd w' B A n l := Reads.below h hb
theorem Rd.drew (h : Rd w B A n l) : Rd w.drew B A n l := h
theorem Rd.more {B' : Nat} (h : Rd w B A n l) (hB : B ≤ B') : Rd w B' A n l := Reads.more h hB
theorem Rd.alloc (h : Rd w B A n l) (hB : B ≤ w.heap.size) (o : Obj) : Rd (w.alloc o) B A n l := Reads.alloc h hB o
theorem Rd.setCell (h : Rd w B A n l) {p : Addr} (hB : B ≤ p.block) (u : Value) : Rd (w.setCell p u) B A n l := Reads.setCell h hB u
theorem Rd.nil_ : Rd w B A 0 [] := ⟨by simp, fun h => absurd h (by omega)⟩
theorem Rd.at_ {k : Nat} (h : Rd w B A n l) (hk : k < n) : ∃ ad, A = some ad ∧ ad.block < B ∧ w.cell? (ad.add k) = some (.int .u8 (l.getD k 0).toNat) := by
  have hl := h.len
  obtain ⟨ad, u, rfl, hb, hx, hc⟩ := Reads.at_ h hk
  refine ⟨ad, rfl, hb, hc.trans ?_⟩
  rw [List.getElem?_map, List.getElem?_eq_getElem (by omega)] at hx
  simp only [Option.map_some, Option.some.injEq] at hx
  rw [← hx, List.getD_eq_getElem?_getD, List.getElem?_eq_getElem (by omega)]
  rfl
theorem Own.nil_ (w : World) (base : Nat) : Own w base (.slice none 0 0) [] := World.ownsRow_nil _ _ _ _
theorem Own.rd {c : Nat} (h : Own w base (.slice A n c) l) : Rd w w.heap.size A n l := by
  have h' : w.ownsRow base 5 1 (.slice A n c) l.length (l.map B8) := h
  have hn : n = l.length := by
    rcases h'.2 with ⟨e, e2⟩ | ⟨g, cap, cur, e, _⟩
    · injection e with _ e3 _
      rw [e3, e2]
    · injection e with _ e3 _
  subst hn
  exact Reads.of_own h'
theorem Own.shape (h : Own w base v l) : ∃ A c, v = .slice A l.length c := by
  rcases h.2 with ⟨rfl, e⟩ | ⟨g, cap, cur, rfl, _⟩
  · rw [e]; exact ⟨none, 0, rfl⟩
  · exact ⟨_, cap, rfl⟩
/-- A row that is not empty: its block. -/
theorem Own.blk (h : Own w base v l) (hl : 0 < l.length) : ∃ g c cur, v = .slice (some ⟨g, 0, none⟩) l.length c ∧ base ≤ g ∧ Blk w g 5 cur ∧ l.length ≤ c ∧ ∀ j, j < l.length → cur[j]? = some (.int .u8 (l.getD j 0).toNat) := by
  rcases h.2 with ⟨rfl, e⟩ | ⟨g, cap, cur, rfl, hb, hh, hle, hm, hsz, ht⟩
  · omega
  · refine ⟨g, cap, cur, rfl, hb, hh, hle, fun j hj => ?_⟩
    have h1 : (cur.toList.take (l.length * 1))[j]? = (l.map B8)[j]? := by rw [ht]
    rw [List.getElem?_take, if_pos (by omega), List.getElem?_map, List.getElem?_eq_getElem hj] at h1
    rw [← Array.getElem?_toList, h1, List.getD_eq_getElem?_getD, List.getElem?_eq_getElem hj]
    rfl
theorem Own.kept (h : Own w base v l) {row : Option Nat} (hg : w.grownBy w' row) (hne : v.ownBlock = none ∨ v.ownBlock ≠ row) : Own w' base v l := World.ownsRow.kept h hg hne
theorem Own.below (h : Own w base v l) (hb : Below w.heap.size w w') : Own w' base v l :=
  h.kept (row := none) ⟨hb.os, hb.tape, hb.output, hb.size, fun i hi _ => hb.block i hi⟩ (by cases v.ownBlock <;> simp)
theorem Own.lt (h : Own w base v l) (k : Nat) (hk : v.ownBlock = some k) : base ≤ k ∧ k < w.heap.size := by
  rcases h.2 with ⟨rfl, _⟩ | ⟨g, cap, cur, rfl, hb, hh, _⟩
  · simp [Value.ownBlock] at hk
  · have : g = k := by simpa [Value.ownBlock] using hk
    subst this
    exact ⟨hb, (Array.getElem?_eq_some_iff.1 hh).1⟩
theorem below_app {w0 : World} (h : Below base w0 w) (hown : Own w base v l) (hB : base ≤ w.heap.size) (hg : w.grownBy w' v.ownBlock) : Below base w0 w' := h.grown hg hB fun k hk => (hown.lt k hk).1
theorem Own.mono {b : Nat} (h : Own w base v l) (hb : b ≤ base) : Own w b v l := by
  refine ⟨h.1, ?_⟩
  rcases h.2 with h2 | ⟨g, cap, cur, e, hg, r⟩
  · exact Or.inl h2
  · exact Or.inr ⟨g, cap, cur, e, by omega, r⟩
theorem Own.alloc (h : Own w base v l) (o : Obj) : Own (w.alloc o) base v l := World.ownsRow.alloc h o
theorem Own.drew (h : Own w base v l) : Own w.drew base v l := World.ownsRow.drew h
/-- A new block of bytes. -/
theorem Own.new_ (w : World) (base : Nat) (hb : base ≤ w.heap.size) (l : List UInt8) (hl : l.length ≤ 9223372036854775807) (cs : Array Value) (hcs : cs = (l.map B8).toArray) :
    Own (w.alloc (.cells cs 5)) base (.slice (some ⟨w.heap.size, 0, none⟩) l.length l.length) l := by
  subst hcs
  refine ⟨by simp, Or.inr ⟨w.heap.size, l.length, (l.map B8).toArray, rfl, hb, heap_alloc_new w _, ?_, ?_, ?_⟩⟩
  · simp
  · simp [maxLen]; omega
  · simp [List.take_of_length_le]
theorem Rd.new_ (w : World) (l : List UInt8) (cs : Array Value) (hcs : cs = (l.map B8).toArray) (n : Nat) (hn : n = l.length) : Rd (w.alloc (.cells cs 5)) (w.heap.size + 1) (some ⟨w.heap.size, 0, none⟩) n l := by
  subst hcs; subst hn
  refine ⟨by simp, fun _ => ⟨_, rfl, by simp, fun j u hu => ?_⟩⟩
  have ha : (⟨w.heap.size, 0, none⟩ : Addr).add j = ⟨w.heap.size, j, none⟩ := by unfold Addr.add; split <;> simp_all
  rw [ha, cell_of_row _ _ _ _ _ _ (heap_alloc_new w _)]
  simpa using hu
end
section
variable {ops : Array Oper} {rest : List Oper} {o : Oper} {a : Act} {Q : Exit → Act → World → Prop} {w : World}
/-- append(s, x...), s of the call's own, x whatever is read. -/
theorem app_bytes (hgd : o.guard = none) (s x : Operand) (ho : o.op = .call { callee := .builtin .append, args := #[s, x], argTypes := #[64, 64] })
    (base : Nat) (v : Value) (l1 : List UInt8) (hs : a.eval s = v) (hown : Own w base v l1) (B : Nat) (A : Option Addr) (m c : Nat) (l2 : List UInt8) (hx : a.eval x = .slice A m c) (hr : Rd w B A m l2)
    (hl : l1.length + m ≤ 140737488355328) (hbase : base ≤ w.heap.size)
    (h : ∀ v' w', Own w' base v' (l1 ++ l2) → w.grownBy w' v.ownBlock → (v'.ownBlock = v.ownBlock ∨ v'.ownBlock = some w.heap.size) → wpList Try.prog ops Q rest (a.put o.dst v') w') : wpList Try.prog ops Q (o :: rest) a w := by
  obtain ⟨i0, hi0, hz0, hz1, hz2⟩ := info_parts u8_info
  refine wpList_append_any w hgd s x _ ho base 5 i0 _ 1 1 Try.underlying64 hi0 hz0 hz1 hz2 rfl (by omega) v l1.length (l1.map B8) hs hown B A m c (l2.map B8) hx hr (B8_one l2) (by simp only [maxLen]; omega) (by omega) hbase ?_
  intro v' w' h1 h2 h3
  refine h v' w' ?_ h2 h3
  have := hr.len
  unfold Own
  rw [List.length_append, List.map_append, ← this]
  exact h1
end
end Go.Proofs.Ytlabebapjhhkaaa
namespace Go.Proofs.Ytlabebapjhhkaaa
open Go.RowKit
set_option linter.unusedSimpArgs false
section
variable {P : Program} {ops : Array Oper} {md : Region.Mode} {Q : Exit → Act → World → Prop} {C : World → Prop}
/-- Whatever order is picked from here on, the world always being of the class. -/
def anyC (P : Program) (md : Region.Mode) (ops : Array Oper) (C : World → Prop) (Q : Exit → Act → World → Prop) : Nat → Array Bool → Act → World → Prop
  | 0, listed, a, w => C w ∧ Region.ready md ops listed = [] ∧ Q .normal a w
  | f + 1, listed, a, w => C w ∧ (Region.ready md ops listed = [] → Q .normal a w) ∧ ∀ i ∈ Region.ready md ops listed, wpOp P ops Q i (anyC P md ops C Q f (listed.setIfInBounds i true)) a w
theorem any_of_anyC : ∀ (f : Nat) (listed : Array Bool) (a : Act) (w : World), anyC P md ops C Q f listed a w → wpAny P md ops Q f listed a w := by
  intro f
  induction f with
  | zero => exact fun _ _ _ h => ⟨h.2.1, h.2.2⟩
  | succ f ih => exact fun listed a w h => ⟨h.2.1, fun i hi => wpOp_mono (fun a' w' h' => ih _ a' w' h') (h.2.2 i hi)⟩
theorem anyC_narrow {C' : World → Prop} (hC : ∀ w, C' w → C w) : ∀ (f : Nat) (listed : Array Bool) (a : Act) (w : World), anyC P md ops C' Q f listed a w → anyC P md ops C Q f listed a w := by
  intro f
  induction f with
  | zero => exact fun _ _ _ h => ⟨hC _ h.1, h.2⟩
  | succ f ih => exact fun listed a w h => ⟨hC _ h.1, h.2.1, fun i hi => wpOp_mono (fun a' w' h' => ih _ a' w' h') (h.2.2 i hi)⟩
theorem anyC_in {f : Nat} {listed : Array Bool} {a : Act} {w : World} (h : anyC P md ops C Q f listed a w) : C w := by
  cases f <;> exact h.1
def YieldsC (P : Program) (ops : Array Oper) (C : World → Prop) (o : Oper) (v : Value) (a : Act) : Prop :=
  (Region.wanted o (yielded ops a.tmps) = true ∧ ∀ w, C w → o.quietAt P a C w v ∧ ∀ f args w', (execOp a.eval o).run P w ≠ .ok (.enter f args) w') ∨
  (Region.wanted o (yielded ops a.tmps) = false ∧ v = undef)
theorem YieldsC.wpOp {i : Nat} {o : Oper} {v : Value} {a : Act} (hi : ops[i]? = some o) (hy : YieldsC P ops C o v a) {K : Act → World → Prop} {w : World} (hC : C w) (h : K (a.put o.dst v) w) : wpOp P ops Q i K a w := by
  unfold Go.wpOp
  simp only [hi]
  rcases hy with ⟨hw, hv⟩ | ⟨hw, rfl⟩
  · simp only [hw, if_true]
    left
    obtain ⟨h1, h2⟩ := hv w hC
    unfold Oper.quietAt at h1
    unfold Oper.wp
    generalize (execOp a.eval o).run P w = r at *
    cases r with
    | ok n w' =>
      cases n <;> simp only [Oper.quietUpon] at h1 <;> simp only [Oper.upon]
      case value u => rw [h1.1, h1.2]; exact h
      case skip => rw [h1.1, ← h1.2]; exact h
      case enter g args => exact absurd rfl (h2 g args w')
    | halt x w' => simp only [Oper.quietUpon] at h1
  · simp only [hw, Bool.false_eq_true, if_false]; exact h
theorem YieldsC.of_same {o : Oper} {v : Value} {a a' : Act} (hy : YieldsC P ops C o v a) (he : execOp a'.eval o = execOp a.eval o)
    (hw : Region.wanted o (yielded ops a'.tmps) = Region.wanted o (yielded ops a.tmps)) : YieldsC P ops C o v a' := by
  unfold YieldsC Oper.quietAt at *
  rw [he, hw]
  exact hy
theorem wpOp_putC {j : Nat} {oi oj : Oper} {v : Value} (hj : ops[j]? = some oj) (hap : oi.apart ops oj = true) (hsi : ∀ cs b, oi.op ≠ .select cs b) (hsj : ∀ cs b, oj.op ≠ .select cs b)
    (hQ : ∀ c a w, Q (.panic c) (a.put oi.dst v) w → Q (.panic c) a w) {K : Act → World → Prop} {a : Act} {w : World} (hy : YieldsC P ops C oi v a) (h : wpOp P ops Q j K (a.put oi.dst v) w) :
    wpOp P ops Q j (fun a' w' => YieldsC P ops C oi v a' ∧ K (a'.put oi.dst v) w') a w := by
  obtain ⟨h1, h2, h3⟩ := Oper.apart_spec hap
  have keep : ∀ (a : Act), YieldsC P ops C oi v a → ∀ u, YieldsC P ops C oi v (a.put oj.dst u) := fun a hy u =>
    hy.of_same (execOp_put oi hsi a oj.dst u h3) (wanted_put oi a oj.dst u h3)
  have keepD : ∀ d, YieldsC P ops C oi v { a with defers := d :: a.defers } := fun d => hy.of_same rfl rfl
  unfold wpOp at *
  simp only [hj] at *
  rw [wanted_put oj a oi.dst v h1] at h
  split
  · rename_i hw
    simp only [hw, if_true] at h
    rcases h with h | ⟨hasks, hlets⟩
    case inr => exact .inr ⟨by unfold Oper.asks at *; rw [execOp_put oj hsj a oi.dst v h1] at hasks; exact hasks, hlets⟩
    refine .inl ?_
    unfold Oper.wp at *
    rw [execOp_put oj hsj a oi.dst v h1] at h
    generalize (execOp a.eval oj).run P w = r at *
    cases r with
    | ok n w' =>
      cases n <;> simp only [Oper.upon] at h ⊢
      case value u => exact ⟨keep a hy u, by rw [← Act.put_comm a v u h2]; exact h⟩
      case skip => exact ⟨keep a hy _, by rw [← Act.put_comm a v undef h2]; exact h⟩
      case defer d =>
        refine ⟨keep _ (keepD d) _, ?_⟩
        rw [← Act.put_comm _ v undef h2, ← Act.put_defers]
        exact h
      case enter f args =>
        refine Calls.mono h fun e w'' he => ?_
        cases e with
        | returned u => exact ⟨keep a hy u, by rw [← Act.put_comm a v u h2]; exact he⟩
        | panicked c => exact hQ _ _ _ he
        | outgrown => exact he
      case row row args => exact Rows.mono h fun u w'' he => ⟨keep a hy u, by rw [← Act.put_comm a v u h2]; exact he⟩
    | halt x w' =>
      cases x <;> simp only [Oper.upon] at h ⊢
      case panic u => exact hQ _ _ _ h
  · rename_i hw
    simp only [hw] at h
    exact ⟨keep a hy _, by rw [← Act.put_comm a v undef h2]; exact h⟩
theorem anyC_first {i : Nat} {oi : Oper} {v : Value} (hi : ops[i]? = some oi) (hsel : ∀ (j : Nat) (o : Oper) cs b, ops[j]? = some o → o.op ≠ .select cs b) (hQ : ∀ c a w, Q (.panic c) (a.put oi.dst v) w → Q (.panic c) a w) :
    ∀ (fuel : Nat) (listed : Array Bool) (a : Act) (w : World),
      (∀ j oj, ops[j]? = some oj → j ≠ i → listed.getD j true = false → (∀ e ∈ oj.after, Region.binds md e = true → e.on ≠ i) → oi.apart ops oj = true) →
      i ∈ Region.ready md ops listed → YieldsC P ops C oi v a → anyC P md ops C Q fuel (listed.setIfInBounds i true) (a.put oi.dst v) w → anyC P md ops C Q (fuel + 1) listed a w := by
  intro fuel
  induction fuel with
  | zero =>
    intro listed a w _ hr hy H
    refine ⟨H.1, fun h => (by rw [h] at hr; cases hr), fun j hj => ?_⟩
    by_cases hji : j = i
    · subst hji; exact hy.wpOp hi H.1 H
    · have := ready_mono hj hji
      rw [H.2.1] at this
      cases this
  | succ fuel ih =>
    intro listed a w hfree hr hy H
    refine ⟨H.1, fun h => (by rw [h] at hr; cases hr), fun j hj => ?_⟩
    by_cases hji : j = i
    · subst hji; exact hy.wpOp hi H.1 H
    have h1 := H.2.2 j (ready_mono hj hji)
    obtain ⟨hjun, oj, hoj, hall⟩ := mem_ready.1 hj
    have hnot : ∀ e ∈ oj.after, Region.binds md e = true → e.on ≠ i := fun e he hb heq => by
      have h1 := hall e he hb
      have h0 := (mem_ready.1 hr).1
      rw [heq, getD_both h0] at h1
      cases h1
    have h2 := wpOp_putC hoj (hfree j oj hoj hji hjun hnot) (fun cs b => hsel i oi cs b hi) (fun cs b => hsel j oj cs b hoj) hQ hy h1
    refine wpOp_mono (fun a' w' h3 => ih (listed.setIfInBounds j true) a' w' (fun k ok hk hki hun hno => hfree k ok hk hki ?_ hno) (ready_mono hr (Ne.symm hji)) h3.1 ?_) h2
    · by_cases hjk : j = k
      · subst hjk; exact hjun
      · rwa [getD_set_ne true hjk] at hun
    · rw [Array.setIfInBounds_comm _ _ hji]
      exact h3.2
/-- No call of a Go function. -/
def noCallB : Op → Bool
  | .call { callee := .builtin b, .. } => (match b with | .len | .cap | .min | .max => true | _ => false)
  | .move _ | .assign _ | .pick .. | .load .. | .nilCheck _ | .binOp .. | .unOp .. | .convert .. | .fieldAddr .. | .field .. | .indexAddr .. | .index .. | .slice .. | .extract .. | .build .. => true
  | _ => false
theorem no_enter (ρ : Operand → Value) (o : Oper) (h : noCallB o.op = true) (w : World) (f : FuncId) (args : Array Value) (w' : World) : (execOp ρ o).run P w ≠ .ok (.enter f args) w' := by
  have hv : ∀ (s : Sem Value), (Sem.run P (do pure (Next.value (← s))) w) ≠ .ok (.enter f args) w' := by
    intro s
    rw [Sem.run_bind]
    cases Sem.run P s w <;> simp [Result.andThen]
  obtain ⟨dst, op, type, pos, after, guard⟩ := o
  cases op <;> simp only [noCallB, Bool.false_eq_true] at h <;> try exact hv _
  case move => simp [execOp]
  case assign => simp [execOp]
  case pick c a b =>
    simp only [execOp]
    rw [Sem.run_bind]
    cases Sem.run P (asBool (ρ c)) w <;> simp [Result.andThen]
  case nilCheck x =>
    simp only [execOp]
    split
    · simp [runtimePanic, program, goPanic, Sem.run, bind, Sem.bind]
    · simp [runtimePanic, program, goPanic, Sem.run, bind, Sem.bind]
    · simp [runtimePanic, program, goPanic, Sem.run, bind, Sem.bind]
    · split
      · simp [runtimePanic, program, goPanic, Sem.run, bind, Sem.bind]
      · simp only [Sem.run_bind]
        cases Sem.run P program w <;> simp only [Result.andThen, ne_eq, reduceCtorEq, not_false_eq_true]
        rename_i p1 w1
        cases Sem.run P (nilAhead _ _ _ _) w1 <;> simp only [Result.andThen, ne_eq, reduceCtorEq, not_false_eq_true]
        split <;> simp [unsupported, Sem.run]
      · simp
    · simp
  case call c =>
    obtain ⟨callee, xs, ats⟩ := c
    cases callee <;> simp only [Bool.false_eq_true] at h
    case builtin b =>
      rw [BigFrame.execOp_builtin]
      cases b <;> simp only [Bool.false_eq_true] at h <;> exact hv _
/-- These operations come up one behind the other, each may come up and is apart from all that has not come up. -/
def takesB (md : Region.Mode) (ops : Array Oper) : List Nat → Array Bool → Bool
  | [], _ => true
  | i :: is, listed => (match ops[i]? with | some o => noCallB o.op | none => false) && Region.free md ops listed i && (Region.ready md ops listed).contains i && takesB md ops is (listed.setIfInBounds i true)
def putAll (listed : Array Bool) : List Nat → Array Bool
  | [] => listed
  | i :: is => putAll (listed.setIfInBounds i true) is
theorem yieldsC_of {o : Oper} {a : Act} {rest : List Oper} {QQ : Act → Prop} (hn : noCallB o.op = true) (h : wpQuiet P ops C QQ (o :: rest) a) : ∃ v, YieldsC P ops C o v a ∧ wpQuiet P ops C QQ rest (a.put o.dst v) := by
  unfold wpQuiet at h
  by_cases hw : Region.wanted o (yielded ops a.tmps) = true
  · rw [if_pos hw] at h
    obtain ⟨v, h1, h2⟩ := h
    exact ⟨v, Or.inl ⟨hw, fun w hC => ⟨h1 w hC, fun f args w' => no_enter a.eval o hn w f args w'⟩⟩, h2⟩
  · rw [if_neg hw] at h
    exact ⟨undef, Or.inr ⟨by simpa using hw, rfl⟩, h⟩
theorem anyC_takes (hsel : Region.noSelect ops = true) (hQ : ∀ c a d v w, Q (.panic c) (Act.put a d v) w → Q (.panic c) a w) {w : World} : ∀ (is : List Nat) (f : Nat) (listed : Array Bool) (a : Act), takesB md ops is listed = true →
    wpQuiet P ops C (fun a' => anyC P md ops C Q f (putAll listed is) a' w) (is.filterMap (ops[·]?)) a → anyC P md ops C Q (f + is.length) listed a w := by
  intro is
  induction is with
  | nil => intro f listed a _ h; exact h
  | cons i is ih =>
    intro f listed a hB h
    simp only [takesB, Bool.and_eq_true] at hB
    obtain ⟨⟨⟨hn, hf⟩, hr⟩, hB'⟩ := hB
    cases ho : ops[i]? with
    | none => rw [ho] at hn; cases hn
    | some o =>
      rw [ho] at hn
      simp only [List.filterMap_cons, ho] at h
      obtain ⟨v, hy, h'⟩ := yieldsC_of hn h
      exact anyC_first ho (Region.noSelect_spec hsel) (fun c a w => hQ c a _ _ w) (f + is.length) listed a w (Region.free_spec ho hf) (by simpa using hr) hy (ih f _ _ hB' h')
/-- One operation alone may come up. -/
theorem anyC_only {i : Nat} {o : Oper} {f : Nat} {listed : Array Bool} {a : Act} {w : World} (hi : ops[i]? = some o) (hr : Region.ready md ops listed = [i]) (hC : C w) (h : wpList P ops (Exit.then (anyC P md ops C Q f (listed.setIfInBounds i true)) Q) [o] a w) : anyC P md ops C Q (f + 1) listed a w := by
  refine ⟨hC, fun h0 => (by rw [hr] at h0; cases h0), fun j hj => ?_⟩
  rw [hr] at hj
  obtain rfl : j = i := by simpa using hj
  unfold wpOp
  simp only [hi]
  unfold wpList at h
  have e : (wpList P ops (Exit.then (anyC P md ops C Q f (listed.setIfInBounds j true)) Q) []) = anyC P md ops C Q f (listed.setIfInBounds j true) := by funext a w; rfl
  split
  · rename_i hw
    rw [if_pos hw] at h
    rcases h with h | ⟨h1, h2⟩
    · left
      rw [e] at h
      unfold Oper.wp at h ⊢
      generalize (execOp a.eval o).run P w = r at *
      cases r with
      | ok n w' =>
        cases n <;> simp only [Oper.upon] at h ⊢ <;> try exact h
      | halt x w' =>
        cases x <;> simp only [Oper.upon] at h ⊢
        case panic u => exact h
    · exact Or.inr ⟨h1, h2⟩
  · rename_i hw
    rw [if_neg hw] at h
    exact h
theorem wp_region_anyC {id : Nat} {a : Act} {w : World} {l : List Oper} (C : World → Prop) (hm : P.follows .mixedOrders = true) (h : anyC P .any l.toArray C Q l.length (Array.replicate l.length false) a w.drew) : (Code.region id l.toArray true).wp P Q a w := by
  refine wp_region_any hm ?_
  have := any_of_anyC _ _ _ _ h
  simpa using this
end
theorem wp_region_anyN {P : Program} {Q : Exit → Act → World → Prop} {id : Nat} {a : Act} {w : World} {l : List Oper} (C : World → Prop) (hm : P.follows .mixedOrders = true) (h : anyC P .any l.toArray C (Exit.then (Q .normal) (fun _ _ _ => False)) l.length (Array.replicate l.length false) a w.drew) : (Code.region id l.toArray true).wp P Q a w :=
  wp_mono (wp_region_anyC C hm h) (by intro e a w h; cases e <;> first | exact h | exact h.elim)
/-! What is read, in a class of worlds. -/
section
variable {P : Program} {C : World → Prop} {o : Oper} {a : Act} {K : Act → Prop}
theorem quiet_load (ty : TypeId) (x : Operand) (ho : o.op = .load ty x) (ad : Addr) (hx : a.eval x = .pointer (some ad)) (v : Value) (hc : ∀ w, C w → w.cell? ad = some v) (hag : ∀ w, (isAgg ty).run P w = .ok false w)
    (h : K (a.put o.dst v)) : o.quiet P a C K := by
  refine ⟨v, fun w hw => ?_, h⟩
  unfold Oper.quietAt execOp
  simp [ho, hx, Instr.loadAt, Instr.sureAddr, loadVar, hag, Sem.run, load, hc w hw, Oper.quietUpon]
/-- s == s. -/
theorem quiet_eql_str (t t' : TypeId) (x y : Operand) (ho : o.op = .binOp .eql t x y t') (s : ByteArray) (hx : a.eval x = .string s) (hy : a.eval y = .string s) (hK : K (a.put o.dst (.bool true))) : o.quiet P a C K := by
  refine ⟨_, fun w _ => ?_, hK⟩
  unfold Oper.quietAt execOp
  have h1 : (eqGuard .eql t x y (.string s) (.string s)) = pure () := rfl
  have h2 : (binOp .eql t (.string s) (.string s)) = pure (.bool true) := by rw [binOp_string_eql]; simp
  simp only [ho, hx, hy, h1, h2, Sem.run_bind, Sem.run_pure, Result.andThen_ok, Oper.quietUpon, and_self]
/-- The choice whose condition holds. -/
theorem quiet_pick (c x y : Operand) (ho : o.op = .pick c x y) (hc : a.eval c = .bool true) (v : Value) (hx : a.eval x = v) (hK : K (a.put o.dst v)) : o.quiet P a C K := by
  refine ⟨_, fun w _ => ?_, hK⟩
  unfold Oper.quietAt execOp
  simp [ho, hc, hx, asBool, Oper.quietUpon]
/-- xs[:h]. -/
theorem quiet_slice_h (ty : TypeId) (x y : Operand) (ho : o.op = .slice ty x none (some y) none) (A : Option Addr) (n c h : Nat) (hx : a.eval x = .slice A n c) (hy : a.eval y = .int .i64 (h : Int))
    (hs : ∀ W : World, (Instr.sliceAt ty (.slice A n c) none (some (.int .i64 (h : Int))) none).run P W = .ok (.slice A h c) W) (hK : K (a.put o.dst (.slice A h c))) : o.quiet P a C K := by
  refine ⟨_, fun w _ => ?_, hK⟩
  unfold Oper.quietAt execOp
  simp only [ho, hx, hy, Option.map_some, Option.map_none, Sem.run_bind, hs w, Result.andThen_ok, Sem.run_pure, Oper.quietUpon, and_self]
theorem run_str {w : World} (s d e : TypeId) (A : Option Addr) (n c : Nat) (l : List UInt8) (hs : P.underlying s = some (.slice e)) (he : P.underlying e = some (.int .u8)) (hd : P.underlying d = some .string) (B : Nat)
    (hr : Reads w B 1 A n (l.map B8)) : (convert s d (.slice A n c)).run P w = .ok (.string ⟨l.toArray⟩) w := by
  have hl : l.length = n := by have := hr.1; simpa using this
  have hs0 : strOfNums (l.map fun b => (b.toNat : Int)) = ⟨l.toArray⟩ := by
    unfold strOfNums
    simp [Function.comp_def]
  rcases Nat.eq_zero_or_pos n with h0 | h0
  · subst h0
    have hln : l = [] := List.eq_nil_of_length_eq_zero hl
    subst hln
    cases A with
    | none => exact run_convert_bytes_nil w s e hs he 0 c d hd
    | some ad =>
      rw [run_convert_bytes_string w s d e _ 0 c hs he hd]
      simp [Conv.bytesToString, loadCells, loadCellsFrom]
      rfl
  · obtain ⟨ad, rfl, _, hc⟩ := hr.2 h0
    obtain ⟨b, off, spot⟩ := ad
    have hc0 := hc 0 _ (by rw [List.getElem?_map, List.getElem?_eq_getElem (show 0 < l.length by omega)]; rfl)
    have hsp : spot = none := by simpa [Addr.add] using World.cell?_spot hc0
    subst hsp
    rw [← hs0]
    refine run_convert_bytes_arg w s e hs he b off n c _ (by simpa using hl) (fun i hi => ?_) d hd
    have h1 := hc i _ (by rw [List.getElem?_map, List.getElem?_eq_getElem (show i < l.length by omega)]; rfl)
    have ha : (⟨b, off, none⟩ : Addr).add i = ⟨b, off + i, none⟩ := by unfold Addr.add; split <;> simp_all
    rw [ha] at h1
    rw [h1, List.getD_eq_getElem?_getD, List.getElem?_map, List.getElem?_eq_getElem (show i < l.length by omega)]
    rfl
theorem quiet_str (s d e : TypeId) (x : Operand) (ho : o.op = .convert s d x) (A : Option Addr) (n c : Nat) (l : List UInt8) (hx : a.eval x = .slice A n c) (hs : P.underlying s = some (.slice e)) (he : P.underlying e = some (.int .u8)) (hd : P.underlying d = some .string) (B : Nat)
    (hr : ∀ w, C w → Reads w B 1 A n (l.map B8)) (h : K (a.put o.dst (.string ⟨l.toArray⟩))) : o.quiet P a C K := by
  refine ⟨_, fun w hw => ?_, h⟩
  unfold Oper.quietAt execOp
  simp only [ho, hx, Sem.run_bind, run_str s d e A n c l hs he hd B (hr w hw), Result.andThen_ok, Sem.run_pure, Oper.quietUpon, and_self]
end
end Go.Proofs.Ytlabebapjhhkaaa
namespace Go.Proofs.Ytlabebapjhhkaaa
open Go.RowKit
section
variable {P : Program} {ops : Array Oper} {md : Region.Mode} {Q : Exit → Act → World → Prop} {C : World → Prop} {L : Nat}
def anyD (P : Program) (md : Region.Mode) (ops : Array Oper) (C : World → Prop) (L : Nat) (Q : Exit → Act → World → Prop) : Nat → Array Bool → Act → World → Prop
  | 0, listed, a, w => (listed.getD L true = false → C w) ∧ Region.ready md ops listed = [] ∧ Q .normal a w
  | f + 1, listed, a, w => (listed.getD L true = false → C w) ∧ (Region.ready md ops listed = [] → Q .normal a w) ∧ ∀ i ∈ Region.ready md ops listed, wpOp P ops Q i (anyD P md ops C L Q f (listed.setIfInBounds i true)) a w
theorem any_of_anyD : ∀ (f : Nat) (listed : Array Bool) (a : Act) (w : World), anyD P md ops C L Q f listed a w → wpAny P md ops Q f listed a w := by
  intro f
  induction f with
  | zero => exact fun _ _ _ h => ⟨h.2.1, h.2.2⟩
  | succ f ih => exact fun listed a w h => ⟨h.2.1, fun i hi => wpOp_mono (fun a' w' h' => ih _ a' w' h') (h.2.2 i hi)⟩
theorem anyD_narrow {C' : World → Prop} (hC : ∀ w, C' w → C w) : ∀ (f : Nat) (listed : Array Bool) (a : Act) (w : World), anyD P md ops C' L Q f listed a w → anyD P md ops C L Q f listed a w := by
  intro f
  induction f with
  | zero => exact fun _ _ _ h => ⟨fun hl => hC _ (h.1 hl), h.2⟩
  | succ f ih => exact fun listed a w h => ⟨fun hl => hC _ (h.1 hl), h.2.1, fun i hi => wpOp_mono (fun a' w' h' => ih _ a' w' h') (h.2.2 i hi)⟩
theorem anyD_first {i : Nat} {oi oL : Oper} {v : Value} (hi : ops[i]? = some oi) (hoL : ops[L]? = some oL) (hdep : ∃ e ∈ oL.after, Region.binds md e = true ∧ e.on = i) (hiL : i ≠ L) (hsel : ∀ (j : Nat) (o : Oper) cs b, ops[j]? = some o → o.op ≠ .select cs b) (hQ : ∀ c a w, Q (.panic c) (a.put oi.dst v) w → Q (.panic c) a w) :
    ∀ (fuel : Nat) (listed : Array Bool) (a : Act) (w : World), listed.getD L true = false →
      (∀ j oj, ops[j]? = some oj → j ≠ i → listed.getD j true = false → (∀ e ∈ oj.after, Region.binds md e = true → e.on ≠ i) → oi.apart ops oj = true) →
      i ∈ Region.ready md ops listed → YieldsC P ops C oi v a → anyD P md ops C L Q fuel (listed.setIfInBounds i true) (a.put oi.dst v) w → anyD P md ops C L Q (fuel + 1) listed a w := by
  intro fuel
  induction fuel with
  | zero =>
    intro listed a w hL _ hr hy H
    have hCw : C w := H.1 (by rwa [getD_set_ne true hiL])
    refine ⟨fun _ => hCw, fun h => (by rw [h] at hr; cases hr), fun j hj => ?_⟩
    by_cases hji : j = i
    · subst hji; exact hy.wpOp hi hCw H
    · have := ready_mono hj hji
      rw [H.2.1] at this
      cases this
  | succ fuel ih =>
    intro listed a w hL hfree hr hy H
    have hCw : C w := H.1 (by rwa [getD_set_ne true hiL])
    refine ⟨fun _ => hCw, fun h => (by rw [h] at hr; cases hr), fun j hj => ?_⟩
    by_cases hji : j = i
    · subst hji; exact hy.wpOp hi hCw H
    have h1 := H.2.2 j (ready_mono hj hji)
    obtain ⟨hjun, oj, hoj, hall⟩ := mem_ready.1 hj
    have hnot : ∀ e ∈ oj.after, Region.binds md e = true → e.on ≠ i := fun e he hb heq => by
      have h1 := hall e he hb
      have h0 := (mem_ready.1 hr).1
      rw [heq, getD_both h0] at h1
      cases h1
    have hjL : j ≠ L := by
      rintro rfl
      obtain ⟨e, he, hb, heq⟩ := hdep
      rw [hoL] at hoj
      injection hoj with hoj
      subst hoj
      exact hnot e he hb heq
    have h2 := wpOp_putC hoj (hfree j oj hoj hji hjun hnot) (fun cs b => hsel i oi cs b hi) (fun cs b => hsel j oj cs b hoj) hQ hy h1
    refine wpOp_mono (fun a' w' h3 => ih (listed.setIfInBounds j true) a' w' (by rwa [getD_set_ne true hjL]) (fun k ok hk hki hun hno => hfree k ok hk hki ?_ hno) (ready_mono hr (Ne.symm hji)) h3.1 ?_) h2
    · by_cases hjk : j = k
      · subst hjk; exact hjun
      · rwa [getD_set_ne true hjk] at hun
    · rw [Array.setIfInBounds_comm _ _ hji]
      exact h3.2
/-- As takesB; and the last operation waits for each. -/
def takesDB (md : Region.Mode) (ops : Array Oper) (L : Nat) : List Nat → Array Bool → Bool
  | [], _ => true
  | i :: is, listed => (match ops[i]? with | some o => noCallB o.op | none => false) && Region.free md ops listed i && (Region.ready md ops listed).contains i && (decide (i ≠ L)) && (match ops[L]? with | some o => o.after.any (fun e => Region.binds md e && e.on == i) | none => false) && (!listed.getD L true) && takesDB md ops L is (listed.setIfInBounds i true)
theorem anyD_takes (hsel : Region.noSelect ops = true) (hQ : ∀ c a d v w, Q (.panic c) (Act.put a d v) w → Q (.panic c) a w) {w : World} : ∀ (is : List Nat) (f : Nat) (listed : Array Bool) (a : Act), takesDB md ops L is listed = true →
    wpQuiet P ops C (fun a' => anyD P md ops C L Q f (putAll listed is) a' w) (is.filterMap (ops[·]?)) a → anyD P md ops C L Q (f + is.length) listed a w := by
  intro is
  induction is with
  | nil => intro f listed a _ h; exact h
  | cons i is ih =>
    intro f listed a hB h
    simp only [takesDB, Bool.and_eq_true, decide_eq_true_eq, Bool.not_eq_true'] at hB
    obtain ⟨⟨⟨⟨⟨⟨hn, hf⟩, hr⟩, hiL⟩, hdep⟩, hL⟩, hB'⟩ := hB
    cases hoL : ops[L]? with
    | none => rw [hoL] at hdep; cases hdep
    | some oL =>
      rw [hoL] at hdep
      simp only [Array.any_eq_true', Bool.and_eq_true, beq_iff_eq] at hdep
      obtain ⟨e, he, hb, heq⟩ := hdep
      cases ho : ops[i]? with
      | none => rw [ho] at hn; cases hn
      | some o =>
        rw [ho] at hn
        simp only [List.filterMap_cons, ho] at h
        obtain ⟨v, hy, h'⟩ := yieldsC_of hn h
        exact anyD_first ho hoL ⟨e, he, hb, heq⟩ hiL (Region.noSelect_spec hsel) (fun c a w => hQ c a _ _ w) (f + is.length) listed a w hL (Region.free_spec ho hf) (by simpa using hr) hy (ih f _ _ hB' h')
/-- One operation alone may come up. -/
theorem anyD_only {i : Nat} {o : Oper} {f : Nat} {listed : Array Bool} {a : Act} {w : World} (hi : ops[i]? = some o) (hr : Region.ready md ops listed = [i]) (hC : C w) (h : wpList P ops (Exit.then (anyD P md ops C L Q f (listed.setIfInBounds i true)) Q) [o] a w) : anyD P md ops C L Q (f + 1) listed a w := by
  refine ⟨fun _ => hC, fun h0 => (by rw [hr] at h0; cases h0), fun j hj => ?_⟩
  rw [hr] at hj
  obtain rfl : j = i := by simpa using hj
  unfold wpOp
  simp only [hi]
  unfold wpList at h
  have e : (wpList P ops (Exit.then (anyD P md ops C L Q f (listed.setIfInBounds j true)) Q) []) = anyD P md ops C L Q f (listed.setIfInBounds j true) := by funext a w; rfl
  split
  · rename_i hw
    rw [if_pos hw] at h
    rcases h with h | ⟨h1, h2⟩
    · left
      rw [e] at h
      unfold Oper.wp at h ⊢
      generalize (execOp a.eval o).run P w = r at *
      cases r with
      | ok n w' =>
        cases n <;> simp only [Oper.upon] at h ⊢ <;> try exact h
      | halt x w' =>
        cases x <;> simp only [Oper.upon] at h ⊢
        case panic u => exact h
    · exact Or.inr ⟨h1, h2⟩
  · rename_i hw
    rw [if_neg hw] at h
    exact h
theorem anyD_end {listed : Array Bool} {a : Act} {w : World} (hl : listed.getD L true = true) (hr : Region.ready md ops listed = []) (h : Q .normal a w) : anyD P md ops C L Q 0 listed a w :=
  ⟨fun h0 => (by rw [hl] at h0; cases h0), hr, h⟩
end
theorem wp_region_anyDN {P : Program} {Q : Exit → Act → World → Prop} {id : Nat} {a : Act} {w : World} {l : List Oper} (C : World → Prop) (L : Nat) (hm : P.follows .mixedOrders = true) (h : anyD P .any l.toArray C L (Exit.then (Q .normal) (fun _ _ _ => False)) l.length (Array.replicate l.length false) a w.drew) : (Code.region id l.toArray true).wp P Q a w :=
  wp_mono (Q := Exit.then (Q .normal) (fun _ _ _ => False)) (by
    refine wp_region_any hm ?_
    have := any_of_anyD _ _ _ _ h
    simpa using this) (by intro e a w h; cases e <;> first | exact h | exact h.elim)
end Go.Proofs.Ytlabebapjhhkaaa
namespace Go.Proofs.Ytlabebapjhhkaaa
open Go.RowKit
/-- What an operation comes to. -/
def into (P : Program) (o : Oper) (a : Act) (w : World) (R : Value → World → Prop) : Prop :=
  match (execOp a.eval o).run P w with
  | .ok (.value v) w' => R v w'
  | .ok .skip w' => R undef w'
  | .ok (.enter f args) w' => Calls P f args w' (fun e w'' => ∃ v, e = .returned v ∧ R v w'')
  | _ => False
def upd {α : Type} (f : Nat → α) (i : Nat) (v : α) : Nat → α := fun j => if j = i then v else f j
/-- The frame behind the operations that are done. -/
def putD : List Oper → Nat → Act → (Nat → Bool) → (Nat → Value) → Act
  | [], _, a, _, _ => a
  | o :: rest, k, a, d, x => putD rest (k + 1) (if d k then a.put o.dst (x k) else a) d x
theorem put_size (a : Act) (t : Option Tmp) (v : Value) : (a.put t v).tmps.size = a.tmps.size := by cases t <;> simp [Act.put]
theorem put_comm' (a : Act) (s t : Option Tmp) (u v : Value) (h : s = none ∨ s ≠ t) : (a.put s u).put t v = (a.put t v).put s u := by
  cases s with
  | none => rfl
  | some s =>
    cases t with
    | none => rfl
    | some t =>
      have hst : s ≠ t := by
        rcases h with h | h
        · cases h
        · intro e; exact h (by rw [e])
      simp [Act.put, Array.setIfInBounds_comm _ _ hst]
theorem putD_put (l : List Oper) : ∀ (k : Nat) (a : Act) (d : Nat → Bool) (x : Nat → Value) (t : Option Tmp) (v : Value), (∀ o ∈ l, o.dst = none ∨ o.dst ≠ t) → putD l k (a.put t v) d x = (putD l k a d x).put t v := by
  induction l with
  | nil => intros; rfl
  | cons o l ih =>
    intro k a d x t v h
    simp only [putD]
    have h0 := h o (List.mem_cons_self ..)
    rw [← ih (k + 1) _ d x t v fun o' ho' => h o' (List.mem_cons_of_mem _ ho')]
    congr 1
    split
    · rw [put_comm' a o.dst t _ _ h0]
    · rfl
theorem putD_congr (l : List Oper) : ∀ (k : Nat) (a : Act) (d d' : Nat → Bool) (x x' : Nat → Value), (∀ j, k ≤ j → d' j = d j ∧ x' j = x j) → putD l k a d' x' = putD l k a d x := by
  induction l with
  | nil => intros; rfl
  | cons o l ih =>
    intro k a d d' x x' h
    simp only [putD]
    rw [(h k (Nat.le_refl _)).1, (h k (Nat.le_refl _)).2]
    exact ih _ _ _ _ _ _ fun j hj => h j (by omega)
/-- All temporaries are written once. -/
def onceB : List Oper → Bool
  | [] => true
  | o :: rest => (match o.dst with | none => true | some t => rest.all fun o' => o'.dst != some t) && onceB rest
theorem onceB_head {o : Oper} {rest : List Oper} (h : onceB (o :: rest) = true) : ∀ o' ∈ rest, o'.dst = none ∨ o'.dst ≠ o.dst := by
  intro o' ho'
  simp only [onceB, Bool.and_eq_true] at h
  cases hd : o.dst with
  | none => cases h' : o'.dst <;> simp
  | some t =>
    have h1 := h.1
    rw [hd] at h1
    have := List.all_eq_true.1 h1 o' ho'
    right
    simpa using this
theorem putD_upd (l : List Oper) : ∀ (k : Nat) (a : Act) (d : Nat → Bool) (x : Nat → Value) (i : Nat) (o : Oper) (v : Value), onceB l = true → l[i]? = some o → d (k + i) = false →
    putD l k a (upd d (k + i) true) (upd x (k + i) v) = (putD l k a d x).put o.dst v := by
  induction l with
  | nil => intro k a d x i o v _ h; simp at h
  | cons o' l ih =>
    intro k a d x i o v honce h hd
    have hrest : onceB l = true := by simp only [onceB, Bool.and_eq_true] at honce; exact honce.2
    cases i with
    | zero =>
      obtain rfl : o' = o := by simpa using h
      simp only [putD, Nat.add_zero] at hd ⊢
      rw [hd, show upd d k true k = true by simp [upd], show upd x k v k = v by simp [upd]]
      simp only [if_true, Bool.false_eq_true, if_false]
      rw [putD_put l (k + 1) a _ _ o'.dst v (onceB_head honce)]
      congr 1
      exact putD_congr l _ _ _ _ _ _ fun j hj => by simp [upd, show j ≠ k by omega]
    | succ i =>
      simp only [putD]
      rw [show upd d (k + (i + 1)) true k = d k by simp [upd], show upd x (k + (i + 1)) v k = x k by simp [upd]]
      have := ih (k + 1) (if d k then a.put o'.dst (x k) else a) d x i o v hrest (by simpa using h) (by rw [show k + 1 + i = k + (i + 1) by omega]; exact hd)
      rw [show k + 1 + i = k + (i + 1) by omega] at this
      exact this
theorem putD_size (l : List Oper) : ∀ (k : Nat) (a : Act) (d : Nat → Bool) (x : Nat → Value), (putD l k a d x).tmps.size = a.tmps.size := by
  induction l with
  | nil => intros; rfl
  | cons o l ih =>
    intro k a d x
    simp only [putD, ih]
    split
    · exact put_size ..
    · rfl
theorem putD_other (l : List Oper) : ∀ (k : Nat) (a : Act) (d : Nat → Bool) (x : Nat → Value) (t : Tmp), (l.all fun o => o.dst != some t) = true → (putD l k a d x).eval (.tmp t) = a.eval (.tmp t) := by
  induction l with
  | nil => intros; rfl
  | cons o l ih =>
    intro k a d x t h
    simp only [List.all_cons, Bool.and_eq_true] at h
    simp only [putD]
    rw [ih _ _ _ _ t h.2]
    split
    · have h1 := h.1
      cases hd : o.dst with
      | none => rfl
      | some s =>
        have hst : s ≠ t := by rw [hd] at h1; simpa using h1
        simp [Act.put, Act.eval, Array.getElem?_setIfInBounds_ne hst]
    · rfl
theorem putD_done (l : List Oper) : ∀ (k : Nat) (a : Act) (d : Nat → Bool) (x : Nat → Value) (i : Nat) (o : Oper) (t : Tmp), onceB l = true → l[i]? = some o → o.dst = some t → d (k + i) = true → t < a.tmps.size →
    (putD l k a d x).eval (.tmp t) = x (k + i) := by
  induction l with
  | nil => intro k a d x i o t _ h; simp at h
  | cons o' l ih =>
    intro k a d x i o t honce h hdst hd ht
    have hrest : onceB l = true := by simp only [onceB, Bool.and_eq_true] at honce; exact honce.2
    simp only [putD]
    cases i with
    | zero =>
      obtain rfl : o' = o := by simpa using h
      rw [Nat.add_zero] at hd ⊢
      have hall : (l.all fun o => o.dst != some t) = true := by
        simp only [onceB, hdst, Bool.and_eq_true] at honce
        exact honce.1
      rw [putD_other l _ _ _ _ t hall, if_pos hd, hdst]
      simp [Act.put, Act.eval, ht]
    | succ i =>
      have := ih (k + 1) (if d k then a.put o'.dst (x k) else a) d x i o t hrest (by simpa using h) hdst (by rw [show k + 1 + i = k + (i + 1) by omega]; exact hd) (by split <;> first | (rw [put_size]; exact ht) | exact ht)
      rw [this]
      congr 1
      omega
/-- How many are left. -/
def leftOf : Nat → (Nat → Bool) → Nat
  | 0, _ => 0
  | n + 1, d => leftOf n d + if d n then 0 else 1
theorem leftOf_congr (n : Nat) (d d' : Nat → Bool) (h : ∀ j, j < n → d' j = d j) : leftOf n d' = leftOf n d := by
  induction n with
  | zero => rfl
  | succ n ih => simp only [leftOf]; rw [ih fun j hj => h j (by omega), h n (by omega)]
theorem leftOf_upd (n : Nat) (d : Nat → Bool) (i : Nat) (hi : i < n) (hd : d i = false) : leftOf n (upd d i true) + 1 = leftOf n d := by
  induction n with
  | zero => omega
  | succ n ih =>
    simp only [leftOf]
    by_cases h : i = n
    · subst h
      rw [leftOf_congr i d (upd d i true) fun j hj => by simp [upd, show j ≠ i by omega]]
      simp [upd, hd]
    · have := ih (by omega)
      rw [show upd d i true n = d n by simp [upd, show n ≠ i by omega]]
      omega
theorem leftOf_zero (n : Nat) (d : Nat → Bool) (h : leftOf n d = 0) : ∀ j, j < n → d j = true := by
  induction n with
  | zero => intro j hj; omega
  | succ n ih =>
    simp only [leftOf] at h
    intro j hj
    by_cases hj2 : j = n
    · subst hj2
      cases hd : d j
      · rw [hd] at h; simp at h
      · rfl
    · exact ih (by omega) j (by omega)
/-- The look over a region: no guards, each temporary once, nothing waits for what stands behind it. -/
def invB (l : List Oper) : Bool :=
  onceB l && (l.zipIdx.all fun (o, i) => o.guard.isNone && o.after.all fun e => !Region.binds .any e || decide (e.on < i))
section
variable {P : Program} {l : List Oper} {Q : Exit → Act → World → Prop} {a0 : Act}
theorem wpOp_of_into {i : Nat} {o : Oper} {a : Act} {w : World} {K : Act → World → Prop} (ho : l[i]? = some o) (hg : o.guard = none) (h : into P o a w fun v w' => K (a.put o.dst v) w') : wpOp P l.toArray Q i K a w := by
  unfold wpOp
  have ho' : l.toArray[i]? = some o := by simpa using ho
  simp only [ho', Region.wanted, hg, if_true]
  left
  unfold into at h
  unfold Oper.wp
  generalize (execOp a.eval o).run P w = r at *
  cases r with
  | ok n w' =>
    cases n <;> simp only at h <;> simp only [Oper.upon]
    case value v => exact h
    case skip => exact h
    case enter f args => exact h.mono fun e w'' ⟨v, he, hv⟩ => by subst he; exact hv
  | halt x w' => exact h.elim
def Closed (l : List Oper) (d : Nat → Bool) : Prop := ∀ j o, l[j]? = some o → d j = true → ∀ e ∈ o.after, Region.binds .any e = true → d e.on = true
theorem wp_region_inv {id : Nat} {w : World} (hm : P.follows .mixedOrders = true) (hB : invB l = true) (Inv : (Nat → Bool) → (Nat → Value) → World → Prop)
    (start : ∀ d, (∀ i, i < l.length → d i = false) → Inv d (fun _ => undef) w.drew)
    (step : ∀ i o d x w, l[i]? = some o → Inv d x w → d i = false → Closed l d → (∀ e ∈ o.after, Region.binds .any e = true → d e.on = true) → into P o (putD l 0 a0 d x) w fun v w' => Inv (upd d i true) (upd x i v) w')
    (finish : ∀ x w, Inv (fun _ => true) x w → Q .normal (putD l 0 a0 (fun _ => true) x) w)
    (ext : ∀ d d' x w, (∀ i, i < l.length → d i = d' i) → Inv d x w → Inv d' x w) : (Code.region id l.toArray true).wp P Q a0 w := by
  simp only [invB, Bool.and_eq_true] at hB
  obtain ⟨honce, hall⟩ := hB
  have hop : ∀ i o, l[i]? = some o → o.guard = none ∧ ∀ e ∈ o.after, Region.binds .any e = true → e.on < i := by
    intro i o ho
    have := List.all_eq_true.1 hall (o, i) (List.mem_zipIdx_iff_getElem?.2 (by simpa using ho))
    simp only [Bool.and_eq_true] at this
    refine ⟨by simpa using this.1, fun e he hb => ?_⟩
    have h2 := Array.all_eq_true'.1 this.2 e he
    simpa [hb] using h2
  refine wp_region_any hm ?_
  have key : ∀ (f : Nat) (listed : Array Bool) (x : Nat → Value) (w : World), listed.size = l.length → Closed l (fun i => listed.getD i true) → leftOf l.length (fun i => listed.getD i true) = f → Inv (fun i => listed.getD i true) x w →
      wpAny P .any l.toArray Q f listed (putD l 0 a0 (fun i => listed.getD i true) x) w := by
    intro f
    induction f with
    | zero =>
      intro listed x w hs hcl hf hI
      have hd := leftOf_zero _ _ hf
      constructor
      · refine List.eq_nil_iff_forall_not_mem.2 fun i hi => ?_
        obtain ⟨h1, o, ho, _⟩ := mem_ready.1 hi
        have hlt : i < l.length := by have := (Array.getElem?_eq_some_iff.1 ho).1; simpa using this
        rw [hd i hlt] at h1
        cases h1
      · have e : putD l 0 a0 (fun i => listed.getD i true) x = putD l 0 a0 (fun _ => true) x := putD_congr _ _ _ _ _ _ _ fun j _ => ⟨by
          by_cases hj : j < l.length
          · exact hd j hj
          · simp [Array.getElem?_eq_none (show listed.size ≤ j by omega)], rfl⟩
        rw [e]
        exact finish _ _ (ext _ _ _ _ (fun i hi => hd i hi) hI)
    | succ f ih =>
      intro listed x w hs hcl hf hI
      have hne : ∃ i, i ∈ Region.ready .any l.toArray listed := by
        have hex : ∃ i, i < l.length ∧ listed.getD i true = false := by
          refine Classical.byContradiction fun h => ?_
          have : ∀ j, j < l.length → listed.getD j true = true := fun j hj => by
            cases hh : listed.getD j true
            · exact (h ⟨j, hj, hh⟩).elim
            · rfl
          have h0 : leftOf l.length (fun i => listed.getD i true) = leftOf l.length (fun _ => true) := leftOf_congr _ _ _ fun j hj => this j hj
          have h1 : ∀ n, leftOf n (fun _ => true) = 0 := by
            intro n
            induction n with
            | zero => rfl
            | succ n ih => simp [leftOf, ih]
          rw [h0, h1] at hf
          omega
        obtain ⟨i, hi, hu⟩ := hex
        have hmin : ∀ n i, i ≤ n → i < l.length → listed.getD i true = false → ∃ i, i ∈ Region.ready .any l.toArray listed := by
          intro n
          induction n using Nat.strongRecOn with
          | _ n ihn =>
            intro i hin hi hu
            by_cases hd : ∀ e ∈ (l[i]).after, Region.binds .any e = true → listed.getD e.on false = true
            · exact ⟨i, mem_ready.2 ⟨hu, l[i], by simp [hi], hd⟩⟩
            · have : ∃ e, e ∈ (l[i]).after ∧ Region.binds .any e = true ∧ listed.getD e.on false = false := by
                refine Classical.byContradiction fun h => hd fun e he hb => ?_
                cases hh : listed.getD e.on false
                · exact (h ⟨e, he, hb, hh⟩).elim
                · rfl
              obtain ⟨e, he, hb, hu2⟩ := this
              have hlt := (hop i l[i] (List.getElem?_eq_getElem hi)).2 e he hb
              exact ihn e.on (by omega) e.on (Nat.le_refl _) (by omega) (by
                rw [Array.getD_eq_getD_getElem?, Array.getElem?_eq_getElem (by omega)] at hu2 ⊢
                exact hu2)
        exact hmin i i (Nat.le_refl _) hi hu
      obtain ⟨i0, hi0⟩ := hne
      refine ⟨fun h => (by rw [h] at hi0; cases hi0), fun i hi => ?_⟩
      obtain ⟨hun, o, ho, hall'⟩ := mem_ready.1 hi
      have ho' : l[i]? = some o := by simpa using ho
      have hlt : i < l.length := (List.getElem?_eq_some_iff.1 ho').1
      refine wpOp_of_into ho' (hop i o ho').1 ?_
      have hst := step i o _ x w ho' hI hun hcl (fun e he hb => by
        have h1 := hall' e he hb
        have h2 := (hop i o ho').2 e he hb
        rw [Array.getD_eq_getD_getElem?, Array.getElem?_eq_getElem (by omega)] at h1 ⊢
        exact h1)
      have hd' : (fun j => (listed.setIfInBounds i true).getD j true) = upd (fun j => listed.getD j true) i true := by
        funext j
        unfold upd
        split
        · rename_i h; subst h; simp [hs, hlt]
        · rename_i h; exact getD_set_ne true (Ne.symm h)
      have hgo : ∀ v w', Inv (upd (fun j => listed.getD j true) i true) (upd x i v) w' → wpAny P .any l.toArray Q f (listed.setIfInBounds i true) ((putD l 0 a0 (fun j => listed.getD j true) x).put o.dst v) w' := by
        intro v w' h
        have hput := putD_upd l 0 a0 (fun j => listed.getD j true) x i o v honce ho' (by simpa using hun)
        rw [Nat.zero_add] at hput
        rw [← hput, ← hd']
        refine ih _ _ _ (by simp [hs]) ?_ ?_ (by rw [hd']; exact h)
        · intro j oj hj hdj e he hb
          rw [hd'] at hdj ⊢
          simp only [upd] at hdj ⊢
          have hlt' : j < l.length := (List.getElem?_eq_some_iff.1 hj).1
          have h2 := (hop j oj hj).2 e he hb
          have : listed.getD e.on true = true := by
            by_cases hji : j = i
            · subst hji
              obtain rfl : oj = o := Option.some.inj (hj.symm.trans ho')
              have h1 := hall' e he hb
              rw [Array.getD_eq_getD_getElem?, Array.getElem?_eq_getElem (by omega)] at h1 ⊢
              exact h1
            · rw [if_neg hji] at hdj
              exact hcl j oj hj hdj e he hb
          rw [this]
          split <;> rfl
        rw [hd']
        have := leftOf_upd l.length (fun j => listed.getD j true) i hlt hun
        omega
      unfold into at hst ⊢
      generalize (execOp (putD l 0 a0 (fun j => listed.getD j true) x).eval o).run P w = r at hst ⊢
      cases r with
      | ok n w' =>
        cases n <;> simp only at hst ⊢
        case value v => exact hgo _ _ hst
        case skip => exact hgo _ _ hst
        case enter g args => exact hst.mono fun e w'' ⟨v, he, hv⟩ => ⟨v, he, hgo _ _ hv⟩
      | halt y w' => exact hst.elim
  have h0 := key l.length (Array.replicate l.length false) (fun _ => undef) w.drew (by simp) (by
    intro j o hj hdj
    have hlt : j < l.length := (List.getElem?_eq_some_iff.1 hj).1
    simp [hlt] at hdj) (by
    have : ∀ n, n ≤ l.length → leftOf n (fun i => (Array.replicate l.length false).getD i true) = n := by
      intro n
      induction n with
      | zero => intro _; rfl
      | succ n ih =>
        intro hn
        simp only [leftOf]
        have e : (Array.replicate l.length false).getD n true = false := by simp [show n < l.length by omega]
        simp only [ih (by omega), e]
        rfl
    exact this _ (Nat.le_refl _)) (start _ fun i hi => by simp [hi])
  have e0 : putD l 0 a0 (fun i => (Array.replicate l.length false).getD i true) (fun _ => undef) = a0 := by
    have : ∀ (r : List Oper) (k : Nat) (a : Act), k + r.length = l.length → putD r k a (fun i => (Array.replicate l.length false).getD i true) (fun _ => undef) = a := by
      intro r
      induction r with
      | nil => intros; rfl
      | cons o r ih =>
        intro k a hk
        simp only [List.length_cons] at hk
        simp only [putD]
        rw [show ((Array.replicate l.length false).getD k true) = false by simp [show k < l.length by omega]]
        exact ih (k + 1) a (by omega)
    exact this l 0 a0 (by simp)
  rw [e0] at h0
  simpa using h0
end
section
variable {P : Program} {o : Oper} {a : Act} {w : World} {R : Value → World → Prop}
theorem into_run (v : Value) (w' : World) (h : (execOp a.eval o).run P w = .ok (.value v) w') (hk : R v w') : into P o a w R := by
  unfold into; rw [h]; exact hk
theorem into_alloc (e : TypeId) (ho : o.op = .alloc e) (z : Array Value) (hz : ∀ w, (Instr.alloc e true (.tuple #[])).run P w = .ok (.pointer (some ⟨w.heap.size, 0, none⟩)) (w.alloc (.cells z e)))
    (hk : R (.pointer (some ⟨w.heap.size, 0, none⟩)) (w.alloc (.cells z e))) : into P o a w R := by
  unfold into execOp
  simp only [ho, Sem.run_bind, hz, Result.andThen_ok, Sem.run_pure]
  exact hk
theorem into_move (x : Operand) (v : Value) (h : o.op = .move x) (hx : a.eval x = v) (hk : R v w) : into P o a w R := by
  unfold into execOp; rw [h]; subst hx; exact hk
theorem into_nilCheck (x : Operand) (p : Addr) (h : o.op = .nilCheck x) (hx : a.eval x = .pointer (some p)) (hk : R (.pointer (some p)) w) : into P o a w R := by
  unfold into execOp
  simp only [h, hx]
  simp [go_sem]
  exact hk
theorem into_load_row (ty : TypeId) (x : Operand) (ho : o.op = .load ty x) (g : Nat) (hx : a.eval x = .pointer (some ⟨g, 0, none⟩)) (t : TypeId) (cs : Array Value) (d : TypeDesc) (hg : Blk w g t cs)
    (hu : P.underlying ty = some d) (hd : (match d with | .struct _ | .array _ _ => true | _ => false) = true) (hi : (P.info? ty).map (·.size) = some cs.size) (h : R (.agg cs) w) : into P o a w R := by
  unfold into execOp
  simp only [ho, hx, Instr.loadAt, Instr.sureAddr, Sem.run_bind, Sem.run_pure, Result.andThen_ok, run_loadVar_row w g t ty cs (0, 0) d hg hu hd hi]
  exact h
theorem into_store_row (ty : TypeId) (x y : Operand) (ho : o.op = .store ty x y) (g : Nat) (cells : Array Value) (hx : a.eval x = .pointer (some ⟨g, 0, none⟩)) (hy : a.eval y = .agg cells)
    (t : TypeId) (old : Array Value) (hg : Blk w g t old) (hi : (P.info? ty).map (·.size) = some cells.size) (hold : old.size = cells.size) (h1 : cells.all (·.oneCell') = true)
    (h : R undef (w.setRow g cells)) : into P o a w R := by
  unfold into execOp
  simp only [ho, hx, hy, Instr.storeAt, Instr.sureAddr, Sem.run_bind, Sem.run_pure, Result.andThen_ok, run_storeVar_row w g t ty old cells hg hi hold h1]
  exact h
theorem into_call (f : FuncId) (xs : Array Operand) (ats : Array TypeId) (ho : o.op = .call { callee := .value (.func f), args := xs, argTypes := ats }) (hcf : ∀ args w, (callFunc f args).run P w = .ok (.enter f args) w) (args : Array Value) (hx : xs.map a.eval = args)
    (h : Calls P f args w (fun e w'' => ∃ v, e = .returned v ∧ R v w'')) : into P o a w R := by
  subst hx
  obtain ⟨dst, op, type, pos, after, guard⟩ := o
  obtain rfl := (ho : op = _)
  unfold into
  rw [execOp_call_go]
  have e : #[] ++ xs.map a.eval ++ #[] = xs.map a.eval := by simp
  rw [e, hcf]
  exact h
end
theorem Blk.setRow {w : World} {g : Nat} {t : TypeId} {old : Array Value} (h : Blk w g t old) (cs : Array Value) : Blk (w.setRow g cs) g t cs := setRow_heap w g old cs t _ h
theorem Blk.setRow_ne {w : World} {g k : Nat} {t : TypeId} {cur : Array Value} (h : Blk w k t cur) (hne : k ≠ g) (cs : Array Value) : Blk (w.setRow g cs) k t cur := (setRow_other w g k cs hne).trans h
end Go.Proofs.Ytlabebapjhhkaaa
namespace Go.Proofs.Ytlabebapjhhkaaa
open Go.RowKit
/-- Only blocks of F may be other than they were. -/
structure Keeps (F : Nat → Prop) (w w' : World) : Prop where
  os : w'.os = w.os
  tape : w'.tape = w.tape
  output : w'.output = w.output
  size : w.heap.size ≤ w'.heap.size
  block : ∀ k, k < w.heap.size → ¬ F k → w'.heap[k]? = w.heap[k]?
section
variable {F F' : Nat → Prop} {a b c w w' : World} {B : Nat}
theorem Keeps.refl (F : Nat → Prop) (w : World) : Keeps F w w := ⟨rfl, rfl, rfl, Nat.le_refl _, fun _ _ _ => rfl⟩
theorem Keeps.trans (h : Keeps F a b) (k : Keeps F' b c) (hF : ∀ i, i < a.heap.size → F' i → F i) : Keeps F a c :=
  ⟨k.os.trans h.os, k.tape.trans h.tape, k.output.trans h.output, Nat.le_trans h.size k.size, fun i hi hn => (k.block i (Nat.lt_of_lt_of_le hi h.size) (fun e => hn (hF i hi e))).trans (h.block i hi hn)⟩
theorem Keeps.weaken (h : Keeps F a b) (hF : ∀ i, i < a.heap.size → F i → F' i) : Keeps F' a b :=
  ⟨h.os, h.tape, h.output, h.size, fun i hi hn => h.block i hi (fun e => hn (hF i hi e))⟩
theorem Keeps.of_below (h : Below w.heap.size w w') : Keeps F w w' := ⟨h.os, h.tape, h.output, h.size, fun k hk _ => h.block k hk⟩
theorem Keeps.below (h : Keeps F w w') (hF : ∀ i, F i → B ≤ i) (hB : B ≤ w.heap.size) : Below B w w' :=
  ⟨h.os, h.tape, h.output, h.size, fun k hk => h.block k (by omega) (fun e => by have := hF k e; omega)⟩
theorem Keeps.drew (h : Keeps F a b) : Keeps F a b.drew := ⟨h.os, h.tape, h.output, h.size, h.block⟩
theorem Keeps.alloc (h : Keeps F a b) (o : Obj) : Keeps F a (b.alloc o) := h.trans (Keeps.of_below (F := F) ((Below.refl _ _).alloc (Nat.le_refl _) o)) (fun _ _ e => e)
theorem Keeps.setCell (h : Keeps F a b) {p : Addr} (hp : F p.block) (u : Value) : Keeps F a (b.setCell p u) :=
  ⟨h.os, h.tape, h.output, by simp only [World.setCell, Array.size_modify]; exact h.size, fun k hk hn => (Below.heap_setCell _ _ _ _ (fun e => hn (by rw [e]; exact hp))).trans (h.block k hk hn)⟩
theorem Keeps.grown (h : Keeps F a b) {row : Option Nat} (hg : b.grownBy c row) (hr : ∀ k, row = some k → a.heap.size ≤ k ∨ F k) : Keeps F a c :=
  ⟨hg.os.trans h.os, hg.tape.trans h.tape, hg.output.trans h.output, Nat.le_trans h.size hg.size, fun i hi hn => (hg.block i (Nat.lt_of_lt_of_le hi h.size) (fun e => by rcases hr i e.symm with h1 | h1; omega; exact hn h1)).trans (h.block i hi hn)⟩
theorem Blk.keeps {g : Nat} {t : TypeId} {cs : Array Value} (h : Blk w g t cs) (hk : Keeps F w w') (hg : ¬ F g) : Blk w' g t cs := (hk.block g h.lt hg).trans h
theorem row_keeps {base size n : Nat} {e : TypeId} {v : Value} {xs : List Value} (h : w.ownsRow base e size v n xs) (hk : Keeps F w w') (hn : ∀ k, v.ownBlock = some k → ¬ F k) : w'.ownsRow base e size v n xs := by
  rcases h.2 with h2 | ⟨g, cap, cur, e1, hg, hh, r⟩
  · exact ⟨h.1, Or.inl h2⟩
  · subst e1
    exact ⟨h.1, Or.inr ⟨g, cap, cur, rfl, hg, (hk.block g (lt_of_block hh) (hn g rfl)).trans hh, r⟩⟩
theorem Own.keeps {base : Nat} {v : Value} {l : List UInt8} (h : Own w base v l) (hk : Keeps F w w') (hn : ∀ k, v.ownBlock = some k → ¬ F k) : Own w' base v l := row_keeps h hk hn
end
/-- What a call of an object may touch, at most: what is old of F, and all that is new. -/
def Grown (F : Nat → Prop) (w : World) (k : Nat) : Prop := F k ∨ w.heap.size ≤ k
/-- A cell that holds no byte is set: bytes read as they did. -/
theorem rd_cell {w : World} {B n : Nat} {A : Option Addr} {l : List UInt8} (h : Rd w B A n l) (p : Addr) (x : Value) {u : Value} (hp : w.cell? p = some u) (hu : ∀ k : Int, u ≠ .int .u8 k) : Rd (w.setCell p x) B A n l := by
  refine ⟨h.1, fun hn => ?_⟩
  obtain ⟨ad, e, hb, hc⟩ := h.2 hn
  refine ⟨ad, e, hb, fun j y hy => ?_⟩
  have h1 := hc j y hy
  rw [World.cell?_setCell_other w p _ x (fun e => ?_)]
  · exact h1
  · rw [← e, hp] at h1
    rw [List.getElem?_map] at hy
    cases hz : l[j]? with
    | none => rw [hz] at hy; cases hy
    | some z =>
      rw [hz] at hy
      injection hy with hy
      injection h1 with h1
      exact hu z.toNat (by rw [h1, ← hy]; rfl)
theorem run_nil_slice (W : World) (c : Nat) : Sem.run Try.prog (binOp .eql 64 (.slice none 0 c) (.slice none 0 0)) W = .ok (.bool true) W := by kernel_rfl
theorem run_some_slice (W : World) (ad : Addr) (n c : Nat) : Sem.run Try.prog (binOp .eql 64 (.slice (some ad) n c) (.slice none 0 0)) W = .ok (.bool false) W := by kernel_rfl
/-- slices.Clone of bytes. -/
theorem Clone_any (A : Option Addr) (n c : Nat) (w : World) (l : List UInt8) (hn : n ≤ 140737488355328) (hr : Rd w w.heap.size A n l) :
    Calls Try.prog 89 #[.slice A n c] w fun e w' => ∃ v, e = .returned v ∧ Own w' w.heap.size v l ∧ Below w.heap.size w w' := by
  rcases A with _ | ad
  · have hl := hr.len
    have h0 : n = 0 := by
      rcases Nat.eq_zero_or_pos n with h | h
      · exact h
      · obtain ⟨ad, e, _⟩ := hr.2 h
        cases e
    have hl0 : l = [] := List.eq_nil_of_length_eq_zero (by omega)
    subst h0 hl0
    clear hr hl hn
    have he := run_nil_slice w c
    go_enter Try.func89, Try.ntmps89
    go_wp2
    go_ret
    exact ⟨_, rfl, Own.nil_ _ _, Below.refl _ _⟩
  · have he := run_some_slice w ad n c
    go_enter Try.func89, Try.ntmps89
    go_wp2_with (at_builtin; refine app_bytes rfl (.tmp 5) (.tmp 6) rfl w.heap.size (.slice (some ⟨w.heap.size, 0, none⟩) 0 0) [] rfl (Own.new_ w w.heap.size (Nat.le_refl _) [] (by simp) _ rfl) w.heap.size (some ad) n c l rfl (hr.alloc (Nat.le_refl _) _) (by simp only [List.length_nil]; omega) (by simp) ?_; intro v1 w1 hown1 hg1 hat1)
    have hb1 := below_app ((Below.refl w.heap.size w).alloc (Nat.le_refl _) _) (Own.new_ w w.heap.size (Nat.le_refl _) [] (by simp) _ rfl) (by simp) hg1
    go_ret
    exact ⟨_, rfl, hown1, hb1⟩
theorem wpList_store_row {P : Program} {ops : Array Oper} {rest : List Oper} {o : Oper} {a : Act} {w : World} {Q : Exit → Act → World → Prop} (hgd : o.guard = none) (ty : TypeId) (x y : Operand) (ho : o.op = .store ty x y)
    (g : Nat) (cells : Array Value) (hx : a.eval x = .pointer (some ⟨g, 0, none⟩)) (hy : a.eval y = .agg cells) (t : TypeId) (old : Array Value) (hg : w.heap[g]? = some (.cells old t (0, 0))) (hi : (P.info? ty).map (·.size) = some cells.size)
    (hold : old.size = cells.size) (h1 : cells.all (·.oneCell') = true) (h : wpList P ops Q rest (a.put o.dst undef) (w.setRow g cells)) : wpList P ops Q (o :: rest) a w :=
  wpList_plain hgd fun _ hK => wp_store_row ty x y ho g cells hx hy t old hg hi hold h1 (hK _ _ h)
theorem rd_off {w w' : World} {F : Nat → Prop} {B n : Nat} {A : Option Addr} {l : List UInt8} (h : Rd w B A n l) (hk : Keeps F w w') (hB : B ≤ w.heap.size) (hoff : ∀ ad, A = some ad → ad.block < B → ¬ F ad.block) : Rd w' B A n l := by
  refine ⟨h.1, fun hn => ?_⟩
  obtain ⟨ad, e, hb, hc⟩ := h.2 hn
  exact ⟨ad, e, hb, fun j u hu => (World.cell?_of_block (a := ad.add j) (by rw [block_of_add]; exact hk.block _ (Nat.lt_of_lt_of_le hb hB) (hoff ad e hb))).trans (hc j u hu)⟩
theorem wpOp_of_list {P : Program} {ops : Array Oper} {Q : Exit → Act → World → Prop} {i : Nat} {o : Oper} {K : Act → World → Prop} {a : Act} {w : World} (hi : ops[i]? = some o) (h : wpList P ops (Exit.then K Q) [o] a w) : wpOp P ops Q i K a w := by
  unfold wpOp
  simp only [hi]
  unfold wpList at h
  have e : (wpList P ops (Exit.then K Q) []) = K := by funext a w; rfl
  split
  · rename_i hw
    rw [if_pos hw] at h
    rcases h with h | ⟨h1, h2⟩
    · left
      rw [e] at h
      unfold Oper.wp at h ⊢
      generalize (execOp a.eval o).run P w = r at *
      cases r with
      | ok n w' =>
        cases n <;> simp only [Oper.upon] at h ⊢ <;> try exact h
      | halt x w' =>
        cases x <;> simp only [Oper.upon] at h ⊢
        case panic u => exact h
    · exact Or.inr ⟨h1, h2⟩
  · rename_i hw
    rw [if_neg hw] at h
    exact h
end Go.Proofs.Ytlabebapjhhkaaa
namespace Go.Proofs.Ytlabebapjhhkaaa
open Go.RowKit
section
variable {P : Program} {ops : Array Oper} {Q : Exit → Act → World → Prop} {rest : List Oper} {o : Oper} {a : Act} {w : World}
theorem wpList_quiet (hw : Region.wanted o (yielded ops a.tmps) = true) {K : Act → Prop} (h : o.quiet P a (fun W => W = w) K) (hn : ∀ f args w', (execOp a.eval o).run P w ≠ .ok (.enter f args) w') (hK : ∀ a', K a' → wpList P ops Q rest a' w) : wpList P ops Q (o :: rest) a w := by
  obtain ⟨v, h1, h2⟩ := h
  have h1 := h1 w rfl
  unfold wpList
  rw [if_pos hw]
  left
  unfold Oper.quietAt at h1
  unfold Oper.wp
  generalize (execOp a.eval o).run P w = r at *
  cases r with
  | ok n w' =>
    cases n <;> simp only [Oper.quietUpon] at h1 <;> simp only [Oper.upon]
    case value u => obtain ⟨e1, e2⟩ := h1; subst e1; rw [e2]; exact hK _ h2
    case skip => obtain ⟨e1, e2⟩ := h1; subst e1; rw [e2] at h2; exact hK _ h2
    case enter g args => exact absurd rfl (hn g args w')
  | halt x w' => simp only [Oper.quietUpon] at h1
/-- string(b) -/
theorem wpList_str (hw : Region.wanted o (yielded ops a.tmps) = true) (s d e : TypeId) (x : Operand) (ho : o.op = .convert s d x) (A : Option Addr) (n c : Nat) (l : List UInt8) (hx : a.eval x = .slice A n c) (hs : P.underlying s = some (.slice e)) (he : P.underlying e = some (.int .u8)) (hd : P.underlying d = some .string) (B : Nat)
    (hr : Reads w B 1 A n (l.map B8)) (h : wpList P ops Q rest (a.put o.dst (.string ⟨l.toArray⟩)) w) : wpList P ops Q (o :: rest) a w :=
  wpList_quiet hw (quiet_str s d e x ho A n c l hx hs he hd B (fun W e => e ▸ hr) (K := fun a' => a' = a.put o.dst (.string ⟨l.toArray⟩)) rfl) (fun f args w' => no_enter a.eval o (by rw [ho]; rfl) w f args w') (fun a' e => e ▸ h)
/-- x == y, of strings -/
theorem wpList_eql (hw : Region.wanted o (yielded ops a.tmps) = true) (t t' : TypeId) (x y : Operand) (ho : o.op = .binOp .eql t x y t') (l1 l2 : List UInt8) (hx : a.eval x = .string ⟨l1.toArray⟩) (hy : a.eval y = .string ⟨l2.toArray⟩) (h : wpList P ops Q rest (a.put o.dst (.bool (decide (l1 = l2)))) w) : wpList P ops Q (o :: rest) a w := by
  have hq : o.quiet P a (fun W => W = w) (fun a' => a' = a.put o.dst (.bool (decide (l1 = l2)))) := by
    refine ⟨_, fun w _ => ?_, rfl⟩
    unfold Oper.quietAt execOp
    have h1 : (eqGuard .eql t x y (.string ⟨l1.toArray⟩) (.string ⟨l2.toArray⟩)) = pure () := rfl
    have h3 : ((⟨l1.toArray⟩ : ByteArray).toList == (⟨l2.toArray⟩ : ByteArray).toList) = decide (l1 = l2) := by
      rw [ByteArray.toList_mk, ByteArray.toList_mk]
      by_cases h : l1 = l2 <;> simp [h]
    have h2 : (binOp .eql t (.string ⟨l1.toArray⟩) (.string ⟨l2.toArray⟩)) = pure (.bool (decide (l1 = l2))) := by rw [binOp_string_eql, h3]
    simp only [ho, hx, hy, h1, h2, Sem.run_bind, Sem.run_pure, Result.andThen_ok, Oper.quietUpon, and_self]
  exact wpList_quiet hw hq (fun f args w' => no_enter a.eval o (by rw [ho]; rfl) w f args w') (fun a' e => e ▸ h)
/-- x != y, of strings -/
theorem wpList_neq (hw : Region.wanted o (yielded ops a.tmps) = true) (t t' : TypeId) (x y : Operand) (ho : o.op = .binOp .neq t x y t') (l1 l2 : List UInt8) (hx : a.eval x = .string ⟨l1.toArray⟩) (hy : a.eval y = .string ⟨l2.toArray⟩) (h : wpList P ops Q rest (a.put o.dst (.bool (!decide (l1 = l2)))) w) : wpList P ops Q (o :: rest) a w := by
  have hq : o.quiet P a (fun W => W = w) (fun a' => a' = a.put o.dst (.bool (!decide (l1 = l2)))) := by
    refine ⟨_, fun w _ => ?_, rfl⟩
    unfold Oper.quietAt execOp
    have h1 : (eqGuard .neq t x y (.string ⟨l1.toArray⟩) (.string ⟨l2.toArray⟩)) = pure () := rfl
    have h3 : ((⟨l1.toArray⟩ : ByteArray).toList == (⟨l2.toArray⟩ : ByteArray).toList) = decide (l1 = l2) := by
      rw [ByteArray.toList_mk, ByteArray.toList_mk]
      by_cases h : l1 = l2 <;> simp [h]
    have h2 : (binOp .neq t (.string ⟨l1.toArray⟩) (.string ⟨l2.toArray⟩)) = pure (.bool (!decide (l1 = l2))) := by rw [binOp_string_neq, h3]
    simp only [ho, hx, hy, h1, h2, Sem.run_bind, Sem.run_pure, Result.andThen_ok, Oper.quietUpon, and_self]
  exact wpList_quiet hw hq (fun f args w' => no_enter a.eval o (by rw [ho]; rfl) w f args w') (fun a' e => e ▸ h)
/-- x[lo:hi] -/
theorem wpList_slice_lh (hw : Region.wanted o (yielded ops a.tmps) = true) (ty : TypeId) (x y z : Operand) (ho : o.op = .slice ty x (some y) (some z) none) (xv v : Value) (lo hi : Int) (hx : a.eval x = xv) (hy : a.eval y = .int .i64 lo) (hz : a.eval z = .int .i64 hi)
    (hs : (Instr.sliceAt ty xv (some (.int .i64 lo)) (some (.int .i64 hi)) none).run P w = .ok v w) (h : wpList P ops Q rest (a.put o.dst v) w) : wpList P ops Q (o :: rest) a w := by
  have hq : o.quiet P a (fun W => W = w) (fun a' => a' = a.put o.dst v) := by
    refine ⟨_, fun W hW => ?_, rfl⟩
    unfold Oper.quietAt execOp
    subst hW
    simp only [ho, hx, hy, hz, Option.map_some, Option.map_none, Sem.run_bind, hs, Result.andThen_ok, Sem.run_pure, Oper.quietUpon, and_self]
  exact wpList_quiet hw hq (fun f args w' => no_enter a.eval o (by rw [ho]; rfl) w f args w') (fun a' e => e ▸ h)
theorem run_slice_bytes (P : Program) (ty : TypeId) (A : Option Addr) (n c lo k : Nat) (ht : P.underlying ty = some (.slice (P.elem ty))) (he : ∀ W, (sizeOf (P.elem ty)).run P W = .ok 1 W) (hc : lo + k ≤ c) (hi : Int) (hhi : hi = ((lo + k : Nat) : Int)) (W : World) :
    (Instr.sliceAt ty (.slice A n c) (some (.int .i64 (lo : Int))) (some (.int .i64 hi)) none).run P W = .ok (.slice (if c = lo then A else A.map (·.add lo)) k (c - lo)) W := by
  rw [run_sliceAt_slice W ty _ _ _ _ ht, run_slice_lh W ty A n c ht .i64 .i64 (lo : Int) hi (by omega) (by omega) (by omega), he W, hhi]
  simp [sliced, Result.andThen]
  try omega
end
end Go.Proofs.Ytlabebapjhhkaaa
