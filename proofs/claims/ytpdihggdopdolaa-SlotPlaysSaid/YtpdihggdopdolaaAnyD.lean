/- A region that draws its order and whose last operation waits for all the others: the worlds are of the class as long as it has not come. No conditions. -/
import Derived.Test.YtpdihggdopdolaaAny
namespace Go.Proofs.Ytpdihggdopdolaa
open Go.RowKit
section
variable {P : Program} {ops : Array Oper} {md : Region.Mode} {Q : Exit → Act → World → Prop} {C : World → Prop} {L : Nat}
def anyD (P : Program) (md : Region.Mode) (ops : Array Oper) (C : World → Prop) (L : Nat) (Q : Exit → Act → World → Prop) : Nat → Array Bool → Act → World → Prop
  | 0, listed, a, w => (listed.getD L true = false → C w) ∧ Region.ready md ops listed = [] ∧ Q .normal a w
  | f + 1, listed, a, w => (listed.getD L true = false → C w) ∧ (Region.ready md ops listed = [] → Q .normal a w) ∧ ∀ i ∈ Region.ready md ops listed, wpOp P ops Q i (anyD P md ops C L Q f (listed.setIfInBounds i true)) a w
theorem any_of_anyD : ∀ (f : Nat) (listed : Array Bool) (a : Act) (w : World), anyD P md ops C L Q f listed a w → wpAny P md ops Q f listed a w := by
  intro f
  induction f with
  | zero => exact fun _ _ _ h => ⟨h.2.1, h.2.2⟩
  | succ f ih => exact fun listed a w h => ⟨h.2.1, fun i hi => wpOp_mono (fun a' w' h' => ih _ a' w' h') (h.2.2 i hi)⟩
theorem anyD_narrow {C' : World → Prop} (hC : ∀ w, C' w → C w) : ∀ (f : Nat) (listed : Array Bool) (a : Act) (w : World), anyD P md ops C' L Q f listed a w → anyD P md ops C L Q f listed a w := by
  intro f
  induction f with
  | zero => exact fun _ _ _ h => ⟨fun hl => hC _ (h.1 hl), h.2⟩
  | succ f ih => exact fun listed a w h => ⟨fun hl => hC _ (h.1 hl), h.2.1, fun i hi => wpOp_mono (fun a' w' h' => ih _ a' w' h') (h.2.2 i hi)⟩
theorem anyD_first {i : Nat} {oi oL : Oper} {v : Value} (hi : ops[i]? = some oi) (hoL : ops[L]? = some oL) (hdep : ∃ e ∈ oL.after, Region.binds md e = true ∧ e.on = i) (hiL : i ≠ L) (hsel : ∀ (j : Nat) (o : Oper) cs b, ops[j]? = some o → o.op ≠ .select cs b) (hQ : ∀ c a w, Q (.panic c) (a.put oi.dst v) w → Q (.panic c) a w) :
    ∀ (fuel : Nat) (listed : Array Bool) (a : Act) (w : World), listed.getD L true = false →
      (∀ j oj, ops[j]? = some oj → j ≠ i → listed.getD j true = false → (∀ e ∈ oj.after, Region.binds md e = true → e.on ≠ i) → oi.apart ops oj = true) →
      i ∈ Region.ready md ops listed → YieldsC P ops C oi v a → anyD P md ops C L Q fuel (listed.setIfInBounds i true) (a.put oi.dst v) w → anyD P md ops C L Q (fuel + 1) listed a w := by
  intro fuel
  induction fuel with
  | zero =>
    intro listed a w hL _ hr hy H
    have hCw : C w := H.1 (by rwa [getD_set_ne true hiL])
    refine ⟨fun _ => hCw, fun h => (by rw [h] at hr; cases hr), fun j hj => ?_⟩
    by_cases hji : j = i
    · subst hji; exact hy.wpOp hi hCw H
    · have := ready_mono hj hji
      rw [H.2.1] at this
      cases this
  | succ fuel ih =>
    intro listed a w hL hfree hr hy H
    have hCw : C w := H.1 (by rwa [getD_set_ne true hiL])
    refine ⟨fun _ => hCw, fun h => (by rw [h] at hr; cases hr), fun j hj => ?_⟩
    by_cases hji : j = i
    · subst hji; exact hy.wpOp hi hCw H
    have h1 := H.2.2 j (ready_mono hj hji)
    obtain ⟨hjun, oj, hoj, hall⟩ := mem_ready.1 hj
    have hnot : ∀ e ∈ oj.after, Region.binds md e = true → e.on ≠ i := fun e he hb heq => by
      have h1 := hall e he hb
      have h0 := (mem_ready.1 hr).1
      rw [heq, getD_both h0] at h1
      cases h1
    have hjL : j ≠ L := by
      rintro rfl
      obtain ⟨e, he, hb, heq⟩ := hdep
      rw [hoL] at hoj
      injection hoj with hoj
      subst hoj
      exact hnot e he hb heq
    have h2 := wpOp_putC hoj (hfree j oj hoj hji hjun hnot) (fun cs b => hsel i oi cs b hi) (fun cs b => hsel j oj cs b hoj) hQ hy h1
    refine wpOp_mono (fun a' w' h3 => ih (listed.setIfInBounds j true) a' w' (by rwa [getD_set_ne true hjL]) (fun k ok hk hki hun hno => hfree k ok hk hki ?_ hno) (ready_mono hr (Ne.symm hji)) h3.1 ?_) h2
    · by_cases hjk : j = k
      · subst hjk; exact hjun
      · rwa [getD_set_ne true hjk] at hun
    · rw [Array.setIfInBounds_comm _ _ hji]
      exact h3.2
/-- As takesB; and the last operation waits for each. -/
def takesDB (md : Region.Mode) (ops : Array Oper) (L : Nat) : List Nat → Array Bool → Bool
  | [], _ => true
  | i :: is, listed => (match ops[i]? with | some o => noCallB o.op | none => false) && Region.free md ops listed i && (Region.ready md ops listed).contains i && (decide (i ≠ L)) && (match ops[L]? with | some o => o.after.any (fun e => Region.binds md e && e.on == i) | none => false) && (!listed.getD L true) && takesDB md ops L is (listed.setIfInBounds i true)
theorem anyD_takes (hsel : Region.noSelect ops = true) (hQ : ∀ c a d v w, Q (.panic c) (Act.put a d v) w → Q (.panic c) a w) {w : World} : ∀ (is : List Nat) (f : Nat) (listed : Array Bool) (a : Act), takesDB md ops L is listed = true →
    wpQuiet P ops C (fun a' => anyD P md ops C L Q f (putAll listed is) a' w) (is.filterMap (ops[·]?)) a → anyD P md ops C L Q (f + is.length) listed a w := by
  intro is
  induction is with
  | nil => intro f listed a _ h; exact h
  | cons i is ih =>
    intro f listed a hB h
    simp only [takesDB, Bool.and_eq_true, decide_eq_true_eq, Bool.not_eq_true'] at hB
    obtain ⟨⟨⟨⟨⟨⟨hn, hf⟩, hr⟩, hiL⟩, hdep⟩, hL⟩, hB'⟩ := hB
    cases hoL : ops[L]? with
    | none => rw [hoL] at hdep; cases hdep
    | some oL =>
      rw [hoL] at hdep
      simp only [Array.any_eq_true', Bool.and_eq_true, beq_iff_eq] at hdep
      obtain ⟨e, he, hb, heq⟩ := hdep
      cases ho : ops[i]? with
      | none => rw [ho] at hn; cases hn
      | some o =>
        rw [ho] at hn
        simp only [List.filterMap_cons, ho] at h
        obtain ⟨v, hy, h'⟩ := yieldsC_of hn h
        exact anyD_first ho hoL ⟨e, he, hb, heq⟩ hiL (Region.noSelect_spec hsel) (fun c a w => hQ c a _ _ w) (f + is.length) listed a w hL (Region.free_spec ho hf) (by simpa using hr) hy (ih f _ _ hB' h')
/-- One operation alone may come up. -/
theorem anyD_only {i : Nat} {o : Oper} {f : Nat} {listed : Array Bool} {a : Act} {w : World} (hi : ops[i]? = some o) (hr : Region.ready md ops listed = [i]) (hC : C w) (h : wpList P ops (Exit.then (anyD P md ops C L Q f (listed.setIfInBounds i true)) Q) [o] a w) : anyD P md ops C L Q (f + 1) listed a w := by
  refine ⟨fun _ => hC, fun h0 => (by rw [hr] at h0; cases h0), fun j hj => ?_⟩
  rw [hr] at hj
  obtain rfl : j = i := by simpa using hj
  unfold wpOp
  simp only [hi]
  unfold wpList at h
  have e : (wpList P ops (Exit.then (anyD P md ops C L Q f (listed.setIfInBounds j true)) Q) []) = anyD P md ops C L Q f (listed.setIfInBounds j true) := by funext a w; rfl
  split
  · rename_i hw
    rw [if_pos hw] at h
    rcases h with h | ⟨h1, h2⟩
    · left
      rw [e] at h
      unfold Oper.wp at h ⊢
      generalize (execOp a.eval o).run P w = r at *
      cases r with
      | ok n w' =>
        cases n <;> simp only [Oper.upon] at h ⊢ <;> try exact h
      | halt x w' =>
        cases x <;> simp only [Oper.upon] at h ⊢
        case panic u => exact h
    · exact Or.inr ⟨h1, h2⟩
  · rename_i hw
    rw [if_neg hw] at h
    exact h
theorem anyD_end {listed : Array Bool} {a : Act} {w : World} (hl : listed.getD L true = true) (hr : Region.ready md ops listed = []) (h : Q .normal a w) : anyD P md ops C L Q 0 listed a w :=
  ⟨fun h0 => (by rw [hl] at h0; cases h0), hr, h⟩
end
theorem wp_region_anyDN {P : Program} {Q : Exit → Act → World → Prop} {id : Nat} {a : Act} {w : World} {l : List Oper} (C : World → Prop) (L : Nat) (hm : P.follows .mixedOrders = true) (h : anyD P .any l.toArray C L (Exit.then (Q .normal) (fun _ _ _ => False)) l.length (Array.replicate l.length false) a w.drew) : (Code.region id l.toArray true).wp P Q a w :=
  wp_mono (Q := Exit.then (Q .normal) (fun _ _ _ => False)) (by
    refine wp_region_any hm ?_
    have := any_of_anyD _ _ _ _ h
    simpa using this) (by intro e a w h; cases e <;> first | exact h | exact h.elim)
end Go.Proofs.Ytpdihggdopdolaa
