/- A region that draws its order, step by step: what only reads is taken first, what makes memory comes alone. No conditions. -/
import Derived.Test.YtpdihggdopdolaaBase
namespace Go.Proofs.Ytpdihggdopdolaa
open Go.RowKit
set_option linter.unusedSimpArgs false
section
variable {P : Program} {ops : Array Oper} {md : Region.Mode} {Q : Exit → Act → World → Prop} {C : World → Prop}
/-- Whatever order is picked from here on, the world always being of the class. -/
def anyC (P : Program) (md : Region.Mode) (ops : Array Oper) (C : World → Prop) (Q : Exit → Act → World → Prop) : Nat → Array Bool → Act → World → Prop
  | 0, listed, a, w => C w ∧ Region.ready md ops listed = [] ∧ Q .normal a w
  | f + 1, listed, a, w => C w ∧ (Region.ready md ops listed = [] → Q .normal a w) ∧ ∀ i ∈ Region.ready md ops listed, wpOp P ops Q i (anyC P md ops C Q f (listed.setIfInBounds i true)) a w
theorem any_of_anyC : ∀ (f : Nat) (listed : Array Bool) (a : Act) (w : World), anyC P md ops C Q f listed a w → wpAny P md ops Q f listed a w := by
  intro f
  induction f with
  | zero => exact fun _ _ _ h => ⟨h.2.1, h.2.2⟩
  | succ f ih => exact fun listed a w h => ⟨h.2.1, fun i hi => wpOp_mono (fun a' w' h' => ih _ a' w' h') (h.2.2 i hi)⟩
theorem anyC_narrow {C' : World → Prop} (hC : ∀ w, C' w → C w) : ∀ (f : Nat) (listed : Array Bool) (a : Act) (w : World), anyC P md ops C' Q f listed a w → anyC P md ops C Q f listed a w := by
  intro f
  induction f with
  | zero => exact fun _ _ _ h => ⟨hC _ h.1, h.2⟩
  | succ f ih => exact fun listed a w h => ⟨hC _ h.1, h.2.1, fun i hi => wpOp_mono (fun a' w' h' => ih _ a' w' h') (h.2.2 i hi)⟩
theorem anyC_in {f : Nat} {listed : Array Bool} {a : Act} {w : World} (h : anyC P md ops C Q f listed a w) : C w := by
  cases f <;> exact h.1
def YieldsC (P : Program) (ops : Array Oper) (C : World → Prop) (o : Oper) (v : Value) (a : Act) : Prop :=
  (Region.wanted o (yielded ops a.tmps) = true ∧ ∀ w, C w → o.quietAt P a C w v ∧ ∀ f args w', (execOp a.eval o).run P w ≠ .ok (.enter f args) w') ∨
  (Region.wanted o (yielded ops a.tmps) = false ∧ v = undef)
theorem YieldsC.wpOp {i : Nat} {o : Oper} {v : Value} {a : Act} (hi : ops[i]? = some o) (hy : YieldsC P ops C o v a) {K : Act → World → Prop} {w : World} (hC : C w) (h : K (a.put o.dst v) w) : wpOp P ops Q i K a w := by
  unfold Go.wpOp
  simp only [hi]
  rcases hy with ⟨hw, hv⟩ | ⟨hw, rfl⟩
  · simp only [hw, if_true]
    left
    obtain ⟨h1, h2⟩ := hv w hC
    unfold Oper.quietAt at h1
    unfold Oper.wp
    generalize (execOp a.eval o).run P w = r at *
    cases r with
    | ok n w' =>
      cases n <;> simp only [Oper.quietUpon] at h1 <;> simp only [Oper.upon]
      case value u => rw [h1.1, h1.2]; exact h
      case skip => rw [h1.1, ← h1.2]; exact h
      case enter g args => exact absurd rfl (h2 g args w')
    | halt x w' => simp only [Oper.quietUpon] at h1
  · simp only [hw, Bool.false_eq_true, if_false]; exact h
theorem YieldsC.of_same {o : Oper} {v : Value} {a a' : Act} (hy : YieldsC P ops C o v a) (he : execOp a'.eval o = execOp a.eval o)
    (hw : Region.wanted o (yielded ops a'.tmps) = Region.wanted o (yielded ops a.tmps)) : YieldsC P ops C o v a' := by
  unfold YieldsC Oper.quietAt at *
  rw [he, hw]
  exact hy
theorem wpOp_putC {j : Nat} {oi oj : Oper} {v : Value} (hj : ops[j]? = some oj) (hap : oi.apart ops oj = true) (hsi : ∀ cs b, oi.op ≠ .select cs b) (hsj : ∀ cs b, oj.op ≠ .select cs b)
    (hQ : ∀ c a w, Q (.panic c) (a.put oi.dst v) w → Q (.panic c) a w) {K : Act → World → Prop} {a : Act} {w : World} (hy : YieldsC P ops C oi v a) (h : wpOp P ops Q j K (a.put oi.dst v) w) :
    wpOp P ops Q j (fun a' w' => YieldsC P ops C oi v a' ∧ K (a'.put oi.dst v) w') a w := by
  obtain ⟨h1, h2, h3⟩ := Oper.apart_spec hap
  have keep : ∀ (a : Act), YieldsC P ops C oi v a → ∀ u, YieldsC P ops C oi v (a.put oj.dst u) := fun a hy u =>
    hy.of_same (execOp_put oi hsi a oj.dst u h3) (wanted_put oi a oj.dst u h3)
  have keepD : ∀ d, YieldsC P ops C oi v { a with defers := d :: a.defers } := fun d => hy.of_same rfl rfl
  unfold wpOp at *
  simp only [hj] at *
  rw [wanted_put oj a oi.dst v h1] at h
  split
  · rename_i hw
    simp only [hw, if_true] at h
    rcases h with h | ⟨hasks, hlets⟩
    case inr => exact .inr ⟨by unfold Oper.asks at *; rw [execOp_put oj hsj a oi.dst v h1] at hasks; exact hasks, hlets⟩
    refine .inl ?_
    unfold Oper.wp at *
    rw [execOp_put oj hsj a oi.dst v h1] at h
    generalize (execOp a.eval oj).run P w = r at *
    cases r with
    | ok n w' =>
      cases n <;> simp only [Oper.upon] at h ⊢
      case value u => exact ⟨keep a hy u, by rw [← Act.put_comm a v u h2]; exact h⟩
      case skip => exact ⟨keep a hy _, by rw [← Act.put_comm a v undef h2]; exact h⟩
      case defer d =>
        refine ⟨keep _ (keepD d) _, ?_⟩
        rw [← Act.put_comm _ v undef h2, ← Act.put_defers]
        exact h
      case enter f args =>
        refine Calls.mono h fun e w'' he => ?_
        cases e with
        | returned u => exact ⟨keep a hy u, by rw [← Act.put_comm a v u h2]; exact he⟩
        | panicked c => exact hQ _ _ _ he
        | outgrown => exact he
      case row row args => exact Rows.mono h fun u w'' he => ⟨keep a hy u, by rw [← Act.put_comm a v u h2]; exact he⟩
    | halt x w' =>
      cases x <;> simp only [Oper.upon] at h ⊢
      case panic u => exact hQ _ _ _ h
  · rename_i hw
    simp only [hw] at h
    exact ⟨keep a hy _, by rw [← Act.put_comm a v undef h2]; exact h⟩
theorem anyC_first {i : Nat} {oi : Oper} {v : Value} (hi : ops[i]? = some oi) (hsel : ∀ (j : Nat) (o : Oper) cs b, ops[j]? = some o → o.op ≠ .select cs b) (hQ : ∀ c a w, Q (.panic c) (a.put oi.dst v) w → Q (.panic c) a w) :
    ∀ (fuel : Nat) (listed : Array Bool) (a : Act) (w : World),
      (∀ j oj, ops[j]? = some oj → j ≠ i → listed.getD j true = false → (∀ e ∈ oj.after, Region.binds md e = true → e.on ≠ i) → oi.apart ops oj = true) →
      i ∈ Region.ready md ops listed → YieldsC P ops C oi v a → anyC P md ops C Q fuel (listed.setIfInBounds i true) (a.put oi.dst v) w → anyC P md ops C Q (fuel + 1) listed a w := by
  intro fuel
  induction fuel with
  | zero =>
    intro listed a w _ hr hy H
    refine ⟨H.1, fun h => (by rw [h] at hr; cases hr), fun j hj => ?_⟩
    by_cases hji : j = i
    · subst hji; exact hy.wpOp hi H.1 H
    · have := ready_mono hj hji
      rw [H.2.1] at this
      cases this
  | succ fuel ih =>
    intro listed a w hfree hr hy H
    refine ⟨H.1, fun h => (by rw [h] at hr; cases hr), fun j hj => ?_⟩
    by_cases hji : j = i
    · subst hji; exact hy.wpOp hi H.1 H
    have h1 := H.2.2 j (ready_mono hj hji)
    obtain ⟨hjun, oj, hoj, hall⟩ := mem_ready.1 hj
    have hnot : ∀ e ∈ oj.after, Region.binds md e = true → e.on ≠ i := fun e he hb heq => by
      have h1 := hall e he hb
      have h0 := (mem_ready.1 hr).1
      rw [heq, getD_both h0] at h1
      cases h1
    have h2 := wpOp_putC hoj (hfree j oj hoj hji hjun hnot) (fun cs b => hsel i oi cs b hi) (fun cs b => hsel j oj cs b hoj) hQ hy h1
    refine wpOp_mono (fun a' w' h3 => ih (listed.setIfInBounds j true) a' w' (fun k ok hk hki hun hno => hfree k ok hk hki ?_ hno) (ready_mono hr (Ne.symm hji)) h3.1 ?_) h2
    · by_cases hjk : j = k
      · subst hjk; exact hjun
      · rwa [getD_set_ne true hjk] at hun
    · rw [Array.setIfInBounds_comm _ _ hji]
      exact h3.2
/-- No call of a Go function. -/
def noCallB : Op → Bool
  | .call { callee := .builtin b, .. } => (match b with | .len | .cap | .min | .max => true | _ => false)
  | .move _ | .assign _ | .pick .. | .load .. | .nilCheck _ | .binOp .. | .unOp .. | .convert .. | .fieldAddr .. | .field .. | .indexAddr .. | .index .. | .slice .. | .extract .. | .build .. => true
  | _ => false
theorem no_enter (ρ : Operand → Value) (o : Oper) (h : noCallB o.op = true) (w : World) (f : FuncId) (args : Array Value) (w' : World) : (execOp ρ o).run P w ≠ .ok (.enter f args) w' := by
  have hv : ∀ (s : Sem Value), (Sem.run P (do pure (Next.value (← s))) w) ≠ .ok (.enter f args) w' := by
    intro s
    rw [Sem.run_bind]
    cases Sem.run P s w <;> simp [Result.andThen]
  obtain ⟨dst, op, type, pos, after, guard⟩ := o
  cases op <;> simp only [noCallB, Bool.false_eq_true] at h <;> try exact hv _
  case move => simp [execOp]
  case assign => simp [execOp]
  case pick c a b =>
    simp only [execOp]
    rw [Sem.run_bind]
    cases Sem.run P (asBool (ρ c)) w <;> simp [Result.andThen]
  case nilCheck x =>
    simp only [execOp]
    split
    · simp [runtimePanic, program, goPanic, Sem.run, bind, Sem.bind]
    · simp [runtimePanic, program, goPanic, Sem.run, bind, Sem.bind]
    · simp [runtimePanic, program, goPanic, Sem.run, bind, Sem.bind]
    · split
      · simp [runtimePanic, program, goPanic, Sem.run, bind, Sem.bind]
      · simp only [Sem.run_bind]
        cases Sem.run P program w <;> simp only [Result.andThen, ne_eq, reduceCtorEq, not_false_eq_true]
        rename_i p1 w1
        cases Sem.run P (nilAhead _ _ _ _) w1 <;> simp only [Result.andThen, ne_eq, reduceCtorEq, not_false_eq_true]
        split <;> simp [unsupported, Sem.run]
      · simp
    · simp
  case call c =>
    obtain ⟨callee, xs, ats⟩ := c
    cases callee <;> simp only [Bool.false_eq_true] at h
    case builtin b =>
      rw [BigFrame.execOp_builtin]
      cases b <;> simp only [Bool.false_eq_true] at h <;> exact hv _
/-- These operations come up one behind the other, each may come up and is apart from all that has not come up. -/
def takesB (md : Region.Mode) (ops : Array Oper) : List Nat → Array Bool → Bool
  | [], _ => true
  | i :: is, listed => (match ops[i]? with | some o => noCallB o.op | none => false) && Region.free md ops listed i && (Region.ready md ops listed).contains i && takesB md ops is (listed.setIfInBounds i true)
def putAll (listed : Array Bool) : List Nat → Array Bool
  | [] => listed
  | i :: is => putAll (listed.setIfInBounds i true) is
theorem yieldsC_of {o : Oper} {a : Act} {rest : List Oper} {QQ : Act → Prop} (hn : noCallB o.op = true) (h : wpQuiet P ops C QQ (o :: rest) a) : ∃ v, YieldsC P ops C o v a ∧ wpQuiet P ops C QQ rest (a.put o.dst v) := by
  unfold wpQuiet at h
  by_cases hw : Region.wanted o (yielded ops a.tmps) = true
  · rw [if_pos hw] at h
    obtain ⟨v, h1, h2⟩ := h
    exact ⟨v, Or.inl ⟨hw, fun w hC => ⟨h1 w hC, fun f args w' => no_enter a.eval o hn w f args w'⟩⟩, h2⟩
  · rw [if_neg hw] at h
    exact ⟨undef, Or.inr ⟨by simpa using hw, rfl⟩, h⟩
theorem anyC_takes (hsel : Region.noSelect ops = true) (hQ : ∀ c a d v w, Q (.panic c) (Act.put a d v) w → Q (.panic c) a w) {w : World} : ∀ (is : List Nat) (f : Nat) (listed : Array Bool) (a : Act), takesB md ops is listed = true →
    wpQuiet P ops C (fun a' => anyC P md ops C Q f (putAll listed is) a' w) (is.filterMap (ops[·]?)) a → anyC P md ops C Q (f + is.length) listed a w := by
  intro is
  induction is with
  | nil => intro f listed a _ h; exact h
  | cons i is ih =>
    intro f listed a hB h
    simp only [takesB, Bool.and_eq_true] at hB
    obtain ⟨⟨⟨hn, hf⟩, hr⟩, hB'⟩ := hB
    cases ho : ops[i]? with
    | none => rw [ho] at hn; cases hn
    | some o =>
      rw [ho] at hn
      simp only [List.filterMap_cons, ho] at h
      obtain ⟨v, hy, h'⟩ := yieldsC_of hn h
      exact anyC_first ho (Region.noSelect_spec hsel) (fun c a w => hQ c a _ _ w) (f + is.length) listed a w (Region.free_spec ho hf) (by simpa using hr) hy (ih f _ _ hB' h')
/-- One operation alone may come up. -/
theorem anyC_only {i : Nat} {o : Oper} {f : Nat} {listed : Array Bool} {a : Act} {w : World} (hi : ops[i]? = some o) (hr : Region.ready md ops listed = [i]) (hC : C w) (h : wpList P ops (Exit.then (anyC P md ops C Q f (listed.setIfInBounds i true)) Q) [o] a w) : anyC P md ops C Q (f + 1) listed a w := by
  refine ⟨hC, fun h0 => (by rw [hr] at h0; cases h0), fun j hj => ?_⟩
  rw [hr] at hj
  obtain rfl : j = i := by simpa using hj
  unfold wpOp
  simp only [hi]
  unfold wpList at h
  have e : (wpList P ops (Exit.then (anyC P md ops C Q f (listed.setIfInBounds j true)) Q) []) = anyC P md ops C Q f (listed.setIfInBounds j true) := by funext a w; rfl
  split
  · rename_i hw
    rw [if_pos hw] at h
    rcases h with h | ⟨h1, h2⟩
    · left
      rw [e] at h
      unfold Oper.wp at h ⊢
      generalize (execOp a.eval o).run P w = r at *
      cases r with
      | ok n w' =>
        cases n <;> simp only [Oper.upon] at h ⊢ <;> try exact h
      | halt x w' =>
        cases x <;> simp only [Oper.upon] at h ⊢
        case panic u => exact h
    · exact Or.inr ⟨h1, h2⟩
  · rename_i hw
    rw [if_neg hw] at h
    exact h
theorem wp_region_anyC {id : Nat} {a : Act} {w : World} {l : List Oper} (C : World → Prop) (hm : P.follows .mixedOrders = true) (h : anyC P .any l.toArray C Q l.length (Array.replicate l.length false) a w.drew) : (Code.region id l.toArray true).wp P Q a w := by
  refine wp_region_any hm ?_
  have := any_of_anyC _ _ _ _ h
  simpa using this
end
theorem wp_region_anyN {P : Program} {Q : Exit → Act → World → Prop} {id : Nat} {a : Act} {w : World} {l : List Oper} (C : World → Prop) (hm : P.follows .mixedOrders = true) (h : anyC P .any l.toArray C (Exit.then (Q .normal) (fun _ _ _ => False)) l.length (Array.replicate l.length false) a w.drew) : (Code.region id l.toArray true).wp P Q a w :=
  wp_mono (wp_region_anyC C hm h) (by intro e a w h; cases e <;> first | exact h | exact h.elim)
/-! What is read, in a class of worlds. -/
section
variable {P : Program} {C : World → Prop} {o : Oper} {a : Act} {K : Act → Prop}
theorem quiet_load (ty : TypeId) (x : Operand) (ho : o.op = .load ty x) (ad : Addr) (hx : a.eval x = .pointer (some ad)) (v : Value) (hc : ∀ w, C w → w.cell? ad = some v) (hag : ∀ w, (isAgg ty).run P w = .ok false w)
    (h : K (a.put o.dst v)) : o.quiet P a C K := by
  refine ⟨v, fun w hw => ?_, h⟩
  unfold Oper.quietAt execOp
  simp [ho, hx, Instr.loadAt, Instr.sureAddr, loadVar, hag, Sem.run, load, hc w hw, Oper.quietUpon]
/-- s == s. -/
theorem quiet_eql_str (t t' : TypeId) (x y : Operand) (ho : o.op = .binOp .eql t x y t') (s : ByteArray) (hx : a.eval x = .string s) (hy : a.eval y = .string s) (hK : K (a.put o.dst (.bool true))) : o.quiet P a C K := by
  refine ⟨_, fun w _ => ?_, hK⟩
  unfold Oper.quietAt execOp
  have h1 : (eqGuard .eql t x y (.string s) (.string s)) = pure () := rfl
  have h2 : (binOp .eql t (.string s) (.string s)) = pure (.bool true) := by rw [binOp_string_eql]; simp
  simp only [ho, hx, hy, h1, h2, Sem.run_bind, Sem.run_pure, Result.andThen_ok, Oper.quietUpon, and_self]
/-- The choice whose condition holds. -/
theorem quiet_pick (c x y : Operand) (ho : o.op = .pick c x y) (hc : a.eval c = .bool true) (v : Value) (hx : a.eval x = v) (hK : K (a.put o.dst v)) : o.quiet P a C K := by
  refine ⟨_, fun w _ => ?_, hK⟩
  unfold Oper.quietAt execOp
  simp [ho, hc, hx, asBool, Oper.quietUpon]
/-- xs[:h]. -/
theorem quiet_slice_h (ty : TypeId) (x y : Operand) (ho : o.op = .slice ty x none (some y) none) (A : Option Addr) (n c h : Nat) (hx : a.eval x = .slice A n c) (hy : a.eval y = .int .i64 (h : Int))
    (hs : ∀ W : World, (Instr.sliceAt ty (.slice A n c) none (some (.int .i64 (h : Int))) none).run P W = .ok (.slice A h c) W) (hK : K (a.put o.dst (.slice A h c))) : o.quiet P a C K := by
  refine ⟨_, fun w _ => ?_, hK⟩
  unfold Oper.quietAt execOp
  simp only [ho, hx, hy, Option.map_some, Option.map_none, Sem.run_bind, hs w, Result.andThen_ok, Sem.run_pure, Oper.quietUpon, and_self]
theorem run_str {w : World} (s d e : TypeId) (A : Option Addr) (n c : Nat) (l : List UInt8) (hs : P.underlying s = some (.slice e)) (he : P.underlying e = some (.int .u8)) (hd : P.underlying d = some .string) (B : Nat)
    (hr : Reads w B 1 A n (l.map B8)) : (convert s d (.slice A n c)).run P w = .ok (.string ⟨l.toArray⟩) w := by
  have hl : l.length = n := by have := hr.1; simpa using this
  have hs0 : strOfNums (l.map fun b => (b.toNat : Int)) = ⟨l.toArray⟩ := by
    unfold strOfNums
    simp [Function.comp_def]
  rcases Nat.eq_zero_or_pos n with h0 | h0
  · subst h0
    have hln : l = [] := List.eq_nil_of_length_eq_zero hl
    subst hln
    cases A with
    | none => exact run_convert_bytes_nil w s e hs he 0 c d hd
    | some ad =>
      rw [run_convert_bytes_string w s d e _ 0 c hs he hd]
      simp [Conv.bytesToString, loadCells, loadCellsFrom]
      rfl
  · obtain ⟨ad, rfl, _, hc⟩ := hr.2 h0
    obtain ⟨b, off, spot⟩ := ad
    have hc0 := hc 0 _ (by rw [List.getElem?_map, List.getElem?_eq_getElem (show 0 < l.length by omega)]; rfl)
    have hsp : spot = none := by simpa [Addr.add] using World.cell?_spot hc0
    subst hsp
    rw [← hs0]
    refine run_convert_bytes_arg w s e hs he b off n c _ (by simpa using hl) (fun i hi => ?_) d hd
    have h1 := hc i _ (by rw [List.getElem?_map, List.getElem?_eq_getElem (show i < l.length by omega)]; rfl)
    have ha : (⟨b, off, none⟩ : Addr).add i = ⟨b, off + i, none⟩ := by unfold Addr.add; split <;> simp_all
    rw [ha] at h1
    rw [h1, List.getD_eq_getElem?_getD, List.getElem?_map, List.getElem?_eq_getElem (show i < l.length by omega)]
    rfl
theorem quiet_str (s d e : TypeId) (x : Operand) (ho : o.op = .convert s d x) (A : Option Addr) (n c : Nat) (l : List UInt8) (hx : a.eval x = .slice A n c) (hs : P.underlying s = some (.slice e)) (he : P.underlying e = some (.int .u8)) (hd : P.underlying d = some .string) (B : Nat)
    (hr : ∀ w, C w → Reads w B 1 A n (l.map B8)) (h : K (a.put o.dst (.string ⟨l.toArray⟩))) : o.quiet P a C K := by
  refine ⟨_, fun w hw => ?_, h⟩
  unfold Oper.quietAt execOp
  simp only [ho, hx, Sem.run_bind, run_str s d e A n c l hs he hd B (hr w hw), Result.andThen_ok, Sem.run_pure, Oper.quietUpon, and_self]
end
end Go.Proofs.Ytpdihggdopdolaa
