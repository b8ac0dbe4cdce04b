/- A region that draws its order, by an invariant: whatever order is picked, each operation hands the invariant on. No conditions. -/
import Derived.Test.YtoekmgpnmhknoaaBase
namespace Go.Proofs.Ytoekmgpnmhknoaa
open Go.RowKit
/-- What an operation comes to. -/
def into (P : Program) (o : Oper) (a : Act) (w : World) (R : Value → World → Prop) : Prop :=
  match (execOp a.eval o).run P w with
  | .ok (.value v) w' => R v w'
  | .ok .skip w' => R undef w'
  | .ok (.enter f args) w' => Calls P f args w' (fun e w'' => ∃ v, e = .returned v ∧ R v w'')
  | _ => False
def upd {α : Type} (f : Nat → α) (i : Nat) (v : α) : Nat → α := fun j => if j = i then v else f j
/-- The frame behind the operations that are done. -/
def putD : List Oper → Nat → Act → (Nat → Bool) → (Nat → Value) → Act
  | [], _, a, _, _ => a
  | o :: rest, k, a, d, x => putD rest (k + 1) (if d k then a.put o.dst (x k) else a) d x
theorem put_size (a : Act) (t : Option Tmp) (v : Value) : (a.put t v).tmps.size = a.tmps.size := by cases t <;> simp [Act.put]
theorem put_comm' (a : Act) (s t : Option Tmp) (u v : Value) (h : s = none ∨ s ≠ t) : (a.put s u).put t v = (a.put t v).put s u := by
  cases s with
  | none => rfl
  | some s =>
    cases t with
    | none => rfl
    | some t =>
      have hst : s ≠ t := by
        rcases h with h | h
        · cases h
        · intro e; exact h (by rw [e])
      simp [Act.put, Array.setIfInBounds_comm _ _ hst]
theorem putD_put (l : List Oper) : ∀ (k : Nat) (a : Act) (d : Nat → Bool) (x : Nat → Value) (t : Option Tmp) (v : Value), (∀ o ∈ l, o.dst = none ∨ o.dst ≠ t) → putD l k (a.put t v) d x = (putD l k a d x).put t v := by
  induction l with
  | nil => intros; rfl
  | cons o l ih =>
    intro k a d x t v h
    simp only [putD]
    have h0 := h o (List.mem_cons_self ..)
    rw [← ih (k + 1) _ d x t v fun o' ho' => h o' (List.mem_cons_of_mem _ ho')]
    congr 1
    split
    · rw [put_comm' a o.dst t _ _ h0]
    · rfl
theorem putD_congr (l : List Oper) : ∀ (k : Nat) (a : Act) (d d' : Nat → Bool) (x x' : Nat → Value), (∀ j, k ≤ j → d' j = d j ∧ x' j = x j) → putD l k a d' x' = putD l k a d x := by
  induction l with
  | nil => intros; rfl
  | cons o l ih =>
    intro k a d d' x x' h
    simp only [putD]
    rw [(h k (Nat.le_refl _)).1, (h k (Nat.le_refl _)).2]
    exact ih _ _ _ _ _ _ fun j hj => h j (by omega)
/-- All temporaries are written once. -/
def onceB : List Oper → Bool
  | [] => true
  | o :: rest => (match o.dst with | none => true | some t => rest.all fun o' => o'.dst != some t) && onceB rest
theorem onceB_head {o : Oper} {rest : List Oper} (h : onceB (o :: rest) = true) : ∀ o' ∈ rest, o'.dst = none ∨ o'.dst ≠ o.dst := by
  intro o' ho'
  simp only [onceB, Bool.and_eq_true] at h
  cases hd : o.dst with
  | none => cases h' : o'.dst <;> simp
  | some t =>
    have h1 := h.1
    rw [hd] at h1
    have := List.all_eq_true.1 h1 o' ho'
    right
    simpa using this
theorem putD_upd (l : List Oper) : ∀ (k : Nat) (a : Act) (d : Nat → Bool) (x : Nat → Value) (i : Nat) (o : Oper) (v : Value), onceB l = true → l[i]? = some o → d (k + i) = false →
    putD l k a (upd d (k + i) true) (upd x (k + i) v) = (putD l k a d x).put o.dst v := by
  induction l with
  | nil => intro k a d x i o v _ h; simp at h
  | cons o' l ih =>
    intro k a d x i o v honce h hd
    have hrest : onceB l = true := by simp only [onceB, Bool.and_eq_true] at honce; exact honce.2
    cases i with
    | zero =>
      obtain rfl : o' = o := by simpa using h
      simp only [putD, Nat.add_zero] at hd ⊢
      rw [hd, show upd d k true k = true by simp [upd], show upd x k v k = v by simp [upd]]
      simp only [if_true, Bool.false_eq_true, if_false]
      rw [putD_put l (k + 1) a _ _ o'.dst v (onceB_head honce)]
      congr 1
      exact putD_congr l _ _ _ _ _ _ fun j hj => by simp [upd, show j ≠ k by omega]
    | succ i =>
      simp only [putD]
      rw [show upd d (k + (i + 1)) true k = d k by simp [upd], show upd x (k + (i + 1)) v k = x k by simp [upd]]
      have := ih (k + 1) (if d k then a.put o'.dst (x k) else a) d x i o v hrest (by simpa using h) (by rw [show k + 1 + i = k + (i + 1) by omega]; exact hd)
      rw [show k + 1 + i = k + (i + 1) by omega] at this
      exact this
theorem putD_size (l : List Oper) : ∀ (k : Nat) (a : Act) (d : Nat → Bool) (x : Nat → Value), (putD l k a d x).tmps.size = a.tmps.size := by
  induction l with
  | nil => intros; rfl
  | cons o l ih =>
    intro k a d x
    simp only [putD, ih]
    split
    · exact put_size ..
    · rfl
theorem putD_other (l : List Oper) : ∀ (k : Nat) (a : Act) (d : Nat → Bool) (x : Nat → Value) (t : Tmp), (l.all fun o => o.dst != some t) = true → (putD l k a d x).eval (.tmp t) = a.eval (.tmp t) := by
  induction l with
  | nil => intros; rfl
  | cons o l ih =>
    intro k a d x t h
    simp only [List.all_cons, Bool.and_eq_true] at h
    simp only [putD]
    rw [ih _ _ _ _ t h.2]
    split
    · have h1 := h.1
      cases hd : o.dst with
      | none => rfl
      | some s =>
        have hst : s ≠ t := by rw [hd] at h1; simpa using h1
        simp [Act.put, Act.eval, Array.getElem?_setIfInBounds_ne hst]
    · rfl
theorem putD_done (l : List Oper) : ∀ (k : Nat) (a : Act) (d : Nat → Bool) (x : Nat → Value) (i : Nat) (o : Oper) (t : Tmp), onceB l = true → l[i]? = some o → o.dst = some t → d (k + i) = true → t < a.tmps.size →
    (putD l k a d x).eval (.tmp t) = x (k + i) := by
  induction l with
  | nil => intro k a d x i o t _ h; simp at h
  | cons o' l ih =>
    intro k a d x i o t honce h hdst hd ht
    have hrest : onceB l = true := by simp only [onceB, Bool.and_eq_true] at honce; exact honce.2
    simp only [putD]
    cases i with
    | zero =>
      obtain rfl : o' = o := by simpa using h
      rw [Nat.add_zero] at hd ⊢
      have hall : (l.all fun o => o.dst != some t) = true := by
        simp only [onceB, hdst, Bool.and_eq_true] at honce
        exact honce.1
      rw [putD_other l _ _ _ _ t hall, if_pos hd, hdst]
      simp [Act.put, Act.eval, ht]
    | succ i =>
      have := ih (k + 1) (if d k then a.put o'.dst (x k) else a) d x i o t hrest (by simpa using h) hdst (by rw [show k + 1 + i = k + (i + 1) by omega]; exact hd) (by split <;> first | (rw [put_size]; exact ht) | exact ht)
      rw [this]
      congr 1
      omega
/-- How many are left. -/
def leftOf : Nat → (Nat → Bool) → Nat
  | 0, _ => 0
  | n + 1, d => leftOf n d + if d n then 0 else 1
theorem leftOf_congr (n : Nat) (d d' : Nat → Bool) (h : ∀ j, j < n → d' j = d j) : leftOf n d' = leftOf n d := by
  induction n with
  | zero => rfl
  | succ n ih => simp only [leftOf]; rw [ih fun j hj => h j (by omega), h n (by omega)]
theorem leftOf_upd (n : Nat) (d : Nat → Bool) (i : Nat) (hi : i < n) (hd : d i = false) : leftOf n (upd d i true) + 1 = leftOf n d := by
  induction n with
  | zero => omega
  | succ n ih =>
    simp only [leftOf]
    by_cases h : i = n
    · subst h
      rw [leftOf_congr i d (upd d i true) fun j hj => by simp [upd, show j ≠ i by omega]]
      simp [upd, hd]
    · have := ih (by omega)
      rw [show upd d i true n = d n by simp [upd, show n ≠ i by omega]]
      omega
theorem leftOf_zero (n : Nat) (d : Nat → Bool) (h : leftOf n d = 0) : ∀ j, j < n → d j = true := by
  induction n with
  | zero => intro j hj; omega
  | succ n ih =>
    simp only [leftOf] at h
    intro j hj
    by_cases hj2 : j = n
    · subst hj2
      cases hd : d j
      · rw [hd] at h; simp at h
      · rfl
    · exact ih (by omega) j (by omega)
/-- The look over a region: no guards, each temporary once, nothing waits for what stands behind it. -/
def invB (l : List Oper) : Bool :=
  onceB l && (l.zipIdx.all fun (o, i) => o.guard.isNone && o.after.all fun e => !Region.binds .any e || decide (e.on < i))
section
variable {P : Program} {l : List Oper} {Q : Exit → Act → World → Prop} {a0 : Act}
theorem wpOp_of_into {i : Nat} {o : Oper} {a : Act} {w : World} {K : Act → World → Prop} (ho : l[i]? = some o) (hg : o.guard = none) (h : into P o a w fun v w' => K (a.put o.dst v) w') : wpOp P l.toArray Q i K a w := by
  unfold wpOp
  have ho' : l.toArray[i]? = some o := by simpa using ho
  simp only [ho', Region.wanted, hg, if_true]
  left
  unfold into at h
  unfold Oper.wp
  generalize (execOp a.eval o).run P w = r at *
  cases r with
  | ok n w' =>
    cases n <;> simp only at h <;> simp only [Oper.upon]
    case value v => exact h
    case skip => exact h
    case enter f args => exact h.mono fun e w'' ⟨v, he, hv⟩ => by subst he; exact hv
  | halt x w' => exact h.elim
def Closed (l : List Oper) (d : Nat → Bool) : Prop := ∀ j o, l[j]? = some o → d j = true → ∀ e ∈ o.after, Region.binds .any e = true → d e.on = true
theorem wp_region_inv {id : Nat} {w : World} (hm : P.follows .mixedOrders = true) (hB : invB l = true) (Inv : (Nat → Bool) → (Nat → Value) → World → Prop)
    (start : ∀ d, (∀ i, i < l.length → d i = false) → Inv d (fun _ => undef) w.drew)
    (step : ∀ i o d x w, l[i]? = some o → Inv d x w → d i = false → Closed l d → (∀ e ∈ o.after, Region.binds .any e = true → d e.on = true) → into P o (putD l 0 a0 d x) w fun v w' => Inv (upd d i true) (upd x i v) w')
    (finish : ∀ x w, Inv (fun _ => true) x w → Q .normal (putD l 0 a0 (fun _ => true) x) w)
    (ext : ∀ d d' x w, (∀ i, i < l.length → d i = d' i) → Inv d x w → Inv d' x w) : (Code.region id l.toArray true).wp P Q a0 w := by
  simp only [invB, Bool.and_eq_true] at hB
  obtain ⟨honce, hall⟩ := hB
  have hop : ∀ i o, l[i]? = some o → o.guard = none ∧ ∀ e ∈ o.after, Region.binds .any e = true → e.on < i := by
    intro i o ho
    have := List.all_eq_true.1 hall (o, i) (List.mem_zipIdx_iff_getElem?.2 (by simpa using ho))
    simp only [Bool.and_eq_true] at this
    refine ⟨by simpa using this.1, fun e he hb => ?_⟩
    have h2 := Array.all_eq_true'.1 this.2 e he
    simpa [hb] using h2
  refine wp_region_any hm ?_
  have key : ∀ (f : Nat) (listed : Array Bool) (x : Nat → Value) (w : World), listed.size = l.length → Closed l (fun i => listed.getD i true) → leftOf l.length (fun i => listed.getD i true) = f → Inv (fun i => listed.getD i true) x w →
      wpAny P .any l.toArray Q f listed (putD l 0 a0 (fun i => listed.getD i true) x) w := by
    intro f
    induction f with
    | zero =>
      intro listed x w hs hcl hf hI
      have hd := leftOf_zero _ _ hf
      constructor
      · refine List.eq_nil_iff_forall_not_mem.2 fun i hi => ?_
        obtain ⟨h1, o, ho, _⟩ := mem_ready.1 hi
        have hlt : i < l.length := by have := (Array.getElem?_eq_some_iff.1 ho).1; simpa using this
        rw [hd i hlt] at h1
        cases h1
      · have e : putD l 0 a0 (fun i => listed.getD i true) x = putD l 0 a0 (fun _ => true) x := putD_congr _ _ _ _ _ _ _ fun j _ => ⟨by
          by_cases hj : j < l.length
          · exact hd j hj
          · simp [Array.getElem?_eq_none (show listed.size ≤ j by omega)], rfl⟩
        rw [e]
        exact finish _ _ (ext _ _ _ _ (fun i hi => hd i hi) hI)
    | succ f ih =>
      intro listed x w hs hcl hf hI
      have hne : ∃ i, i ∈ Region.ready .any l.toArray listed := by
        have hex : ∃ i, i < l.length ∧ listed.getD i true = false := by
          refine Classical.byContradiction fun h => ?_
          have : ∀ j, j < l.length → listed.getD j true = true := fun j hj => by
            cases hh : listed.getD j true
            · exact (h ⟨j, hj, hh⟩).elim
            · rfl
          have h0 : leftOf l.length (fun i => listed.getD i true) = leftOf l.length (fun _ => true) := leftOf_congr _ _ _ fun j hj => this j hj
          have h1 : ∀ n, leftOf n (fun _ => true) = 0 := by
            intro n
            induction n with
            | zero => rfl
            | succ n ih => simp [leftOf, ih]
          rw [h0, h1] at hf
          omega
        obtain ⟨i, hi, hu⟩ := hex
        have hmin : ∀ n i, i ≤ n → i < l.length → listed.getD i true = false → ∃ i, i ∈ Region.ready .any l.toArray listed := by
          intro n
          induction n using Nat.strongRecOn with
          | _ n ihn =>
            intro i hin hi hu
            by_cases hd : ∀ e ∈ (l[i]).after, Region.binds .any e = true → listed.getD e.on false = true
            · exact ⟨i, mem_ready.2 ⟨hu, l[i], by simp [hi], hd⟩⟩
            · have : ∃ e, e ∈ (l[i]).after ∧ Region.binds .any e = true ∧ listed.getD e.on false = false := by
                refine Classical.byContradiction fun h => hd fun e he hb => ?_
                cases hh : listed.getD e.on false
                · exact (h ⟨e, he, hb, hh⟩).elim
                · rfl
              obtain ⟨e, he, hb, hu2⟩ := this
              have hlt := (hop i l[i] (List.getElem?_eq_getElem hi)).2 e he hb
              exact ihn e.on (by omega) e.on (Nat.le_refl _) (by omega) (by
                rw [Array.getD_eq_getD_getElem?, Array.getElem?_eq_getElem (by omega)] at hu2 ⊢
                exact hu2)
        exact hmin i i (Nat.le_refl _) hi hu
      obtain ⟨i0, hi0⟩ := hne
      refine ⟨fun h => (by rw [h] at hi0; cases hi0), fun i hi => ?_⟩
      obtain ⟨hun, o, ho, hall'⟩ := mem_ready.1 hi
      have ho' : l[i]? = some o := by simpa using ho
      have hlt : i < l.length := (List.getElem?_eq_some_iff.1 ho').1
      refine wpOp_of_into ho' (hop i o ho').1 ?_
      have hst := step i o _ x w ho' hI hun hcl (fun e he hb => by
        have h1 := hall' e he hb
        have h2 := (hop i o ho').2 e he hb
        rw [Array.getD_eq_getD_getElem?, Array.getElem?_eq_getElem (by omega)] at h1 ⊢
        exact h1)
      have hd' : (fun j => (listed.setIfInBounds i true).getD j true) = upd (fun j => listed.getD j true) i true := by
        funext j
        unfold upd
        split
        · rename_i h; subst h; simp [hs, hlt]
        · rename_i h; exact getD_set_ne true (Ne.symm h)
      have hgo : ∀ v w', Inv (upd (fun j => listed.getD j true) i true) (upd x i v) w' → wpAny P .any l.toArray Q f (listed.setIfInBounds i true) ((putD l 0 a0 (fun j => listed.getD j true) x).put o.dst v) w' := by
        intro v w' h
        have hput := putD_upd l 0 a0 (fun j => listed.getD j true) x i o v honce ho' (by simpa using hun)
        rw [Nat.zero_add] at hput
        rw [← hput, ← hd']
        refine ih _ _ _ (by simp [hs]) ?_ ?_ (by rw [hd']; exact h)
        · intro j oj hj hdj e he hb
          rw [hd'] at hdj ⊢
          simp only [upd] at hdj ⊢
          have hlt' : j < l.length := (List.getElem?_eq_some_iff.1 hj).1
          have h2 := (hop j oj hj).2 e he hb
          have : listed.getD e.on true = true := by
            by_cases hji : j = i
            · subst hji
              obtain rfl : oj = o := Option.some.inj (hj.symm.trans ho')
              have h1 := hall' e he hb
              rw [Array.getD_eq_getD_getElem?, Array.getElem?_eq_getElem (by omega)] at h1 ⊢
              exact h1
            · rw [if_neg hji] at hdj
              exact hcl j oj hj hdj e he hb
          rw [this]
          split <;> rfl
        rw [hd']
        have := leftOf_upd l.length (fun j => listed.getD j true) i hlt hun
        omega
      unfold into at hst ⊢
      generalize (execOp (putD l 0 a0 (fun j => listed.getD j true) x).eval o).run P w = r at hst ⊢
      cases r with
      | ok n w' =>
        cases n <;> simp only at hst ⊢
        case value v => exact hgo _ _ hst
        case skip => exact hgo _ _ hst
        case enter g args => exact hst.mono fun e w'' ⟨v, he, hv⟩ => ⟨v, he, hgo _ _ hv⟩
      | halt y w' => exact hst.elim
  have h0 := key l.length (Array.replicate l.length false) (fun _ => undef) w.drew (by simp) (by
    intro j o hj hdj
    have hlt : j < l.length := (List.getElem?_eq_some_iff.1 hj).1
    simp [hlt] at hdj) (by
    have : ∀ n, n ≤ l.length → leftOf n (fun i => (Array.replicate l.length false).getD i true) = n := by
      intro n
      induction n with
      | zero => intro _; rfl
      | succ n ih =>
        intro hn
        simp only [leftOf]
        have e : (Array.replicate l.length false).getD n true = false := by simp [show n < l.length by omega]
        simp only [ih (by omega), e]
        rfl
    exact this _ (Nat.le_refl _)) (start _ fun i hi => by simp [hi])
  have e0 : putD l 0 a0 (fun i => (Array.replicate l.length false).getD i true) (fun _ => undef) = a0 := by
    have : ∀ (r : List Oper) (k : Nat) (a : Act), k + r.length = l.length → putD r k a (fun i => (Array.replicate l.length false).getD i true) (fun _ => undef) = a := by
      intro r
      induction r with
      | nil => intros; rfl
      | cons o r ih =>
        intro k a hk
        simp only [List.length_cons] at hk
        simp only [putD]
        rw [show ((Array.replicate l.length false).getD k true) = false by simp [show k < l.length by omega]]
        exact ih (k + 1) a (by omega)
    exact this l 0 a0 (by simp)
  rw [e0] at h0
  simpa using h0
end
section
variable {P : Program} {o : Oper} {a : Act} {w : World} {R : Value → World → Prop}
theorem into_run (v : Value) (w' : World) (h : (execOp a.eval o).run P w = .ok (.value v) w') (hk : R v w') : into P o a w R := by
  unfold into; rw [h]; exact hk
theorem into_alloc (e : TypeId) (ho : o.op = .alloc e) (z : Array Value) (hz : ∀ w, (Instr.alloc e true (.tuple #[])).run P w = .ok (.pointer (some ⟨w.heap.size, 0, none⟩)) (w.alloc (.cells z e)))
    (hk : R (.pointer (some ⟨w.heap.size, 0, none⟩)) (w.alloc (.cells z e))) : into P o a w R := by
  unfold into execOp
  simp only [ho, Sem.run_bind, hz, Result.andThen_ok, Sem.run_pure]
  exact hk
theorem into_move (x : Operand) (v : Value) (h : o.op = .move x) (hx : a.eval x = v) (hk : R v w) : into P o a w R := by
  unfold into execOp; rw [h]; subst hx; exact hk
theorem into_nilCheck (x : Operand) (p : Addr) (h : o.op = .nilCheck x) (hx : a.eval x = .pointer (some p)) (hk : R (.pointer (some p)) w) : into P o a w R := by
  unfold into execOp
  simp only [h, hx]
  simp [go_sem]
  exact hk
theorem into_load_row (ty : TypeId) (x : Operand) (ho : o.op = .load ty x) (g : Nat) (hx : a.eval x = .pointer (some ⟨g, 0, none⟩)) (t : TypeId) (cs : Array Value) (d : TypeDesc) (hg : Blk w g t cs)
    (hu : P.underlying ty = some d) (hd : (match d with | .struct _ | .array _ _ => true | _ => false) = true) (hi : (P.info? ty).map (·.size) = some cs.size) (h : R (.agg cs) w) : into P o a w R := by
  unfold into execOp
  simp only [ho, hx, Instr.loadAt, Instr.sureAddr, Sem.run_bind, Sem.run_pure, Result.andThen_ok, run_loadVar_row w g t ty cs (0, 0) d hg hu hd hi]
  exact h
theorem into_store_row (ty : TypeId) (x y : Operand) (ho : o.op = .store ty x y) (g : Nat) (cells : Array Value) (hx : a.eval x = .pointer (some ⟨g, 0, none⟩)) (hy : a.eval y = .agg cells)
    (t : TypeId) (old : Array Value) (hg : Blk w g t old) (hi : (P.info? ty).map (·.size) = some cells.size) (hold : old.size = cells.size) (h1 : cells.all (·.oneCell') = true)
    (h : R undef (w.setRow g cells)) : into P o a w R := by
  unfold into execOp
  simp only [ho, hx, hy, Instr.storeAt, Instr.sureAddr, Sem.run_bind, Sem.run_pure, Result.andThen_ok, run_storeVar_row w g t ty old cells hg hi hold h1]
  exact h
theorem into_call (f : FuncId) (xs : Array Operand) (ats : Array TypeId) (ho : o.op = .call { callee := .value (.func f), args := xs, argTypes := ats }) (hcf : ∀ args w, (callFunc f args).run P w = .ok (.enter f args) w) (args : Array Value) (hx : xs.map a.eval = args)
    (h : Calls P f args w (fun e w'' => ∃ v, e = .returned v ∧ R v w'')) : into P o a w R := by
  subst hx
  obtain ⟨dst, op, type, pos, after, guard⟩ := o
  obtain rfl := (ho : op = _)
  unfold into
  rw [execOp_call_go]
  have e : #[] ++ xs.map a.eval ++ #[] = xs.map a.eval := by simp
  rw [e, hcf]
  exact h
end
theorem Blk.setRow {w : World} {g : Nat} {t : TypeId} {old : Array Value} (h : Blk w g t old) (cs : Array Value) : Blk (w.setRow g cs) g t cs := setRow_heap w g old cs t _ h
theorem Blk.setRow_ne {w : World} {g k : Nat} {t : TypeId} {cur : Array Value} (h : Blk w k t cur) (hne : k ≠ g) (cs : Array Value) : Blk (w.setRow g cs) k t cur := (setRow_other w g k cs hne).trans h
end Go.Proofs.Ytoekmgpnmhknoaa
