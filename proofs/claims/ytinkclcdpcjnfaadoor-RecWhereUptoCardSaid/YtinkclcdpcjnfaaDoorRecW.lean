/- The plain law of Where: a byte of a share, in the bytes of a state. No conditions. -/
import Derived.Test.YtinkclcdpcjnfaaDoorLaw16r
namespace Go.Proofs.YtinkclcdpcjnfaaDoor
/-- The first object of a name. -/
def idx (id : List UInt8) : List ObjV → Nat
  | [] => 0
  | o :: r => if o.id = id then 0 else idx id r + 1
def whereV (id : List UInt8) (p : Int) : Int → List ObjV → Int × Bool
  | _, [] => (0, false)
  | q, o :: r => if o.id = id then (if p < 0 ∨ (o.share.length : Int) ≤ p then (0, false) else (q + (8 + o.id.length) + p, true)) else whereV id p (q + (10 + o.id.length + o.share.length + o.tag.length)) r
theorem idx_le (id : List UInt8) (l : List ObjV) : idx id l ≤ l.length := by
  induction l with
  | nil => exact Nat.le_refl _
  | cons o r ih => unfold idx; split <;> simp; omega
theorem idx_id (id : List UInt8) (l : List ObjV) (h : idx id l < l.length) : l[idx id l].id = id := by
  induction l with
  | nil => simp at h
  | cons o r ih =>
    by_cases ho : o.id = id
    · have e : idx id (o :: r) = 0 := by unfold idx; rw [if_pos ho]
      simp only [e, List.getElem_cons_zero]; exact ho
    · have e : idx id (o :: r) = idx id r + 1 := by conv => lhs; unfold idx; rw [if_neg ho]
      simp only [e] at h ⊢
      simp only [List.getElem_cons_succ]
      exact ih (by simpa using h)
theorem idx_not (id : List UInt8) (l : List ObjV) : ∀ (j : Nat) (hj : j < idx id l) (hl : j < l.length), l[j].id ≠ id := by
  induction l with
  | nil => intro j _ hl; simp at hl
  | cons o r ih =>
    intro j hj hl
    by_cases ho : o.id = id
    · have e : idx id (o :: r) = 0 := by unfold idx; rw [if_pos ho]
      omega
    · have e : idx id (o :: r) = idx id r + 1 := by conv => lhs; unfold idx; rw [if_neg ho]
      cases j with
      | zero => exact ho
      | succ j => simp only [List.getElem_cons_succ]; exact ih j (by omega) (by simpa using hl)
theorem whereV_eq (id : List UInt8) (p : Int) (l : List ObjV) : ∀ q, whereV id p q l = (match l[idx id l]? with | none => (0, false) | some o => if p < 0 ∨ (o.share.length : Int) ≤ p then (0, false) else (q + costO (l.take (idx id l)) + (8 + o.id.length) + p, true)) := by
  induction l with
  | nil => intro q; rfl
  | cons o r ih =>
    intro q
    by_cases ho : o.id = id
    · have e : idx id (o :: r) = 0 := by unfold idx; rw [if_pos ho]
      unfold whereV
      rw [if_pos ho, e]
      simp [costO]
    · have e : idx id (o :: r) = idx id r + 1 := by conv => lhs; unfold idx; rw [if_neg ho]
      unfold whereV
      rw [if_neg ho, ih, e, List.getElem?_cons_succ]
      cases h : r[idx id r]? with
      | none => rfl
      | some o' =>
        dsimp only
        split
        · rfl
        · simp only [List.take_succ_cons, costO, Prod.mk.injEq, and_true]
          omega
theorem objs_split (l : List ObjV) (k : Nat) (hk : k < l.length) : l.flatMap eO = (l.take k).flatMap eO ++ (eO l[k] ++ (l.drop (k + 1)).flatMap eO) := by
  conv => lhs; rw [← List.take_append_drop k l]
  rw [List.flatMap_append, List.drop_eq_getElem_cons hk, List.flatMap_cons]
theorem objs_set (l : List ObjV) (k : Nat) (hk : k < l.length) (o : ObjV) : (l.set k o).flatMap eO = (l.take k).flatMap eO ++ (eO o ++ (l.drop (k + 1)).flatMap eO) := by
  rw [List.set_eq_take_append_cons_drop, if_pos hk]
  simp
theorem set_mid (pre s post : List UInt8) (p : Nat) (v : UInt8) (hp : p < s.length) : (pre ++ (s ++ post)).set (pre.length + p) v = pre ++ (s.set p v ++ post) := by
  rw [List.set_append_right _ _ (by omega), Nat.add_sub_cancel_left, List.set_append_left _ _ hp]
theorem get_mid (pre s post : List UInt8) (p : Nat) (hp : p < s.length) : (pre ++ (s ++ post)).getD (pre.length + p) 0 = s.getD p 0 := by
  rw [List.getD_eq_getElem?_getD, List.getElem?_append_right (by omega), Nat.add_sub_cancel_left, List.getElem?_append_left hp, List.getD_eq_getElem?_getD]
def StateV.turn (x : StateV) (k p : Nat) (v : UInt8) (hk : k < x.objs.length) : StateV := { x with objs := x.objs.set k { x.objs[k] with share := x.objs[k].share.set p v } }
theorem enc_turn (x : StateV) (k p : Nat) (v : UInt8) (hk : k < x.objs.length) (hp : p < x.objs[k].share.length) :
    16 + costO (x.objs.take k) + (8 + x.objs[k].id.length) + p < x.enc.length ∧ x.enc.getD (16 + costO (x.objs.take k) + (8 + x.objs[k].id.length) + p) 0 = x.objs[k].share.getD p 0 ∧
      x.enc.set (16 + costO (x.objs.take k) + (8 + x.objs[k].id.length) + p) v = (x.turn k p v hk).enc := by
  obtain ⟨pre, hpre⟩ : ∃ pre, pre = [x.epoch, x.decided, x.dealt].flatMap eI ++ (eI x.objs.length ++ ((x.objs.take k).flatMap eO ++ (eB x.objs[k].id ++ (eI x.objs[k].size ++ b2 x.objs[k].share.length)))) := ⟨_, rfl⟩
  obtain ⟨post, hpost⟩ : ∃ post, post = eB x.objs[k].tag ++ ((x.objs.drop (k + 1)).flatMap eO ++ ([x.psession, x.pkind, x.pepoch].flatMap eI ++ (eI x.pobjs.length ++ x.pobjs.flatMap eO))) := ⟨_, rfl⟩
  have he : x.enc = pre ++ (x.objs[k].share ++ post) := by
    unfold StateV.enc
    rw [objs_split x.objs k hk, hpre, hpost]
    unfold eO eB
    simp only [List.append_assoc]
  have hb2 : (b2 x.objs[k].share.length).length = 2 := rfl
  have hl : pre.length = 16 + costO (x.objs.take k) + (8 + x.objs[k].id.length) := by
    rw [hpre]
    simp only [List.length_append, eI_lens, eI_len, eB_len, eO_lens, hb2, List.length_cons, List.length_nil]
    omega
  have he2 : (x.turn k p v hk).enc = pre ++ (x.objs[k].share.set p v ++ post) := by
    unfold StateV.enc StateV.turn
    dsimp only
    rw [objs_set x.objs k hk, hpre, hpost]
    unfold eO eB
    simp only [List.append_assoc, List.length_set]
  rw [← hl, he, he2]
  exact ⟨by simp only [List.length_append]; omega, get_mid _ _ _ _ hp, set_mid _ _ _ _ _ hp⟩
theorem turn_ok {x : StateV} (h : x.ok) (k p : Nat) (v : UInt8) (hk : k < x.objs.length) : (x.turn k p v hk).ok := by
  refine ⟨h.a, by unfold StateV.turn; simpa using h.ol, fun y hy => ?_, h.p, h.ql, h.q⟩
  unfold StateV.turn at hy
  rcases List.mem_or_eq_of_mem_set hy with hy | rfl
  · exact h.o y hy
  · obtain ⟨h1, h2, h3, h4⟩ := h.o _ (List.getElem_mem hk)
    exact ⟨h1, h2, by unfold okB at *; simpa using h3, h4⟩
theorem turn_cost (x : StateV) (k p : Nat) (v : UInt8) (hk : k < x.objs.length) (hp : p < x.objs[k].share.length) : (x.turn k p v hk).cost = x.cost := by
  rw [← encS_cost, ← encS_cost, ← (enc_turn x k p v hk hp).2.2, List.length_set]
theorem decS_turn {x : StateV} (h : (WS.state ⟨[], false⟩ x).bad = false) (k p : Nat) (v : UInt8) (hk : k < x.objs.length) (hp : p < x.objs[k].share.length) :
    decS ((WS.state ⟨[], false⟩ x).out.set (16 + costO (x.objs.take k) + (8 + x.objs[k].id.length) + p) v) = (x.turn k p v hk, true) := by
  obtain ⟨hok, he⟩ := state_enc h
  have hb := state_of_ok (turn_ok hok k p v hk)
  rw [he, (enc_turn x k p v hk hp).2.2, ← (state_enc hb).2]
  exact decS_enc hb
end Go.Proofs.YtinkclcdpcjnfaaDoor
