/- The plain law of messages: what is written is read again, and bytes are of one message. No conditions. -/
import Derived.Test.YtoekmgpnmhknoaaWire5
import Derived.Test.YtoekmgpnmhknoaaLaw12w
namespace Go.Proofs.Ytoekmgpnmhknoaa
def eI (n : Int) : List UInt8 := b4 (n + 2).toNat
def eB (l : List UInt8) : List UInt8 := b2 l.length ++ l
def okI (n : Int) : Prop := -2 ≤ n ∧ n ≤ 2147483645
def okB (l : List UInt8) : Prop := l.length ≤ 65535
theorem eI_len (n : Int) : (eI n).length = 4 := rfl
theorem eB_len (l : List UInt8) : (eB l).length = 2 + l.length := by simp [eB, b2]; omega
theorem w_int {s : WS} {n : Int} (h : (s.int n).bad = false) : s.bad = false ∧ okI n ∧ (s.int n).out = s.out ++ eI n := by
  unfold WS.int at h ⊢
  unfold okI eI
  split at h
  · next h1 => rw [if_pos h1]; exact ⟨h, h1, rfl⟩
  · cases h
theorem w_bytes {s : WS} {l : List UInt8} (h : (s.bytes l).bad = false) : s.bad = false ∧ okB l ∧ (s.bytes l).out = s.out ++ eB l := by
  unfold WS.bytes at h ⊢
  unfold okB eB
  split at h
  · next h1 => rw [if_pos h1]; exact ⟨h, h1, rfl⟩
  · cases h
theorem w_ints {l : List Int} : ∀ {s : WS}, (s.ints l).bad = false → s.bad = false ∧ (∀ x ∈ l, okI x) ∧ (s.ints l).out = s.out ++ l.flatMap eI := by
  induction l with
  | nil => intro s h; exact ⟨h, by simp, by simp [WS.ints]⟩
  | cons x r ih =>
    intro s h
    obtain ⟨h1, h2, h3⟩ := ih (s := s.int x) h
    obtain ⟨h4, h5, h6⟩ := w_int h1
    refine ⟨h4, fun y hy => ?_, ?_⟩
    · rcases List.mem_cons.1 hy with rfl | hy
      · exact h5
      · exact h2 y hy
    · show ((s.int x).ints r).out = _
      rw [h3, h6, List.flatMap_cons, List.append_assoc]
def eH (h : HeadV) : List UInt8 := eB h.id ++ eI h.size
def okH (h : HeadV) : Prop := okB h.id ∧ okI h.size
theorem w_heads {l : List HeadV} : ∀ {s : WS}, (l.foldl WS.head s).bad = false → s.bad = false ∧ (∀ x ∈ l, okH x) ∧ (l.foldl WS.head s).out = s.out ++ l.flatMap eH := by
  induction l with
  | nil => intro s h; exact ⟨h, by simp, by simp⟩
  | cons x r ih =>
    intro s h
    rw [List.foldl_cons] at h ⊢
    obtain ⟨h1, h2, h3⟩ := ih h
    unfold WS.head at h1
    obtain ⟨h4, h5, h6⟩ := w_int h1
    obtain ⟨h7, h8, h9⟩ := w_bytes h4
    refine ⟨h7, fun y hy => ?_, ?_⟩
    · rcases List.mem_cons.1 hy with rfl | hy
      · exact ⟨h8, h5⟩
      · exact h2 y hy
    · rw [h3]
      unfold WS.head
      rw [h6, h9, List.flatMap_cons]
      unfold eH
      simp only [List.append_assoc]
/-- A message's bytes. -/
def MsgV.enc (m : MsgV) : List UInt8 :=
  [m.kind, m.from_, m.to_, m.session, m.decided, m.commit, m.epoch].flatMap eI ++ (eI m.heads.length ++ (m.heads.flatMap eH ++ (eB m.id ++ ([m.size, m.sort, m.target].flatMap eI ++ (eI m.dealers.length ++ (m.dealers.flatMap eI ++ (eI m.parts.length ++ (m.parts.flatMap eI ++ (eI m.code ++ eB m.data)))))))))
structure MsgV.ok (m : MsgV) : Prop where
  a : ∀ x ∈ [m.kind, m.from_, m.to_, m.session, m.decided, m.commit, m.epoch], okI x
  hl : okI m.heads.length
  h : ∀ x ∈ m.heads, okH x
  i : okB m.id
  b : ∀ x ∈ [m.size, m.sort, m.target], okI x
  dl : okI m.dealers.length
  d : ∀ x ∈ m.dealers, okI x
  pl : okI m.parts.length
  p : ∀ x ∈ m.parts, okI x
  c : okI m.code
  x : okB m.data
theorem msg_enc {m : MsgV} (h : (WS.msg ⟨[], false⟩ m).bad = false) : m.ok ∧ (WS.msg ⟨[], false⟩ m).out = m.enc := by
  unfold WS.msg WS.list WS.heads at h ⊢
  obtain ⟨h1, x, e1⟩ := w_bytes h
  obtain ⟨h2, c, e2⟩ := w_int h1
  obtain ⟨h3, p, e3⟩ := w_ints h2
  obtain ⟨h4, pl, e4⟩ := w_int h3
  obtain ⟨h5, d, e5⟩ := w_ints h4
  obtain ⟨h6, dl, e6⟩ := w_int h5
  obtain ⟨h7, b, e7⟩ := w_ints h6
  obtain ⟨h8, i, e8⟩ := w_bytes h7
  obtain ⟨h9, hh, e9⟩ := w_heads h8
  obtain ⟨h10, hl, e10⟩ := w_int h9
  obtain ⟨_, a, e11⟩ := w_ints h10
  refine ⟨⟨a, hl, hh, i, b, dl, d, pl, p, c, x⟩, ?_⟩
  rw [e1]
  unfold MsgV.enc
  rw [e2, e3, e4, e5, e6, e7, e8, e9, e10, e11]
  simp only [List.nil_append, List.append_assoc]
/-! Reading. -/
theorem r_int (n : Int) (rest : List UInt8) (h : okI n) : (⟨eI n ++ rest, false⟩ : RS).int = (n, ⟨rest, false⟩) := int_enc (n, []) rest (by simp) (by unfold okP; rw [if_neg (by simp)]; exact h)
theorem r_bytes (l : List UInt8) (rest : List UInt8) (h : okB l) : (⟨eB l ++ rest, false⟩ : RS).bytes = (l, ⟨rest, false⟩) := by
  by_cases hl : 0 < l.length
  · have := bytes_enc (0, l) rest hl (by unfold okP; rw [if_pos hl]; exact h)
    unfold encP at this
    rw [if_pos hl] at this
    exact this
  · obtain rfl : l = [] := List.eq_nil_of_length_eq_zero (by omega)
    unfold RS.bytes eB b2
    simp
theorem r_ints (l : List Int) (rest : List UInt8) (h : ∀ x ∈ l, okI x) : ∀ k, k ≤ l.length → (⟨l.flatMap eI ++ rest, false⟩ : RS).ints k = (l.take k, ⟨(l.drop k).flatMap eI ++ rest, false⟩) := by
  intro k
  induction k with
  | zero => intro _; rw [RS.ints.eq_def]; simp
  | succ k ih =>
    intro hk
    have h1 := ih (by omega)
    have hlt : k < l.length := by omega
    rw [RS.ints.eq_def]
    dsimp only
    rw [h1]
    dsimp only
    rw [List.drop_eq_getElem_cons hlt, List.flatMap_cons, List.append_assoc, r_int _ _ (h _ (List.getElem_mem hlt)), List.take_succ_eq_append_getElem hlt]
theorem r_ints_all (l : List Int) (rest : List UInt8) (h : ∀ x ∈ l, okI x) : (⟨l.flatMap eI ++ rest, false⟩ : RS).ints l.length = (l, ⟨rest, false⟩) := by
  rw [r_ints l rest h _ (Nat.le_refl _), List.take_length, List.drop_length]
  rfl
theorem r_list (l : List Int) (rest : List UInt8) (most : Nat) (hl : okI l.length) (h : ∀ x ∈ l, okI x) (hm : l.length ≤ most) : (⟨eI l.length ++ (l.flatMap eI ++ rest), false⟩ : RS).list most = (l, ⟨rest, false⟩) := by
  unfold RS.list
  rw [r_int _ _ hl]
  dsimp only
  rw [if_neg (by omega), show (max (l.length : Int) 0).toNat = l.length by omega, r_ints_all l rest h]
theorem r_head (x : HeadV) (rest : List UInt8) (h : okH x) : (⟨eH x ++ rest, false⟩ : RS).head = (x, ⟨rest, false⟩) := by
  unfold RS.head eH
  rw [List.append_assoc, r_bytes _ _ h.1]
  dsimp only
  rw [r_int _ _ h.2]
theorem r_headsN (l : List HeadV) (rest : List UInt8) (h : ∀ x ∈ l, okH x) : ∀ k, k ≤ l.length → (⟨l.flatMap eH ++ rest, false⟩ : RS).headsN k = (l.take k, ⟨(l.drop k).flatMap eH ++ rest, false⟩) := by
  intro k
  induction k with
  | zero => intro _; rw [RS.headsN.eq_def]; simp
  | succ k ih =>
    intro hk
    have h1 := ih (by omega)
    have hlt : k < l.length := by omega
    rw [RS.headsN.eq_def]
    dsimp only
    rw [h1]
    dsimp only
    rw [List.drop_eq_getElem_cons hlt, List.flatMap_cons, List.append_assoc, r_head _ _ (h _ (List.getElem_mem hlt)), List.take_succ_eq_append_getElem hlt]
theorem r_heads (l : List HeadV) (rest : List UInt8) (most : Nat) (hl : okI l.length) (h : ∀ x ∈ l, okH x) (hm : l.length ≤ most) : (⟨eI l.length ++ (l.flatMap eH ++ rest), false⟩ : RS).heads most = (l, ⟨rest, false⟩) := by
  unfold RS.heads
  rw [r_int _ _ hl]
  dsimp only
  rw [if_neg (by omega), show (max (l.length : Int) 0).toNat = l.length by omega, r_headsN l rest h _ (Nat.le_refl _), List.take_length, List.drop_length]
  rfl
theorem r_msg (m : MsgV) (rest : List UInt8) (most : Nat) (h : m.ok) (h1 : m.heads.length ≤ most) (h2 : m.dealers.length ≤ most) (h3 : m.parts.length ≤ most) : (⟨m.enc ++ rest, false⟩ : RS).msg most = (m, ⟨rest, false⟩) := by
  unfold RS.msg MsgV.enc
  simp only [List.append_assoc]
  rw [show (7 : Nat) = [m.kind, m.from_, m.to_, m.session, m.decided, m.commit, m.epoch].length from rfl, r_ints_all _ _ h.a]
  dsimp only
  rw [r_heads _ _ most h.hl h.h h1]
  dsimp only
  rw [r_bytes _ _ h.i]
  dsimp only
  rw [show (3 : Nat) = [m.size, m.sort, m.target].length from rfl, r_ints_all _ _ h.b]
  dsimp only
  rw [r_list _ _ most h.dl h.d h2]
  dsimp only
  rw [r_list _ _ most h.pl h.p h3]
  dsimp only
  rw [r_int _ _ h.c]
  dsimp only
  rw [r_bytes _ _ h.x]
  rfl
theorem flat_ge {α : Type} (f : α → List UInt8) (hf : ∀ x, 1 ≤ (f x).length) (l : List α) : l.length ≤ (l.flatMap f).length := by
  induction l with
  | nil => exact Nat.le_refl _
  | cons x r ih => rw [List.flatMap_cons, List.length_append, List.length_cons]; have := hf x; omega
theorem enc_lens (m : MsgV) : m.heads.length ≤ m.enc.length ∧ m.dealers.length ≤ m.enc.length ∧ m.parts.length ≤ m.enc.length ∧ 60 ≤ m.enc.length := by
  have h1 := flat_ge eH (fun x => by unfold eH; rw [List.length_append, eI_len]; omega) m.heads
  have h2 := flat_ge eI (fun x => by rw [eI_len]; omega) m.dealers
  have h3 := flat_ge eI (fun x => by rw [eI_len]; omega) m.parts
  unfold MsgV.enc
  simp only [List.length_append, eI_len, eB_len, List.flatMap_cons, List.flatMap_nil, List.length_nil]
  omega
/-- What is written is read again. -/
theorem decode_enc {m : MsgV} (h : (WS.msg ⟨[], false⟩ m).bad = false) : decode (WS.msg ⟨[], false⟩ m).out = (m, true) := by
  obtain ⟨hok, he⟩ := msg_enc h
  obtain ⟨l1, l2, l3, _⟩ := enc_lens m
  have hr := r_msg m [] m.enc.length hok l1 l2 l3
  rw [List.append_nil] at hr
  unfold decode
  dsimp only
  rw [he, hr, if_pos ⟨⟨rfl, rfl⟩, h, he⟩]
theorem decode_ok {b : List UInt8} (h : (decode b).2 = true) : (WS.msg ⟨[], false⟩ (decode b).1).bad = false ∧ (WS.msg ⟨[], false⟩ (decode b).1).out = b := by
  unfold decode at h ⊢
  dsimp only at h ⊢
  split at h
  · next h1 => rw [if_pos h1]; exact h1.2
  · cases h
theorem decode_no {b : List UInt8} (h : (decode b).2 = false) : (decode b).1 = MsgV.zero := by
  unfold decode at h ⊢
  dsimp only at h ⊢
  split at h
  · cases h
  · next h1 => rw [if_neg h1]
/-- Bytes of which one message's are a front are no other one's. -/
theorem enc_front {m m' : MsgV} {rest : List UInt8} (h : m.ok) (h' : m'.ok) (e : m.enc ++ rest = m'.enc) : m = m' ∧ rest = [] := by
  obtain ⟨l1, l2, l3, _⟩ := enc_lens m
  obtain ⟨k1, k2, k3, _⟩ := enc_lens m'
  have hl : m.enc.length ≤ m'.enc.length := by rw [← e]; simp
  have r1 := r_msg m rest m'.enc.length h (by omega) (by omega) (by omega)
  have r2 := r_msg m' [] m'.enc.length h' k1 k2 k3
  rw [e] at r1
  rw [List.append_nil, r1] at r2
  simp only [Prod.mk.injEq, RS.mk.injEq, and_true] at r2
  exact r2
theorem enc_inj {m m' : MsgV} (h : (WS.msg ⟨[], false⟩ m).bad = false) (h' : (WS.msg ⟨[], false⟩ m').bad = false) (e : (WS.msg ⟨[], false⟩ m).out = (WS.msg ⟨[], false⟩ m').out) : m = m' := by
  obtain ⟨o1, e1⟩ := msg_enc h
  obtain ⟨o2, e2⟩ := msg_enc h'
  exact (enc_front (rest := []) o1 o2 (by rw [List.append_nil, ← e1, ← e2, e])).1
theorem decode_short {m : MsgV} (h : (WS.msg ⟨[], false⟩ m).bad = false) (k : Nat) (hk : k < (WS.msg ⟨[], false⟩ m).out.length) : (decode ((WS.msg ⟨[], false⟩ m).out.take k)).2 = false := by
  cases hd : (decode ((WS.msg ⟨[], false⟩ m).out.take k)).2
  · rfl
  · obtain ⟨h1, h2⟩ := decode_ok hd
    obtain ⟨o1, e1⟩ := msg_enc h
    obtain ⟨o2, e2⟩ := msg_enc h1
    have := (enc_front (rest := (WS.msg ⟨[], false⟩ m).out.drop k) o2 o1 (by rw [← e2, h2, List.take_append_drop, e1])).2
    have hl : ((WS.msg ⟨[], false⟩ m).out.drop k).length = 0 := by rw [this]; rfl
    rw [List.length_drop] at hl
    omega
theorem decode_long {m : MsgV} (h : (WS.msg ⟨[], false⟩ m).bad = false) (x : UInt8) : (decode ((WS.msg ⟨[], false⟩ m).out ++ [x])).2 = false := by
  cases hd : (decode ((WS.msg ⟨[], false⟩ m).out ++ [x])).2
  · rfl
  · obtain ⟨h1, h2⟩ := decode_ok hd
    obtain ⟨o1, e1⟩ := msg_enc h
    obtain ⟨o2, e2⟩ := msg_enc h1
    have := (enc_front (rest := [x]) o1 o2 (by rw [← e1, ← e2, h2])).2
    cases this
end Go.Proofs.Ytoekmgpnmhknoaa
