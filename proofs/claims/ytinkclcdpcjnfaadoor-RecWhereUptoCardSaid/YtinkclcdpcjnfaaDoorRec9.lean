/- The plain law of states and books: what is written is read again, and bytes are of one state, or book. No conditions. -/
import Derived.Test.YtinkclcdpcjnfaaDoorRec8
import Derived.Test.YtinkclcdpcjnfaaDoorLaw12w
namespace Go.Proofs.YtinkclcdpcjnfaaDoor
def eI (n : Int) : List UInt8 := b4 (n + 2).toNat
def eB (l : List UInt8) : List UInt8 := b2 l.length ++ l
def okI (n : Int) : Prop := -2 ≤ n ∧ n ≤ 2147483645
def okB (l : List UInt8) : Prop := l.length ≤ 65535
theorem eI_len (n : Int) : (eI n).length = 4 := rfl
theorem eB_len (l : List UInt8) : (eB l).length = 2 + l.length := by simp [eB, b2]; omega
theorem w_int {s : WS} {n : Int} (h : (s.int n).bad = false) : s.bad = false ∧ okI n ∧ (s.int n).out = s.out ++ eI n := by
  unfold WS.int at h ⊢
  unfold okI eI
  split at h
  · next h1 => rw [if_pos h1]; exact ⟨h, h1, rfl⟩
  · cases h
theorem w_bytes {s : WS} {l : List UInt8} (h : (s.bytes l).bad = false) : s.bad = false ∧ okB l ∧ (s.bytes l).out = s.out ++ eB l := by
  unfold WS.bytes at h ⊢
  unfold okB eB
  split at h
  · next h1 => rw [if_pos h1]; exact ⟨h, h1, rfl⟩
  · cases h
theorem w_ints {l : List Int} : ∀ {s : WS}, (s.ints l).bad = false → s.bad = false ∧ (∀ x ∈ l, okI x) ∧ (s.ints l).out = s.out ++ l.flatMap eI := by
  induction l with
  | nil => intro s h; exact ⟨h, by simp, by simp [WS.ints]⟩
  | cons x r ih =>
    intro s h
    obtain ⟨h1, h2, h3⟩ := ih (s := s.int x) h
    obtain ⟨h4, h5, h6⟩ := w_int h1
    refine ⟨h4, fun y hy => ?_, ?_⟩
    · rcases List.mem_cons.1 hy with rfl | hy
      · exact h5
      · exact h2 y hy
    · show ((s.int x).ints r).out = _
      rw [h3, h6, List.flatMap_cons, List.append_assoc]
def eH (h : HeadV) : List UInt8 := eB h.id ++ eI h.size
def okH (h : HeadV) : Prop := okB h.id ∧ okI h.size
theorem w_heads {l : List HeadV} : ∀ {s : WS}, (l.foldl WS.head s).bad = false → s.bad = false ∧ (∀ x ∈ l, okH x) ∧ (l.foldl WS.head s).out = s.out ++ l.flatMap eH := by
  induction l with
  | nil => intro s h; exact ⟨h, by simp, by simp⟩
  | cons x r ih =>
    intro s h
    rw [List.foldl_cons] at h ⊢
    obtain ⟨h1, h2, h3⟩ := ih h
    unfold WS.head at h1
    obtain ⟨h4, h5, h6⟩ := w_int h1
    obtain ⟨h7, h8, h9⟩ := w_bytes h4
    refine ⟨h7, fun y hy => ?_, ?_⟩
    · rcases List.mem_cons.1 hy with rfl | hy
      · exact ⟨h8, h5⟩
      · exact h2 y hy
    · rw [h3]
      unfold WS.head
      rw [h6, h9, List.flatMap_cons]
      unfold eH
      simp only [List.append_assoc]
/-! Reading. -/
theorem r_int (n : Int) (rest : List UInt8) (h : okI n) : (⟨eI n ++ rest, false⟩ : RS).int = (n, ⟨rest, false⟩) := int_enc (n, []) rest (by simp) (by unfold okP; rw [if_neg (by simp)]; exact h)
theorem r_bytes (l : List UInt8) (rest : List UInt8) (h : okB l) : (⟨eB l ++ rest, false⟩ : RS).bytes = (l, ⟨rest, false⟩) := by
  by_cases hl : 0 < l.length
  · have := bytes_enc (0, l) rest hl (by unfold okP; rw [if_pos hl]; exact h)
    unfold encP at this
    rw [if_pos hl] at this
    exact this
  · obtain rfl : l = [] := List.eq_nil_of_length_eq_zero (by omega)
    unfold RS.bytes eB b2
    simp
theorem r_ints (l : List Int) (rest : List UInt8) (h : ∀ x ∈ l, okI x) : ∀ k, k ≤ l.length → (⟨l.flatMap eI ++ rest, false⟩ : RS).ints k = (l.take k, ⟨(l.drop k).flatMap eI ++ rest, false⟩) := by
  intro k
  induction k with
  | zero => intro _; rw [RS.ints.eq_def]; simp
  | succ k ih =>
    intro hk
    have h1 := ih (by omega)
    have hlt : k < l.length := by omega
    rw [RS.ints.eq_def]
    dsimp only
    rw [h1]
    dsimp only
    rw [List.drop_eq_getElem_cons hlt, List.flatMap_cons, List.append_assoc, r_int _ _ (h _ (List.getElem_mem hlt)), List.take_succ_eq_append_getElem hlt]
theorem r_ints_all (l : List Int) (rest : List UInt8) (h : ∀ x ∈ l, okI x) : (⟨l.flatMap eI ++ rest, false⟩ : RS).ints l.length = (l, ⟨rest, false⟩) := by
  rw [r_ints l rest h _ (Nat.le_refl _), List.take_length, List.drop_length]
  rfl
theorem r_head (x : HeadV) (rest : List UInt8) (h : okH x) : (⟨eH x ++ rest, false⟩ : RS).head = (x, ⟨rest, false⟩) := by
  unfold RS.head eH
  rw [List.append_assoc, r_bytes _ _ h.1]
  dsimp only
  rw [r_int _ _ h.2]
theorem r_headsN (l : List HeadV) (rest : List UInt8) (h : ∀ x ∈ l, okH x) : ∀ k, k ≤ l.length → (⟨l.flatMap eH ++ rest, false⟩ : RS).headsN k = (l.take k, ⟨(l.drop k).flatMap eH ++ rest, false⟩) := by
  intro k
  induction k with
  | zero => intro _; rw [RS.headsN.eq_def]; simp
  | succ k ih =>
    intro hk
    have h1 := ih (by omega)
    have hlt : k < l.length := by omega
    rw [RS.headsN.eq_def]
    dsimp only
    rw [h1]
    dsimp only
    rw [List.drop_eq_getElem_cons hlt, List.flatMap_cons, List.append_assoc, r_head _ _ (h _ (List.getElem_mem hlt)), List.take_succ_eq_append_getElem hlt]
theorem flat_ge {α : Type} (f : α → List UInt8) (hf : ∀ x, 1 ≤ (f x).length) (l : List α) : l.length ≤ (l.flatMap f).length := by
  induction l with
  | nil => exact Nat.le_refl _
  | cons x r ih => rw [List.flatMap_cons, List.length_append, List.length_cons]; have := hf x; omega
def eO (o : ObjV) : List UInt8 := eB o.id ++ (eI o.size ++ (eB o.share ++ eB o.tag))
def okO (o : ObjV) : Prop := okB o.id ∧ okI o.size ∧ okB o.share ∧ okB o.tag
theorem w_objsF {l : List ObjV} : ∀ {s : WS}, (l.foldl WS.objT s).bad = false → s.bad = false ∧ (∀ x ∈ l, okO x) ∧ (l.foldl WS.objT s).out = s.out ++ l.flatMap eO := by
  induction l with
  | nil => intro s h; exact ⟨h, by simp, by simp⟩
  | cons x r ih =>
    intro s h
    rw [List.foldl_cons] at h ⊢
    obtain ⟨h1, h2, h3⟩ := ih h
    unfold WS.objT WS.obj at h1
    obtain ⟨g1, k1, e1⟩ := w_bytes h1
    obtain ⟨g2, k2, e2⟩ := w_bytes g1
    obtain ⟨g3, k3, e3⟩ := w_int g2
    obtain ⟨g4, k4, e4⟩ := w_bytes g3
    refine ⟨g4, fun y hy => ?_, ?_⟩
    · rcases List.mem_cons.1 hy with rfl | hy
      · exact ⟨k4, k3, k2, k1⟩
      · exact h2 y hy
    · rw [h3]
      unfold WS.objT WS.obj
      rw [e1, e2, e3, e4, List.flatMap_cons]
      unfold eO
      simp only [List.append_assoc]
theorem w_objs {l : List ObjV} {s : WS} (h : (s.objs l).bad = false) : s.bad = false ∧ okI l.length ∧ (∀ x ∈ l, okO x) ∧ (s.objs l).out = s.out ++ (eI l.length ++ l.flatMap eO) := by
  unfold WS.objs at h ⊢
  obtain ⟨h1, h2, h3⟩ := w_objsF h
  obtain ⟨h4, h5, h6⟩ := w_int h1
  exact ⟨h4, h5, h2, by rw [h3, h6, List.append_assoc]⟩
/-- A state's bytes. -/
def StateV.enc (x : StateV) : List UInt8 :=
  [x.epoch, x.decided, x.dealt].flatMap eI ++ ((eI x.objs.length ++ x.objs.flatMap eO) ++ ([x.psession, x.pkind, x.pepoch].flatMap eI ++ (eI x.pobjs.length ++ x.pobjs.flatMap eO)))
structure StateV.ok (x : StateV) : Prop where
  a : ∀ n ∈ [x.epoch, x.decided, x.dealt], okI n
  ol : okI x.objs.length
  o : ∀ y ∈ x.objs, okO y
  p : ∀ n ∈ [x.psession, x.pkind, x.pepoch], okI n
  ql : okI x.pobjs.length
  q : ∀ y ∈ x.pobjs, okO y
theorem state_enc {x : StateV} (h : (WS.state ⟨[], false⟩ x).bad = false) : x.ok ∧ (WS.state ⟨[], false⟩ x).out = x.enc := by
  unfold WS.state at h ⊢
  obtain ⟨h1, ql, q, e1⟩ := w_objs h
  obtain ⟨h2, p, e2⟩ := w_ints h1
  obtain ⟨h3, ol, o, e3⟩ := w_objs h2
  obtain ⟨_, a, e4⟩ := w_ints h3
  refine ⟨⟨a, ol, o, p, ql, q⟩, ?_⟩
  rw [e1, e2, e3, e4]
  unfold StateV.enc
  simp only [List.nil_append, List.append_assoc]
theorem w_int_of {s : WS} {n : Int} (hs : s.bad = false) (h : okI n) : (s.int n).bad = false ∧ (s.int n).out = s.out ++ eI n := by
  unfold WS.int eI
  rw [if_pos (show -2 ≤ n ∧ n ≤ 2147483645 from h)]
  exact ⟨hs, rfl⟩
theorem w_bytes_of {s : WS} {l : List UInt8} (hs : s.bad = false) (h : okB l) : (s.bytes l).bad = false ∧ (s.bytes l).out = s.out ++ eB l := by
  unfold WS.bytes eB
  rw [if_pos (show l.length ≤ 65535 from h)]
  exact ⟨hs, rfl⟩
theorem w_ints_of (l : List Int) : ∀ {s : WS}, s.bad = false → (∀ x ∈ l, okI x) → (s.ints l).bad = false ∧ (s.ints l).out = s.out ++ l.flatMap eI := by
  induction l with
  | nil => intro s hs _; exact ⟨hs, by simp [WS.ints]⟩
  | cons x r ih =>
    intro s hs h
    obtain ⟨h1, h2⟩ := w_int_of hs (h x List.mem_cons_self)
    obtain ⟨h3, h4⟩ := ih h1 (fun y hy => h y (List.mem_cons_of_mem _ hy))
    exact ⟨h3, by show ((s.int x).ints r).out = _; rw [h4, h2, List.flatMap_cons, List.append_assoc]⟩
theorem w_objsF_of (l : List ObjV) : ∀ {s : WS}, s.bad = false → (∀ x ∈ l, okO x) → (l.foldl WS.objT s).bad = false := by
  induction l with
  | nil => intro s hs _; exact hs
  | cons x r ih =>
    intro s hs h
    obtain ⟨k1, k2, k3, k4⟩ := h x List.mem_cons_self
    rw [List.foldl_cons]
    refine ih ?_ (fun y hy => h y (List.mem_cons_of_mem _ hy))
    unfold WS.objT WS.obj
    exact (w_bytes_of (w_bytes_of (w_int_of (w_bytes_of hs k1).1 k2).1 k3).1 k4).1
theorem w_objs_of {l : List ObjV} {s : WS} (hs : s.bad = false) (hl : okI l.length) (h : ∀ x ∈ l, okO x) : (s.objs l).bad = false := by
  unfold WS.objs
  exact w_objsF_of l (w_int_of hs hl).1 h
theorem state_of_ok {x : StateV} (h : x.ok) : (WS.state ⟨[], false⟩ x).bad = false := by
  unfold WS.state
  exact w_objs_of (w_ints_of _ (w_objs_of (w_ints_of _ rfl h.a).1 h.ol h.o) h.p).1 h.ql h.q
theorem r_count (n most : Nat) (rest : List UInt8) (h : okI n) (hm : n ≤ most) : (⟨eI n ++ rest, false⟩ : RS).count most = n := by
  unfold RS.count
  rw [r_int _ _ h]
  dsimp only
  rw [if_neg (by omega)]
  omega
theorem r_objT (o : ObjV) (rest : List UInt8) (h : okO o) : (⟨eO o ++ rest, false⟩ : RS).objT = (o, ⟨rest, false⟩) := by
  unfold RS.objT eO
  simp only [List.append_assoc]
  rw [r_bytes _ _ h.1]
  dsimp only
  rw [r_int _ _ h.2.1]
  dsimp only
  rw [r_bytes _ _ h.2.2.1]
  dsimp only
  rw [r_bytes _ _ h.2.2.2]
theorem r_objsN (l : List ObjV) (rest : List UInt8) (h : ∀ x ∈ l, okO x) : ∀ k, k ≤ l.length → (⟨l.flatMap eO ++ rest, false⟩ : RS).objsN k = (l.take k, ⟨(l.drop k).flatMap eO ++ rest, false⟩) := by
  intro k
  induction k with
  | zero => intro _; rw [objsN_zero]; simp
  | succ k ih =>
    intro hk
    have h1 := ih (by omega)
    have hlt : k < l.length := by omega
    rw [objsN_succ, h1]
    dsimp only
    rw [List.drop_eq_getElem_cons hlt, List.flatMap_cons, List.append_assoc, r_objT _ _ (h _ (List.getElem_mem hlt)), List.take_succ_eq_append_getElem hlt]
theorem r_objs (l : List ObjV) (rest : List UInt8) (most : Nat) (hl : okI l.length) (h : ∀ x ∈ l, okO x) (hm : l.length ≤ most) : (⟨(eI l.length ++ l.flatMap eO) ++ rest, false⟩ : RS).objs most = (l, ⟨rest, false⟩) := by
  unfold RS.objs
  rw [List.append_assoc, r_count _ _ _ hl hm, r_int _ _ hl]
  dsimp only
  rw [r_objsN l rest h _ (Nat.le_refl _), List.take_length, List.drop_length]
  rfl
theorem r_state (x : StateV) (rest : List UInt8) (most : Nat) (h : x.ok) (h1 : x.objs.length ≤ most) (h2 : x.pobjs.length ≤ most) : (⟨x.enc ++ rest, false⟩ : RS).state most = (x, ⟨rest, false⟩) := by
  have a0 := h.a x.epoch (by simp); have a1 := h.a x.decided (by simp); have a2 := h.a x.dealt (by simp)
  have p0 := h.p x.psession (by simp); have p1 := h.p x.pkind (by simp); have p2 := h.p x.pepoch (by simp)
  unfold RS.state StateV.enc
  simp only [List.flatMap_cons, List.flatMap_nil, List.append_nil]
  rw [List.append_assoc, List.append_assoc, r_int _ _ a0]
  dsimp only
  rw [List.append_assoc, r_int _ _ a1]
  dsimp only
  rw [r_int _ _ a2]
  dsimp only
  rw [List.append_assoc, r_objs _ _ most h.ol h.o h1]
  dsimp only
  rw [List.append_assoc, List.append_assoc, r_int _ _ p0]
  dsimp only
  rw [List.append_assoc, r_int _ _ p1]
  dsimp only
  rw [r_int _ _ p2]
  dsimp only
  rw [r_objs _ _ most h.ql h.q h2]
theorem eO_pos (o : ObjV) : 1 ≤ (eO o).length := by unfold eO; simp only [List.length_append, eI_len, eB_len]; omega
theorem state_lens (x : StateV) : x.objs.length ≤ x.enc.length ∧ x.pobjs.length ≤ x.enc.length ∧ 32 ≤ x.enc.length := by
  have h1 := flat_ge eO eO_pos x.objs
  have h2 := flat_ge eO eO_pos x.pobjs
  unfold StateV.enc
  simp only [List.length_append, eI_len, List.flatMap_cons, List.flatMap_nil, List.length_nil]
  omega
/-- What is written is read again. -/
theorem decS_enc {x : StateV} (h : (WS.state ⟨[], false⟩ x).bad = false) : decS (WS.state ⟨[], false⟩ x).out = (x, true) := by
  obtain ⟨hok, he⟩ := state_enc h
  obtain ⟨l1, l2, _⟩ := state_lens x
  have hr := r_state x [] x.enc.length hok l1 l2
  rw [List.append_nil] at hr
  unfold decS
  dsimp only
  rw [he, hr, if_pos ⟨⟨rfl, rfl⟩, h, he⟩]
theorem decS_ok {b : List UInt8} (h : (decS b).2 = true) : (WS.state ⟨[], false⟩ (decS b).1).bad = false ∧ (WS.state ⟨[], false⟩ (decS b).1).out = b := by
  unfold decS at h ⊢
  dsimp only at h ⊢
  split at h
  · next h1 => rw [if_pos h1]; exact h1.2
  · cases h
theorem decS_no {b : List UInt8} (h : (decS b).2 = false) : (decS b).1 = StateV.zero := by
  unfold decS at h ⊢
  dsimp only at h ⊢
  split at h
  · cases h
  · next h1 => rw [if_neg h1]
theorem encS_inj {x y : StateV} (h : (WS.state ⟨[], false⟩ x).bad = false) (h' : (WS.state ⟨[], false⟩ y).bad = false) (e : (WS.state ⟨[], false⟩ x).out = (WS.state ⟨[], false⟩ y).out) : x = y := by
  have h1 := decS_enc h
  rw [e, decS_enc h'] at h1
  exact (Prod.mk.inj h1).1.symm
/-- A book's bytes. -/
def BookV.enc (k : BookV) : List UInt8 :=
  [k.session, k.decided, k.epoch, (k.dir.length : Int)].flatMap eI ++ (k.dir.flatMap eH ++ (eI k.up.length ++ ((k.up.map flagI).flatMap eI ++ (eI k.commit.length ++ k.commit.flatMap eI))))
structure BookV.ok (k : BookV) : Prop where
  a : ∀ n ∈ [k.session, k.decided, k.epoch, (k.dir.length : Int)], okI n
  d : ∀ y ∈ k.dir, okH y
  ul : okI k.up.length
  cl : okI k.commit.length
  c : ∀ y ∈ k.commit, okI y
theorem book_enc {k : BookV} (h : (WS.book ⟨[], false⟩ k).bad = false) : k.ok ∧ (WS.book ⟨[], false⟩ k).out = k.enc := by
  unfold WS.book at h ⊢
  obtain ⟨h1, c, e1⟩ := w_ints h
  obtain ⟨h2, cl, e2⟩ := w_int h1
  obtain ⟨h3, _, e3⟩ := w_ints h2
  obtain ⟨h4, ul, e4⟩ := w_int h3
  obtain ⟨h5, d, e5⟩ := w_heads h4
  obtain ⟨_, a, e6⟩ := w_ints h5
  refine ⟨⟨a, d, ul, cl, c⟩, ?_⟩
  rw [e1, e2, e3, e4, e5, e6]
  unfold BookV.enc
  simp only [List.nil_append, List.append_assoc]
theorem okI_flag (b : Bool) : okI (flagI b) := by cases b <;> (unfold okI flagI; decide)
theorem r_book (k : BookV) (rest : List UInt8) (most : Nat) (h : k.ok) (h1 : k.dir.length ≤ most) (h2 : k.up.length ≤ most) (h3 : k.commit.length ≤ most) : (⟨k.enc ++ rest, false⟩ : RS).book most = (k, ⟨rest, false⟩) := by
  have a0 := h.a k.session (by simp); have a1 := h.a k.decided (by simp); have a2 := h.a k.epoch (by simp); have a3 := h.a k.dir.length (by simp)
  have hf : ∀ x ∈ k.up.map flagI, okI x := fun x hx => by obtain ⟨b, _, rfl⟩ := List.mem_map.1 hx; exact okI_flag b
  have hup : (k.up.map flagI).map (fun z => z == 1) = k.up := by
    rw [List.map_map]
    conv => rhs; rw [← List.map_id k.up]
    refine List.map_congr_left (fun b _ => ?_)
    cases b <;> rfl
  unfold RS.book BookV.enc
  simp only [List.flatMap_cons, List.flatMap_nil, List.append_nil, List.append_assoc]
  rw [r_int _ _ a0]
  dsimp only
  rw [r_int _ _ a1]
  dsimp only
  rw [r_int _ _ a2]
  dsimp only
  rw [r_count _ _ _ a3 h1, r_int _ _ a3]
  dsimp only
  rw [r_headsN k.dir _ h.d _ (Nat.le_refl _), List.take_length, List.drop_length]
  simp only [List.flatMap_nil, List.nil_append]
  rw [r_count _ _ _ h.ul h2, r_int _ _ h.ul]
  dsimp only
  rw [show k.up.length = (k.up.map flagI).length by simp, r_ints_all _ _ hf]
  dsimp only
  rw [r_count _ _ _ h.cl h3, r_int _ _ h.cl]
  dsimp only
  rw [r_ints_all _ _ h.c]
  dsimp only
  rw [hup]
theorem book_lens (k : BookV) : k.dir.length ≤ k.enc.length ∧ k.up.length ≤ k.enc.length ∧ k.commit.length ≤ k.enc.length ∧ 24 ≤ k.enc.length := by
  have h1 := flat_ge eH (fun x => by unfold eH; rw [List.length_append, eI_len]; omega) k.dir
  have h2 := flat_ge eI (fun x => by rw [eI_len]; omega) (k.up.map flagI)
  have h3 := flat_ge eI (fun x => by rw [eI_len]; omega) k.commit
  rw [List.length_map] at h2
  unfold BookV.enc
  simp only [List.length_append, eI_len, List.flatMap_cons, List.flatMap_nil, List.length_nil]
  omega
theorem decB_enc {k : BookV} (h : (WS.book ⟨[], false⟩ k).bad = false) : decB (WS.book ⟨[], false⟩ k).out = (k, true) := by
  obtain ⟨hok, he⟩ := book_enc h
  obtain ⟨l1, l2, l3, _⟩ := book_lens k
  have hr := r_book k [] k.enc.length hok l1 l2 l3
  rw [List.append_nil] at hr
  unfold decB
  dsimp only
  rw [he, hr, if_pos ⟨⟨rfl, rfl⟩, h, he⟩]
theorem decB_ok {b : List UInt8} (h : (decB b).2 = true) : (WS.book ⟨[], false⟩ (decB b).1).bad = false ∧ (WS.book ⟨[], false⟩ (decB b).1).out = b := by
  unfold decB at h ⊢
  dsimp only at h ⊢
  split at h
  · next h1 => rw [if_pos h1]; exact h1.2
  · cases h
theorem decB_no {b : List UInt8} (h : (decB b).2 = false) : (decB b).1 = BookV.zero := by
  unfold decB at h ⊢
  dsimp only at h ⊢
  split at h
  · cases h
  · next h1 => rw [if_neg h1]
end Go.Proofs.YtinkclcdpcjnfaaDoor
