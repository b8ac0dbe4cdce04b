/- What the laws of layer 19 share: Good walked; what a call leaves of a book's numbers. Conditions stand with each theorem. -/
import Derived.Test.YtlabebapjhhkaaaCloseK
namespace Go.Proofs.Ytlabebapjhhkaaa
open Go.RowKit Go.Shelf
section
variable {P : Program}
theorem run_loadVar_at (w : World) (p : Addr) (ty : TypeId) (cs : Array Value) (d : TypeDesc) (hc : ∀ j v, cs.toList[j]? = some v → w.cell? (p.add j) = some v)
    (hu : P.underlying ty = some d) (hd : (match d with | .struct _ | .array _ _ => true | _ => false) = true) (hi : (P.info? ty).map (·.size) = some cs.size) :
    (loadVar ty p).run P w = .ok (.agg cs) w := by
  have hl : (loadCells p cs.size).run P w = .ok cs w := run_loadCells_list (P := P) w p cs.toList hc
  cases hq : P.info? ty with
  | none => simp [hq] at hi
  | some i =>
    have hs : i.size = cs.size := by simpa [hq] using hi
    have hagg : (isAgg ty).run P w = .ok true w := by
      unfold isAgg
      rw [Sem.run_bind, run_underlying hu w]
      cases d <;> simp_all
    simp [loadVar, Sem.run_bind, hagg, sizeOf, typeInfo, hq, hs, hl]
theorem wp_load_at {op : Oper} {a : Act} {w : World} {K : Act → World → Prop} {Q : Exit → Act → World → Prop} (ty : TypeId) (x : Operand) (ho : op.op = .load ty x)
    (p : Addr) (hx : a.eval x = .pointer (some p)) (cs : Array Value) (d : TypeDesc) (hc : ∀ j v, cs.toList[j]? = some v → w.cell? (p.add j) = some v)
    (hu : P.underlying ty = some d) (hd : (match d with | .struct _ | .array _ _ => true | _ => false) = true) (hi : (P.info? ty).map (·.size) = some cs.size)
    (h : K (a.put op.dst (.agg cs)) w) : op.wp P a w K Q := by
  unfold Oper.wp execOp
  simp only [ho, hx, Instr.loadAt, Instr.sureAddr, Sem.run_bind, Sem.run_pure, Result.andThen_ok, run_loadVar_at w p ty cs d hc hu hd hi]
  exact h
theorem wpList_load_at {ops : Array Oper} {rest : List Oper} {op : Oper} {a : Act} {w : World} {Q : Exit → Act → World → Prop} (hgd : op.guard = none) (ty : TypeId) (x : Operand) (ho : op.op = .load ty x)
    (p : Addr) (hx : a.eval x = .pointer (some p)) (cs : Array Value) (d : TypeDesc) (hc : ∀ j v, cs.toList[j]? = some v → w.cell? (p.add j) = some v)
    (hu : P.underlying ty = some d) (hd : (match d with | .struct _ | .array _ _ => true | _ => false) = true) (hi : (P.info? ty).map (·.size) = some cs.size)
    (h : wpList P ops Q rest (a.put op.dst (.agg cs)) w) : wpList P ops Q (op :: rest) a w :=
  wpList_plain hgd fun _ hK => wp_load_at ty x ho p hx cs d hc hu hd hi (hK _ _ h)
theorem quiet_load_at {C : World → Prop} {o : Oper} {a : Act} {K : Act → Prop} (ty : TypeId) (x : Operand) (ho : o.op = .load ty x) (p : Addr) (hx : a.eval x = .pointer (some p)) (cs : Array Value) (d : TypeDesc) (hc : ∀ w, C w → ∀ j v, cs.toList[j]? = some v → w.cell? (p.add j) = some v)
    (hu : P.underlying ty = some d) (hd : (match d with | .struct _ | .array _ _ => true | _ => false) = true) (hi : (P.info? ty).map (·.size) = some cs.size)
    (h : K (a.put o.dst (.agg cs))) : o.quiet P a C K := by
  refine ⟨_, fun w hw => ?_, h⟩
  unfold Oper.quietAt execOp
  simp only [ho, hx, Instr.loadAt, Instr.sureAddr, Sem.run_bind, Sem.run_pure, Result.andThen_ok, run_loadVar_at w p ty cs d (hc w hw) hu hd hi, Oper.quietUpon, and_self]
end
/-! Strings in their order. -/
theorem less_iff : ∀ (a b : List UInt8), Op.bytesLess a b = decide (Lib.compareBytes a b < 0)
  | [], [] => by simp [Op.bytesLess, Lib.compareBytes]
  | [], _ :: _ => by simp [Op.bytesLess, Lib.compareBytes]
  | _ :: _, [] => by simp [Op.bytesLess, Lib.compareBytes]
  | x :: a, y :: b => by
    have ih := less_iff a b
    unfold Op.bytesLess Lib.compareBytes
    by_cases h1 : x < y
    · simp [h1]
    · by_cases h2 : y < x
      · have hne : ¬ x = y := fun e => by rw [e] at h2; exact UInt8.lt_irrefl _ h2
        simp [h1, h2, hne]
      · have e : x = y := UInt8.le_antisymm (UInt8.not_lt.1 h2) (UInt8.not_lt.1 h1)
        subst e
        simp [h1, ih]
theorem quiet_geq_str {P : Program} {C : World → Prop} {o : Oper} {a : Act} {K : Act → Prop} (t t' : TypeId) (x y : Operand) (ho : o.op = .binOp .geq t x y t') (s u : List UInt8) (hx : a.eval x = .string ⟨s.toArray⟩) (hy : a.eval y = .string ⟨u.toArray⟩) (hK : K (a.put o.dst (.bool (!decide (Lib.compareBytes s u < 0))))) : o.quiet P a C K := by
  refine ⟨_, fun w _ => ?_, hK⟩
  unfold Oper.quietAt execOp
  have h1 : (eqGuard .geq t x y (.string ⟨s.toArray⟩) (.string ⟨u.toArray⟩)) = pure () := rfl
  have h2 : (binOp .geq t (.string ⟨s.toArray⟩) (.string ⟨u.toArray⟩)) = pure (.bool (!decide (Lib.compareBytes s u < 0))) := by rw [binOp_string_geq, ByteArray.toList_mk, ByteArray.toList_mk, less_iff]
  simp only [ho, hx, hy, h1, h2, Sem.run_bind, Sem.run_pure, Result.andThen_ok, Oper.quietUpon, and_self]
def GoodPost (w : World) (n : Int) (e : Ending) (w' : World) : Prop := ∃ b, e = .returned (.bool b) ∧ (b = true → 0 ≤ n ∧ n ≤ 255) ∧ Below w.heap.size w w'
set_option maxRecDepth 100000 in
theorem Good_any (w : World) (p : PrmI) : Calls Try.prog 9 #[.agg p.arr] w (GoodPost w p.n) := by
  obtain ⟨n, t, k, e, r⟩ := p
  dsimp only [PrmI.arr]
  go_enter Try.func9, Try.ntmps9
  go_upto_region 1 with (fail)
  have hb := below1 w (.cells #[.int .i64 n, .int .i64 t, .int .i64 k, .int .i64 e, .int .i64 r] 23)
  have hB := Blk.new w 23 #[.int .i64 n, .int .i64 t, .int .i64 k, .int .i64 e, .int .i64 r]
  generalize w.alloc (.cells #[.int .i64 n, .int .i64 t, .int .i64 k, .int .i64 e, .int .i64 r] 23) = w1 at hb hB ⊢
  have k0 : w1.cell? ⟨w.heap.size, 0, none⟩ = some (.int .i64 n) := (hB.cell 0).trans rfl
  have k1 : w1.cell? ⟨w.heap.size, 1, none⟩ = some (.int .i64 t) := (hB.cell 1).trans rfl
  have k2 : w1.cell? ⟨w.heap.size, 2, none⟩ = some (.int .i64 k) := (hB.cell 2).trans rfl
  have k3 : w1.cell? ⟨w.heap.size, 3, none⟩ = some (.int .i64 e) := (hB.cell 3).trans rfl
  have HB := Lib.hid hb; have HBB := Lib.hid hB
  clear hb hB
  go_upto_region 2 with (fail)
  have hR : Blk (w1.alloc (.cells #[.int .i64 n, .int .i64 t, .int .i64 k, .int .i64 e] 3)) w1.heap.size 3 #[.int .i64 n, .int .i64 t, .int .i64 k, .int .i64 e] := Blk.new _ _ _
  have hb2 := HB.out.alloc HB.out.size (.cells #[.int .i64 n, .int .i64 t, .int .i64 k, .int .i64 e] 3)
  have hB2 := HBB.out.alloc (.cells #[.int .i64 n, .int .i64 t, .int .i64 k, .int .i64 e] 3)
  obtain ⟨g, hg⟩ : ∃ g, g = w1.heap.size := ⟨_, rfl⟩
  rw [← hg] at hR ⊢
  obtain ⟨b, hbe⟩ : ∃ b, b = w.heap.size := ⟨_, rfl⟩
  rw [← hbe] at hB2 ⊢
  generalize w1.alloc (.cells #[.int .i64 n, .int .i64 t, .int .i64 k, .int .i64 e] 3) = w2 at hR hb2 hB2 ⊢
  have HR := Lib.hid hR; have HB2 := Lib.hid hb2; have HBB2 := Lib.hid hB2
  clear hR hb2 hB2 k0 k1 k2 k3 hg hbe HB HBB
  go_loopw [4, 15, 16, 17, 18, 19, 20, 21, 22, 23, 24, 25] (fun _ q _ _ _ _ _ _ _ _ _ _ wr => ∃ j : Nat, j ≤ 4 ∧ q = .int .i64 (j : Int) ∧ wr = w2 ∧ ∀ i, i < j → 0 ≤ [n, t, k, e].getD i 0 ∧ [n, t, k, e].getD i 0 ≤ 255) (fun _ q _ _ _ _ _ _ _ _ _ _ _ => 4 - (intOf q).toNat)
  case atStart => exact ⟨0, by omega, rfl, by trivial, fun i h => by omega⟩
  case round =>
    obtain ⟨j, hj, rfl, rfl, hall⟩ := hrel
    have HALL := Lib.hid hall
    clear hall
    by_cases hj4 : j < 4
    · have hj4' : (j : Int) < 4 := by omega
      have hcz : wr.cell? ⟨g, j, none⟩ = some (.int .i64 ([n, t, k, e].getD j 0)) := by
        rw [HR.out.cell]
        match j, hj4 with
        | 0, _ => rfl
        | 1, _ => rfl
        | 2, _ => rfl
        | 3, _ => rfl
      obtain ⟨z, hz⟩ : ∃ z, z = [n, t, k, e].getD j 0 := ⟨_, rfl⟩
      rw [← hz] at hcz
      have HZ := Lib.hid hz
      clear hz
      by_cases q1 : z < 0
      · go_wp2
        go_ret
        exact ⟨false, rfl, fun e => (by cases e), HB2.out⟩
      by_cases q2 : 255 < z
      · go_wp2
        go_ret
        exact ⟨false, rfl, fun e => (by cases e), HB2.out⟩
      go_wp2_with fail
      go_roundw
      case rel =>
        refine ⟨j + 1, by omega, by go_num, by trivial, fun i hi => ?_⟩
        rcases Nat.lt_or_ge i j with e1 | e1
        · exact HALL.out i e1
        · obtain rfl : i = j := by omega
          rw [← HZ.out]
          omega
      case measure => simp [intOf]; omega
    · obtain rfl : j = 4 := by omega
      have hn := HALL.out 0 (by omega)
      have ht := HALL.out 1 (by omega)
      have hk := HALL.out 2 (by omega)
      have he := HALL.out 3 (by omega)
      simp only [List.getD_cons_zero, List.getD_cons_succ] at hn ht hk he
      have k0 : wr.cell? ⟨b, 0, none⟩ = some (.int .i64 n) := (HBB2.out.cell 0).trans rfl
      have k1 : wr.cell? ⟨b, 1, none⟩ = some (.int .i64 t) := (HBB2.out.cell 1).trans rfl
      have k2 : wr.cell? ⟨b, 2, none⟩ = some (.int .i64 k) := (HBB2.out.cell 2).trans rfl
      have k3 : wr.cell? ⟨b, 3, none⟩ = some (.int .i64 e) := (HBB2.out.cell 3).trans rfl
      have k4 : wr.cell? ⟨b, 4, none⟩ = some (.int .i64 r) := (HBB2.out.cell 4).trans rfl
      have HN := Lib.hid hn
      have hn0 := hn.1; have hn1 := hn.2; have ht0 := ht.1; have ht1 := ht.2; have hk0 := hk.1; have hk1 := hk.2; have he0 := he.1; have he1 := he.2
      clear hn ht hk he
      by_cases p1 : t ≥ 1
      case neg =>
        go_wp2
        go_ret
        exact ⟨false, rfl, fun e => (by cases e), HB2.out⟩
      by_cases p2 : k ≥ 1
      case neg =>
        go_wp2
        go_ret
        exact ⟨false, rfl, fun e => (by cases e), HB2.out⟩
      by_cases p3 : r ≥ 1
      case neg =>
        go_wp2
        go_ret
        exact ⟨false, rfl, fun e => (by cases e), HB2.out⟩
      by_cases p4 : r ≤ 512
      case neg =>
        go_wp2
        go_ret
        exact ⟨false, rfl, fun e => (by cases e), HB2.out⟩
      by_cases p5 : n ≥ t + k + 2 * e
      case neg =>
        go_wp2
        go_ret
        exact ⟨false, rfl, fun e => (by cases e), HB2.out⟩
      by_cases p6 : n + k ≤ 255
      case neg =>
        go_wp2
        go_ret
        exact ⟨false, rfl, fun e => (by cases e), HB2.out⟩
      go_wp2
      go_ret
      exact ⟨true, rfl, fun _ => HN.out, HB2.out⟩
/-! What a call leaves of a book's numbers. -/
theorem keep_cases (m : BM) (x : BookV) : (m.keep x).2.v = x ∨ (m.keep x).2.v = m.v := by
  unfold BM.keep
  dsimp only
  split
  · exact Or.inl rfl
  · exact Or.inr rfl
/-- When a keep answers OK, the other one is kept. -/
theorem keep_zero (m : BM) (x : BookV) (h : (m.keep x).1 = 0) : (m.keep x).2.v = x := by
  unfold BM.keep at h ⊢
  dsimp only at h ⊢
  have h1 := ite_zero h
  rw [if_pos (run_pre_ok (by omega) h1)]
theorem change_cases (m : BM) (how : BookV → Int × BookV) : ((how m.v).1 = 0 ∧ (m.change how).2.v = (how m.v).2) ∨ (m.change how).2.v = m.v := by
  unfold BM.change
  split
  · exact Or.inr rfl
  · split
    · exact Or.inr rfl
    · next h0 =>
      have h0 : (how m.v).1 = 0 := Classical.byContradiction fun e => h0 e
      rcases keep_cases m (how m.v).2 with e | e
      · exact Or.inl ⟨h0, e⟩
      · exact Or.inr e
theorem change_zero (m : BM) (how : BookV → Int × BookV) (h : (m.change how).1 = 0) : (how m.v).1 = 0 ∧ (m.change how).2.v = (how m.v).2 := by
  unfold BM.change at h ⊢
  by_cases hd : m.down = true
  · rw [if_pos hd] at h; cases h
  · rw [if_neg hd] at h ⊢
    by_cases h0 : (how m.v).1 ≠ 0
    · rw [if_pos h0] at h; exact absurd h h0
    · rw [if_neg h0] at h ⊢
      exact ⟨Classical.byContradiction fun e => h0 e, keep_zero m _ h⟩
/-- A call leaves: so many writes more at most; no number falls. -/
structure Rose (m M : BM) : Prop where
  writes : M.pw.writes ≤ m.pw.writes + 2000
  session : m.v.session ≤ M.v.session
  decided : m.v.decided ≤ M.v.decided
  epoch : m.v.epoch ≤ M.v.epoch
theorem rose_change {m : BM} {N : Nat} (h : m.ok N) {how : BookV → Int × BookV} (hg : (how m.v).1 = 0 → GoodV N (how m.v).2) (hs : (how m.v).1 = 0 → m.v.session ≤ (how m.v).2.session ∧ m.v.decided ≤ (how m.v).2.decided ∧ m.v.epoch ≤ (how m.v).2.epoch) : Rose m (m.change how).2 := by
  have hw := BM.change_writes m N h how hg
  rcases change_cases m how with ⟨h0, e⟩ | e
  · obtain ⟨h1, h2, h3⟩ := hs h0
    exact ⟨hw, by rw [e]; exact h1, by rw [e]; exact h2, by rw [e]; exact h3⟩
  · exact ⟨hw, by rw [e]; exact Int.le_refl _, by rw [e]; exact Int.le_refl _, by rw [e]; exact Int.le_refl _⟩
theorem dor_rose {N : Nat} {o : OpV} {m M : BM} {r : Int × Int} (hm : m.ok N) (h : DoR N o m r M) : Rose m M := by
  have g := hm.kv.good
  have same : ∀ x : BM, x.v = m.v → x.pw.writes ≤ m.pw.writes + 2000 → Rose m x := fun x e hw => ⟨hw, by rw [e]; exact Int.le_refl _, by rw [e]; exact Int.le_refl _, by rw [e]; exact Int.le_refl _⟩
  unfold DoR at h
  by_cases e8 : o.k = 8
  · rw [if_pos e8] at h
    obtain ⟨_, _, _, h3, _, _, h6⟩ := h
    exact same M h3 (by omega)
  rw [if_neg e8] at h
  unfold BM.act at h
  by_cases e1 : o.k = 1
  · rw [if_pos e1] at h
    rw [(Prod.mk.inj h).2]
    refine rose_change hm (nextV_good g) (fun e => ?_)
    unfold nextV at e ⊢
    split at e
    · cases e
    · next h1 => rw [if_neg h1]; exact ⟨by show _ ≤ m.v.session + 1; omega, Int.le_refl _, Int.le_refl _⟩
  rw [if_neg e1] at h
  by_cases e2 : o.k = 2
  · rw [if_pos e2] at h
    rw [(Prod.mk.inj h).2]
    refine rose_change hm (putV_good g o.h o.parts) (fun e => ?_)
    unfold putV at e ⊢
    split at e
    · cases e
    · next q1 =>
      rw [if_neg q1]
      split at e
      · cases e
      · next q2 =>
        rw [if_neg q2]
        split at e
        · cases e
        · next q3 =>
          rw [if_neg q3]
          split at e
          · cases e
          · next q4 =>
            rw [if_neg q4]
            exact ⟨Int.le_refl _, g.d1, Int.le_refl _⟩
  rw [if_neg e2] at h
  by_cases e3 : o.k = 3
  · rw [if_pos e3] at h
    rw [(Prod.mk.inj h).2]
    refine rose_change hm (deleteV_good g o.h.id) (fun e => ?_)
    unfold deleteV at e ⊢
    split at e
    · cases e
    · next q1 =>
      rw [if_neg q1]
      split at e
      · cases e
      · next q2 =>
        rw [if_neg q2]
        have := g.d1
        exact ⟨by show _ ≤ m.v.session + 1; omega, by show _ ≤ m.v.session + 1; omega, Int.le_refl _⟩
  rw [if_neg e3] at h
  by_cases e4 : o.k = 4
  · rw [if_pos e4] at h
    rw [(Prod.mk.inj h).2]
    refine rose_change hm (refreshV_good g o.parts) (fun e => ?_)
    unfold refreshV at e ⊢
    split at e
    · cases e
    · next q1 => rw [if_neg q1]; exact ⟨Int.le_refl _, g.d1, by show _ ≤ m.v.epoch + 1; omega⟩
  rw [if_neg e4] at h
  by_cases e5 : o.k = 5
  · rw [if_pos e5] at h
    rw [(Prod.mk.inj h).2]
    refine rose_change hm (recoverV_good g o.n) (fun e => ?_)
    unfold recoverV at e ⊢
    split at e
    · next q1 => rw [if_pos q1]; exact ⟨Int.le_refl _, g.d1, Int.le_refl _⟩
    · cases e
  rw [if_neg e5] at h
  by_cases e6 : o.k = 6
  · rw [if_pos e6] at h
    rw [(Prod.mk.inj h).2]
    exact rose_change hm (markV_good g o.parts) (fun _ => ⟨Int.le_refl _, Int.le_refl _, Int.le_refl _⟩)
  rw [if_neg e6] at h
  by_cases e7 : o.k = 7
  · rw [if_pos e7] at h
    rw [(Prod.mk.inj h).2]
    exact same _ rfl (Nat.le_add_right _ _)
  rw [if_neg e7] at h
  by_cases e9 : o.k = 9
  · rw [if_pos e9] at h
    rw [(Prod.mk.inj h).2]
    exact same _ rfl (Nat.le_add_right _ _)
  · rw [if_neg e9] at h
    rw [(Prod.mk.inj h).2]
    exact same _ rfl (Nat.le_add_right _ _)
/-- A Begin that answers OK: the number is new. -/
theorem dor_begin {N : Nat} {o : OpV} {m M : BM} {r : Int × Int} (h : DoR N o m r M) (h1 : o.k = 1) (h0 : r.2 = 0) : r.1 = m.v.session + 1 ∧ M.v.session = m.v.session + 1 := by
  unfold DoR at h
  rw [if_neg (by omega)] at h
  unfold BM.act at h
  rw [if_pos h1] at h
  obtain ⟨e1, e2⟩ := Prod.mk.inj h
  rw [e1] at h0 ⊢
  simp only at h0 ⊢
  rw [if_pos h0, e2]
  obtain ⟨z1, z2⟩ := change_zero m nextV h0
  refine ⟨rfl, ?_⟩
  rw [z2]
  unfold nextV at z1 ⊢
  split at z1
  · cases z1
  · next q1 => rw [if_neg q1]
/-- A book, behind so many calls. -/
theorem kb_next {w wr w' : World} {B K : Nat} {p : PrmV} {M : BM} (hb : Below B w wr) (h : KbIs w' (Grown (fun k => B ≤ k) wr) K p M) (hk : Keeps (fun k => B ≤ k) wr w') (hB : B ≤ wr.heap.size) : KbIs w' (fun k => B ≤ k) K p M ∧ Below B w w' :=
  ⟨h.weaken (fun k e => by rcases e with e | e; exact e; omega), hb.trans (hk.below (fun _ e => e) hB)⟩
end Go.Proofs.Ytlabebapjhhkaaa
