/- A net beside rows of the law's own; the calls of layer 17's law NetPlays. No conditions. -/
import Derived.Test.YtoekmgpnmhknoaaLaw17r
import Derived.Test.YtoekmgpnmhknoaaLaw17f
namespace Go.Proofs.Ytoekmgpnmhknoaa
open Go.RowKit
/-- The net, apart from the blocks of X. -/
def NetX (w : World) (B D : Nat) (X : Nat → Prop) (its : List (List UInt8)) : Prop := ∃ F, NetIs w F D its ∧ (∀ k, F k → B ≤ k ∧ k < w.heap.size) ∧ ∀ k, X k → ¬ F k
/-- What a call of the net may touch. -/
abbrev Out (B : Nat) (X : Nat → Prop) (k : Nat) : Prop := B ≤ k ∧ ¬ X k
section
variable {w w' : World} {B D : Nat} {X Y : Nat → Prop} {its : List (List UInt8)}
theorem NetX.below (h : NetX w B D X its) (hb : Below w.heap.size w w') : NetX w' B D X its := by
  obtain ⟨F, h1, h2, h3⟩ := h
  exact ⟨F, h1.below hb, fun k e => ⟨(h2 k e).1, Nat.lt_of_lt_of_le (h2 k e).2 hb.size⟩, h3⟩
theorem NetX.more (h : NetX w B D X its) (hY : ∀ k, Y k → X k ∨ w.heap.size ≤ k) : NetX w B D Y its := by
  obtain ⟨F, h1, h2, h3⟩ := h
  refine ⟨F, h1, h2, fun k e e2 => ?_⟩
  rcases hY k e with e3 | e3
  · exact h3 k e3 e2
  · have := (h2 k e2).2; omega
theorem NetX.keeps (h : NetX w B D X its) (hk : Keeps X w w') : NetX w' B D X its := by
  obtain ⟨F, h1, h2, h3⟩ := h
  exact ⟨F, h1.keeps hk (fun k e e2 => h3 k e2 e), fun k e => ⟨(h2 k e).1, Nat.lt_of_lt_of_le (h2 k e).2 hk.size⟩, h3⟩
end
theorem Send_X (w : World) (B D : Nat) (X : Nat → Prop) (its : List (List UInt8)) (p : MsgP) (h : NetX w B D X its) (hX : ∀ k, X k → k < w.heap.size) (hB : B ≤ w.heap.size) (hr : p.Rd w w.heap.size) (hs : p.m.cost ≤ 67108864) (hn : its.length ≤ 4096) :
    Calls Try.prog 10 #[.pointer (some ⟨D, 0, none⟩), .agg p.arr] w fun e w' => e = .returned (.int .i64 (sendE its (WS.msg ⟨[], false⟩ p.m))) ∧ NetX w' B D X (sendN its (WS.msg ⟨[], false⟩ p.m)) ∧ Keeps (Out B X) w w' := by
  obtain ⟨F, h1, h2, h3⟩ := h
  refine (Send_any w F D its p.m p.Ah p.Ad p.Ap p.Ax p.ch p.cd p.cp p.cx h1 hr (by omega) hn).mono fun e w' ⟨g1, g2, g3⟩ => ⟨g1, ⟨_, g2.tight, fun k e => ⟨?_, e.2⟩, fun k e e2 => ?_⟩, g3.weaken fun k _ e => ⟨(h2 k e).1, fun e2 => h3 k e2 e⟩⟩
  · rcases e.1 with e1 | e1
    · exact (h2 k e1).1
    · omega
  · rcases e2.1 with e1 | e1
    · exact h3 k e e1
    · have := hX k e; omega
theorem Twice_X (w : World) (B D : Nat) (X : Nat → Prop) (its : List (List UInt8)) (k : Int) (h : NetX w B D X its) (hX : ∀ k, X k → k < w.heap.size) (hB : B ≤ w.heap.size) (hl : ∀ b ∈ its, b.length ≤ 67108864) (hn : its.length ≤ 4096) :
    Calls Try.prog 13 #[.pointer (some ⟨D, 0, none⟩), .int .i64 k] w fun e w' => e = .returned (.bool (twiceB its k)) ∧ NetX w' B D X (twiceN its k) ∧ Keeps (Out B X) w w' := by
  obtain ⟨F, h1, h2, h3⟩ := h
  refine (Twice_any w F D its k h1 hl hn).mono fun e w' ⟨g1, g2, g3⟩ => ⟨g1, ⟨_, g2.tight, fun k e => ⟨?_, e.2⟩, fun k e e2 => ?_⟩, g3.weaken fun k _ e => ⟨(h2 k e).1, fun e2 => h3 k e2 e⟩⟩
  · rcases e.1 with e1 | e1
    · exact (h2 k e1).1
    · omega
  · rcases e2.1 with e1 | e1
    · exact h3 k e e1
    · have := hX k e; omega
theorem Take_X (w : World) (B D : Nat) (X : Nat → Prop) (its : List (List UInt8)) (k : Int) (h : NetX w B D X its) (hl : ∀ b ∈ its, b.length ≤ 67108864) (hn : its.length ≤ 4096) :
    Calls Try.prog 12 #[.pointer (some ⟨D, 0, none⟩), .int .i64 k] w fun e w' => (∃ (Ah Ad Ap Ax : Option Addr) (ch cd cp cx : Nat), e = .returned (.tuple #[.agg (msgCells (atN its k).1 Ah Ad Ap Ax ch cd cp cx), .bool (atN its k).2]) ∧ MsgRd w' w'.heap.size (atN its k).1 Ah Ad Ap Ax ∧ ∀ ad, (Ah = some ad ∨ Ad = some ad ∨ Ap = some ad ∨ Ax = some ad) → w.heap.size ≤ ad.block) ∧ NetX w' B D X (takeN its k) ∧ Keeps (Out B X) w w' := by
  obtain ⟨F, h1, h2, h3⟩ := h
  refine (Take_any w F D its k h1 (fun k e => (h2 k e).2) hl (by omega)).mono fun e w' ⟨Ah, Ad, Ap, Ax, ch, cd, cp, cx, g1, g2, gf, g3, g4⟩ => ⟨⟨Ah, Ad, Ap, Ax, ch, cd, cp, cx, g1, g2, gf⟩, ⟨F, g3, fun k e => ⟨(h2 k e).1, Nat.lt_of_lt_of_le (h2 k e).2 g4.size⟩, h3⟩, g4.weaken fun k _ e => ⟨(h2 k e).1, fun e2 => h3 k e2 e⟩⟩
theorem At_X (w : World) (B D : Nat) (X : Nat → Prop) (its : List (List UInt8)) (k : Int) (h : NetX w B D X its) (hl : ∀ b ∈ its, b.length ≤ 67108864) :
    Calls Try.prog 11 #[.pointer (some ⟨D, 0, none⟩), .int .i64 k] w fun e w' => (∃ (Ah Ad Ap Ax : Option Addr) (ch cd cp cx : Nat), e = .returned (.tuple #[.agg (msgCells (atN its k).1 Ah Ad Ap Ax ch cd cp cx), .bool (atN its k).2]) ∧ MsgRd w' w'.heap.size (atN its k).1 Ah Ad Ap Ax ∧ ∀ ad, (Ah = some ad ∨ Ad = some ad ∨ Ap = some ad ∨ Ax = some ad) → w.heap.size ≤ ad.block) ∧ NetX w' B D X its ∧ Keeps (Out B X) w w' := by
  obtain ⟨F, h1, h2, h3⟩ := id h
  exact (At_any w F D its k h1 hl).mono fun e w' ⟨Ah, Ad, Ap, Ax, ch, cd, cp, cx, g1, g2, gf, g4⟩ => ⟨⟨Ah, Ad, Ap, Ax, ch, cd, cp, cx, g1, g2, gf⟩, h.below g4, Keeps.of_below g4⟩
theorem Len_X (w : World) (B D : Nat) (X : Nat → Prop) (its : List (List UInt8)) (h : NetX w B D X its) :
    Calls Try.prog 15 #[.pointer (some ⟨D, 0, none⟩)] w fun e w' => e = .returned (.int .i64 (its.length : Int)) ∧ w' = w := by
  obtain ⟨F, h1, _⟩ := h
  exact Len_any w F D its h1
/-! The net's answers, of a list of good messages. -/
def Good (qs : List MsgP) : Prop := ∀ p ∈ qs, (WS.msg ⟨[], false⟩ p.m).bad = false
theorem at_in {qs : List MsgP} (hg : Good qs) {k : Nat} {p : MsgP} (hp : qs[k]? = some p) : atN (qs.map MsgP.out) (k : Int) = (p.m, true) := by
  have hk : k < qs.length := (List.getElem?_eq_some_iff.1 hp).1
  unfold atN
  rw [if_pos ⟨by omega, by rw [List.length_map]; omega⟩, Int.toNat_natCast, List.getD_eq_getElem?_getD, List.getElem?_map, hp]
  exact decode_enc (hg p (List.mem_of_getElem? hp))
theorem take_in {qs : List MsgP} (hg : Good qs) {k : Nat} {p : MsgP} (hp : qs[k]? = some p) : takeN (qs.map MsgP.out) (k : Int) = (qs.eraseIdx k).map MsgP.out := by
  unfold takeN
  rw [at_in hg hp, if_pos rfl, Int.toNat_natCast, map_erase]
theorem at_out {its : List (List UInt8)} {k : Int} (h : ¬ (0 ≤ k ∧ k < (its.length : Int))) : atN its k = (MsgV.zero, false) := by unfold atN; rw [if_neg h]
theorem take_out {its : List (List UInt8)} {k : Int} (h : ¬ (0 ≤ k ∧ k < (its.length : Int))) : takeN its k = its := by unfold takeN; rw [at_out h]; rfl
theorem twice_out {its : List (List UInt8)} {k : Int} (h : ¬ (0 ≤ k ∧ k < (its.length : Int))) : twiceB its k = false ∧ twiceN its k = its := by
  refine ⟨?_, ?_⟩
  · unfold twiceB; rw [at_out h]; rfl
  · unfold twiceN; rw [at_out h]; rfl
/-! The calls. -/
structure OpN where
  k : Int
  n : Int
  p : MsgP
abbrev OpN.arr (o : OpN) : Array Value := #[.int .i64 o.k, .int .i64 o.n, .int .i64 o.p.m.kind, .int .i64 o.p.m.from_, .int .i64 o.p.m.to_, .int .i64 o.p.m.session, .int .i64 o.p.m.decided, .int .i64 o.p.m.commit, .int .i64 o.p.m.epoch, .slice o.p.Ah o.p.m.heads.length o.p.ch, .string ⟨o.p.m.id.toArray⟩, .int .i64 o.p.m.size, .int .i64 o.p.m.sort, .int .i64 o.p.m.target, .slice o.p.Ad o.p.m.dealers.length o.p.cd, .slice o.p.Ap o.p.m.parts.length o.p.cp, .int .i64 o.p.m.code, .slice o.p.Ax o.p.m.data.length o.p.cx]
structure OpNsRd (w : World) (B : Nat) (A : Option Addr) (os : List OpN) : Prop where
  cells : 0 < os.length → ∃ ad, A = some ad ∧ ad.block < B ∧ ∀ i o, os[i]? = some o → ∀ j v, o.arr.toList[j]? = some v → w.cell? ((ad.add (i * 18)).add j) = some v
  each : ∀ o ∈ os, o.p.Rd w B
theorem OpNsRd.below {w w' : World} {B : Nat} {A : Option Addr} {os : List OpN} (h : OpNsRd w B A os) (hb : Below B w w') (hB : B ≤ w.heap.size) : OpNsRd w' B A os := by
  refine ⟨fun hn => ?_, fun o ho => (h.each o ho).below hb hB⟩
  obtain ⟨ad, e, h1, h2⟩ := h.cells hn
  exact ⟨ad, e, h1, fun i o ho j v hv => (hb.cell (by rw [block_of_add, block_of_add]; exact h1)).trans (h2 i o ho j v hv)⟩
theorem op_sub {w : World} {O : Nat} {o : OpN} {t : TypeId} (h : Blk w O t o.arr) : ∀ j v, o.p.arr.toList[j]? = some v → w.cell? ((⟨O, 2, none⟩ : Addr).add j) = some v := by
  intro j v hv
  have ha : (⟨O, 2, none⟩ : Addr).add j = ⟨O, 2 + j, none⟩ := by unfold Addr.add; split <;> simp_all
  rw [ha, h.cell]
  have e : o.arr.toList = [.int .i64 o.k, .int .i64 o.n] ++ o.p.arr.toList := rfl
  rw [← Array.getElem?_toList, e, List.getElem?_append_right (by simp)]
  simp only [List.length_cons, List.length_nil, Nat.zero_add, Nat.add_sub_cancel_left]
  exact hv
theorem size_msg (W : World) : (sizeOf (Try.prog.elem 25)).run Try.prog W = .ok 16 W := by kernel_rfl
theorem slice_lo (A : Option Addr) (n cap lo : Nat) (h : lo ≤ n) (W : World) : (Instr.sliceAt 25 (.slice A n cap) (some (.int .i64 (lo : Int))) none none).run Try.prog W = .ok (sliced A lo n cap 16) W := by
  rw [run_sliceAt_slice W 25 _ _ _ _ Try.underlying25, run_slice_l W 25 _ n cap Try.underlying25 .i64 (lo : Int) (by omega) (by omega), size_msg]
  rfl
theorem slice_hi (A : Option Addr) (n cap hi : Nat) (h : hi ≤ cap) (W : World) : (Instr.sliceAt 25 (.slice A n cap) none (some (.int .i64 (hi : Int))) none).run Try.prog W = .ok (.slice A hi cap) W := by
  rw [run_sliceAt_slice W 25 _ _ _ _ Try.underlying25, run_slice_h W 25 _ n cap Try.underlying25 .i64 (hi : Int) (by omega) (by omega), size_msg]
  show Result.ok (sliced A 0 ((hi : Int).toNat) cap 16) W = _
  unfold sliced
  rw [Int.toNat_natCast]
  cases A with
  | none => simp
  | some ad =>
    have h0 : ad.add 0 = ad := by unfold Addr.add; simp
    simp [h0]
theorem reads_tail {w : World} {B n cap lo : Nat} {A : Option Addr} {qs : List MsgP} (h : Reads w B 16 A n (msgsC qs)) (hn : n = qs.length) (hlo : lo ≤ n) (hc : n ≤ cap) : Reads w B 16 (if cap = lo then A else A.map (·.add (lo * 16))) (n - lo) (msgsC (qs.drop lo)) := by
  subst hn
  refine ⟨by rw [msgsC_len, List.length_drop], fun hp => ?_⟩
  obtain ⟨ad, rfl, hb, hcell⟩ := h.2 (by omega)
  rw [if_neg (by omega)]
  refine ⟨ad.add (lo * 16), rfl, by rw [block_of_add]; exact hb, fun j u hu => ?_⟩
  rw [add_of_add]
  refine hcell _ u ?_
  have e : msgsC qs = msgsC (qs.take lo) ++ msgsC (qs.drop lo) := by
    show (qs.flatMap _) = _
    rw [← List.flatMap_append, List.take_append_drop]
  rw [e, List.getElem?_append_right (by rw [msgsC_len, List.length_take]; omega), msgsC_len, List.length_take, Nat.min_eq_left hlo]
  simpa using hu
theorem reads_head {w : World} {B n hi : Nat} {A : Option Addr} {qs : List MsgP} (h : Reads w B 16 A n (msgsC qs)) (hn : n = qs.length) (hh : hi ≤ n) : Reads w B 16 A hi (msgsC (qs.take hi)) := by
  subst hn
  refine ⟨by rw [msgsC_len, List.length_take, Nat.min_eq_left hh], fun hp => ?_⟩
  obtain ⟨ad, rfl, hb, hcell⟩ := h.2 (by omega)
  refine ⟨ad, rfl, hb, fun j u hu => hcell _ u ?_⟩
  have e : msgsC qs = msgsC (qs.take hi) ++ msgsC (qs.drop hi) := by
    show (qs.flatMap _) = _
    rw [← List.flatMap_append, List.take_append_drop]
  have hj : j < (msgsC (qs.take hi)).length := (List.getElem?_eq_some_iff.1 hu).1
  rw [e, List.getElem?_append_left hj]
  exact hu
theorem slice_lo' (A : Option Addr) (n cap k : Nat) (h : k + 1 ≤ n) (W : World) : (Instr.sliceAt 25 (.slice A n cap) (some (.int .i64 ((k : Int) + 1))) none none).run Try.prog W = .ok (sliced A (k + 1) n cap 16) W := slice_lo A n cap (k + 1) h W
theorem quiet_slice_l {P : Program} {C : World → Prop} {o : Oper} {a : Act} {K : Act → Prop} (ty : TypeId) (x y : Operand) (ho : o.op = .slice ty x (some y) none none) (xv v : Value) (lo : Int) (hx : a.eval x = xv) (hy : a.eval y = .int .i64 lo)
    (hs : ∀ W, (Instr.sliceAt ty xv (some (.int .i64 lo)) none none).run P W = .ok v W) (h : K (a.put o.dst v)) : o.quiet P a C K := by
  refine ⟨_, fun W _ => ?_, h⟩
  unfold Oper.quietAt execOp
  simp only [ho, hx, hy, Option.map_some, Option.map_none, Sem.run_bind, hs, Result.andThen_ok, Sem.run_pure, Oper.quietUpon, and_self]
theorem keeps_row {w : World} (R : Nat) (cs : Array Value) : Keeps (fun k => k = R) w (w.setRow R cs) := ⟨rfl, rfl, rfl, by simp, fun k _ hn => setRow_other w R k cs hn⟩
theorem MsgRd.offs {w w' : World} {F : Nat → Prop} {B : Nat} {m : MsgV} {Ah Ad Ap Ax : Option Addr} (h : MsgRd w B m Ah Ad Ap Ax) (hk : Keeps F w w') (hB : B ≤ w.heap.size)
    (hoff : ∀ ad, (Ah = some ad ∨ Ad = some ad ∨ Ap = some ad ∨ Ax = some ad) → ¬ F ad.block) : MsgRd w' B m Ah Ad Ap Ax :=
  ⟨h.heads.off hk hB (fun ad e _ => hoff ad (Or.inl e)), reads_off2 h.dealers hk hB (fun ad e _ => hoff ad (Or.inr (Or.inl e))), reads_off2 h.parts hk hB (fun ad e _ => hoff ad (Or.inr (Or.inr (Or.inl e)))), rd_off h.data hk hB (fun ad e _ => hoff ad (Or.inr (Or.inr (Or.inr e))))⟩
theorem erase_take {α : Type} (l : List α) (k : Nat) : l.eraseIdx k = l.take k ++ l.drop (k + 1) := List.eraseIdx_eq_take_drop_succ ..
end Go.Proofs.Ytoekmgpnmhknoaa
