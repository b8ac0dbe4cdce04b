/- A list of messages: read where it lies, and grown. No conditions. -/
import Derived.Test.YtoekmgpnmhknoaaLaw17
import Derived.Laws.Cells
namespace Go.Proofs.Ytoekmgpnmhknoaa
open Go.RowKit
structure MsgP where
  m : MsgV
  Ah : Option Addr
  Ad : Option Addr
  Ap : Option Addr
  Ax : Option Addr
  ch : Nat
  cd : Nat
  cp : Nat
  cx : Nat
abbrev MsgP.arr (p : MsgP) : Array Value := msgCells p.m p.Ah p.Ad p.Ap p.Ax p.ch p.cd p.cp p.cx
def MsgP.cells (p : MsgP) : List Value := p.arr.toList
theorem MsgP.cells_len (p : MsgP) : p.cells.length = 16 := rfl
theorem MsgP.cells_arr (p : MsgP) : p.cells.toArray = p.arr := rfl
theorem MsgP.one (p : MsgP) : ∀ u ∈ p.cells, u.oneCell' = true := by
  intro u hu
  have h : u = .int .i64 p.m.kind ∨ u = .int .i64 p.m.from_ ∨ u = .int .i64 p.m.to_ ∨ u = .int .i64 p.m.session ∨ u = .int .i64 p.m.decided ∨ u = .int .i64 p.m.commit ∨ u = .int .i64 p.m.epoch ∨ u = .slice p.Ah p.m.heads.length p.ch ∨ u = .string ⟨p.m.id.toArray⟩ ∨ u = .int .i64 p.m.size ∨ u = .int .i64 p.m.sort ∨ u = .int .i64 p.m.target ∨ u = .slice p.Ad p.m.dealers.length p.cd ∨ u = .slice p.Ap p.m.parts.length p.cp ∨ u = .int .i64 p.m.code ∨ u = .slice p.Ax p.m.data.length p.cx := by
    simpa [MsgP.cells] using hu
  rcases h with rfl | rfl | rfl | rfl | rfl | rfl | rfl | rfl | rfl | rfl | rfl | rfl | rfl | rfl | rfl | rfl <;> rfl
abbrev msgsC (ps : List MsgP) : List Value := ps.flatMap MsgP.cells
theorem msgsC_cons (x : MsgP) (r : List MsgP) : msgsC (x :: r) = x.cells ++ msgsC r := List.flatMap_cons
theorem msgsC_len (ps : List MsgP) : (msgsC ps).length = ps.length * 16 := by
  induction ps with
  | nil => rfl
  | cons x r ih => rw [msgsC_cons, List.length_append, ih, MsgP.cells_len, List.length_cons]; omega
theorem msgsC_at (ps : List MsgP) : ∀ (i : Nat) (p : MsgP), ps[i]? = some p → ∀ j v, p.cells[j]? = some v → (msgsC ps)[i * 16 + j]? = some v := by
  induction ps with
  | nil => intro i p h; simp at h
  | cons x r ih =>
    intro i p h j v hv
    cases i with
    | zero =>
      obtain rfl := Option.some.inj h
      have hj : j < 16 := by have := (List.getElem?_eq_some_iff.1 hv).1; rwa [MsgP.cells_len] at this
      rw [msgsC_cons, Nat.zero_mul, Nat.zero_add, List.getElem?_append_left (by rw [MsgP.cells_len]; exact hj)]
      exact hv
    | succ i =>
      rw [msgsC_cons, List.getElem?_append_right (by rw [MsgP.cells_len]; omega), MsgP.cells_len]
      have e : (i + 1) * 16 + j - 16 = i * 16 + j := by omega
      rw [e]
      exact ih i p h j v hv
theorem msgsC_one (ps : List MsgP) : ∀ u ∈ msgsC ps, u.oneCell' = true := by
  intro u hu
  obtain ⟨x, _, h⟩ := List.mem_flatMap.1 hu
  exact x.one u h
/-- A message's parts, where they lie. -/
def MsgP.Rd (p : MsgP) (w : World) (B : Nat) : Prop := MsgRd w B p.m p.Ah p.Ad p.Ap p.Ax
/-- Messages in a slice. -/
structure MsgsRd (w : World) (B : Nat) (A : Option Addr) (ps : List MsgP) : Prop where
  row : Reads w B 16 A ps.length (msgsC ps)
  each : ∀ p ∈ ps, p.Rd w B
theorem MsgsRd.below {w w' : World} {B : Nat} {A : Option Addr} {ps : List MsgP} (h : MsgsRd w B A ps) (hb : Below B w w') (hB : B ≤ w.heap.size) : MsgsRd w' B A ps := ⟨h.row.below hb, fun p hp => (h.each p hp).below hb hB⟩
theorem MsgsRd.cells {w : World} {B : Nat} {A : Option Addr} {ps : List MsgP} (h : MsgsRd w B A ps) {i : Nat} {p : MsgP} (hp : ps[i]? = some p) : ∃ ad, A = some ad ∧ ad.block < B ∧ ∀ j v, p.cells[j]? = some v → w.cell? ((ad.add (i * 16)).add j) = some v := by
  have hn : 0 < ps.length := by have := (List.getElem?_eq_some_iff.1 hp).1; omega
  obtain ⟨ad, e, hb, hc⟩ := h.row.2 hn
  exact ⟨ad, e, hb, fun j v hv => by rw [add_of_add]; exact hc _ v (msgsC_at ps i p hp j v hv)⟩
section
variable {P : Program}
theorem run_loadVar_at (w : World) (p : Addr) (ty : TypeId) (cs : Array Value) (d : TypeDesc) (hc : ∀ j v, cs.toList[j]? = some v → w.cell? (p.add j) = some v)
    (hu : P.underlying ty = some d) (hd : (match d with | .struct _ | .array _ _ => true | _ => false) = true) (hi : (P.info? ty).map (·.size) = some cs.size) :
    (loadVar ty p).run P w = .ok (.agg cs) w := by
  have hl : (loadCells p cs.size).run P w = .ok cs w := run_loadCells_list (P := P) w p cs.toList hc
  cases hq : P.info? ty with
  | none => simp [hq] at hi
  | some i =>
    have hs : i.size = cs.size := by simpa [hq] using hi
    have hagg : (isAgg ty).run P w = .ok true w := by
      unfold isAgg
      rw [Sem.run_bind, run_underlying hu w]
      cases d <;> simp_all
    simp [loadVar, Sem.run_bind, hagg, sizeOf, typeInfo, hq, hs, hl]
theorem wp_load_at {op : Oper} {a : Act} {w : World} {K : Act → World → Prop} {Q : Exit → Act → World → Prop} (ty : TypeId) (x : Operand) (ho : op.op = .load ty x)
    (p : Addr) (hx : a.eval x = .pointer (some p)) (cs : Array Value) (d : TypeDesc) (hc : ∀ j v, cs.toList[j]? = some v → w.cell? (p.add j) = some v)
    (hu : P.underlying ty = some d) (hd : (match d with | .struct _ | .array _ _ => true | _ => false) = true) (hi : (P.info? ty).map (·.size) = some cs.size)
    (h : K (a.put op.dst (.agg cs)) w) : op.wp P a w K Q := by
  unfold Oper.wp execOp
  simp only [ho, hx, Instr.loadAt, Instr.sureAddr, Sem.run_bind, Sem.run_pure, Result.andThen_ok, run_loadVar_at w p ty cs d hc hu hd hi]
  exact h
theorem wpList_load_at {ops : Array Oper} {rest : List Oper} {op : Oper} {a : Act} {w : World} {Q : Exit → Act → World → Prop} (hgd : op.guard = none) (ty : TypeId) (x : Operand) (ho : op.op = .load ty x)
    (p : Addr) (hx : a.eval x = .pointer (some p)) (cs : Array Value) (d : TypeDesc) (hc : ∀ j v, cs.toList[j]? = some v → w.cell? (p.add j) = some v)
    (hu : P.underlying ty = some d) (hd : (match d with | .struct _ | .array _ _ => true | _ => false) = true) (hi : (P.info? ty).map (·.size) = some cs.size)
    (h : wpList P ops Q rest (a.put op.dst (.agg cs)) w) : wpList P ops Q (op :: rest) a w :=
  wpList_plain hgd fun _ hK => wp_load_at ty x ho p hx cs d hc hu hd hi (hK _ _ h)
theorem quiet_load_at {C : World → Prop} {o : Oper} {a : Act} {K : Act → Prop} (ty : TypeId) (x : Operand) (ho : o.op = .load ty x) (p : Addr) (hx : a.eval x = .pointer (some p)) (cs : Array Value) (d : TypeDesc) (hc : ∀ w, C w → ∀ j v, cs.toList[j]? = some v → w.cell? (p.add j) = some v)
    (hu : P.underlying ty = some d) (hd : (match d with | .struct _ | .array _ _ => true | _ => false) = true) (hi : (P.info? ty).map (·.size) = some cs.size)
    (h : K (a.put o.dst (.agg cs))) : o.quiet P a C K := by
  refine ⟨_, fun w hw => ?_, h⟩
  unfold Oper.quietAt execOp
  simp only [ho, hx, Instr.loadAt, Instr.sureAddr, Sem.run_bind, Sem.run_pure, Result.andThen_ok, run_loadVar_at w p ty cs d (hc w hw) hu hd hi, Oper.quietUpon, and_self]
end
theorem msg_info : (Try.prog.info? 31).map (fun i => (i.zero, i.size, i.bytes)) = some (some (.agg zeroMsg), 16, 200) := by kernel_rfl
end Go.Proofs.Ytoekmgpnmhknoaa
