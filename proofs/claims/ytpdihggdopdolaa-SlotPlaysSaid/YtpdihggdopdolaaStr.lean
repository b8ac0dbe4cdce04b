/- Bytes to a string, and strings compared, in a region's straight order. No conditions. -/
import Derived.Test.YtpdihggdopdolaaAny
import Derived.Test.YtpdihggdopdolaaBytes
namespace Go.Proofs.Ytpdihggdopdolaa
open Go.RowKit
section
variable {P : Program} {ops : Array Oper} {Q : Exit → Act → World → Prop} {rest : List Oper} {o : Oper} {a : Act} {w : World}
theorem wpList_quiet (hw : Region.wanted o (yielded ops a.tmps) = true) {K : Act → Prop} (h : o.quiet P a (fun W => W = w) K) (hn : ∀ f args w', (execOp a.eval o).run P w ≠ .ok (.enter f args) w') (hK : ∀ a', K a' → wpList P ops Q rest a' w) : wpList P ops Q (o :: rest) a w := by
  obtain ⟨v, h1, h2⟩ := h
  have h1 := h1 w rfl
  unfold wpList
  rw [if_pos hw]
  left
  unfold Oper.quietAt at h1
  unfold Oper.wp
  generalize (execOp a.eval o).run P w = r at *
  cases r with
  | ok n w' =>
    cases n <;> simp only [Oper.quietUpon] at h1 <;> simp only [Oper.upon]
    case value u => obtain ⟨e1, e2⟩ := h1; subst e1; rw [e2]; exact hK _ h2
    case skip => obtain ⟨e1, e2⟩ := h1; subst e1; rw [e2] at h2; exact hK _ h2
    case enter g args => exact absurd rfl (hn g args w')
  | halt x w' => simp only [Oper.quietUpon] at h1
/-- string(b) -/
theorem wpList_str (hw : Region.wanted o (yielded ops a.tmps) = true) (s d e : TypeId) (x : Operand) (ho : o.op = .convert s d x) (A : Option Addr) (n c : Nat) (l : List UInt8) (hx : a.eval x = .slice A n c) (hs : P.underlying s = some (.slice e)) (he : P.underlying e = some (.int .u8)) (hd : P.underlying d = some .string) (B : Nat)
    (hr : Reads w B 1 A n (l.map B8)) (h : wpList P ops Q rest (a.put o.dst (.string ⟨l.toArray⟩)) w) : wpList P ops Q (o :: rest) a w :=
  wpList_quiet hw (quiet_str s d e x ho A n c l hx hs he hd B (fun W e => e ▸ hr) (K := fun a' => a' = a.put o.dst (.string ⟨l.toArray⟩)) rfl) (fun f args w' => no_enter a.eval o (by rw [ho]; rfl) w f args w') (fun a' e => e ▸ h)
/-- x == y, of strings -/
theorem wpList_eql (hw : Region.wanted o (yielded ops a.tmps) = true) (t t' : TypeId) (x y : Operand) (ho : o.op = .binOp .eql t x y t') (l1 l2 : List UInt8) (hx : a.eval x = .string ⟨l1.toArray⟩) (hy : a.eval y = .string ⟨l2.toArray⟩) (h : wpList P ops Q rest (a.put o.dst (.bool (decide (l1 = l2)))) w) : wpList P ops Q (o :: rest) a w := by
  have hq : o.quiet P a (fun W => W = w) (fun a' => a' = a.put o.dst (.bool (decide (l1 = l2)))) := by
    refine ⟨_, fun w _ => ?_, rfl⟩
    unfold Oper.quietAt execOp
    have h1 : (eqGuard .eql t x y (.string ⟨l1.toArray⟩) (.string ⟨l2.toArray⟩)) = pure () := rfl
    have h3 : ((⟨l1.toArray⟩ : ByteArray).toList == (⟨l2.toArray⟩ : ByteArray).toList) = decide (l1 = l2) := by
      rw [ByteArray.toList_mk, ByteArray.toList_mk]
      by_cases h : l1 = l2 <;> simp [h]
    have h2 : (binOp .eql t (.string ⟨l1.toArray⟩) (.string ⟨l2.toArray⟩)) = pure (.bool (decide (l1 = l2))) := by rw [binOp_string_eql, h3]
    simp only [ho, hx, hy, h1, h2, Sem.run_bind, Sem.run_pure, Result.andThen_ok, Oper.quietUpon, and_self]
  exact wpList_quiet hw hq (fun f args w' => no_enter a.eval o (by rw [ho]; rfl) w f args w') (fun a' e => e ▸ h)
/-- x != y, of strings -/
theorem wpList_neq (hw : Region.wanted o (yielded ops a.tmps) = true) (t t' : TypeId) (x y : Operand) (ho : o.op = .binOp .neq t x y t') (l1 l2 : List UInt8) (hx : a.eval x = .string ⟨l1.toArray⟩) (hy : a.eval y = .string ⟨l2.toArray⟩) (h : wpList P ops Q rest (a.put o.dst (.bool (!decide (l1 = l2)))) w) : wpList P ops Q (o :: rest) a w := by
  have hq : o.quiet P a (fun W => W = w) (fun a' => a' = a.put o.dst (.bool (!decide (l1 = l2)))) := by
    refine ⟨_, fun w _ => ?_, rfl⟩
    unfold Oper.quietAt execOp
    have h1 : (eqGuard .neq t x y (.string ⟨l1.toArray⟩) (.string ⟨l2.toArray⟩)) = pure () := rfl
    have h3 : ((⟨l1.toArray⟩ : ByteArray).toList == (⟨l2.toArray⟩ : ByteArray).toList) = decide (l1 = l2) := by
      rw [ByteArray.toList_mk, ByteArray.toList_mk]
      by_cases h : l1 = l2 <;> simp [h]
    have h2 : (binOp .neq t (.string ⟨l1.toArray⟩) (.string ⟨l2.toArray⟩)) = pure (.bool (!decide (l1 = l2))) := by rw [binOp_string_neq, h3]
    simp only [ho, hx, hy, h1, h2, Sem.run_bind, Sem.run_pure, Result.andThen_ok, Oper.quietUpon, and_self]
  exact wpList_quiet hw hq (fun f args w' => no_enter a.eval o (by rw [ho]; rfl) w f args w') (fun a' e => e ▸ h)
/-- x[lo:hi] -/
theorem wpList_slice_lh (hw : Region.wanted o (yielded ops a.tmps) = true) (ty : TypeId) (x y z : Operand) (ho : o.op = .slice ty x (some y) (some z) none) (xv v : Value) (lo hi : Int) (hx : a.eval x = xv) (hy : a.eval y = .int .i64 lo) (hz : a.eval z = .int .i64 hi)
    (hs : (Instr.sliceAt ty xv (some (.int .i64 lo)) (some (.int .i64 hi)) none).run P w = .ok v w) (h : wpList P ops Q rest (a.put o.dst v) w) : wpList P ops Q (o :: rest) a w := by
  have hq : o.quiet P a (fun W => W = w) (fun a' => a' = a.put o.dst v) := by
    refine ⟨_, fun W hW => ?_, rfl⟩
    unfold Oper.quietAt execOp
    subst hW
    simp only [ho, hx, hy, hz, Option.map_some, Option.map_none, Sem.run_bind, hs, Result.andThen_ok, Sem.run_pure, Oper.quietUpon, and_self]
  exact wpList_quiet hw hq (fun f args w' => no_enter a.eval o (by rw [ho]; rfl) w f args w') (fun a' e => e ▸ h)
theorem run_slice_bytes (P : Program) (ty : TypeId) (A : Option Addr) (n c lo k : Nat) (ht : P.underlying ty = some (.slice (P.elem ty))) (he : ∀ W, (sizeOf (P.elem ty)).run P W = .ok 1 W) (hc : lo + k ≤ c) (hi : Int) (hhi : hi = ((lo + k : Nat) : Int)) (W : World) :
    (Instr.sliceAt ty (.slice A n c) (some (.int .i64 (lo : Int))) (some (.int .i64 hi)) none).run P W = .ok (.slice (if c = lo then A else A.map (·.add lo)) k (c - lo)) W := by
  rw [run_sliceAt_slice W ty _ _ _ _ ht, run_slice_lh W ty A n c ht .i64 .i64 (lo : Int) hi (by omega) (by omega) (by omega), he W, hhi]
  simp [sliced, Result.andThen]
  try omega
end
end Go.Proofs.Ytpdihggdopdolaa
