/- A Save with a power, and without a fuse; regions that draw. No conditions. (The same as in Law15c; that text is not imported beside this one.) -/
import Derived.Test.YtpdihggdopdolaaLaw15
namespace Go.Proofs.Ytpdihggdopdolaa
open Go.RowKit
theorem run_free (k : Nat) : ∀ (n : Nat), PW.run ⟨-1, false, n⟩ k = (true, ⟨-1, false, n + k⟩) := by
  induction k with
  | zero => intro n; rfl
  | succ k ih =>
    intro n
    rw [show PW.run ⟨-1, false, n⟩ (k + 1) = PW.run ⟨-1, false, n + 1⟩ k from rfl, ih, show n + 1 + k = n + (k + 1) by omega]
theorem run_writes (k : Nat) : ∀ (p : PW), (p.run k).2.writes ≤ p.writes + k := by
  induction k with
  | zero => intro p; exact Nat.le_refl _
  | succ k ih =>
    intro p
    unfold PW.run
    split
    · show p.writes ≤ _; omega
    · have := ih ⟨if 0 < p.left then p.left - 1 else p.left, false, p.writes + 1⟩
      simp only at this
      omega
theorem SOk.takes {s : DS} {room side : Nat} {kept : List UInt8} (h : SOk s room side kept) : takesOf kept.length ≤ 512 := Nat.le_trans h.fits h.roomLe
theorem save_case {s : DS} {room side : Nat} {kept : List UInt8} (b : List UInt8) (hok : SOk s room side kept) (ht : CleanP s room side kept.length) :
    ∃ side' kept', SOk (s.save room side kept b).2 room side' kept' ∧ TailP (s.save room side kept b).2 room side' kept'.length ∧ (kept' = kept ∨ kept' = b) ∧ ((s.save room side kept b).1 = 0 → kept' = b) ∧ (s.save room side kept b).2.writes ≤ s.writes + 2000 := by
  by_cases hbig : room < takesOf b.length
  · have hs : s.save room side kept b = (7, s) := by unfold DS.save; rw [if_pos hbig]
    rw [hs]
    exact ⟨side, kept, hok, ht.tail, Or.inl rfl, fun e => (by cases e), Nat.le_add_right _ _⟩
  · have hsv := save_spec (b := b) hok hbig
    have hw : (s.save room side kept b).2.writes ≤ s.writes + 2000 := by
      have h1 := hsv.pw.2
      have h2 : (s.save room side kept b).2.writes = (s.pw.run (takesOf b.length + 1 + takesOf kept.length)).2.writes := congrArg PW.writes h1
      have h3 := run_writes (takesOf b.length + 1 + takesOf kept.length) s.pw
      have h4 : s.pw.writes = s.writes := rfl
      have := hok.takes; have := hok.roomLe
      omega
    cases hc : (s.pw.run (takesOf b.length + 1)).1
    · obtain ⟨h1, h2⟩ := hsv.old hc
      refine ⟨side, kept, h1, h2 ht, Or.inl rfl, fun e => ?_, hw⟩
      have h3 := hsv.pw.1
      have h4 := PW.run_add s.pw (takesOf b.length + 1) (takesOf kept.length)
      rw [if_neg (by rw [hc]; decide)] at h4
      rw [e] at h3
      have h5 := ite_zero h3.symm
      rw [h4, hc] at h5
      cases h5
    · obtain ⟨h1, h2⟩ := hsv.new hc
      exact ⟨1 - side, b, h1, (h2 ht).1, Or.inr rfl, fun _ => rfl, hw⟩
theorem save_full {s : DS} {room side : Nat} {kept : List UInt8} (b : List UInt8) (hok : SOk s room side kept) (ht : CleanP s room side kept.length) (hf : s.fuse = -1) (hd : s.down = false) (hbig : ¬ room < takesOf b.length) :
    (s.save room side kept b).1 = 0 ∧ SOk (s.save room side kept b).2 room (1 - side) b ∧ CleanP (s.save room side kept b).2 room (1 - side) b.length ∧ (s.save room side kept b).2.pw = ⟨-1, false, s.writes + (takesOf b.length + 1 + takesOf kept.length)⟩ := by
  have hsv := save_spec (b := b) hok hbig
  have hp : s.pw = ⟨-1, false, s.writes⟩ := by unfold DS.pw; rw [hf, hd]
  obtain ⟨p1, p2⟩ := hsv.pw
  rw [hp, run_free] at p1 p2
  have h0 : (s.save room side kept b).1 = 0 := p1
  obtain ⟨h1, h2⟩ := hsv.new (by rw [hp, run_free])
  exact ⟨h0, h1, (h2 ht).2 h0, p2⟩
theorem pick_false {P : Program} {C : World → Prop} {o : Oper} {a : Act} {K : Act → Prop} (c x y : Operand) (ho : o.op = .pick c x y) (hc : a.eval c = .bool false) (v : Value) (hx : a.eval y = v) (hK : K (a.put o.dst v)) : o.quiet P a C K := by
  refine ⟨_, fun w _ => ?_, hK⟩
  unfold Oper.quietAt execOp
  simp [ho, hc, hx, asBool, Oper.quietUpon]
theorem anyC_skip {P : Program} {ops : Array Oper} {md : Region.Mode} {Q : Exit → Act → World → Prop} {C : World → Prop} {i : Nat} {o : Oper} {f : Nat} {listed : Array Bool} {a : Act} {w : World} (hi : ops[i]? = some o) (hr : Region.ready md ops listed = [i]) (hC : C w) (hw : Region.wanted o (yielded ops a.tmps) = false)
    (h : anyC P md ops C Q f (listed.setIfInBounds i true) (a.put o.dst undef) w) : anyC P md ops C Q (f + 1) listed a w := by
  refine anyC_only hi hr hC ?_
  unfold wpList
  rw [if_neg (by rw [hw]; decide)]
  exact h
end Go.Proofs.Ytpdihggdopdolaa
