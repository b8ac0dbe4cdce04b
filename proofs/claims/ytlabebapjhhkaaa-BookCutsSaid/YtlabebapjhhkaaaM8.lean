/- What a Save leaves; the reference's slot. Conditions stand with each theorem. -/
import Derived.Test.YtlabebapjhhkaaaM7
namespace Go.Proofs.Ytlabebapjhhkaaa
open Go.RowKit
theorem SOk.bl {s s' : DS} {room side : Nat} {kept : List UInt8} (h : SOk s room side kept) (e : s'.bl = s.bl) : SOk s' room side kept :=
  ⟨by rw [e]; exact h.len, by rw [e]; exact h.l32, by rw [e]; exact h.root, h.sideLe, h.fits, by rw [e]; exact h.data, h.roomLe⟩
theorem CleanP.bl {s s' : DS} {room side n : Nat} (h : CleanP s room side n) (e : s'.bl = s.bl) : CleanP s' room side n := fun i hi => by rw [e]; exact h i hi
theorem TailP.bl {s s' : DS} {room side n : Nat} (h : TailP s room side n) (e : s'.bl = s.bl) : TailP s' room side n := fun i h1 h2 => by rw [e]; exact h i h1 h2
theorem new_bl (m : Nat) (hm : m ≤ 512) : (DS.new (1 + 2 * (m : Int))).bl = List.replicate (1 + 2 * m) zero32 := by
  unfold DS.new
  simp only
  congr 1
  omega
theorem new_get (m : Nat) (hm : m ≤ 512) (i : Nat) (hi : i < 1 + 2 * m) : (DS.new (1 + 2 * (m : Int))).bl[i]? = some zero32 := by
  rw [new_bl m hm, List.getElem?_replicate, if_pos hi]
theorem SOk.new (m : Nat) (hm : m ≤ 512) : SOk (DS.new (1 + 2 * (m : Int))) m 0 [] ∧ CleanP (DS.new (1 + 2 * (m : Int))) m 0 0 := by
  refine ⟨⟨by rw [new_bl m hm]; simp, fun i l hi => ?_, ?_, by omega, by unfold takesOf; simp, fun i hi => ?_, hm⟩, fun i hi => ⟨new_get m hm _ (by simp; omega), fun _ => new_get m hm _ (by simp; omega)⟩⟩
  · rw [new_bl m hm, List.getElem?_replicate] at hi
    split at hi
    · injection hi with hi; rw [← hi]; exact zero32_len
    · cases hi
  · rw [new_get m hm 0 (by omega)]
    unfold zero32
    rfl
  · unfold takesOf at hi
    simp at hi
theorem started {s s' : DS} {room side : Nat} {kept : List UInt8} (h : SOk s room side kept) (hc : Cleared s s' (1 + (1 - side) * room) room) : SOk s' room side kept ∧ ∀ n, TailP s room side n → CleanP s' room side n := by
  have hk : ∀ i, i < room → s'.bl[1 + side * room + i]? = s.bl[1 + side * room + i]? := fun i hi => hc.rest _ fun j hj => idx_ne h.sideLe hi hj
  refine ⟨h.keep hc.len (fun i l hi => ?_) (hc.rest 0 fun j hj e => by have e' := e; revert e'; generalize (1 - side) * room = p; omega) hk, fun n ht i hi => ⟨hc.zero i hi, fun h1 => (hk i hi).trans (ht i h1 hi)⟩⟩
  by_cases e : ∃ j, j < room ∧ i = 1 + (1 - side) * room + j
  · obtain ⟨j, hj, rfl⟩ := e
    rw [hc.zero j hj] at hi
    injection hi with hi
    rw [← hi]; exact zero32_len
  · rw [hc.rest i fun j hj e2 => e ⟨j, hj, e2⟩] at hi
    exact h.l32 i l hi
/-! The calls, as a law makes them: its slot lies from B on. -/
section
variable {w : World} {B S room : Nat} {s : DS}
theorem Grown.ge {F : Nat → Prop} (hF : ∀ k, F k → B ≤ k) (hB : B ≤ w.heap.size) : ∀ k, Grown F w k → B ≤ k := fun k e => by
  rcases e with e | e
  · exact hF k e
  · omega
theorem Save_B (F : Nat → Prop) (side : Nat) (kept b : List UInt8) (A : Option Addr) (n c : Nat) (h : SlotIs w F S room s) (hF : ∀ k, F k → B ≤ k) (hB : B ≤ w.heap.size) (hok : SOk s room side kept) (hr : Rd w w.heap.size A n b) (hnc : n ≤ c) (hoff : 0 < n → ∀ ad, A = some ad → ¬ F ad.block)
    (hwr : s.writes ≤ 4611686018400000000) (hn : n ≤ 9223372036854775000) :
    Calls Try.prog 76 #[.pointer (some ⟨S, 0, none⟩), .slice A n c] w fun e w' => e = .returned (.int .i64 (s.save room side kept b).1) ∧ SlotIs w' (fun k => B ≤ k) S room (s.save room side kept b).2 ∧ Below B w w' :=
  (Save_any w F S room s side kept b A n c h hok hr hnc hoff hwr hn).mono fun _ _ ⟨h1, h2, h3⟩ => ⟨h1, h2.weaken (Grown.ge hF hB), h3.below hF hB⟩
theorem Save_arg (side : Nat) (kept b : List UInt8) (A : Option Addr) (n c : Nat) (h : SlotIs w (fun k => B ≤ k) S room s) (hB : B ≤ w.heap.size) (hok : SOk s room side kept) (hr : Rd w B A n b) (hnc : n ≤ c) (hwr : s.writes ≤ 4611686018400000000) (hn : n ≤ 140737488351232) :
    Calls Try.prog 76 #[.pointer (some ⟨S, 0, none⟩), .slice A n c] w fun e w' => e = .returned (.int .i64 (s.save room side kept b).1) ∧ SlotIs w' (fun k => B ≤ k) S room (s.save room side kept b).2 ∧ Below B w w' := by
  refine Save_B (fun k => B ≤ k) side kept b A n c h (fun _ e => e) hB hok (hr.more hB) hnc (fun h0 ad e e2 => ?_) hwr (by omega)
  obtain ⟨ad', e1, hb, _⟩ := hr.2 h0
  rw [e] at e1
  cases e1
  omega
theorem Start_B (side : Nat) (kept : List UInt8) (h : SlotIs w (fun k => B ≤ k) S room s) (hB : B ≤ w.heap.size) (hok : SOk s room side kept) (hwr : s.writes ≤ 4611686018400000000) :
    Calls Try.prog 41 #[.pointer (some ⟨S, 0, none⟩)] w fun e w' => e = .returned (.tuple #[]) ∧ (∃ s', SlotIs w' (fun k => B ≤ k) S room s' ∧ Cleared s s' (1 + (1 - side) * room) room) ∧ Below B w w' :=
  (Start_any w _ S room s side kept h hok (by omega)).mono fun _ _ ⟨h1, ⟨s', h2, h2'⟩, h3⟩ => ⟨h1, ⟨s', h2.weaken (Grown.ge (fun _ e => e) hB), h2'⟩, h3.below (fun _ e => e) hB⟩
theorem SFuse_B (n : Int) (hn : n ≤ 9223372036854775807) (h : SlotIs w (fun k => B ≤ k) S room s) (hB : B ≤ w.heap.size) :
    Calls Try.prog 40 #[.pointer (some ⟨S, 0, none⟩), .int .i64 n] w fun e w' => e = .returned (.tuple #[]) ∧ SlotIs w' (fun k => B ≤ k) S room { s with fuse := max n 0 } ∧ Below B w w' :=
  (SFuse_any w _ S room s n hn h).mono fun _ _ ⟨h1, h2, h3⟩ => ⟨h1, h2.weaken (Grown.ge (fun _ e => e) hB), h3.below (fun _ e => e) hB⟩
/-- A slot, before something new is laid. -/
theorem SlotIs.before (h : SlotIs w (fun k => B ≤ k) S room s) (o : Obj) : SlotIs (w.alloc o) (fun k => B ≤ k ∧ k < w.heap.size) S room s :=
  (h.tight.weaken fun k e => ⟨e.1, by obtain ⟨o, e1, _⟩ := e.2; exact lt_of_get e1⟩).below ((Below.refl _ _).alloc (Nat.le_refl _) o)
end
end Go.Proofs.Ytlabebapjhhkaaa
namespace Go.Proofs.Ytlabebapjhhkaaa
open Go.RowKit
theorem run_free (k : Nat) : ∀ (n : Nat), PW.run ⟨-1, false, n⟩ k = (true, ⟨-1, false, n + k⟩) := by
  induction k with
  | zero => intro n; rfl
  | succ k ih =>
    intro n
    rw [show PW.run ⟨-1, false, n⟩ (k + 1) = PW.run ⟨-1, false, n + 1⟩ k from rfl, ih, show n + 1 + k = n + (k + 1) by omega]
theorem run_writes (k : Nat) : ∀ (p : PW), (p.run k).2.writes ≤ p.writes + k := by
  induction k with
  | zero => intro p; exact Nat.le_refl _
  | succ k ih =>
    intro p
    unfold PW.run
    split
    · show p.writes ≤ _; omega
    · have := ih ⟨if 0 < p.left then p.left - 1 else p.left, false, p.writes + 1⟩
      simp only at this
      omega
theorem SOk.takes {s : DS} {room side : Nat} {kept : List UInt8} (h : SOk s room side kept) : takesOf kept.length ≤ 512 := Nat.le_trans h.fits h.roomLe
theorem save_case {s : DS} {room side : Nat} {kept : List UInt8} (b : List UInt8) (hok : SOk s room side kept) (ht : CleanP s room side kept.length) :
    ∃ side' kept', SOk (s.save room side kept b).2 room side' kept' ∧ TailP (s.save room side kept b).2 room side' kept'.length ∧ (kept' = kept ∨ kept' = b) ∧ ((s.save room side kept b).1 = 0 → kept' = b) ∧ (s.save room side kept b).2.writes ≤ s.writes + 2000 := by
  by_cases hbig : room < takesOf b.length
  · have hs : s.save room side kept b = (7, s) := by unfold DS.save; rw [if_pos hbig]
    rw [hs]
    exact ⟨side, kept, hok, ht.tail, Or.inl rfl, fun e => (by cases e), Nat.le_add_right _ _⟩
  · have hsv := save_spec (b := b) hok hbig
    have hw : (s.save room side kept b).2.writes ≤ s.writes + 2000 := by
      have h1 := hsv.pw.2
      have h2 : (s.save room side kept b).2.writes = (s.pw.run (takesOf b.length + 1 + takesOf kept.length)).2.writes := congrArg PW.writes h1
      have h3 := run_writes (takesOf b.length + 1 + takesOf kept.length) s.pw
      have h4 : s.pw.writes = s.writes := rfl
      have := hok.takes; have := hok.roomLe
      omega
    cases hc : (s.pw.run (takesOf b.length + 1)).1
    · obtain ⟨h1, h2⟩ := hsv.old hc
      refine ⟨side, kept, h1, h2 ht, Or.inl rfl, fun e => ?_, hw⟩
      have h3 := hsv.pw.1
      have h4 := PW.run_add s.pw (takesOf b.length + 1) (takesOf kept.length)
      rw [if_neg (by rw [hc]; decide)] at h4
      rw [e] at h3
      have h5 := ite_zero h3.symm
      rw [h4, hc] at h5
      cases h5
    · obtain ⟨h1, h2⟩ := hsv.new hc
      exact ⟨1 - side, b, h1, (h2 ht).1, Or.inr rfl, fun _ => rfl, hw⟩
theorem save_full {s : DS} {room side : Nat} {kept : List UInt8} (b : List UInt8) (hok : SOk s room side kept) (ht : CleanP s room side kept.length) (hf : s.fuse = -1) (hd : s.down = false) (hbig : ¬ room < takesOf b.length) :
    (s.save room side kept b).1 = 0 ∧ SOk (s.save room side kept b).2 room (1 - side) b ∧ CleanP (s.save room side kept b).2 room (1 - side) b.length ∧ (s.save room side kept b).2.pw = ⟨-1, false, s.writes + (takesOf b.length + 1 + takesOf kept.length)⟩ := by
  have hsv := save_spec (b := b) hok hbig
  have hp : s.pw = ⟨-1, false, s.writes⟩ := by unfold DS.pw; rw [hf, hd]
  obtain ⟨p1, p2⟩ := hsv.pw
  rw [hp, run_free] at p1 p2
  have h0 : (s.save room side kept b).1 = 0 := p1
  obtain ⟨h1, h2⟩ := hsv.new (by rw [hp, run_free])
  exact ⟨h0, h1, (h2 ht).2 h0, p2⟩
theorem pick_false {P : Program} {C : World → Prop} {o : Oper} {a : Act} {K : Act → Prop} (c x y : Operand) (ho : o.op = .pick c x y) (hc : a.eval c = .bool false) (v : Value) (hx : a.eval y = v) (hK : K (a.put o.dst v)) : o.quiet P a C K := by
  refine ⟨_, fun w _ => ?_, hK⟩
  unfold Oper.quietAt execOp
  simp [ho, hc, hx, asBool, Oper.quietUpon]
theorem anyC_skip {P : Program} {ops : Array Oper} {md : Region.Mode} {Q : Exit → Act → World → Prop} {C : World → Prop} {i : Nat} {o : Oper} {f : Nat} {listed : Array Bool} {a : Act} {w : World} (hi : ops[i]? = some o) (hr : Region.ready md ops listed = [i]) (hC : C w) (hw : Region.wanted o (yielded ops a.tmps) = false)
    (h : anyC P md ops C Q f (listed.setIfInBounds i true) (a.put o.dst undef) w) : anyC P md ops C Q (f + 1) listed a w := by
  refine anyC_only hi hr hC ?_
  unfold wpList
  rw [if_neg (by rw [hw]; decide)]
  exact h
end Go.Proofs.Ytlabebapjhhkaaa
namespace Go.Proofs.Ytlabebapjhhkaaa
open Go.RowKit
/-- The cells of the reference's slot. -/
abbrev RCells (room : Nat) (p : PW) (dirty : Bool) (v : Value) : Array Value := #[.int .i64 (room : Int), .int .i64 p.left, .int .i64 (p.writes : Int), .bool p.gone, .bool dirty, v]
theorem rtakes_any (A : Option Addr) (n c : Nat) (w : World) (hn : n ≤ 9223372036854775000) :
    Calls Try.prog 83 #[.slice A n c] w fun e w' => e = .returned (.int .i64 (takesOf n : Int)) ∧ w' = w := by
  go_enter Try.func83, Try.ntmps83
  go_wp2
  go_ret
  refine ⟨?_, rfl⟩
  unfold takesOf
  go_num
theorem rwrite_any (w : World) (R room : Nat) (p : PW) (dirty : Bool) (v : Value) (h : Blk w R 66 (RCells room p dirty v)) (hl : -1 ≤ p.left) (hl2 : p.left ≤ 9223372036854775807) (hw : p.writes ≤ 4611686018427387904) :
    Calls Try.prog 84 #[.pointer (some ⟨R, 0, none⟩)] w fun e w' => e = .returned (.bool (p.run 1).1) ∧ Blk w' R 66 (RCells room (p.run 1).2 dirty v) ∧ Keeps (fun k => k = R) w w' := by
  obtain ⟨left, gone, wr⟩ := p
  have c1 : w.cell? ⟨R, 1, none⟩ = some (.int .i64 left) := (h.cell 1).trans rfl
  have c2 : w.cell? ⟨R, 2, none⟩ = some (.int .i64 (wr : Int)) := (h.cell 2).trans rfl
  have c3 : w.cell? ⟨R, 3, none⟩ = some (.bool gone) := (h.cell 3).trans rfl
  have f1 := h.frozen 1; have f2 := h.frozen 2; have f3 := h.frozen 3
  have H := Lib.hid h
  have kr := Keeps.refl (fun k => k = R) w
  clear h
  simp only at hl hl2 hw
  by_cases h0 : left = 0
  · subst h0
    have hp : PW.run ⟨0, gone, wr⟩ 1 = (false, ⟨0, true, wr⟩) := by cases gone <;> rfl
    rw [hp]
    go_enter Try.func84, Try.ntmps84
    go_wp2
    go_ret
    exact ⟨rfl, H.out.set_ 3 (.bool true), kr.setCell (p := ⟨R, 3, none⟩) rfl _⟩
  · cases gone
    · by_cases hpos : 0 < left
      · have hp : PW.run ⟨left, false, wr⟩ 1 = (true, ⟨left - 1, false, wr + 1⟩) := by
          unfold PW.run
          rw [if_neg (by simp [h0]), if_pos hpos]
          rfl
        rw [hp]
        go_enter Try.func84, Try.ntmps84
        go_wp2
        go_ret
        exact ⟨rfl, by have h9 := (H.out.set_ 1 (.int .i64 (left - 1))).set_ 2 (.int .i64 ((wr : Int) + 1)); exact h9, (kr.setCell (p := ⟨R, 1, none⟩) rfl _).setCell (p := ⟨R, 2, none⟩) rfl _⟩
      · have hp : PW.run ⟨left, false, wr⟩ 1 = (true, ⟨left, false, wr + 1⟩) := by
          unfold PW.run
          rw [if_neg (by simp [h0]), if_neg hpos]
          rfl
        rw [hp]
        go_enter Try.func84, Try.ntmps84
        go_wp2
        go_ret
        exact ⟨rfl, H.out.set_ 2 (.int .i64 ((wr : Int) + 1)), kr.setCell (p := ⟨R, 2, none⟩) rfl _⟩
    · have hp : PW.run ⟨left, true, wr⟩ 1 = (false, ⟨left, true, wr⟩) := rfl
      rw [hp]
      go_enter Try.func84, Try.ntmps84
      go_wp2
      go_ret
      exact ⟨rfl, H.out, kr⟩
set_option maxRecDepth 100000 in
theorem solid_any (w : World) (B : Nat) (A : Option Addr) (n c : Nat) (l : List UInt8) (i : Nat) (hn : n ≤ 16384) (hi : i ≤ 600) (hr : Rd w B A n l) :
    Calls Try.prog 85 #[.slice A n c, .int .i64 (i : Int)] w fun e w' => (∃ b, e = .returned (.bool b)) ∧ w' = w := by
  have HR := Lib.hid hr
  clear hr
  go_enter Try.func85, Try.ntmps85
  go_wp2_with fail
  go_loop [5] (fun q => ∃ j : Nat, j ≤ 40000 ∧ q = .int .i64 (j : Int)) (fun q => 60000 - (intOf q).toNat)
  case atStart => exact ⟨32 * i, by omega, by go_num⟩
  case round =>
    obtain ⟨j, hj, rfl⟩ := hrel
    by_cases h1 : j < n
    · have h1' : (j : Int) < (n : Int) := by omega
      by_cases h2 : j < 32 * i + 32
      · have h2' : (j : Int) < 32 * (i : Int) + 32 := by omega
        obtain ⟨ad, rfl, _, hc⟩ := HR.out.at_ h1
        by_cases hz : l.getD j 0 = 0
        · rw [hz] at hc
          go_wp2_with fail
          exact ⟨⟨j + 1, by omega, by go_num⟩, by simp [intOf]; omega⟩
        · have hz' : ((l.getD j 0).toNat : Int) ≠ 0 := fun e => hz (by
            have : (l.getD j 0).toNat = 0 := by omega
            exact UInt8.toNat_inj.1 this)
          generalize ((l.getD j 0).toNat : Int) = yv at hc hz'
          go_wp2_with fail
          go_ret
          exact ⟨by first | exact Or.inl rfl | exact Or.inr rfl, rfl⟩
      · have h2' : ¬ (j : Int) < 32 * (i : Int) + 32 := by omega
        go_wp2_with fail
        go_ret
        exact ⟨by first | exact Or.inl rfl | exact Or.inr rfl, rfl⟩
    · have h1' : ¬ (j : Int) < (n : Int) := by omega
      go_wp2_with fail
      go_ret
      exact ⟨by first | exact Or.inl rfl | exact Or.inr rfl, rfl⟩
end Go.Proofs.Ytlabebapjhhkaaa
namespace Go.Proofs.Ytlabebapjhhkaaa
open Go.RowKit
/-- What a Save answers, the power behind it, and what is kept then. -/
def rsE (p : PW) (room n1 n2 : Nat) : Int := if room < n1 then 7 else if (p.run (n1 + 1 + n2)).1 = true then 0 else 3
def rsP (p : PW) (room n1 n2 : Nat) : PW := if room < n1 then p else (p.run (n1 + 1 + n2)).2
def rsK (p : PW) (room n1 : Nat) (kept b : List UInt8) : List UInt8 := if room < n1 then kept else if (p.run (n1 + 1)).1 = true then b else kept
theorem run_pre_no {p : PW} {k n : Nat} (hk : k ≤ n) (h : (p.run k).1 = false) : p.run n = p.run k := by
  obtain ⟨j, rfl⟩ : ∃ j, n = k + j := ⟨n - k, by omega⟩
  rw [PW.run_add, if_neg (by rw [h]; decide)]
theorem run_pre_ok {p : PW} {k n : Nat} (hk : k ≤ n) (h : (p.run n).1 = true) : (p.run k).1 = true := by
  cases hc : (p.run k).1
  · rw [run_pre_no hk hc, hc] at h; cases h
  · rfl
theorem run_left (k : Nat) : ∀ (p : PW), -1 ≤ p.left → p.left ≤ 9223372036854775807 → -1 ≤ (p.run k).2.left ∧ (p.run k).2.left ≤ 9223372036854775807 := by
  induction k with
  | zero => intro p h1 h2; exact ⟨h1, h2⟩
  | succ k ih =>
    intro p h1 h2
    unfold PW.run
    split
    · exact ⟨h1, h2⟩
    · refine ih _ ?_ ?_
      · simp only; split <;> omega
      · simp only; split <;> omega
theorem own_ne6 {v : Value} {g m R : Nat} (h : v.ownBlock = (Value.slice (some ⟨g, 0, none⟩) 0 0).ownBlock ∨ v.ownBlock = some m) (h1 : R < g) (h2 : R < m) : v.ownBlock ≠ some R := by
  intro e
  rcases h with h | h
  · rw [h] at e
    simp [Value.ownBlock] at e
    omega
  · rw [h] at e
    simp at e
    omega
theorem own_ge6 {v : Value} {g m x : Nat} (h : v.ownBlock = (Value.slice (some ⟨g, 0, none⟩) 0 0).ownBlock ∨ v.ownBlock = some m) (h1 : x ≤ g) (h2 : x ≤ m) : ∀ k, v.ownBlock = some k → x ≤ k := by
  intro k e
  rcases h with h | h
  · rw [h] at e
    simp [Value.ownBlock] at e
    omega
  · rw [h] at e
    simp at e
    omega
theorem keeps_app {w0 w w' : World} {R g : Nat} (hk : Keeps (fun k => k = R) w0 w) (hg : w.grownBy w' (Value.slice (some ⟨g, 0, none⟩) 0 0).ownBlock) (h : w0.heap.size ≤ g) : Keeps (fun k => k = R) w0 w' := by
  refine hk.grown hg fun k e => Or.inl ?_
  simp [Value.ownBlock] at e
  omega
theorem blk_app {w w' : World} {R g : Nat} {t : TypeId} {cs : Array Value} (hb : Blk w R t cs) (hg : w.grownBy w' (Value.slice (some ⟨g, 0, none⟩) 0 0).ownBlock) (h : R < g) : Blk w' R t cs := by
  refine hb.grown hg fun e => ?_
  simp [Value.ownBlock] at e
  omega
set_option maxRecDepth 100000 in
set_option maxHeartbeats 1000000 in
theorem RefSave_any (w : World) (R room : Nat) (p : PW) (dirty : Bool) (v : Value) (kept b : List UInt8) (B : Nat) (A : Option Addr) (n c : Nat) (N y : Int) (h : Blk w R 66 (RCells room p dirty v)) (hv : Own w B v kept) (hvR : v.ownBlock ≠ some R) (hB : B ≤ w.heap.size)
    (hr : Rd w w.heap.size A n b) (hoff : 0 < n → ∀ ad, A = some ad → ad.block ≠ R) (hn : n ≤ 140737488351232) (hrm : room ≤ 512) (hk : takesOf kept.length ≤ 512) (hl : -1 ≤ p.left) (hl2 : p.left ≤ 9223372036854775807) (hw : p.writes ≤ 4611686018400000000) :
    Calls Try.prog 56 #[.pointer (some ⟨R, 0, none⟩), .agg #[.int .i64 1, .int .i64 N, .int .u8 y, .slice A n c]] w fun e w' => e = .returned (.int .i64 (rsE p room (takesOf n) (takesOf kept.length))) ∧
      (∃ dirty' v', Blk w' R 66 (RCells room (rsP p room (takesOf n) (takesOf kept.length)) dirty' v') ∧ Own w' B v' (rsK p room (takesOf n) kept b) ∧ v'.ownBlock ≠ some R ∧ (v' = v ∨ ∀ k, v'.ownBlock = some k → w.heap.size ≤ k)) ∧ Keeps (fun k => k = R) w w' := by
  obtain ⟨vA, vc, rfl⟩ := hv.shape
  obtain ⟨W1, hW1⟩ : ∃ W1, W1 = w.alloc (.cells #[.int .i64 1, .int .i64 N, .int .u8 y, .slice A n c] 89) := ⟨_, rfl⟩
  have hb1 : Below w.heap.size w W1 := by rw [hW1]; exact (Below.refl _ _).alloc (Nat.le_refl _) _
  have hX : Blk W1 w.heap.size 89 #[.int .i64 1, .int .i64 N, .int .u8 y, .slice A n c] := by rw [hW1]; exact Blk.new _ _ _
  have HB1 := Lib.hid hb1; have HX := Lib.hid hX; have HW1 := Lib.hid hW1; have H := Lib.hid (h.below hb1 h.lt); have HV := Lib.hid (hv.below hb1); have HVR := Lib.hid hvR; have HBB := Lib.hid hB
  have HR := Lib.hid (hr.below hb1); have HOFF := Lib.hid hoff; have HN := Lib.hid hn; have HRM := Lib.hid hrm; have HK := Lib.hid hk; have HL := Lib.hid hl; have HL2 := Lib.hid hl2; have HW := Lib.hid hw; have HRL := Lib.hid h.lt
  have k0 : W1.cell? ⟨w.heap.size, 0, none⟩ = some (.int .i64 1) := (hX.cell 0).trans rfl
  clear h hv hvR hB hr hoff hn hrm hk hl hl2 hw hb1 hX hW1
  go_enter Try.func56, Try.ntmps56
  go_upto_region 1 with fail
  rw [← HW1.out]
  go_wp2_with fail
  have HXC := Lib.hid (fun W (hW : Below W1.heap.size W1 W) => ((HX.out.below hW HX.out.lt).cell 3).trans rfl : ∀ W, Below W1.heap.size W1 W → W.cell? ⟨w.heap.size, 3, none⟩ = some (.slice A n c))
  have HRC := Lib.hid (fun W (hW : Below W1.heap.size W1 W) => ((H.out.below hW H.out.lt).cell 0).trans rfl : ∀ W, Below W1.heap.size W1 W → W.cell? ⟨R, 0, none⟩ = some (.int .i64 (room : Int)))
  have hC0 : Below W1.heap.size W1 W1.drew := (Below.refl _ _).drew
  refine wp_region_anyN (Below W1.heap.size W1) (by kernel_rfl) ?_
  refine anyC_takes (by kernel_rfl) (fun _ _ _ _ _ h => h) [0, 1, 3, 4, 5, 6] 2 _ _ (by kernel_rfl) ?_
  simp only [List.filterMap_cons, List.filterMap_nil, List.getElem?_toArray, List.getElem?_cons_succ, List.getElem?_cons_zero]
  show wpQuiet _ _ _ _ (_ :: _ :: _ :: _ :: _ :: _ :: List.nil) _
  repeat (first | go_big_quiet_skip | (go_big_quiet_want; first | (refine quiet_load _ _ rfl ⟨w.heap.size, 3, none⟩ rfl _ HXC.out (fun _ => by kernel_rfl) ?_; simp only [Act.put, List.setIfInBounds_toArray, List.set_cons_succ, List.set_cons_zero]; go_big_quiet_on) | (refine quiet_load _ _ rfl ⟨R, 0, none⟩ rfl _ HRC.out (fun _ => by kernel_rfl) ?_; simp only [Act.put, List.setIfInBounds_toArray, List.set_cons_succ, List.set_cons_zero]; go_big_quiet_on) | (go_big_quiet_op; first | go_big_quiet_on | (refine ⟨_, fun _ _ => rfl, ?_⟩; go_big_quiet_on))))
  refine wpQuiet_nil ?_
  refine anyC_only (i := 2) rfl (by kernel_rfl) hC0 ?_
  go_wp2_with fail
  refine (rtakes_any A n c W1.drew (by have := HN.out; omega)).mono ?_
  rintro e w3 ⟨rfl, rfl⟩
  go_wp2_with fail
  refine anyC_takes (by kernel_rfl) (fun _ _ _ _ _ h => h) [7] 0 _ _ (by kernel_rfl) ?_
  simp only [List.filterMap_cons, List.filterMap_nil, List.getElem?_toArray, List.getElem?_cons_succ, List.getElem?_cons_zero]
  show wpQuiet _ _ _ _ (_ :: List.nil) _
  repeat (first | go_big_quiet_skip | (go_big_quiet_want; first | (fail; simp only [Act.put, List.setIfInBounds_toArray, List.set_cons_succ, List.set_cons_zero]; go_big_quiet_on) | (go_big_quiet_op; first | go_big_quiet_on | (refine ⟨_, fun _ _ => rfl, ?_⟩; go_big_quiet_on))))
  refine wpQuiet_nil ?_
  refine ⟨hC0, by kernel_rfl, ?_⟩
  by_cases hbig : room < takesOf n
  · have hbig' : (room : Int) < (takesOf n : Int) := by omega
    go_wp2_with fail
    go_ret
    refine ⟨by unfold rsE; rw [if_pos hbig]; rfl, ⟨dirty, .slice vA kept.length vc, ?_, ?_, ⟨HVR.out, Or.inl rfl⟩⟩, Keeps.of_below (HB1.out.drew)⟩
    · unfold rsP; rw [if_pos hbig]; exact H.out.drew
    · unfold rsK; rw [if_pos hbig]; exact HV.out.drew
  have hbig' : ¬ (room : Int) < (takesOf n : Int) := by omega
  have HFIT := Lib.hid hbig
  clear hbig
  have hfit := HFIT.out
  have hrmx := HRM.out
  have hn1 : n ≤ 16384 := by unfold takesOf at hfit; omega
  have hx3 : ∀ W, Keeps (fun k => k = R) W1 W → W.cell? ⟨w.heap.size, 3, none⟩ = some (.slice A n c) := fun W hW => ((HX.out.keeps hW (by have := HRL.out; omega)).cell 3).trans rfl
  have hrd : ∀ W, Keeps (fun k => k = R) W1 W → Rd W w.heap.size A n b := fun W hW => by
    rcases Nat.eq_zero_or_pos n with h0 | h0
    · exact ⟨HR.out.1, fun h => absurd h (by omega)⟩
    · exact rd_off HR.out hW HB1.out.size (fun ad e _ => HOFF.out h0 ad e)
  have HX3 := Lib.hid hx3; have HRD := Lib.hid hrd; have HN1 := Lib.hid hn1
  have hT1 : takesOf n ≤ 512 := by omega
  have HT1 := Lib.hid hT1
  clear hx3 hrd hn1 hfit hrmx hT1
  go_wp2_with fail
  generalize hT : takesOf n = T1 at HFIT HT1 hbig' ⊢
  have HTT := Lib.hid hT
  clear hT
  go_loopw [5] (fun q wr => ∃ (i : Nat) (dt : Bool), i ≤ T1 ∧ q = .int .i64 (i : Int) ∧ (p.run i).1 = true ∧ Blk wr R 66 (RCells room (p.run i).2 dt (.slice vA kept.length vc)) ∧ Keeps (fun k => k = R) W1 wr) (fun q _ => T1 - (intOf q).toNat)
  case atStart => exact ⟨0, dirty, by omega, rfl, rfl, H.out.drew, (Keeps.refl _ _).drew⟩
  case round =>
    obtain ⟨i, dt, hi, rfl, hok, hblk, hkp⟩ := hrel
    have HOK := Lib.hid hok; have HBLK := Lib.hid hblk; have HKP := Lib.hid hkp
    have hxx := HX3.out wr hkp
    clear hok hblk hkp
    have hT1 := HT1.out; have hKK := HK.out; have hWW := HW.out
    have hlft := run_left i p HL.out HL2.out
    have hwrt := run_writes i p
    by_cases hiT : i < T1
    · have hiT' : (i : Int) < (T1 : Int) := by omega
      go_wp2_with (go_at_call 83; refine (rtakes_any A n c wr (by have := HN.out; omega)).mono ?_; rintro e w4 ⟨rfl, hw4⟩; subst hw4; rw [HTT.out])
      refine (rwrite_any _ R room (p.run i).2 dt _ HBLK.out hlft.1 hlft.2 (by omega)).mono ?_
      rintro e w4 ⟨rfl, hb4, hk4⟩
      have HB4 := Lib.hid hb4; have HK4 := Lib.hid (HKP.out.trans hk4 (fun _ _ e => e))
      have hrs : p.run (i + 1) = (p.run i).2.run 1 := by rw [PW.run_succ, if_pos HOK.out]
      have HRS := Lib.hid hrs
      clear hb4 hk4 hrs hxx
      cases hc : ((p.run i).2.run 1).1
      · have HC := Lib.hid hc
        clear hc
        go_wp2_with fail
        rw [HTT.out]
        have hno : (p.run (i + 1)).1 = false := by rw [HRS.out]; exact HC.out
        have htot : p.run (T1 + 1 + takesOf kept.length) = p.run (i + 1) := run_pre_no (by omega) hno
        go_ret
        refine ⟨by unfold rsE; rw [if_neg HFIT.out, htot, if_neg (by rw [hno]; decide)]; rfl, ⟨dt, .slice vA kept.length vc, ?_, ?_, ⟨HVR.out, Or.inl rfl⟩⟩, (Keeps.of_below HB1.out).trans HK4.out (fun _ _ e => e)⟩
        · unfold rsP; rw [if_neg HFIT.out, htot, HRS.out]; exact HB4.out
        · unfold rsK; rw [if_neg HFIT.out, if_neg (by rw [run_pre_no (show i + 1 ≤ T1 + 1 by omega) hno, hno]; decide)]; exact HV.out.keeps HK4.out (fun k e e2 => HVR.out (by rw [e, e2]))
      · have HC := Lib.hid hc
        clear hc
        have hp1 : (p.run (i + 1)).1 = true := by rw [HRS.out]; exact HC.out
        rw [← HRS.out] at HB4
        have HP1 := Lib.hid hp1
        clear hp1
        cases dt
        · have k4 : w4.cell? ⟨R, 4, none⟩ = some (.bool false) := (HB4.out.cell 4).trans rfl
          have f4 : w4.frozen? ⟨R, 4, none⟩ = false := HB4.out.frozen 4
          have kx := HX3.out w4 HK4.out
          go_wp2_with (go_at_call 85; refine (solid_any w4 _ A n c b i HN1.out (by omega) (HRD.out w4 HK4.out)).mono ?_; rintro e wS ⟨⟨bs, rfl⟩, hwS⟩; subst hwS)
          go_roundw
          case rel => exact ⟨i + 1, bs, hiT, by go_num, HP1.out, HB4.out.set_ 4 (.bool bs), HK4.out.setCell (p := ⟨R, 4, none⟩) rfl _⟩
          case measure => simp [intOf]; omega
        · have k4 : w4.cell? ⟨R, 4, none⟩ = some (.bool true) := (HB4.out.cell 4).trans rfl
          have f4 : w4.frozen? ⟨R, 4, none⟩ = false := HB4.out.frozen 4
          go_wp2_with fail
          go_roundw
          case rel => exact ⟨i + 1, true, hiT, by go_num, HP1.out, HB4.out.set_ 4 (.bool true), HK4.out.setCell (p := ⟨R, 4, none⟩) rfl _⟩
          case measure => simp [intOf]; omega
    · obtain rfl : i = T1 := by omega
      go_wp2_with (go_at_call 83; refine (rtakes_any A n c wr (by have := HN.out; omega)).mono ?_; rintro e w4 ⟨rfl, hw4⟩; subst hw4; rw [HTT.out])
      refine (rwrite_any _ R room (p.run i).2 dt _ HBLK.out hlft.1 hlft.2 (by omega)).mono ?_
      rintro e w4 ⟨rfl, hb4, hk4⟩
      have HB4 := Lib.hid hb4; have HK4 := Lib.hid (HKP.out.trans hk4 (fun _ _ e => e))
      have hrs : p.run (i + 1) = (p.run i).2.run 1 := by rw [PW.run_succ, if_pos HOK.out]
      have HRS := Lib.hid hrs
      clear hb4 hk4 hrs hxx
      cases hc : ((p.run i).2.run 1).1
      · have HC := Lib.hid hc
        clear hc
        go_wp2_with fail
        rw [HTT.out]
        have hno : (p.run (i + 1)).1 = false := by rw [HRS.out]; exact HC.out
        have htot : p.run (i + 1 + takesOf kept.length) = p.run (i + 1) := run_pre_no (by omega) hno
        go_ret
        refine ⟨by unfold rsE; rw [if_neg HFIT.out, htot, if_neg (by rw [hno]; decide)]; rfl, ⟨dt, .slice vA kept.length vc, ?_, ?_, ⟨HVR.out, Or.inl rfl⟩⟩, (Keeps.of_below HB1.out).trans HK4.out (fun _ _ e => e)⟩
        · unfold rsP; rw [if_neg HFIT.out, htot, HRS.out]; exact HB4.out
        · unfold rsK; rw [if_neg HFIT.out, if_neg (by rw [hno]; decide)]; exact HV.out.keeps HK4.out (fun k e e2 => HVR.out (by rw [e, e2]))
      · have HC := Lib.hid hc
        clear hc
        have hp1 : (p.run (i + 1)).1 = true := by rw [HRS.out]; exact HC.out
        rw [← HRS.out] at HB4
        have HP1 := Lib.hid hp1
        clear hp1 hlft hwrt
        obtain ⟨p3, hp3⟩ : ∃ p3, p3 = (p.run (i + 1)).2 := ⟨_, rfl⟩
        rw [← hp3] at HB4
        have HP3 := Lib.hid hp3
        clear hp3
        have k5 : w4.cell? ⟨R, 5, none⟩ = some (.slice vA kept.length vc) := (HB4.out.cell 5).trans rfl
        have hbq : Below w4.heap.size w4 (w4.alloc (.cells #[] 5)) := (Below.refl _ _).alloc (Nat.le_refl _) _
        have hkq : Keeps (fun k => k = R) W1 (w4.alloc (.cells #[] 5)) := HK4.out.alloc _
        have HKQ := Lib.hid hkq
        have kx := HX3.out _ hkq
        have HRQ := Lib.hid (HRD.out _ hkq)
        have HBQ := Lib.hid (HB4.out.below hbq HB4.out.lt)
        have HSZ := Lib.hid (show w.heap.size ≤ w4.heap.size from Nat.le_trans HB1.out.size HK4.out.size)
        have HE := Lib.hid (Own.new_ w4 B (by have := HSZ.out; have := HBB.out; omega) [] (by simp) #[] rfl)
        clear hbq hkq
        go_upto_region 14 with fail
        iterate 16 go_step
        refine app_bytes rfl (.tmp 53) (.tmp 55) rfl B (.slice (some ⟨w4.heap.size, 0, none⟩) 0 0) [] rfl HE.out w.heap.size A n c b rfl HRQ.out (by simp only [List.length_nil]; have := HN1.out; omega) (by have := HSZ.out; have := HBB.out; simp; omega) ?_
        intro v6 w6 hown6 hg6 hat6
        rw [List.nil_append] at hown6
        have HO6 := Lib.hid hown6
        have hr6 : R < w4.heap.size := by have := HSZ.out; have := HRL.out; omega
        have HVR6 := Lib.hid (own_ne6 hat6 hr6 (by simp; omega))
        have HGE6 := Lib.hid (own_ge6 hat6 HSZ.out (by have := HSZ.out; simp; omega))
        have hb6 : Blk w6 R 66 (RCells room p3 dt (.slice vA kept.length vc)) := blk_app HBQ.out hg6 hr6
        have HB6 := Lib.hid hb6
        have HK6 := Lib.hid (keeps_app HKQ.out hg6 HK4.out.size)
        have f5 := hb6.frozen 5
        have f4 := hb6.frozen 4
        have k5' : w6.cell? ⟨R, 5, none⟩ = some (.slice vA kept.length vc) := (hb6.cell 5).trans rfl
        have k4' : w6.cell? ⟨R, 4, none⟩ = some (.bool dt) := (hb6.cell 4).trans rfl
        obtain ⟨A6, c6, rfl⟩ := hown6.shape
        clear hown6 hg6 hat6 hb6 k5 kx hr6
        go_wp2_with fail
        obtain ⟨W7, hW7⟩ : ∃ W7, W7 = (w6.setCell ⟨R, 5, none⟩ (.slice A6 b.length c6)).setCell ⟨R, 4, none⟩ (.bool false) := ⟨_, rfl⟩
        have hb7 : Blk W7 R 66 (RCells room p3 false (.slice A6 b.length c6)) := by rw [hW7]; exact (HB6.out.set_ 5 (.slice A6 b.length c6)).set_ 4 (.bool false)
        have hk67 : Keeps (fun k => k = R) w6 W7 := by rw [hW7]; exact ((Keeps.refl (fun k => k = R) w6).setCell (p := ⟨R, 5, none⟩) rfl _).setCell (p := ⟨R, 4, none⟩) rfl _
        have HB7 := Lib.hid hb7; have HK7 := Lib.hid (HK6.out.trans hk67 (fun _ _ e => e)); have HO7 := Lib.hid (HO6.out.keeps hk67 (fun k e e2 => HVR6.out (by rw [e, e2])))
        rw [← hW7]
        clear hW7 hb7 hk67 f5 f4 k5' k4'
        obtain ⟨T2, hT2⟩ : ∃ T2, takesOf kept.length = T2 := ⟨_, rfl⟩
        have hT512 : T2 ≤ 512 := by rw [← hT2]; exact hKK
        have hkl : kept.length ≤ 16384 := by unfold takesOf at hKK; omega
        have HNK := Lib.hid hT2
        clear hT2 hKK
        go_loopw [7] (fun q wr => ∃ (j : Nat) (dt2 : Bool), j ≤ T2 ∧ q = .int .i64 (j : Int) ∧ Blk wr R 66 (RCells room p3 dt2 (.slice A6 b.length c6)) ∧ Keeps (fun k => k = R) W7 wr) (fun q _ => T2 - (intOf q).toNat)
        case atStart => exact ⟨0, false, by omega, rfl, HB7.out, Keeps.refl _ _⟩
        case round =>
          obtain ⟨j, dt2, hj, rfl, hbl, hkl2⟩ := hrel
          have HBL := Lib.hid hbl; have HKL := Lib.hid hkl2
          have HOR := Lib.hid (HV.out.keeps (HK7.out.trans hkl2 (fun _ _ e => e)) (fun k e e2 => HVR.out (by rw [e, e2]))).rd
          clear hbl hkl2
          by_cases hjT : j < T2
          · have hjT' : (j : Int) < (T2 : Int) := by omega
            cases dt2
            · have k4 : wr.cell? ⟨R, 4, none⟩ = some (.bool false) := (HBL.out.cell 4).trans rfl
              have f4 : wr.frozen? ⟨R, 4, none⟩ = false := HBL.out.frozen 4
              go_wp2_with (first
                | (go_at_call 83; refine (rtakes_any vA kept.length vc wr (by omega)).mono ?_; rintro e wS ⟨rfl, hwS⟩; subst hwS; rw [HNK.out])
                | (go_at_call 85; refine (solid_any _ _ vA kept.length vc kept j (by omega) (by omega) HOR.out).mono ?_; rintro e wS ⟨⟨bs, rfl⟩, hwS⟩; subst hwS))
              go_roundw
              case rel => exact ⟨j + 1, bs, hjT, by go_num, HBL.out.set_ 4 (.bool bs), HKL.out.setCell (p := ⟨R, 4, none⟩) rfl _⟩
              case measure => simp [intOf]; omega
            · have k4 : wr.cell? ⟨R, 4, none⟩ = some (.bool true) := (HBL.out.cell 4).trans rfl
              have f4 : wr.frozen? ⟨R, 4, none⟩ = false := HBL.out.frozen 4
              go_wp2_with (go_at_call 83; refine (rtakes_any vA kept.length vc wr (by omega)).mono ?_; rintro e wS ⟨rfl, hwS⟩; subst hwS; rw [HNK.out])
              go_roundw
              case rel => exact ⟨j + 1, true, hjT, by go_num, HBL.out.set_ 4 (.bool true), HKL.out.setCell (p := ⟨R, 4, none⟩) rfl _⟩
              case measure => simp [intOf]; omega
          · obtain rfl : j = T2 := by omega
            have HK8 := Lib.hid (HK7.out.trans HKL.out (fun _ _ e => e)); have HO8 := Lib.hid (HO7.out.keeps HKL.out (fun k e e2 => HVR6.out (by rw [e, e2])))
            go_wp2_with (go_at_call 83; refine (rtakes_any vA kept.length vc wr (by omega)).mono ?_; rintro e wS ⟨rfl, hwS⟩; rw [hwS, HNK.out])
            have hp3l := run_left (i + 1) p HL.out HL2.out
            have hp3w := run_writes (i + 1) p
            rw [← HP3.out] at hp3l hp3w
            have HP3L := Lib.hid hp3l; have HP3W := Lib.hid hp3w
            clear hp3l hp3w hj
            go_loopw [8] (fun q wz => ∃ (m : Nat) (dt3 : Bool), m ≤ j ∧ q = .int .i64 (m : Int) ∧ (p3.run m).1 = true ∧ Blk wz R 66 (RCells room (p3.run m).2 dt3 (.slice A6 b.length c6)) ∧ Keeps (fun k => k = R) wr wz) (fun q _ => j - (intOf q).toNat)
            case atStart => exact ⟨0, dt2, by omega, rfl, rfl, HBL.out, Keeps.refl _ _⟩
            case round =>
              obtain ⟨m, dt3, hm, rfl, hok3, hbl3, hk3⟩ := hrel
              have HOK3 := Lib.hid hok3; have HBL3 := Lib.hid hbl3; have HK3 := Lib.hid hk3
              clear hok3 hbl3 hk3
              have hadd : ∀ q, p.run (i + 1 + q) = p3.run q := fun q => by rw [PW.run_add, if_pos HP1.out, ← HP3.out]
              have HADD := Lib.hid hadd
              have hlft := run_left m p3 HP3L.out.1 HP3L.out.2
              have hwrt := run_writes m p3
              have hw3 := HP3W.out
              clear hadd
              by_cases hmj : m < j
              · have hmj' : (m : Int) < (j : Int) := by omega
                go_wp2_with (go_at_call 83; refine (rtakes_any vA kept.length vc _ (by omega)).mono ?_; rintro e wS ⟨rfl, hwS⟩; rw [hwS, HNK.out])
                refine (rwrite_any _ R room (p3.run m).2 dt3 _ HBL3.out hlft.1 hlft.2 (by omega)).mono ?_
                rintro e w9 ⟨rfl, hb9, hk9⟩
                have HB9 := Lib.hid hb9; have HK9 := Lib.hid (HK3.out.trans hk9 (fun _ _ e => e))
                have hrs : p3.run (m + 1) = (p3.run m).2.run 1 := by rw [PW.run_succ, if_pos HOK3.out]
                have HRS3 := Lib.hid hrs
                clear hb9 hk9 hrs hlft hwrt hw3
                cases hc : ((p3.run m).2.run 1).1
                · have HC3 := Lib.hid hc
                  clear hc
                  go_wp2_with fail
                  rw [HTT.out]
                  have hno : (p.run (i + 1 + (m + 1))).1 = false := by rw [HADD.out, HRS3.out]; exact HC3.out
                  have htot : p.run (i + 1 + takesOf kept.length) = p.run (i + 1 + (m + 1)) := run_pre_no (by rw [HNK.out]; omega) hno
                  go_ret
                  refine ⟨by unfold rsE; rw [if_neg HFIT.out, htot, if_neg (by rw [hno]; decide)]; rfl, ⟨dt3, .slice A6 b.length c6, ?_, ?_, ⟨HVR6.out, Or.inr HGE6.out⟩⟩, (Keeps.of_below HB1.out).trans (HK8.out.trans HK9.out (fun _ _ e => e)) (fun _ _ e => e)⟩
                  · unfold rsP; rw [if_neg HFIT.out, htot, HADD.out, HRS3.out]; exact HB9.out
                  · unfold rsK; rw [if_neg HFIT.out, if_pos HP1.out]; exact HO8.out.keeps HK9.out (fun k e e2 => HVR6.out (by rw [e, e2]))
                · have HC3 := Lib.hid hc
                  clear hc
                  have hp1 : (p3.run (m + 1)).1 = true := by rw [HRS3.out]; exact HC3.out
                  rw [← HRS3.out] at HB9
                  have HP4 := Lib.hid hp1
                  clear hp1
                  go_wp2_with fail
                  go_roundw
                  case rel => exact ⟨m + 1, dt3, hmj, by go_num, HP4.out, HB9.out, HK9.out⟩
                  case measure => simp [intOf]; omega
              · obtain rfl : m = j := by omega
                have k4 : wr.cell? ⟨R, 4, none⟩ = some (.bool dt3) := (HBL3.out.cell 4).trans rfl
                have f4 : wr.frozen? ⟨R, 4, none⟩ = false := HBL3.out.frozen 4
                go_wp2_with (go_at_call 83; refine (rtakes_any vA kept.length vc _ (by omega)).mono ?_; rintro e wS ⟨rfl, hwS⟩; rw [hwS, HNK.out])
                rw [HTT.out]
                have htot : p.run (i + 1 + takesOf kept.length) = p3.run m := by rw [HNK.out, HADD.out]
                go_ret
                refine ⟨by unfold rsE; rw [if_neg HFIT.out, htot, if_pos HOK3.out]; rfl, ⟨false, .slice A6 b.length c6, ?_, ?_, ⟨HVR6.out, Or.inr HGE6.out⟩⟩, (Keeps.of_below HB1.out).trans (HK8.out.trans (HK3.out.setCell (p := ⟨R, 4, none⟩) rfl _) (fun _ _ e => e)) (fun _ _ e => e)⟩
                · unfold rsP; rw [if_neg HFIT.out, htot]; exact HBL3.out.set_ 4 (.bool false)
                · unfold rsK; rw [if_neg HFIT.out, if_pos HP1.out]; exact HO8.out.keeps (HK3.out.setCell (p := ⟨R, 4, none⟩) rfl _) (fun k e e2 => HVR6.out (by rw [e, e2]))
end Go.Proofs.Ytlabebapjhhkaaa
namespace Go.Proofs.Ytlabebapjhhkaaa
open Go.RowKit
theorem rnew_any (w : World) (n : Int) (hn : n ≤ 9223372036854775807) (hn0 : -9223372036854775808 ≤ n) :
    Calls Try.prog 26 #[.int .i64 n] w fun e w' => e = .returned (.pointer (some ⟨w.heap.size, 0, none⟩)) ∧ w' = w.alloc (.cells (RCells (min (max n 0) 512).toNat ⟨-1, false, 0⟩ false (.slice none 0 0)) 66) := by
  by_cases h1 : n < 0
  · have hm : (min (max n 0) 512).toNat = 0 := by omega
    rw [hm]
    clear hm
    go_enter Try.func26, Try.ntmps26
    go_wp2
    go_ret
    exact ⟨rfl, rfl⟩
  · by_cases h2 : (512 : Int) < n
    · have hm : (min (max n 0) 512).toNat = 512 := by omega
      rw [hm]
      clear hm
      go_enter Try.func26, Try.ntmps26
      go_wp2
      go_ret
      exact ⟨rfl, rfl⟩
    · obtain ⟨m, rfl⟩ : ∃ m : Nat, n = m := ⟨n.toNat, by omega⟩
      have hm : (min (max (m : Int) 0) 512).toNat = m := by omega
      rw [hm]
      clear hm
      go_enter Try.func26, Try.ntmps26
      go_wp2
      go_ret
      exact ⟨rfl, rfl⟩
/-- The program's Save and the reference's answer alike. -/
theorem save_ref {s : DS} {room side : Nat} {kept b : List UInt8} (hok : SOk s room side kept) : (s.save room side kept b).1 = rsE s.pw room (takesOf b.length) (takesOf kept.length) ∧ (s.save room side kept b).2.pw = rsP s.pw room (takesOf b.length) (takesOf kept.length) ∧
    ∃ side', SOk (s.save room side kept b).2 room side' (rsK s.pw room (takesOf b.length) kept b) := by
  by_cases hbig : room < takesOf b.length
  · have hs : s.save room side kept b = (7, s) := by unfold DS.save; rw [if_pos hbig]
    rw [hs]
    unfold rsE rsP rsK
    rw [if_pos hbig, if_pos hbig, if_pos hbig]
    exact ⟨rfl, rfl, side, hok⟩
  · have hsv := save_spec (b := b) hok hbig
    unfold rsE rsP rsK
    rw [if_neg hbig, if_neg hbig, if_neg hbig]
    refine ⟨hsv.pw.1, hsv.pw.2, ?_⟩
    by_cases hc : (s.pw.run (takesOf b.length + 1)).1 = true
    · rw [if_pos hc]; exact ⟨_, (hsv.new hc).1⟩
    · rw [if_neg hc]; exact ⟨_, (hsv.old (by simpa using hc)).1⟩
/-- A slot and its reference, apart from each other; both lie from B on. -/
structure Duo (w : World) (B S R room : Nat) (s : DS) (p : PW) (kept : List UInt8) : Prop where
  ex : ∃ F v dirty, SlotIs w F S room s ∧ (∀ k, F k → B ≤ k ∧ k < w.heap.size) ∧ ¬ F R ∧ Blk w R 66 (RCells room p dirty v) ∧ Own w B v kept ∧ v.ownBlock ≠ some R ∧ ∀ k, v.ownBlock = some k → ¬ F k
  base : B ≤ R
  size : B ≤ w.heap.size
section
variable {w w' : World} {B S R room : Nat} {s : DS} {p : PW} {kept : List UInt8}
theorem Duo.below (h : Duo w B S R room s p kept) (hb : Below w.heap.size w w') : Duo w' B S R room s p kept := by
  obtain ⟨⟨F, v, dirty, h1, h2, h3, h4, h5, h6, h7⟩, hB, hs⟩ := h
  exact ⟨⟨F, v, dirty, h1.below hb, fun k e => ⟨(h2 k e).1, Nat.lt_of_lt_of_le (h2 k e).2 hb.size⟩, h3, h4.below hb h4.lt, h5.below hb, h6, h7⟩, hB, Nat.le_trans hs hb.size⟩
theorem Duo.slot (h : Duo w B S R room s p kept) : SlotIs w (fun k => B ≤ k) S room s := by
  obtain ⟨⟨F, v, dirty, h1, h2, _⟩, _, _⟩ := h
  exact h1.weaken fun k e => (h2 k e).1
/-- A Save of an argument. -/
theorem Duo.save (side : Nat) (kk b : List UInt8) (A : Option Addr) (n c : Nat) (h : Duo w B S R room s p kept) (hok : SOk s room side kk) (hr : Rd w B A n b) (hnc : n ≤ c) (hwr : s.writes ≤ 4611686018400000000) (hn : n ≤ 140737488351232) :
    Calls Try.prog 76 #[.pointer (some ⟨S, 0, none⟩), .slice A n c] w fun e w' => e = .returned (.int .i64 (s.save room side kk b).1) ∧ Duo w' B S R room (s.save room side kk b).2 p kept ∧ Below B w w' := by
  obtain ⟨⟨F, v, dirty, h1, h2, h3, h4, h5, h6, h7⟩, hB, hs⟩ := h
  refine (Save_any w F S room s side kk b A n c h1 hok (hr.more hs) hnc (fun h0 ad e e2 => ?_) hwr (by omega)).mono ?_
  · obtain ⟨ad', e1, hb, _⟩ := hr.2 h0
    rw [e] at e1
    cases e1
    have := (h2 _ e2).1
    omega
  · rintro e w' ⟨rfl, g1, g2⟩
    refine ⟨rfl, ⟨⟨fun k => Grown F w k ∧ k < w'.heap.size, v, dirty, g1.tight.weaken fun k e => ⟨e.1, by obtain ⟨o, e1, _⟩ := e.2; exact lt_of_get e1⟩, fun k e => ⟨?_, e.2⟩, fun e => ?_, h4.keeps g2 h3, h5.keeps g2 h7, h6, fun k e e2 => ?_⟩, hB, Nat.le_trans hs g2.size⟩, g2.below (fun k e => (h2 k e).1) hs⟩
    · rcases e.1 with e1 | e1
      · exact (h2 k e1).1
      · omega
    · rcases e.1 with e1 | e1
      · exact h3 e1
      · have := h4.lt; omega
    · rcases e2.1 with e1 | e1
      · exact h7 k e e1
      · have := (h5.lt k e).2; omega
/-- The reference's Save of the same. -/
theorem Duo.ref (b : List UInt8) (A : Option Addr) (n c : Nat) (N y : Int) (h : Duo w B S R room s p kept) (hr : Rd w B A n b) (hn : n ≤ 140737488351232) (hrm : room ≤ 512) (hk : takesOf kept.length ≤ 512) (hl : -1 ≤ p.left) (hl2 : p.left ≤ 9223372036854775807) (hw : p.writes ≤ 4611686018400000000) :
    Calls Try.prog 56 #[.pointer (some ⟨R, 0, none⟩), .agg #[.int .i64 1, .int .i64 N, .int .u8 y, .slice A n c]] w fun e w' => e = .returned (.int .i64 (rsE p room (takesOf n) (takesOf kept.length))) ∧
      Duo w' B S R room s (rsP p room (takesOf n) (takesOf kept.length)) (rsK p room (takesOf n) kept b) ∧ Below B w w' := by
  obtain ⟨⟨F, v, dirty, h1, h2, h3, h4, h5, h6, h7⟩, hB, hs⟩ := h
  refine (RefSave_any w R room p dirty v kept b B A n c N y h4 h5 h6 hs (hr.more hs) (fun h0 ad e e2 => ?_) hn hrm hk hl hl2 hw).mono ?_
  · obtain ⟨ad', e1, hb, _⟩ := hr.2 h0
    rw [e] at e1
    cases e1
    omega
  · rintro e w' ⟨rfl, ⟨dirty', v', g1, g2, g3, g4⟩, g5⟩
    refine ⟨rfl, ⟨⟨F, v', dirty', h1.keeps g5 (fun k e e2 => h3 (by rw [← e2]; exact e)), fun k e => ⟨(h2 k e).1, Nat.lt_of_lt_of_le (h2 k e).2 g5.size⟩, h3, g1, g2, g3, fun k e e2 => ?_⟩, hB, Nat.le_trans hs g5.size⟩, g5.below (fun k e => by rw [e]; exact hB) hs⟩
    rcases g4 with rfl | g4
    · exact h7 k e e2
    · have := g4 k e; have := (h2 k e2).2; omega
/-- What is read of the reference. -/
theorem Duo.cells (h : Duo w B S R room s p kept) : w.cell? ⟨R, 2, none⟩ = some (.int .i64 (p.writes : Int)) ∧ w.cell? ⟨R, 3, none⟩ = some (.bool p.gone) ∧ ∃ A c, w.cell? ⟨R, 5, none⟩ = some (.slice A kept.length c) ∧ Rd w w.heap.size A kept.length kept := by
  obtain ⟨⟨F, v, dirty, h1, h2, h3, h4, h5, h6, h7⟩, _, _⟩ := h
  obtain ⟨A, c, rfl⟩ := h5.shape
  exact ⟨(h4.cell 2).trans rfl, (h4.cell 3).trans rfl, A, c, (h4.cell 5).trans rfl, h5.rd⟩
theorem Duo.rlt (h : Duo w B S R room s p kept) : R < w.heap.size := by
  obtain ⟨⟨F, v, dirty, h1, h2, h3, h4, h5, h6, h7⟩, _, _⟩ := h
  exact h4.lt
end
/-- The two, new. -/
theorem Duo.new {w0 w : World} {S room : Nat} {s : DS} (h : SlotIs w (fun k => w0.heap.size ≤ k) S room s) (hb : w0.heap.size ≤ w.heap.size) :
    Duo (w.alloc (.cells (RCells room ⟨-1, false, 0⟩ false (.slice none 0 0)) 66)) w0.heap.size S w.heap.size room s ⟨-1, false, 0⟩ [] :=
  ⟨⟨fun k => w0.heap.size ≤ k ∧ k < w.heap.size, _, false, h.before _, fun k e => ⟨e.1, by simp; omega⟩, fun e => Nat.lt_irrefl _ e.2, Blk.new _ _ _, Own.nil_ _ _, by simp [Value.ownBlock], fun k e => by cases e⟩, hb, by simp; omega⟩
end Go.Proofs.Ytlabebapjhhkaaa
namespace Go.Proofs.Ytlabebapjhhkaaa
open Go.RowKit
abbrev opCells (k N : Int) (y : Value) (A : Option Addr) (n c : Nat) : Array Value := #[.int .i64 k, .int .i64 N, y, .slice A n c]
section
variable (w : World) (R room : Nat) (p : PW) (dirty : Bool) (v : Value) (A : Option Addr) (n c : Nat) (N : Int) (x : UInt8)
set_option maxRecDepth 100000 in
theorem RefStart_any (h : Blk w R 66 (RCells room p dirty v)) :
    Calls Try.prog 56 #[.pointer (some ⟨R, 0, none⟩), .agg (opCells 2 N (.int .u8 x.toNat) A n c)] w fun e w' => e = .returned (.int .i64 0) ∧
      Blk w' R 66 (RCells room ⟨-1, false, p.writes⟩ false v) ∧ Keeps (fun k => k = R) w w' := by
  obtain ⟨W1, hW1⟩ : ∃ W1, W1 = w.alloc (.cells (opCells 2 N (.int .u8 x.toNat) A n c) 89) := ⟨_, rfl⟩
  have hb1 : Below w.heap.size w W1 := by rw [hW1]; exact (Below.refl _ _).alloc (Nat.le_refl _) _
  have hX : Blk W1 w.heap.size 89 (opCells 2 N (.int .u8 x.toNat) A n c) := by rw [hW1]; exact Blk.new _ _ _
  have hR := h.below hb1 h.lt
  have k0 : W1.cell? ⟨w.heap.size, 0, none⟩ = some (.int .i64 2) := (hX.cell 0).trans rfl
  have k1 : W1.cell? ⟨R, 1, none⟩ = some (.int .i64 p.left) := (hR.cell 1).trans rfl
  have k3 : W1.cell? ⟨R, 3, none⟩ = some (.bool p.gone) := (hR.cell 3).trans rfl
  have k4 : W1.cell? ⟨R, 4, none⟩ = some (.bool dirty) := (hR.cell 4).trans rfl
  have f1 := hR.frozen 1; have f3 := hR.frozen 3; have f4 := hR.frozen 4
  have HB1 := Lib.hid hb1; have HR := Lib.hid hR; have HW1 := Lib.hid hW1
  clear h hb1 hX hR hW1
  go_enter Try.func56, Try.ntmps56
  go_upto_region 1 with fail
  rw [← HW1.out]
  go_wp2_with fail
  go_ret
  exact ⟨rfl, ((HR.out.set_ 1 (.int .i64 (-1))).set_ 3 (.bool false)).set_ 4 (.bool false), (Keeps.of_below HB1.out).trans ((((Keeps.refl (fun k => k = R) W1).setCell (p := ⟨R, 1, none⟩) rfl _).setCell (p := ⟨R, 3, none⟩) rfl _).setCell (p := ⟨R, 4, none⟩) rfl _) (fun _ _ e => e)⟩
set_option maxRecDepth 100000 in
theorem RefFuse_any (h : Blk w R 66 (RCells room p dirty v)) :
    Calls Try.prog 56 #[.pointer (some ⟨R, 0, none⟩), .agg (opCells 3 N (.int .u8 x.toNat) A n c)] w fun e w' => e = .returned (.int .i64 0) ∧
      Blk w' R 66 (RCells room ⟨max N 0, p.gone, p.writes⟩ dirty v) ∧ Keeps (fun k => k = R) w w' := by
  obtain ⟨W1, hW1⟩ : ∃ W1, W1 = w.alloc (.cells (opCells 3 N (.int .u8 x.toNat) A n c) 89) := ⟨_, rfl⟩
  have hb1 : Below w.heap.size w W1 := by rw [hW1]; exact (Below.refl _ _).alloc (Nat.le_refl _) _
  have hX : Blk W1 w.heap.size 89 (opCells 3 N (.int .u8 x.toNat) A n c) := by rw [hW1]; exact Blk.new _ _ _
  have hR := h.below hb1 h.lt
  have hne : w.heap.size ≠ R := by have := h.lt; omega
  have k0 : W1.cell? ⟨w.heap.size, 0, none⟩ = some (.int .i64 3) := (hX.cell 0).trans rfl
  have kn : W1.cell? ⟨w.heap.size, 1, none⟩ = some (.int .i64 N) := (hX.cell 1).trans rfl
  have k1 : W1.cell? ⟨R, 1, none⟩ = some (.int .i64 p.left) := (hR.cell 1).trans rfl
  have f1 := hR.frozen 1
  have kn2 : (W1.setCell ⟨R, 1, none⟩ (.int .i64 N)).cell? ⟨w.heap.size, 1, none⟩ = some (.int .i64 N) := ((hX.far (p := ⟨R, 1, none⟩) hne _).cell 1).trans rfl
  have k12 : (W1.setCell ⟨R, 1, none⟩ (.int .i64 N)).cell? ⟨R, 1, none⟩ = some (.int .i64 N) := ((hR.set_ 1 (.int .i64 N)).cell 1).trans rfl
  have f12 := (hR.set_ 1 (.int .i64 N)).frozen 1
  have HB1 := Lib.hid hb1; have HR := Lib.hid hR; have HW1 := Lib.hid hW1
  clear h hb1 hX hR hW1 hne
  by_cases hN : N < 0
  · have hm : max N 0 = 0 := by omega
    rw [hm]
    clear hm
    go_enter Try.func56, Try.ntmps56
    go_upto_region 1 with fail
    rw [← HW1.out]
    go_wp2_with fail
    go_ret
    exact ⟨rfl, (HR.out.set_ 1 (.int .i64 N)).set_ 1 (.int .i64 0), (Keeps.of_below HB1.out).trans (((Keeps.refl (fun k => k = R) W1).setCell (p := ⟨R, 1, none⟩) rfl _).setCell (p := ⟨R, 1, none⟩) rfl _) (fun _ _ e => e)⟩
  · have hm : max N 0 = N := by omega
    rw [hm]
    clear hm
    go_enter Try.func56, Try.ntmps56
    go_upto_region 1 with fail
    rw [← HW1.out]
    go_wp2_with fail
    go_ret
    exact ⟨rfl, HR.out.set_ 1 (.int .i64 N), (Keeps.of_below HB1.out).trans ((Keeps.refl (fun k => k = R) W1).setCell (p := ⟨R, 1, none⟩) rfl _) (fun _ _ e => e)⟩
set_option maxRecDepth 100000 in
theorem RefNone_any (k : Int) (h1 : k ≠ 1) (h2 : k ≠ 2) (h3 : k ≠ 3) (h4 : k ≠ 4) :
    Calls Try.prog 56 #[.pointer (some ⟨R, 0, none⟩), .agg (opCells k N (.int .u8 x.toNat) A n c)] w fun e w' => e = .returned (.int .i64 0) ∧ Below w.heap.size w w' := by
  obtain ⟨W1, hW1⟩ : ∃ W1, W1 = w.alloc (.cells (opCells k N (.int .u8 x.toNat) A n c) 89) := ⟨_, rfl⟩
  have hb1 : Below w.heap.size w W1 := by rw [hW1]; exact (Below.refl _ _).alloc (Nat.le_refl _) _
  have hX : Blk W1 w.heap.size 89 (opCells k N (.int .u8 x.toNat) A n c) := by rw [hW1]; exact Blk.new _ _ _
  have k0 : W1.cell? ⟨w.heap.size, 0, none⟩ = some (.int .i64 k) := (hX.cell 0).trans rfl
  have HB1 := Lib.hid hb1; have HW1 := Lib.hid hW1
  clear hb1 hX hW1
  go_enter Try.func56, Try.ntmps56
  go_upto_region 1 with fail
  rw [← HW1.out]
  go_wp2_with fail
  go_ret
  exact ⟨rfl, HB1.out⟩
set_option maxRecDepth 100000 in
theorem RefTurn_any (kept : List UInt8) (B : Nat) (h : Blk w R 66 (RCells room p dirty v)) (hv : Own w B v kept) (hvR : v.ownBlock ≠ some R) :
    Calls Try.prog 56 #[.pointer (some ⟨R, 0, none⟩), .agg (opCells 4 N (.int .u8 x.toNat) A n c)] w fun e w' => e = .returned (.int .i64 0) ∧
      Blk w' R 66 (RCells room p dirty v) ∧ Own w' B v (if 0 ≤ N ∧ N < (kept.length : Int) then turned kept N.toNat x else kept) ∧ Keeps (fun k => v.ownBlock = some k) w w' := by
  obtain ⟨W1, hW1⟩ : ∃ W1, W1 = w.alloc (.cells (opCells 4 N (.int .u8 x.toNat) A n c) 89) := ⟨_, rfl⟩
  have hb1 : Below w.heap.size w W1 := by rw [hW1]; exact (Below.refl _ _).alloc (Nat.le_refl _) _
  have hX : Blk W1 w.heap.size 89 (opCells 4 N (.int .u8 x.toNat) A n c) := by rw [hW1]; exact Blk.new _ _ _
  have hR := h.below hb1 h.lt
  have hV := hv.below hb1
  obtain ⟨vA, vc, rfl⟩ := hv.shape
  have k0 : W1.cell? ⟨w.heap.size, 0, none⟩ = some (.int .i64 4) := (hX.cell 0).trans rfl
  have kn : W1.cell? ⟨w.heap.size, 1, none⟩ = some (.int .i64 N) := (hX.cell 1).trans rfl
  have kx : W1.cell? ⟨w.heap.size, 2, none⟩ = some (.int .u8 (x.toNat : Int)) := (hX.cell 2).trans rfl
  have k5 : W1.cell? ⟨R, 5, none⟩ = some (.slice vA kept.length vc) := (hR.cell 5).trans rfl
  have HB1 := Lib.hid hb1; have HR := Lib.hid hR; have HV := Lib.hid hV; have HW1 := Lib.hid hW1; have HVR := Lib.hid hvR
  clear h hv hvR hb1 hX hR hV hW1
  by_cases hin : 0 ≤ N ∧ N < (kept.length : Int)
  · rw [if_pos hin]
    obtain ⟨j, rfl⟩ : ∃ j : Nat, N = j := ⟨N.toNat, by omega⟩
    have hj : j < kept.length := by omega
    have hj' : (j : Int) < (kept.length : Int) := by omega
    rw [Int.toNat_natCast]
    obtain ⟨g, c0, cur, e1, hg, hB, _, hcur⟩ := HV.out.blk (by omega)
    injection e1 with e1 _ e3
    subst e1 e3
    have hc : W1.cell? ⟨g, j, none⟩ = some (.int .u8 ((kept.getD j 0).toNat : Int)) := (hB.cell j).trans (hcur j hj)
    have hf : W1.frozen? ⟨g, j, none⟩ = false := hB.frozen j
    have hxor := bits_xor8 (kept.getD j 0) x
    have HJ := Lib.hid hj
    clear hin hB hcur hg hj
    go_enter Try.func56, Try.ntmps56
    go_upto_region 1 with fail
    rw [← HW1.out]
    go_wp2_with fail
    refine wp_region_q (by kernel_rfl) (by kernel_rfl) ?_
    repeat (first | go_big_quiet_skip | (go_big_quiet_want; go_big_quiet_op; first | go_big_quiet_on))
    refine wpQuiet_nil ?_
    go_wp2_with fail
    refine wp_region_qt 18 (by kernel_rfl) (by kernel_rfl) ?_
    simp only [List.take_succ_cons, List.take_zero, List.drop_succ_cons, List.drop_zero]
    repeat (first | go_big_quiet_skip | (go_big_quiet_want; go_big_quiet_op; first | go_big_quiet_on))
    refine wpQuiet_nil ?_
    go_wp2_with fail
    rw [← List.getD_eq_getElem?_getD, hxor]
    go_ret
    have hgR : R ≠ g := fun e => HVR.out (by rw [e]; rfl)
    refine ⟨rfl, ?_, ?_, (Keeps.of_below HB1.out).trans ((((Keeps.refl (fun k => (Value.slice (some ⟨g, 0, none⟩) kept.length vc).ownBlock = some k) W1).setCell (p := ⟨g, j, none⟩) rfl _).drew).drew) (fun _ _ e => e)⟩
    · exact HR.out.far (p := ⟨g, j, none⟩) hgR _
    · have h9 := HV.out.set8 j (kept.getD j 0 ^^^ x)
      unfold turned
      exact h9.drew.drew
  · rw [if_neg hin]
    by_cases hneg : N < 0
    · have h00 : (0 ≤ N) = False := by simp; omega
      have h01 : decide (0 ≤ N) = false := by simp; omega
      clear hin
      go_enter Try.func56, Try.ntmps56
      go_upto_region 1 with fail
      rw [← HW1.out]
      go_wp2_with fail
      refine wp_region_q (by kernel_rfl) (by kernel_rfl) ?_
      repeat (first | go_big_quiet_skip | (go_big_quiet_want; go_big_quiet_op; first | go_big_quiet_on))
      refine wpQuiet_nil ?_
      go_wp2_with fail
      go_ret
      exact ⟨rfl, HR.out.drew, HV.out.drew, (Keeps.of_below HB1.out).drew⟩
    · have hge : ¬ N < (kept.length : Int) := fun e => hin ⟨by omega, e⟩
      have hn0 : ¬ N < 0 := hneg
      clear hin hneg
      go_enter Try.func56, Try.ntmps56
      go_upto_region 1 with fail
      rw [← HW1.out]
      go_wp2_with fail
      refine wp_region_q (by kernel_rfl) (by kernel_rfl) ?_
      repeat (first | go_big_quiet_skip | (go_big_quiet_want; go_big_quiet_op; first | go_big_quiet_on))
      refine wpQuiet_nil ?_
      go_wp2_with fail
      go_ret
      exact ⟨rfl, HR.out.drew, HV.out.drew, (Keeps.of_below HB1.out).drew⟩
end
end Go.Proofs.Ytlabebapjhhkaaa
namespace Go.Proofs.Ytlabebapjhhkaaa
open Go.RowKit
/-- Powers that differ in their counts alone. -/
def Like (p q : PW) : Prop := p.left = q.left ∧ p.gone = q.gone
theorem Like.run (k : Nat) : ∀ {p q : PW}, Like p q → (p.run k).1 = (q.run k).1 ∧ Like (p.run k).2 (q.run k).2 := by
  induction k with
  | zero => intro p q h; exact ⟨rfl, h⟩
  | succ k ih =>
    intro p q h
    obtain ⟨h1, h2⟩ := h
    unfold PW.run
    rw [h1, h2]
    by_cases hc : (q.gone || decide (q.left = 0)) = true
    · rw [if_pos hc, if_pos hc]; exact ⟨rfl, rfl, rfl⟩
    · rw [if_neg hc, if_neg hc]; exact ih ⟨rfl, rfl⟩
theorem Like.rsE {p q : PW} (h : Like p q) (room a b : Nat) : rsE p room a b = rsE q room a b := by unfold Go.Proofs.Ytlabebapjhhkaaa.rsE; rw [(h.run _).1]
theorem Like.rsP {p q : PW} (h : Like p q) (room a b : Nat) : Like (rsP p room a b) (rsP q room a b) := by
  unfold Go.Proofs.Ytlabebapjhhkaaa.rsP
  by_cases hc : room < a
  · rw [if_pos hc, if_pos hc]; exact h
  · rw [if_neg hc, if_neg hc]; exact (h.run _).2
theorem Like.rsK {p q : PW} (h : Like p q) (room a : Nat) (kept b : List UInt8) : rsK p room a kept b = rsK q room a kept b := by unfold Go.Proofs.Ytlabebapjhhkaaa.rsK; rw [(h.run _).1]
/-- A call, as data. -/
structure SOp where
  k : Int
  n : Int
  x : UInt8
  b : List UInt8
/-- What the reference answers, its power behind it, and what is kept then. -/
def stE (p : PW) (room : Nat) (kept : List UInt8) (o : SOp) : Int := if o.k = 1 then rsE p room (takesOf o.b.length) (takesOf kept.length) else 0
def stP (p : PW) (room : Nat) (kept : List UInt8) (o : SOp) : PW :=
  if o.k = 1 then rsP p room (takesOf o.b.length) (takesOf kept.length) else if o.k = 2 then ⟨-1, false, p.writes⟩ else if o.k = 3 then ⟨max o.n 0, p.gone, p.writes⟩ else p
def stK (p : PW) (room : Nat) (kept : List UInt8) (o : SOp) : List UInt8 :=
  if o.k = 1 then rsK p room (takesOf o.b.length) kept o.b else if o.k = 4 then (if 0 ≤ o.n ∧ o.n < (kept.length : Int) then turned kept o.n.toNat o.x else kept) else kept
theorem stP_good {p : PW} {room : Nat} {kept : List UInt8} {o : SOp} (hrm : room ≤ 512) (hk : takesOf kept.length ≤ 512) (hl : -1 ≤ p.left) (hl2 : p.left ≤ 9223372036854775807) (hn : o.n ≤ 9223372036854775807) : -1 ≤ (stP p room kept o).left ∧ (stP p room kept o).left ≤ 9223372036854775807 ∧ (stP p room kept o).writes ≤ p.writes + 2000 := by
  unfold stP
  by_cases h1 : o.k = 1
  · rw [if_pos h1]
    unfold rsP
    by_cases hc : room < takesOf o.b.length
    · rw [if_pos hc]; exact ⟨hl, hl2, Nat.le_add_right _ _⟩
    · rw [if_neg hc]
      have h2 := run_left (takesOf o.b.length + 1 + takesOf kept.length) p hl hl2
      have h3 := run_writes (takesOf o.b.length + 1 + takesOf kept.length) p
      exact ⟨h2.1, h2.2, by omega⟩
  · rw [if_neg h1]
    by_cases h2 : o.k = 2
    · rw [if_pos h2]; exact ⟨by show (-1 : Int) ≤ -1; omega, by show (-1 : Int) ≤ _; omega, Nat.le_add_right _ _⟩
    · rw [if_neg h2]
      by_cases h3 : o.k = 3
      · rw [if_pos h3]; exact ⟨by show (-1 : Int) ≤ max o.n 0; omega, by show max o.n 0 ≤ _; omega, Nat.le_add_right _ _⟩
      · rw [if_neg h3]; exact ⟨hl, hl2, Nat.le_add_right _ _⟩
/-- A slot and its reference, apart from each other and from a block O. -/
structure DuoO (w : World) (B S R O room : Nat) (s : DS) (p : PW) (kept : List UInt8) : Prop where
  ex : ∃ F v dirty, SlotIs w F S room s ∧ (∀ k, F k → (B ≤ k ∧ k < w.heap.size) ∧ k ≠ O) ∧ ¬ F R ∧ Blk w R 66 (RCells room p dirty v) ∧ Own w B v kept ∧ v.ownBlock ≠ some R ∧ ∀ k, v.ownBlock = some k → ¬ F k ∧ k ≠ O
  base : B ≤ R
  size : B ≤ w.heap.size
  ne : R ≠ O
  lt : O < w.heap.size
abbrev OutO (B O : Nat) (k : Nat) : Prop := B ≤ k ∧ k ≠ O
section
variable {w w' : World} {B S R O room : Nat} {s : DS} {p : PW} {kept : List UInt8}
theorem Duo.opened (h : Duo w B S R room s p kept) (o : Obj) : DuoO (w.alloc o) B S R w.heap.size room s p kept := by
  have hb : Below w.heap.size w (w.alloc o) := (Below.refl _ _).alloc (Nat.le_refl _) _
  obtain ⟨⟨F, v, dirty, h1, h2, h3, h4, h5, h6, h7⟩, hB, hs⟩ := h
  exact ⟨⟨F, v, dirty, h1.below hb, fun k e => ⟨⟨(h2 k e).1, Nat.lt_of_lt_of_le (h2 k e).2 hb.size⟩, by have := (h2 k e).2; omega⟩, h3, h4.below hb h4.lt, h5.below hb, h6, fun k e => ⟨h7 k e, by have := (h5.lt k e).2; omega⟩⟩, hB, Nat.le_trans hs hb.size, by have := h4.lt; omega, by simp⟩
theorem DuoO.duo (h : DuoO w B S R O room s p kept) : Duo w B S R room s p kept := by
  obtain ⟨⟨F, v, dirty, h1, h2, h3, h4, h5, h6, h7⟩, hB, hs, _, _⟩ := h
  exact ⟨⟨F, v, dirty, h1, fun k e => (h2 k e).1, h3, h4, h5, h6, fun k e => (h7 k e).1⟩, hB, hs⟩
theorem DuoO.below (h : DuoO w B S R O room s p kept) (hb : Below w.heap.size w w') : DuoO w' B S R O room s p kept := by
  obtain ⟨⟨F, v, dirty, h1, h2, h3, h4, h5, h6, h7⟩, hB, hs, hne, hlt⟩ := h
  exact ⟨⟨F, v, dirty, h1.below hb, fun k e => ⟨⟨(h2 k e).1.1, Nat.lt_of_lt_of_le (h2 k e).1.2 hb.size⟩, (h2 k e).2⟩, h3, h4.below hb h4.lt, h5.below hb, h6, h7⟩, hB, Nat.le_trans hs hb.size, hne, Nat.lt_of_lt_of_le hlt hb.size⟩
/-- A call of the slot. -/
theorem DuoO.slotStep (h : DuoO w B S R O room s p kept) : ∃ F, SlotIs w F S room s ∧ (∀ k, F k → B ≤ k) ∧ ∀ w' s', SlotIs w' (Grown F w) S room s' → Keeps F w w' → DuoO w' B S R O room s' p kept ∧ Keeps (OutO B O) w w' := by
  obtain ⟨⟨F, v, dirty, h1, h2, h3, h4, h5, h6, h7⟩, hB, hs, hne, hlt⟩ := h
  refine ⟨F, h1, fun k e => (h2 k e).1.1, fun w' s' g1 g2 => ⟨⟨⟨fun k => Grown F w k ∧ k < w'.heap.size, v, dirty, g1.tight.weaken fun k e => ⟨e.1, by obtain ⟨o, e1, _⟩ := e.2; exact lt_of_get e1⟩, fun k e => ⟨⟨?_, e.2⟩, ?_⟩, fun e => ?_, h4.keeps g2 h3, h5.keeps g2 (fun k e => (h7 k e).1), h6, fun k e => ⟨fun e2 => ?_, (h7 k e).2⟩⟩, hB, Nat.le_trans hs g2.size, hne, Nat.lt_of_lt_of_le hlt g2.size⟩, g2.weaken fun k _ e => ⟨(h2 k e).1.1, (h2 k e).2⟩⟩⟩
  · rcases e.1 with e1 | e1
    · exact (h2 k e1).1.1
    · omega
  · rcases e.1 with e1 | e1
    · exact (h2 k e1).2
    · omega
  · rcases e.1 with e1 | e1
    · exact h3 e1
    · have := h4.lt; omega
  · rcases e2.1 with e1 | e1
    · exact (h7 k e).1 e1
    · have := (h5.lt k e).2; omega
/-- A call of the reference. -/
theorem DuoO.refStep (h : DuoO w B S R O room s p kept) : ∃ v dirty, Blk w R 66 (RCells room p dirty v) ∧ Own w B v kept ∧ v.ownBlock ≠ some R ∧ ∀ (w' : World) (p' : PW) (kept' : List UInt8) (v' : Value) (dirty' : Bool) (G : Nat → Prop), Blk w' R 66 (RCells room p' dirty' v') → Own w' B v' kept' → v'.ownBlock ≠ some R →
    (v' = v ∨ ∀ k, v'.ownBlock = some k → w.heap.size ≤ k) → Keeps G w w' → (∀ k, G k → k = R ∨ v.ownBlock = some k) → DuoO w' B S R O room s p' kept' ∧ Keeps (OutO B O) w w' := by
  obtain ⟨⟨F, v, dirty, h1, h2, h3, h4, h5, h6, h7⟩, hB, hs, hne, hlt⟩ := h
  refine ⟨v, dirty, h4, h5, h6, fun w' p' kept' v' dirty' G g1 g2 g3 g4 g5 g6 => ⟨⟨⟨F, v', dirty', h1.keeps g5 (fun k e e2 => ?_), fun k e => ⟨⟨(h2 k e).1.1, Nat.lt_of_lt_of_le (h2 k e).1.2 g5.size⟩, (h2 k e).2⟩, h3, g1, g2, g3, fun k e => ?_⟩, hB, Nat.le_trans hs g5.size, hne, Nat.lt_of_lt_of_le hlt g5.size⟩, g5.weaken fun k _ e => ?_⟩⟩
  · rcases g6 k e2 with rfl | e3
    · exact h3 e
    · exact (h7 k e3).1 e
  · rcases g4 with rfl | g4
    · exact h7 k e
    · have h8 := g4 k e
      exact ⟨fun e2 => by have := (h2 k e2).1.2; omega, by omega⟩
  · rcases g6 k e with rfl | e3
    · exact ⟨hB, hne⟩
    · exact ⟨(h5.lt k e3).1, (h7 k e3).2⟩
/-- The reference's Do. -/
theorem DuoO.do_ (o : SOp) (A : Option Addr) (c : Nat) (h : DuoO w B S R O room s p kept) (hr : Rd w B A o.b.length o.b) (hn : o.b.length ≤ 140737488351232) (hrm : room ≤ 512) (hk : takesOf kept.length ≤ 512) (hl : -1 ≤ p.left) (hl2 : p.left ≤ 9223372036854775807) (hw : p.writes ≤ 4611686018400000000) :
    Calls Try.prog 56 #[.pointer (some ⟨R, 0, none⟩), .agg #[.int .i64 o.k, .int .i64 o.n, .int .u8 o.x.toNat, .slice A o.b.length c]] w fun e w' => e = .returned (.int .i64 (stE p room kept o)) ∧ DuoO w' B S R O room s (stP p room kept o) (stK p room kept o) ∧ Keeps (OutO B O) w w' := by
  obtain ⟨v, dirty, h4, h5, h6, hst⟩ := h.refStep
  have hB := h.base; have hs := h.size
  obtain ⟨k, N, x, b⟩ := o
  simp only at hr hn ⊢
  unfold stE stP stK
  simp only
  by_cases k1 : k = 1
  · subst k1
    rw [if_pos rfl, if_pos rfl, if_pos rfl]
    refine (RefSave_any w R room p dirty v kept b B A b.length c N x.toNat h4 h5 h6 hs (hr.more hs) (fun h0 ad e e2 => ?_) hn hrm hk hl hl2 hw).mono ?_
    · obtain ⟨ad', e1, hb, _⟩ := hr.2 h0
      rw [e] at e1
      cases e1
      omega
    · rintro e w' ⟨rfl, ⟨dirty', v', g1, g2, g3, g4⟩, g5⟩
      exact ⟨rfl, hst w' _ _ v' dirty' _ g1 g2 g3 g4 g5 (fun k e => Or.inl e)⟩
  · rw [if_neg k1, if_neg k1, if_neg k1]
    by_cases k2 : k = 2
    · subst k2
      rw [if_pos rfl, if_neg (by decide)]
      refine (RefStart_any w R room p dirty v A b.length c N x h4).mono ?_
      rintro e w' ⟨rfl, g1, g5⟩
      exact ⟨rfl, hst w' _ _ v false _ g1 (h5.keeps g5 (fun k e e2 => h6 (by rw [← e2]; exact e))) h6 (Or.inl rfl) g5 (fun k e => Or.inl e)⟩
    · rw [if_neg k2]
      by_cases k3 : k = 3
      · subst k3
        rw [if_pos rfl, if_neg (by decide)]
        refine (RefFuse_any w R room p dirty v A b.length c N x h4).mono ?_
        rintro e w' ⟨rfl, g1, g5⟩
        exact ⟨rfl, hst w' _ _ v dirty _ g1 (h5.keeps g5 (fun k e e2 => h6 (by rw [← e2]; exact e))) h6 (Or.inl rfl) g5 (fun k e => Or.inl e)⟩
      · rw [if_neg k3]
        by_cases k4 : k = 4
        · subst k4
          rw [if_pos rfl]
          refine (RefTurn_any w R room p dirty v A b.length c N x kept B h4 h5 h6).mono ?_
          rintro e w' ⟨rfl, g1, g2, g5⟩
          exact ⟨rfl, hst w' _ _ v dirty _ g1 g2 h6 (Or.inl rfl) g5 (fun k e => Or.inr e)⟩
        · rw [if_neg k4]
          refine (RefNone_any w R A b.length c N x k k1 k2 k3 k4).mono ?_
          rintro e w' ⟨rfl, hb⟩
          exact ⟨rfl, hst w' _ _ v dirty (fun _ => False) (h4.below hb h4.lt) (h5.below hb) h6 (Or.inl rfl) (Keeps.of_below hb) (fun k e => e.elim)⟩
/-- The slot's Save. -/
theorem DuoO.save (side : Nat) (kk b : List UInt8) (A : Option Addr) (c : Nat) (h : DuoO w B S R O room s p kept) (hok : SOk s room side kk) (hr : Rd w B A b.length b) (hnc : b.length ≤ c) (hwr : s.writes ≤ 4611686018400000000) (hn : b.length ≤ 140737488351232) :
    Calls Try.prog 76 #[.pointer (some ⟨S, 0, none⟩), .slice A b.length c] w fun e w' => e = .returned (.int .i64 (s.save room side kk b).1) ∧ DuoO w' B S R O room (s.save room side kk b).2 p kept ∧ Keeps (OutO B O) w w' := by
  obtain ⟨F, h1, h2, hst⟩ := h.slotStep
  refine (Save_any w F S room s side kk b A b.length c h1 hok (hr.more h.size) hnc (fun h0 ad e e2 => ?_) hwr (by omega)).mono ?_
  · obtain ⟨ad', e1, hb, _⟩ := hr.2 h0
    rw [e] at e1
    cases e1
    have := h2 _ e2
    omega
  · rintro e w' ⟨rfl, g1, g2⟩
    exact ⟨rfl, hst w' _ g1 g2⟩
theorem DuoO.start (side : Nat) (kk : List UInt8) (h : DuoO w B S R O room s p kept) (hok : SOk s room side kk) (hwr : s.writes ≤ 4611686018400000000) :
    Calls Try.prog 41 #[.pointer (some ⟨S, 0, none⟩)] w fun e w' => e = .returned (.tuple #[]) ∧ (∃ s', DuoO w' B S R O room s' p kept ∧ Cleared s s' (1 + (1 - side) * room) room) ∧ Keeps (OutO B O) w w' := by
  obtain ⟨F, h1, h2, hst⟩ := h.slotStep
  refine (Start_any w F S room s side kk h1 hok (by omega)).mono ?_
  rintro e w' ⟨rfl, ⟨s', g1, g2⟩, g3⟩
  have h3 := hst w' _ g1 g3
  exact ⟨rfl, ⟨s', h3.1, g2⟩, h3.2⟩
theorem DuoO.fuse (N : Int) (hN : N ≤ 9223372036854775807) (h : DuoO w B S R O room s p kept) :
    Calls Try.prog 40 #[.pointer (some ⟨S, 0, none⟩), .int .i64 N] w fun e w' => e = .returned (.tuple #[]) ∧ DuoO w' B S R O room { s with fuse := max N 0 } p kept ∧ Keeps (OutO B O) w w' := by
  obtain ⟨F, h1, h2, hst⟩ := h.slotStep
  refine (SFuse_any w F S room s N hN h1).mono ?_
  rintro e w' ⟨rfl, g1, g2⟩
  exact ⟨rfl, hst w' _ g1 g2⟩
end
end Go.Proofs.Ytlabebapjhhkaaa
