/- A slot's Save, walked. Conditions stand with each theorem. -/
import Derived.Test.YtlabebapjhhkaaaM6
import Derived.RangeFuncNested
import Derived.RangeFuncBound
import Derived.RangeFuncCalls
import Derived.RangeFuncLeaves
import Derived.Shelf.Abstract
import Derived.Shelf.RegionOpen
import Derived.WalkKit
import Derived.OwnWalkIn
import Derived.TacticsInMore
import Derived.LoopNIn
import Derived.LoopIn
import Derived.Sort.CutIn
namespace Go.Proofs.Ytlabebapjhhkaaa
open Go.RowKit Go.Shelf
attribute [local go_sem] Oper.semAt_some
section
variable {P : Program} {ops : Array Oper} {Q : Exit → Act → World → Prop} {rest : List Oper} {o : Oper} {a : Act} {w : World}
theorem wpList_slice_l (hw : Region.wanted o (yielded ops a.tmps) = true) (ty : TypeId) (x y : Operand) (ho : o.op = .slice ty x (some y) none none) (xv v : Value) (lo : Int) (hx : a.eval x = xv) (hy : a.eval y = .int .i64 lo)
    (hs : (Instr.sliceAt ty xv (some (.int .i64 lo)) none none).run P w = .ok v w) (h : wpList P ops Q rest (a.put o.dst v) w) : wpList P ops Q (o :: rest) a w := by
  have hq : o.quiet P a (fun W => W = w) (fun a' => a' = a.put o.dst v) := by
    refine ⟨_, fun W hW => ?_, rfl⟩
    unfold Oper.quietAt execOp
    subst hW
    simp only [ho, hx, hy, Option.map_some, Option.map_none, Sem.run_bind, hs, Result.andThen_ok, Sem.run_pure, Oper.quietUpon, and_self]
  exact wpList_quiet hw hq (fun f args w' => no_enter a.eval o (by rw [ho]; rfl) w f args w') (fun a' e => e ▸ h)
end
set_option maxRecDepth 100000 in
theorem slice_lo8 (A : Option Addr) (n cap lo : Nat) (h : lo ≤ n) (W : World) : (Instr.sliceAt 64 (.slice A n cap) (some (.int .i64 (lo : Int))) none none).run Try.prog W = .ok (.slice (if cap = lo then A else A.map (·.add (lo * 1))) (n - lo) (cap - lo)) W := by
  rw [run_sliceAt_slice W 64 _ _ _ _ Try.underlying64, run_slice_l W 64 _ n cap Try.underlying64 .i64 (lo : Int) (by omega) (by omega)]
  rw [show (sizeOf (Try.prog.elem 64)).run Try.prog W = .ok 1 W from by kernel_rfl]
  rfl
theorem splice_piece (l : List UInt8) (k : Nat) : splice (zero32.map B8) 0 (((l.drop (32 * k)).take 32).map B8) = (pieceOf l k).map B8 := by
  unfold splice pieceOf zero32
  rw [List.map_append, List.take_zero, List.nil_append, List.map_replicate, List.map_replicate, List.drop_replicate, List.length_map, Nat.zero_add]
set_option maxRecDepth 100000 in
theorem pieces1_any (m : Nat) (hm : 1 ≤ m) (l Bb : Nat) (A : Option Addr) (n c : Nat) (hnc : n ≤ c) (lb : List UInt8) (n0 : Nat) (J : Nat → World → Prop) (Jx : World → Prop) (hn : n ≤ 16384)
    (hJr : ∀ k W, J k W → W.cell? ⟨Bb, 0, none⟩ = some (.slice A n c) ∧ Rd W n0 A n lb ∧ n0 ≤ W.heap.size)
    (hJb : ∀ k W W', J k W → Below W.heap.size W W' → J k W')
    (hY : ∀ k W g, k < takesOf n → J k W → Blk W g 5 ((pieceOf lb k).map B8).toArray → YieldAt Fence.wide (m - 1) Try.prog l #[.int .i64 (k : Int), .slice (some ⟨g, 0, none⟩) 32 32] W fun e W' => (e = .returned (.bool true) ∧ J (k + 1) W') ∨ (e = .returned (.bool false) ∧ Jx W'))
    (W : World) (h0 : J 0 W) :
    CallsIn Fence.wide m Try.prog 104 #[.func (.yield l) #[] #[], .pointer (some ⟨Bb, 0, none⟩)] W fun e W' => (∃ v, e = .returned v) ∧ (J (takesOf n) W' ∨ Jx W') := by
  have h1 := (hJr 0 W h0).1
  refine callsIn_of_wp Try.func104 rfl trivial ?_
  simp only [Try.ntmps104, List.size_toArray, List.length_cons, List.length_nil, Nat.reduceAdd, Nat.reduceSub, Array.replicate_succ, Array.replicate_zero, List.push_toArray, List.append_toArray, List.nil_append, List.cons_append]
  gi_wp2_with (refine ⟨trivial, ?_⟩; gi_at_call 62; refine (callsIn_wide.2 (takes_any n W (by omega))).mono ?_; rintro e w' ⟨rfl, rfl⟩)
  gi_loopw [3, 4, 8] (fun _ _ q wr => ∃ k : Nat, k ≤ takesOf n ∧ q = .int .i64 (k : Int) ∧ J k wr) (fun _ _ q _ => takesOf n - (intOf q).toNat)
  case atStart => exact ⟨0, by omega, rfl, h0⟩
  case round =>
    obtain ⟨k, hk, rfl, hJ⟩ := hrel
    by_cases hkt : k < takesOf n
    · have hkt' : (k : Int) < (takesOf n : Int) := by omega
      obtain ⟨hc, hr, hsz⟩ := hJr k wr hJ
      have HJ := Lib.hid hJ; have HR := Lib.hid hr; have HSZ := Lib.hid hsz; have HMK := Lib.hid mk32; have HC := Lib.hid hc
      clear h0 h1 hJ hr hsz hc
      gi_upto_region 3 with fail
      refine wpIn_wide.2 ?_
      have hmk := HMK.out
      go_wp2_with fail
      clear hmk
      gi_upto_region 4 with fail
      have hb1 : Below wr.heap.size wr (wr.alloc (.cells (zero32.map B8).toArray 5)) := (Below.refl _ _).alloc (Nat.le_refl _) _
      have hlt : 32 * k < n := by unfold takesOf at hkt; omega
      have hcut := (HR.out.below (hb1.mono HSZ.out)).cut (k := 32 * k) (cap := c) (by omega) hnc
      have hcA : (wr.alloc (.cells (zero32.map B8).toArray 5)).cell? ⟨Bb, 0, none⟩ = some (.slice A n c) := by
        rw [← HC.out]
        exact hb1.cell (p := ⟨Bb, 0, none⟩) (by
          have := World.block_lt_of_cell? wr _ HC.out
          exact this)
      have HJ1 := Lib.hid (hJb k _ _ HJ.out hb1)
      have HG := Lib.hid (Blk.new wr 5 (zero32.map B8).toArray)
      have HB1 := Lib.hid hb1
      have hsl := slice_lo8 A n c (32 * k) (by omega)
      rw [if_neg (by omega)] at hsl hcut
      have HCUT := Lib.hid hcut; have HLT := Lib.hid hlt; have HLEN := Lib.hid HR.out.len
      clear hb1 hcut hlt
      have hkb : k ≤ 600 := by unfold takesOf at hkt; omega
      have hk32 : ((32 * k : Nat) : Int) = (k : Int) * 32 := by omega
      rw [hk32] at hsl
      have HSL := Lib.hid hsl
      obtain ⟨cs, hcs⟩ : ∃ cs, cs = ((lb.drop (32 * k)).take 32).map B8 := ⟨_, rfl⟩
      have HCS := Lib.hid hcs
      have hcl : cs.length = Nat.min (n - 32 * k) 32 := by rw [hcs, List.length_map, List.length_take, List.length_drop, HLEN.out]; exact Nat.min_comm _ _
      have hpos : 0 < cs.length → some (⟨wr.heap.size, 0, none⟩ : Addr) = some ⟨wr.heap.size, 0, none⟩ ∧ ∃ ad, A.map (·.add (32 * k * 1)) = some ad ∧ ∀ j v, cs[j]? = some v → (wr.alloc (.cells (zero32.map B8).toArray 5)).cell? (ad.add j) = some v := by
        intro _
        obtain ⟨ad, e, _, h9⟩ := HCUT.out.2 (by have := HLT.out; omega)
        refine ⟨rfl, ad, e, fun j v hv => h9 j v ?_⟩
        rw [hcs, List.map_take, List.map_drop, List.getElem?_take] at hv
        split at hv
        · rw [show 32 * k * 1 = 32 * k by omega]; exact hv
        · cases hv
      have hfit : 0 + cs.length ≤ (zero32.map B8).length := by rw [hcl, List.length_map, zero32_len, Nat.zero_add]; exact Nat.min_le_right _ _
      have hone : ∀ v ∈ cs, v.oneCell' = true := by rw [hcs]; exact B8_one _
      have HPOS := Lib.hid hpos; have HFIT := Lib.hid hfit; have HONE := Lib.hid hone
      have HCL := Lib.hid hcl
      clear hsl hk32 hcs hcl hpos hfit hone
      refine wpIn_wide.2 ?_
      go_wp2_with (first
        | (refine wpList_slice_l (by rfl) 64 (.tmp 13) (.tmp 15) rfl (.slice A n c) _ ((k : Int) * 32) rfl rfl (HSL.out _) ?_)
        | (refine wpList_copy_splice rfl (.tmp 12) (.tmp 16) 64 64 rfl 5 Try.underlying64 (by kernel_rfl) (some ⟨wr.heap.size, 0, none⟩) (A.map (·.add (32 * k * 1))) 32 32 (n - 32 * k) (c - 32 * k) rfl rfl wr.heap.size 0 (zero32.map B8) 5 HG.out cs HCL.out HPOS.out HFIT.out HONE.out wr.heap.size wr HB1.out (Nat.le_refl _) ?_; intro w2 hg2 hb2; rw [HCS.out, splice_piece] at hg2; have HJ2 := Lib.hid (hJb k _ _ HJ.out hb2); have HG2 := Lib.hid (show Blk w2 wr.heap.size 5 ((pieceOf lb k).map B8).toArray from hg2.out); clear hg2 hb2))
      obtain ⟨fn, tmps, assign, body, hy, hR⟩ := hY k w2 wr.heap.size hkt HJ2.out HG2.out
      gi_wp2
      refine hR.mono ?_
      rintro e w3 (⟨rfl, hJ3⟩ | ⟨rfl, hJx⟩)
      · have HJ3 := Lib.hid hJ3
        clear hJ3 hR hy
        gi_wp2
        go_roundw
        case rel => exact ⟨k + 1, hkt, by go_num, HJ3.out⟩
        case measure => simp [intOf]; omega
      · clear hR hy
        gi_wp2
        refine bodyPost_ret (results_none rfl _ _ _) rfl ?_
        exact ⟨⟨_, rfl⟩, Or.inr hJx⟩
    · obtain rfl : k = takesOf n := by omega
      gi_wp2
      go_end0
      exact ⟨⟨_, rfl⟩, Or.inl hJ⟩
end Go.Proofs.Ytlabebapjhhkaaa
namespace Go.Proofs.Ytlabebapjhhkaaa
open Go.RowKit Go.Shelf
/-- How a round's body is left: it goes on, or it returns. -/
def roundEnds (B : Nat) (I Ix : World → Prop) (W : World) : Exit → Act → World → Prop
  | .normal, _, W' => KeepsFrom B W W' ∧ I W'
  | .ret, _, W' => KeepsFrom B W W' ∧ Ix W'
  | _, _, _ => False
set_option maxRecDepth 100000 in
theorem range_pieces {n : Nat} (h1 : 2 ≤ n) {gop : Operand} {p0 p1 : Tmp} {assign body : Code} {Q : Exit → Act → World → Prop} {a : Act} {w : World} (Bb : Nat) (A : Option Addr) (nn c : Nat) (hnc : nn ≤ c) (lb : List UInt8) (n0 : Nat) (hn : nn ≤ 16384)
    (hg : a.eval gop = .func (.func 104) #[] #[.pointer (some ⟨Bb, 0, none⟩)])
    (I : Nat → World → Prop) (Ix : World → Prop)
    (hIr : ∀ k W, I k W → W.cell? ⟨Bb, 0, none⟩ = some (.slice A nn c) ∧ Rd W n0 A nn lb ∧ n0 ≤ W.heap.size)
    (hIb : ∀ k W W', I k W → Below W.heap.size W W' → I k W')
    (hIp : ∀ k W l o ob, I k W → w.heap.size ≤ l → W.heap[l]? = some ob → ob.isCells = false → I k (W.putObj l o))
    (hIx : ∀ W l o ob, Ix W → w.heap.size ≤ l → W.heap[l]? = some ob → ob.isCells = false → Ix (W.putObj l o))
    (h0 : I 0 w) (a₁ : Nat → Nat → Act)
    (hassign : ∀ (l k g : Nat) (W : World) (K : Act → World → Prop), K (a₁ k g) W →
      assign.wpIn (Fence.wide.inRound l) (n - 1 - 1) Try.prog (Exit.then K (fun _ _ _ => False)) { tmps := ((#[p0, p1] : Array Tmp).zip #[.int .i64 (k : Int), .slice (some ⟨g, 0, none⟩) 32 32]).foldl (fun t (p, v) => t.setIfInBounds p v) a.tmps, defers := [] } W)
    (hbody : ∀ (l k g : Nat) (W : World), k < takesOf nn → I k W → Blk W g 5 ((pieceOf lb k).map B8).toArray → body.wpIn (Fence.wide.inRound l) (n - 1 - 1) Try.prog (roundEnds w.heap.size (I (k + 1)) Ix W) (a₁ k g) W)
    (hdone : ∀ (D : Nat) (W : World), w.heap.size ≤ D → I (takesOf nn) W → W.heap[D]? = some (.deferred (some [])) → Q .normal { a with defers := { target := .collected D, args := #[] } :: a.defers } W)
    (hstop : ∀ (D : Nat) (W : World), w.heap.size ≤ D → Ix W → W.heap[D]? = some (.deferred (some [])) → Code.ret.wpIn Fence.wide n Try.prog Q { a with defers := { target := .collected D, args := #[] } :: a.defers } W) :
    (Code.rangeFunc gop #[p0, p1] assign body).wpIn Fence.wide n Try.prog Q a w := by
  refine wpIn_rangeFunc ?_
  intro fn hfn
  obtain ⟨rec, hrec⟩ : ∃ rec : LoopState → Option Code → Loop, rec = fun st pe => { state := st, pending := pe, fn, tmps := a.tmps, params := #[p0, p1], assign, body, defers := w.heap.size } := ⟨_, rfl⟩
  obtain ⟨W1, hW1⟩ : ∃ W1, (w.alloc (.deferred (some []))).alloc (.loop (rec .ready none)) = W1 := ⟨_, rfl⟩
  obtain ⟨l, hl⟩ : ∃ l, l = w.heap.size + 1 := ⟨_, rfl⟩
  obtain ⟨D, hD⟩ : ∃ D, D = w.heap.size := ⟨_, rfl⟩
  have hL1 : W1.heap[l]? = some (.loop (rec .ready none)) := by
    rw [← hW1, hl]; have := World.alloc_heap_new (w.alloc (.deferred (some []))) (.loop (rec .ready none)); rwa [World.size_alloc] at this
  have hK1 : W1.heap[D]? = some (.deferred (some [])) := by
    rw [← hW1, hD]; exact (Below.heap_alloc _ _ _ (by simp)).trans (World.alloc_heap_new w _)
  have hI1 : I 0 W1 := by
    rw [← hW1]
    exact hIb 0 w _ h0 (((Below.refl _ w).alloc (Nat.le_refl _) _).alloc (by simp) _)
  refine ⟨l, [{ target := .collected D, args := #[] }], W1, { target := .fn (.func 104) #[.pointer (some ⟨Bb, 0, none⟩)], args := #[.func (.yield l) #[] #[]] }, W1, 104,
    #[.func (.yield l) #[] #[], .pointer (some ⟨Bb, 0, none⟩)], W1, ?_, ?_, ?_, ?_, fun _ => by omega, ?_⟩
  · rw [← hW1, hrec, hl, hD]; exact run_enterLoop_outer _ _ _ _ _
  · simp only [resolve, hg]
    simp [go_sem]
  · intro f' _; trivial
  · simp [invoke, go_sem]
  · have hDl : D ≠ l := by omega
    refine (pieces1_any (n - 1) (by omega) l Bb A nn c hnc lb n0
      (fun k W => I k W ∧ W.heap[l]? = some (.loop (rec .ready none)) ∧ W.heap[D]? = some (.deferred (some [])))
      (fun W => Ix W ∧ W.heap[l]? = some (.loop (rec .done (some .ret))) ∧ W.heap[D]? = some (.deferred (some [])))
      hn (fun k W h => hIr k W h.1)
      (fun k W W' h hb => ⟨hIb k W W' h.1 hb, (hb.block l (lt_of_block h.2.1)).trans h.2.1, (hb.block D (lt_of_block h.2.2)).trans h.2.2⟩)
      ?_ W1 ⟨hI1, hL1, hK1⟩).mono ?_
    · rintro k W g hk ⟨hi, hlW, hkW⟩ hB
      have hlt : l < W.heap.size := lt_of_block hlW
      have hy := run_yield (P := Try.prog) (args := #[.int .i64 (k : Int), .slice (some ⟨g, 0, none⟩) 32 32]) hlW (by rw [hrec]; rfl)
      rw [hrec] at hy
      have hgl : g ≠ l := fun e => by rw [e] at hB; rw [show W.heap[l]? = _ from hB] at hlW; cases hlW
      refine ⟨fn, _, assign, body, hy, roundIn_of_wpIn hfn ?_⟩
      refine hassign l k g W _ ?_
      refine ⟨_, run_beginRound hlW (by rw [hrec]), ?_⟩
      have hl2 : (W.putObj l (.loop { rec .ready none with state := .busy })).heap[l]? = some (.loop { rec .ready none with state := .busy }) := World.putObj_heap_same hlt
      have hk2 : (W.putObj l (.loop { rec .ready none with state := .busy })).heap[D]? = some (.deferred (some [])) := (World.putObj_heap_other hDl).trans hkW
      refine wpIn_mono (hbody l k g _ hk (hIp k W l _ _ hi (by omega) hlW rfl) ((World.putObj_heap_other hgl).trans hB)) ?_
      have fin : ∀ (jump : Option Code) (W3 : World), KeepsFrom w.heap.size (W.putObj l (.loop { rec .ready none with state := .busy })) W3 →
          (Instr.endRound l jump).run Try.prog W3 = .ok (.bool jump.isNone) (W3.putObj l (.loop (rec (if jump.isNone then .ready else .done) jump))) ∧
          W3.heap[l]? = some (.loop { rec .ready none with state := .busy }) ∧
          (W3.putObj l (.loop (rec (if jump.isNone then .ready else .done) jump))).heap[l]? = some (.loop (rec (if jump.isNone then .ready else .done) jump)) ∧
          (W3.putObj l (.loop (rec (if jump.isNone then .ready else .done) jump))).heap[D]? = some (.deferred (some [])) := fun jump W3 hk3 => by
        have hl3 := hk3.same _ _ (by omega) hl2 rfl
        have := run_endRound (P := Try.prog) jump hl3
        rw [hrec] at this ⊢
        exact ⟨this, by rw [hrec] at hl3; exact hl3, World.putObj_heap_same (lt_of_block hl3), (World.putObj_heap_other hDl).trans (hk3.same _ _ (by omega) hk2 rfl)⟩
      rintro e a3 W3 hp
      cases e with
      | normal =>
        obtain ⟨hk3, hi3⟩ := hp
        obtain ⟨hr, hl3, hl4, hk4⟩ := fin none W3 hk3
        exact ⟨_, _, hr, .inl ⟨rfl, hIp _ _ _ _ _ hi3 (by omega) hl3 rfl, hl4, hk4⟩⟩
      | ret =>
        obtain ⟨hk3, hi3⟩ := hp
        obtain ⟨hr, hl3, hl4, hk4⟩ := fin (some .ret) W3 hk3
        exact ⟨_, _, hr, .inr ⟨rfl, hIx _ _ _ _ hi3 (by omega) hl3 rfl, hl4, hk4⟩⟩
      | exit id => exact hp.elim
      | goto t => exact hp.elim
      | panic ch => exact hp.elim
      | outgrown => exact hp.elim
    · rintro e W2 ⟨⟨v, rfl⟩, (⟨hi, hl3, hk3⟩ | ⟨hi, hl3, hk3⟩)⟩
      · exact ⟨none, _, by have := run_endLoop (P := Try.prog) hl3 (by rw [hrec]; simp); rw [hrec] at this; exact this, hdone D _ (by omega) (hIp _ _ _ _ _ hi (by omega) hl3 rfl) ((World.putObj_heap_other hDl).trans hk3)⟩
      · exact ⟨some .ret, _, by have := run_endLoop (P := Try.prog) hl3 (by rw [hrec]; simp); rw [hrec] at this; exact this, hstop D _ (by omega) (hIx _ _ _ _ hi (by omega) hl3 rfl) ((World.putObj_heap_other hDl).trans hk3)⟩
/-- A region that draws its order, within a round: walked as anywhere. -/
theorem wpOps_round {P : Program} {ops : Array Oper} {Q : Exit → Act → World → Prop} {l n : Nat} (hL : ¬ LetsOut Q) (hno : ∀ (i : Nat) (o : Oper) (c : Call), ops[i]? = some o → o.op ≠ .defer c) :
    ∀ (is : List Nat) (a : Act) (w : World), wpOps P ops Q is a w → wpOpsIn (Fence.wide.inRound l) n P ops Q is a w := by
  intro is
  induction is with
  | nil => exact fun a w h => h
  | cons i is ih =>
    intro a w h
    unfold wpOps at h
    unfold wpOpsIn
    cases ho : ops[i]? with
    | none => rw [ho] at h; exact ih a w h
    | some o =>
      simp only [ho] at h ⊢
      split
      · rename_i hw
        rw [if_pos hw] at h
        rcases h with h | ⟨_, h⟩
        · refine ⟨fun f _ => trivial, ?_⟩
          have hs : o.semAt (Fence.wide.inRound l).round a.eval = execOp a.eval o := Oper.semAt_some l a.eval o (fun c => hno i o c ho)
          rw [hs]
          unfold Oper.wp at h
          generalize (execOp a.eval o).run P w = r at h ⊢
          cases r with
          | ok x w' =>
            cases x <;> simp only [Oper.upon, Oper.uponIn] at h ⊢
            case value v => exact ih _ _ h
            case skip => exact ih _ _ h
            case defer d => exact ih _ _ h
            case enter f args =>
              refine ⟨fun e => (by cases e), CallsIn.inRound l (callsIn_wide.2 (h.mono ?_))⟩
              intro e w'' he
              cases e with
              | returned v => exact ih _ _ he
              | panicked c => exact he
              | outgrown => exact he
            case row row args =>
              refine ⟨fun e => (by cases e), fun c cs _ => ?_⟩
              obtain ⟨v, w'', r, s⟩ := h c cs
              exact ⟨v, w'', ih _ _ r, stepsIn_wide.2 s⟩
          | halt x w' => cases x <;> simp only [Oper.upon, Oper.uponIn] at h ⊢ <;> exact h
        · exact absurd h hL
      · rename_i hw
        rw [if_neg hw] at h
        exact ⟨fun f _ => trivial, ih _ _ h⟩
def noDeferB (L : List Oper) : Bool := L.all fun o => match o.op with | .defer _ => false | _ => true
theorem noDefer_of {L : List Oper} (h : noDeferB L = true) : ∀ (i : Nat) (o : Oper) (c : Call), L.toArray[i]? = some o → o.op ≠ .defer c := by
  intro i o c hi e
  have h1 := List.all_eq_true.1 h o (List.mem_of_getElem? (by simpa using hi))
  rw [e] at h1
  cases h1
theorem wpIn_region_anyR {P : Program} {Q : Exit → Act → World → Prop} {id n l : Nat} {a : Act} {w : World} {L : List Oper} (C : World → Prop) (hm : P.follows .mixedOrders = true) (hno : noDeferB L = true)
    (h : anyC P .any L.toArray C (Exit.then (Q .normal) (fun _ _ _ => False)) L.length (Array.replicate L.length false) a w.drew) : (Code.region id L.toArray true).wpIn (Fence.wide.inRound l) n P Q a w := by
  refine wpIn_mono (Q := Exit.then (Q .normal) (fun _ _ _ => False)) (wpIn_region_draw fun t => wpOps_round (by rintro ⟨_, _, h⟩; exact h) (noDefer_of hno) _ _ _ ?_) (by intro e a w h; cases e <;> first | exact h | exact h.elim)
  simp only [Region.schedule, hm, Bool.true_or, if_true]
  have h2 := any_of_anyC _ _ _ _ h
  exact wpAny_sound L.toArray.size t _ a _ (by simpa using h2)
end Go.Proofs.Ytlabebapjhhkaaa
namespace Go.Proofs.Ytlabebapjhhkaaa
open Go.RowKit Go.Shelf
/-- Writes, one behind the other, as far as they are done. -/
def DS.writeAll : DS → List (Nat × List UInt8) → Int × DS
  | s, [] => (0, s)
  | s, p :: r => if (s.write (p.1 : Int) p.2).1 = 0 then DS.writeAll (s.write (p.1 : Int) p.2).2 r else s.write (p.1 : Int) p.2
theorem writeAll_ok {a : List (Nat × List UInt8)} : ∀ {s : DS} (b : List (Nat × List UInt8)), (s.writeAll a).1 = 0 → s.writeAll (a ++ b) = (s.writeAll a).2.writeAll b := by
  induction a with
  | nil => intro s b _; rfl
  | cons p r ih =>
    intro s b h
    by_cases h1 : (s.write (p.1 : Int) p.2).1 = 0
    · simp only [DS.writeAll, List.cons_append, if_pos h1] at h ⊢
      exact ih b h
    · simp only [DS.writeAll, if_neg h1] at h
      exact absurd h h1
theorem writeAll_no {a : List (Nat × List UInt8)} : ∀ {s : DS} (b : List (Nat × List UInt8)), (s.writeAll a).1 ≠ 0 → s.writeAll (a ++ b) = s.writeAll a := by
  induction a with
  | nil => intro s b h; exact absurd rfl h
  | cons p r ih =>
    intro s b h
    by_cases h1 : (s.write (p.1 : Int) p.2).1 = 0
    · simp only [DS.writeAll, List.cons_append, if_pos h1] at h ⊢
      exact ih b h
    · simp only [DS.writeAll, List.cons_append, if_neg h1]
theorem writeAll_one (s : DS) (k : Nat) (l : List UInt8) : s.writeAll [(k, l)] = s.write (k : Int) l := by
  simp only [DS.writeAll]
  split
  · next h => exact Prod.ext h.symm rfl
  · rfl
theorem write_writes (s : DS) (k : Int) (l : List UInt8) : (s.write k l).2.writes ≤ s.writes + 1 ∧ (s.write k l).2.bl.length = s.bl.length := by
  unfold DS.write
  split
  · split
    · exact ⟨Nat.le_succ _, rfl⟩
    · exact ⟨Nat.le_refl _, by simp⟩
  · exact ⟨Nat.le_succ _, rfl⟩
theorem writeAll_writes (a : List (Nat × List UInt8)) : ∀ (s : DS), (s.writeAll a).2.writes ≤ s.writes + a.length ∧ (s.writeAll a).2.bl.length = s.bl.length := by
  induction a with
  | nil => intro s; exact ⟨Nat.le_refl _, rfl⟩
  | cons p r ih =>
    intro s
    simp only [DS.writeAll]
    have h1 := write_writes s (p.1 : Int) p.2
    split
    · have h2 := ih (s.write (p.1 : Int) p.2).2
      exact ⟨by have := h2.1; have := h1.1; simp only [List.length_cons]; omega, h2.2.trans h1.2⟩
    · exact ⟨by have := h1.1; simp only [List.length_cons]; omega, h1.2⟩
/-- The writes of a Save. -/
def newList (room o : Nat) (b : List UInt8) (k : Nat) : List (Nat × List UInt8) := (List.range k).map fun i => (1 + o * room + i, pieceOf b i)
def oldList (room side k : Nat) : List (Nat × List UInt8) := (List.range k).map fun i => (1 + side * room + i, zero32)
def saveList (room side : Nat) (kept b : List UInt8) : List (Nat × List UInt8) := newList room (1 - side) b (takesOf b.length) ++ ((0, rootB (1 - side) b.length) :: oldList room side (takesOf kept.length))
theorem newList_succ (room o : Nat) (b : List UInt8) (k : Nat) : newList room o b (k + 1) = newList room o b k ++ [(1 + o * room + k, pieceOf b k)] := by unfold newList; rw [List.range_succ, List.map_append]; rfl
theorem oldList_succ (room side k : Nat) : oldList room side (k + 1) = oldList room side k ++ [(1 + side * room + k, zero32)] := by unfold oldList; rw [List.range_succ, List.map_append]; rfl
theorem newList_len (room o : Nat) (b : List UInt8) (k : Nat) : (newList room o b k).length = k := by simp [newList]
theorem oldList_len (room side k : Nat) : (oldList room side k).length = k := by simp [oldList]
/-- What a Save of a good slot answers, and what is on the disk behind it. -/
def DS.save (s : DS) (room side : Nat) (kept b : List UInt8) : Int × DS := if room < takesOf b.length then (7, s) else s.writeAll (saveList room side kept b)
theorem newList_pre {room o k n : Nat} {b : List UInt8} (h : k ≤ n) : ∃ r, newList room o b n = newList room o b k ++ r := by
  refine ⟨(List.range' k (n - k)).map fun i => (1 + o * room + i, pieceOf b i), ?_⟩
  unfold newList
  rw [← List.map_append, List.range_eq_range', List.range_eq_range']
  congr 1
  have := List.range'_append_1 (s := 0) (m := k) (n := n - k)
  rw [Nat.zero_add] at this
  rw [this, Nat.add_sub_cancel' h]
theorem oldList_pre {room o k n : Nat} (h : k ≤ n) : ∃ r, oldList room o n = oldList room o k ++ r := by
  refine ⟨(List.range' k (n - k)).map fun i => (1 + o * room + i, zero32), ?_⟩
  unfold oldList
  rw [← List.map_append, List.range_eq_range', List.range_eq_range']
  congr 1
  have := List.range'_append_1 (s := 0) (m := k) (n := n - k)
  rw [Nat.zero_add] at this
  rw [this, Nat.add_sub_cancel' h]
/-- A write of a piece fails: so does the Save. -/
theorem save_new_no {s : DS} {room side : Nat} {kept b : List UInt8} {k : Nat} (hr : ¬ room < takesOf b.length) (hk : k < takesOf b.length) (h0 : (s.writeAll (newList room (1 - side) b k)).1 = 0)
    (h : ((s.writeAll (newList room (1 - side) b k)).2.write ((1 + (1 - side) * room + k : Nat) : Int) (pieceOf b k)).1 ≠ 0) : s.save room side kept b = (s.writeAll (newList room (1 - side) b k)).2.write ((1 + (1 - side) * room + k : Nat) : Int) (pieceOf b k) := by
  unfold DS.save
  rw [if_neg hr]
  unfold saveList
  obtain ⟨r, e⟩ := newList_pre (room := room) (o := 1 - side) (b := b) (show k + 1 ≤ takesOf b.length from hk)
  have h1 : s.writeAll (newList room (1 - side) b (k + 1)) = (s.writeAll (newList room (1 - side) b k)).2.write ((1 + (1 - side) * room + k : Nat) : Int) (pieceOf b k) := by
    rw [newList_succ, writeAll_ok _ h0, writeAll_one]
  rw [e, List.append_assoc, writeAll_no _ (by rw [h1]; exact h), h1]
theorem save_step {s : DS} {room o : Nat} {b : List UInt8} {k : Nat} (h0 : (s.writeAll (newList room o b k)).1 = 0) : s.writeAll (newList room o b (k + 1)) = (s.writeAll (newList room o b k)).2.write ((1 + o * room + k : Nat) : Int) (pieceOf b k) := by
  rw [newList_succ, writeAll_ok _ h0, writeAll_one]
theorem old_step {s : DS} {room o : Nat} {k : Nat} (h0 : (s.writeAll (oldList room o k)).1 = 0) : s.writeAll (oldList room o (k + 1)) = (s.writeAll (oldList room o k)).2.write ((1 + o * room + k : Nat) : Int) zero32 := by
  rw [oldList_succ, writeAll_ok _ h0, writeAll_one]
/-- The write of the root. -/
def DS.mid (s : DS) (room side : Nat) (b : List UInt8) : Int × DS := (s.writeAll (newList room (1 - side) b (takesOf b.length))).2.write 0 (rootB (1 - side) b.length)
theorem save_mid_no {s : DS} {room side : Nat} {kept b : List UInt8} (hr : ¬ room < takesOf b.length) (h0 : (s.writeAll (newList room (1 - side) b (takesOf b.length))).1 = 0) (h : (s.mid room side b).1 ≠ 0) : s.save room side kept b = s.mid room side b := by
  unfold DS.save
  rw [if_neg hr]
  unfold saveList
  rw [writeAll_ok _ h0]
  simp only [DS.writeAll]
  exact if_neg h
theorem save_mid_ok {s : DS} {room side : Nat} {kept b : List UInt8} (hr : ¬ room < takesOf b.length) (h0 : (s.writeAll (newList room (1 - side) b (takesOf b.length))).1 = 0) (h : (s.mid room side b).1 = 0) : s.save room side kept b = (s.mid room side b).2.writeAll (oldList room side (takesOf kept.length)) := by
  unfold DS.save
  rw [if_neg hr]
  unfold saveList
  rw [writeAll_ok _ h0]
  simp only [DS.writeAll]
  exact if_pos h
theorem save_old_no {t : DS} {room side k n : Nat} (hk : k < n) (h0 : (t.writeAll (oldList room side k)).1 = 0) (h : ((t.writeAll (oldList room side k)).2.write ((1 + side * room + k : Nat) : Int) zero32).1 ≠ 0) :
    t.writeAll (oldList room side n) = (t.writeAll (oldList room side k)).2.write ((1 + side * room + k : Nat) : Int) zero32 := by
  obtain ⟨r, e⟩ := oldList_pre (room := room) (o := side) (show k + 1 ≤ n from hk)
  rw [e, writeAll_no _ (by rw [old_step h0]; exact h), old_step h0]
/-! What is laid beside the disk. -/
theorem lt_of_get {w : World} {k : Nat} {o : Obj} (h : w.heap[k]? = some o) : k < w.heap.size := (Array.getElem?_eq_some_iff.1 h).1
theorem DiskAt.cells_of {w : World} {D : Nat} {gs : List (Nat × Nat)} {r : Value} {s : DS} (h : DiskAt w D gs r s) : ∀ k, Foot D gs r k → ∃ o, w.heap[k]? = some o ∧ o.isCells = true := by
  rintro k (rfl | e | ⟨p, hp, rfl⟩)
  · exact ⟨_, h.cells, rfl⟩
  · rcases h.row.2 with ⟨rfl, _⟩ | ⟨g, cap, cur, rfl, _, hg, _⟩
    · cases e
    · cases e; exact ⟨_, hg, rfl⟩
  · obtain ⟨j, hj, rfl⟩ := List.getElem_of_mem hp
    have h1 : gs[j]? = some gs[j] := List.getElem?_eq_getElem hj
    have h2 : s.bl[j]? = some (s.bl[j]'(by rw [← h.len]; exact hj)) := List.getElem?_eq_getElem _
    have h3 := h.each j _ _ h1 h2
    obtain ⟨g, c0, cur, e1, _, hB, _⟩ := h3.2.blk (by omega)
    injection e1 with e1 _ _
    simp only [Option.some.injEq, Addr.mk.injEq, and_true] at e1
    rw [e1]
    exact ⟨_, hB, rfl⟩
/-- A slot's disk lies in cells: it may be said of blocks of F alone that are cells. -/
theorem SlotIs.tight {w : World} {F : Nat → Prop} {S room : Nat} {s : DS} (h : SlotIs w F S room s) : SlotIs w (fun k => F k ∧ ∃ o, w.heap[k]? = some o ∧ o.isCells = true) S room s := by
  obtain ⟨D, G, hS, ⟨gs, r, hA, hF⟩, h3, h4, h5⟩ := h
  exact ⟨D, Foot D gs r, hS, ⟨gs, r, hA, fun k e => e⟩, fun e => h3 (hF _ e), fun k e => ⟨h4 k (hF k e), hA.cells_of k e⟩, h5, _, hS, rfl⟩
theorem keeps_putObj (w : World) (l : Nat) (o : Obj) : Keeps (fun k => k = l) w (w.putObj l o) := ⟨rfl, rfl, rfl, by simp, fun k _ hn => World.putObj_heap_other hn⟩
theorem SlotIs.putObj {w : World} {F : Nat → Prop} {S room : Nat} {s : DS} {l : Nat} {ob : Obj} (h : SlotIs w F S room s) (hl : w.heap[l]? = some ob) (hc : ob.isCells = false) (o : Obj) : SlotIs (w.putObj l o) F S room s := by
  refine (h.tight.keeps (keeps_putObj w l o) ?_).weaken fun k e => e.1
  rintro k ⟨_, o', e1, e2⟩ rfl
  rw [hl] at e1
  cases e1
  rw [hc] at e2
  cases e2
/-- A write to a slot's disk. -/
theorem SWrite_any (w : World) (F : Nat → Prop) (S room : Nat) (s : DS) (k : Nat) (A : Option Addr) (m c : Nat) (l : List UInt8) (D : Nat) (hw : s.writes ≤ 4611686018427387904) (h : SlotIs w F S room s) (hD : w.cell? ⟨S, 0, none⟩ = some (.pointer (some ⟨D, 0, none⟩))) (hr : Rd w w.heap.size A m l) :
    Calls Try.prog 75 #[.pointer (some ⟨D, 0, none⟩), .int .i64 (k : Int), .slice A m c] w fun e w' => e = .returned (.int .i64 (s.write (k : Int) l).1) ∧ SlotIs w' (Grown F w) S room (s.write (k : Int) l).2 ∧ Keeps F w w' ∧ KeepsFrom 0 w w' ∧ Blk w' S 85 #[.pointer (some ⟨D, 0, none⟩), .int .i64 (room : Int)] := by
  obtain ⟨D', G, hS, ⟨gs, r, hA, hF⟩, h3, h4, h5⟩ := h
  obtain rfl : D' = D := by
    have h9 := ((hS.cell 0).trans rfl : w.cell? ⟨S, 0, none⟩ = some (.pointer (some ⟨D', 0, none⟩)))
    rw [hD] at h9
    simp only [Option.some.injEq, Value.pointer.injEq, Addr.mk.injEq, and_true] at h9
    exact h9.symm
  refine (Write_any w (Foot D' gs r) D' s (k : Int) A m c l hw ⟨gs, r, hA, fun k e => e⟩ hr).mono ?_
  rintro e w' ⟨rfl, hd, hk⟩
  obtain ⟨g1, g2⟩ := SlotIs.call (F := F) hS (fun e => h3 (hF _ e)) (fun k e => h4 k (hF k e)) h5 hd hk
  refine ⟨rfl, g1, g2, ⟨hk.size, fun j o _ ho hc => ?_⟩, hS.keeps hk (fun e => h3 (hF _ e))⟩
  refine (hk.block j (lt_of_get ho) fun e => ?_).trans ho
  obtain ⟨o', e1, e2⟩ := hA.cells_of j e
  rw [ho] at e1
  cases e1
  rw [hc] at e2
  cases e2
theorem pieces_any (A : Option Addr) (n c : Nat) (w : World) :
    Calls Try.prog 99 #[.slice A n c] w fun e w' => e = .returned (.func (.func 104) #[] #[.pointer (some ⟨w.heap.size, 0, none⟩)]) ∧ w' = w.alloc (.cells #[.slice A n c] 64) := by
  go_enter Try.func99, Try.ntmps99
  go_wp2
  go_ret
  exact ⟨rfl, rfl⟩
end Go.Proofs.Ytlabebapjhhkaaa
namespace Go.Proofs.Ytlabebapjhhkaaa
open Go.RowKit Go.Shelf
attribute [local go_sem] Oper.semAt_some
theorem results_cell_one {P : Program} {fn : Func} {p : Tmp} {ty : TypeId} (h : fn.results = #[.cell p ty]) (tmps : Array Value) (w : World) (g : Nat) (v : Value) (hp : tmps.getD p undef = .pointer (some ⟨g, 0, none⟩)) (hc : w.cell? ⟨g, 0, none⟩ = some v) (hag : (isAgg ty).run P w = .ok false w) :
    (results fn tmps).run P w = .ok v w := by
  have hp' : tmps[p]?.getD undef = .pointer (some ⟨g, 0, none⟩) := by simpa using hp
  have hl : Sem.run P (loadVar ty ⟨g, 0, none⟩) w = .ok v w := by simp [loadVar, hag, Sem.run, load, hc]
  simp [results, h, hp', asAddr, hl]
section
variable {P : Program} {ops : Array Oper} {md : Region.Mode} {Q : Exit → Act → World → Prop} {C : World → Prop}
/-- Two operations may come up. -/
theorem anyC_two {i j : Nat} {oi oj : Oper} {f : Nat} {listed : Array Bool} {a : Act} {w : World} (hi : ops[i]? = some oi) (hj : ops[j]? = some oj) (hr : Region.ready md ops listed = [i, j]) (hC : C w)
    (h1 : wpList P ops (Exit.then (anyC P md ops C Q f (listed.setIfInBounds i true)) Q) [oi] a w) (h2 : wpList P ops (Exit.then (anyC P md ops C Q f (listed.setIfInBounds j true)) Q) [oj] a w) : anyC P md ops C Q (f + 1) listed a w := by
  refine ⟨hC, fun h0 => (by rw [hr] at h0; cases h0), fun k hk => ?_⟩
  rw [hr] at hk
  rcases List.mem_cons.1 hk with rfl | hk
  · exact wpOp_of_list hi h1
  · obtain rfl : k = j := by simpa using hk
    exact wpOp_of_list hj h2
end
theorem Rd.of_blk {w : World} {g : Nat} {l : List UInt8} (h : Blk w g 5 (l.map B8).toArray) (n : Nat) (hn : n = l.length) : Rd w w.heap.size (some ⟨g, 0, none⟩) n l := by
  subst hn
  refine ⟨by simp, fun _ => ⟨_, rfl, h.lt, fun j u hu => ?_⟩⟩
  have ha : (⟨g, 0, none⟩ : Addr).add j = ⟨g, j, none⟩ := by unfold Addr.add; split <;> simp_all
  rw [ha, h.cell]
  simpa using hu
abbrev pcV (Bb : Nat) : Value := .func (.func 104) #[] #[.pointer (some ⟨Bb, 0, none⟩)]
theorem root_splice (o n : Nat) (ho : o ≤ 1) (hn : n ≤ 16384) : splice (zero32.map B8) 0 [.int .u8 (o : Int), .int .u8 ((n : Int) / 16777216), .int .u8 ((n : Int) / 65536), .int .u8 ((n : Int) / 256), .int .u8 ((n : Int) % 256)] = (rootB o n).map B8 := by
  have e1 : (n : Int) / 16777216 = 0 := by omega
  have e2 : (n : Int) / 65536 = 0 := by omega
  have e3 : ((UInt8.ofNat (n / 256)).toNat : Int) = (n : Int) / 256 := by simp; omega
  have e4 : ((UInt8.ofNat n).toNat : Int) = (n : Int) % 256 := by simp
  have e5 : ((UInt8.ofNat o).toNat : Int) = (o : Int) := by simp; omega
  rw [e1, e2]
  unfold splice rootB zero32
  simp only [List.map_append, List.map_cons, List.map_nil, List.map_replicate, B8, e3, e4, e5, List.take_zero, List.nil_append, List.drop_replicate, List.length_cons, List.length_nil]
  rfl
def SaveC (B S D R o : Nat) (X : World) : Prop := X.cell? ⟨B, 0, none⟩ = some (.pointer (some ⟨S, 0, none⟩)) ∧ X.cell? ⟨S, 0, none⟩ = some (.pointer (some ⟨D, 0, none⟩)) ∧ X.cell? ⟨R + 1, 0, none⟩ = some (.int .i64 (o : Int))
def SaveE (B S D R side : Nat) (X : World) : Prop := X.cell? ⟨B, 0, none⟩ = some (.pointer (some ⟨S, 0, none⟩)) ∧ X.cell? ⟨S, 0, none⟩ = some (.pointer (some ⟨D, 0, none⟩)) ∧ X.cell? ⟨R, 0, none⟩ = some (.int .i64 (side : Int))
theorem KeepsFrom.any {B : Nat} {w w' : World} (h : KeepsFrom 0 w w') : KeepsFrom B w w' := ⟨h.size, fun k o _ => h.same k o (Nat.zero_le _)⟩
set_option maxRecDepth 100000 in
theorem Save_big (w : World) (F : Nat → Prop) (S room : Nat) (s : DS) (A : Option Addr) (n c : Nat) (h : SlotIs w F S room s) (hn : n ≤ 9223372036854775000) (hbig : room < takesOf n) :
    Calls Try.prog 76 #[.pointer (some ⟨S, 0, none⟩), .slice A n c] w fun e w' => e = .returned (.int .i64 7) ∧ Below w.heap.size w w' := by
  obtain ⟨D, G, hS, _⟩ := h
  obtain ⟨W2, hW2⟩ : ∃ W2, W2 = (w.alloc (.cells #[.pointer (some ⟨S, 0, none⟩)] 58)).alloc (.cells #[.int .i64 0] 31) := ⟨_, rfl⟩
  have hb : Below w.heap.size w W2 := by rw [hW2]; exact ((Below.refl _ w).alloc (Nat.le_refl _) _).alloc (by simp) _
  have HB := Lib.hid hb
  have HS := Lib.hid (hS.below hb hS.lt)
  have hc2 : W2.cell? ⟨w.heap.size, 0, none⟩ = some (.pointer (some ⟨S, 0, none⟩)) := by
    rw [hW2]; exact ((Blk.new w 58 #[.pointer (some ⟨S, 0, none⟩)]).alloc _).cell 0
  have hB4 : Blk W2 (w.heap.size + 1) 31 #[.int .i64 0] := by rw [hW2]; exact Blk.new' (by simp)
  have HB4 := Lib.hid hB4; have HC2 := Lib.hid hc2; have HBIG := Lib.hid hbig; have HW2 := Lib.hid hW2
  clear hS hb hW2 hc2 hB4 hbig
  go_enter Try.func76, Try.ntmps76
  go_upto_region 1 with fail
  rw [← HW2.out]
  have hc2 := HC2.out
  go_wp2_with fail
  have HSC := Lib.hid (fun W (hW : Below W2.heap.size W2 W) => ((HS.out.below hW HS.out.lt).cell 1).trans rfl : ∀ W, Below W2.heap.size W2 W → W.cell? ⟨S, 1, none⟩ = some (.int .i64 (room : Int)))
  have HC2C := Lib.hid (fun W (hW : Below W2.heap.size W2 W) => (hW.cell (p := ⟨w.heap.size, 0, none⟩) (World.block_lt_of_cell? W2 _ HC2.out)).trans HC2.out : ∀ W, Below W2.heap.size W2 W → W.cell? ⟨w.heap.size, 0, none⟩ = some (.pointer (some ⟨S, 0, none⟩)))
  have hC0 : Below W2.heap.size W2 W2.drew := (Below.refl _ _).drew
  have hbig := HBIG.out
  have hbig' : (room : Int) < (takesOf n : Int) := by omega
  clear hc2 hbig
  refine wp_region_anyN (Below W2.heap.size W2) (by kernel_rfl) ?_
  refine anyC_takes (by kernel_rfl) (fun _ _ _ _ _ h => h) [0, 1, 3, 4, 5, 6] 3 _ _ (by kernel_rfl) ?_
  simp only [List.filterMap_cons, List.filterMap_nil, List.getElem?_toArray, List.getElem?_cons_succ, List.getElem?_cons_zero]
  show wpQuiet _ _ _ _ (_ :: _ :: _ :: _ :: _ :: _ :: List.nil) _
  repeat (first | go_big_quiet_skip | (go_big_quiet_want; first | (refine quiet_load _ _ rfl ⟨S, 1, none⟩ rfl _ HSC.out (fun _ => by kernel_rfl) ?_; simp only [Act.put, List.setIfInBounds_toArray, List.set_cons_succ, List.set_cons_zero]; go_big_quiet_on) | (refine quiet_load _ _ rfl ⟨w.heap.size, 0, none⟩ rfl _ HC2C.out (fun _ => by kernel_rfl) ?_; simp only [Act.put, List.setIfInBounds_toArray, List.set_cons_succ, List.set_cons_zero]; go_big_quiet_on) | (go_big_quiet_op; first | go_big_quiet_on | (refine ⟨_, fun _ _ => rfl, ?_⟩; go_big_quiet_on))))
  refine wpQuiet_nil ?_
  refine anyC_only (i := 2) rfl (by kernel_rfl) hC0 ?_
  go_wp2_with fail
  refine (takes_any n W2.drew hn).mono ?_
  rintro e w3 ⟨rfl, rfl⟩
  go_wp2_with fail
  refine anyC_takes (by kernel_rfl) (fun _ _ _ _ _ h => h) [7, 8] 0 _ _ (by kernel_rfl) ?_
  simp only [List.filterMap_cons, List.filterMap_nil, List.getElem?_toArray, List.getElem?_cons_succ, List.getElem?_cons_zero]
  show wpQuiet _ _ _ _ (_ :: _ :: List.nil) _
  repeat (first | go_big_quiet_skip | (go_big_quiet_want; first | (fail; simp only [Act.put, List.setIfInBounds_toArray, List.set_cons_succ, List.set_cons_zero]; go_big_quiet_on) | (go_big_quiet_op; first | go_big_quiet_on | (refine ⟨_, fun _ _ => rfl, ?_⟩; go_big_quiet_on))))
  refine wpQuiet_nil ?_
  refine ⟨hC0, by kernel_rfl, ?_⟩
  have k4 : W2.drew.cell? ⟨w.heap.size + 1, 0, none⟩ = some (.int .i64 0) := HB4.out.cell 0
  have f4 : W2.drew.frozen? ⟨w.heap.size + 1, 0, none⟩ = false := HB4.out.frozen 0
  go_wp2_with fail
  refine bodyPost_ret (v := .int .i64 7) (results_cell_one rfl _ _ (w.heap.size + 1) _ rfl ((HB4.out.set_ 0 (.int .i64 7)).cell 0) (by kernel_rfl)) rfl ⟨rfl, ?_⟩
  exact (HB.out.setCell (p := ⟨w.heap.size + 1, 0, none⟩) (Nat.le_succ _) _).drew
theorem save_leaves {w w5 X : World} {F F0 : Nat → Prop} {S room M : Nat} {er : Int} {st : DS} {tmps : Array Value} (h4 : tmps.getD 4 undef = .pointer (some ⟨w.heap.size + 1, 0, none⟩)) (hF0F : ∀ k, F0 k → F k) (_hF0l : ∀ k, F0 k → k < w.heap.size) (hb5 : Below w.heap.size w w5) (hs5 : w.heap.size + 1 < w5.heap.size)
    (hs : SlotIs X (Grown F0 w5) S room st) (hk : Keeps (fun k => F0 k ∨ k = w.heap.size + 1) w5 X) (hc : X.cell? ⟨w.heap.size + 1, 0, none⟩ = some (.int .i64 er)) (hM : w5.heap.size ≤ M) (hd : X.heap[M]? = some (.deferred (some []))) {R : Ending → World → Prop}
    (hR : ∀ X', SlotIs X' (Grown F w) S room st → Keeps F w X' → R (.returned (.int .i64 er)) X') :
    bodyPostM Fence.wide 3 Try.prog Try.f76 R .ret { tmps := tmps, defers := [{ target := .collected M, args := #[] }] } X := by
  refine ⟨by simp, .inl ⟨_, _, rfl, run_takeDeferred hd, ?_⟩⟩
  refine ⟨_, results_cell_one rfl _ _ (w.heap.size + 1) (.int .i64 er) h4 ?_ (by kernel_rfl), hR _ ?_ ?_⟩
  · rw [← hc]
    exact World.cell?_of_block (a := ⟨w.heap.size + 1, 0, none⟩) (World.putObj_heap_other (by show w.heap.size + 1 ≠ M; omega))
  · refine (hs.putObj hd rfl _).weaken fun k e => ?_
    rcases e with e | e
    · exact Or.inl (hF0F k e)
    · exact Or.inr (by omega)
  · have h1 : Keeps F w w5 := Keeps.of_below hb5
    refine (h1.trans hk (fun i hi e => ?_)).trans (keeps_putObj X M _) (fun i hi e => by omega)
    rcases e with e | e
    · exact hF0F i e
    · omega
set_option maxRecDepth 100000 in
set_option maxHeartbeats 2000000 in
theorem Save_fit (w : World) (F : Nat → Prop) (S room : Nat) (s : DS) (side : Nat) (kept b : List UInt8) (A : Option Addr) (n c : Nat) (h : SlotIs w F S room s) (hok : SOk s room side kept) (hr : Rd w w.heap.size A n b) (hnc : n ≤ c) (hoff : 0 < n → ∀ ad, A = some ad → ¬ F ad.block)
    (hwr : s.writes ≤ 4611686018400000000) (hfit : ¬ room < takesOf n) (hFl : ∀ k, F k → k < w.heap.size) :
    CallsIn Fence.wide 3 Try.prog 76 #[.pointer (some ⟨S, 0, none⟩), .slice A n c] w fun e w' => e = .returned (.int .i64 (s.save room side kept b).1) ∧ SlotIs w' (Grown F w) S room (s.save room side kept b).2 ∧ Keeps F w w' := by
  obtain ⟨o, ho⟩ : ∃ o, o = 1 - side := ⟨_, rfl⟩
  have hoi : (1 : Int) - (side : Int) = (o : Int) := by have := hok.sideLe; omega
  have hn : n ≤ 16384 := by have := hok.roomLe; unfold takesOf at hfit; omega
  obtain ⟨D, G, hS, hdk⟩ := id h
  obtain ⟨W2, hW2⟩ : ∃ W2, W2 = (w.alloc (.cells #[.pointer (some ⟨S, 0, none⟩)] 58)).alloc (.cells #[.int .i64 0] 31) := ⟨_, rfl⟩
  have hb : Below w.heap.size w W2 := by rw [hW2]; exact ((Below.refl _ w).alloc (Nat.le_refl _) _).alloc (by simp) _
  have hsz2 : W2.heap.size = w.heap.size + 2 := by rw [hW2]; simp
  have HB := Lib.hid hb
  have HS := Lib.hid (hS.below hb hS.lt)
  have hB2 : Blk W2 w.heap.size 58 #[.pointer (some ⟨S, 0, none⟩)] := by
    rw [hW2]; exact (Blk.new w 58 #[.pointer (some ⟨S, 0, none⟩)]).alloc _
  have hB4 : Blk W2 (w.heap.size + 1) 31 #[.int .i64 0] := by rw [hW2]; exact Blk.new' (by simp)
  have HB4 := Lib.hid hB4; have HB2 := Lib.hid hB2; have HFIT := Lib.hid hfit; have HW2 := Lib.hid hW2; have HOK := Lib.hid hok; have H := Lib.hid h; have HRD := Lib.hid hr; have HO := Lib.hid ho; have HOI := Lib.hid hoi; have HN := Lib.hid hn
  have HWR := Lib.hid hwr; have HOFF := Lib.hid hoff; have HFL := Lib.hid hFl; have HNC := Lib.hid hnc; have HSZ2 := Lib.hid hsz2
  clear hS hb hW2 hB2 hB4 hfit hok h hr ho hoi hn hwr hoff hFl hdk hnc hsz2
  refine callsIn_of_wp_marks Try.func76 rfl trivial (wpIn_wide.2 ?_)
  simp only [Try.ntmps76, List.size_toArray, List.length_cons, List.length_nil, Nat.reduceAdd, Nat.reduceSub, Array.replicate_succ, Array.replicate_zero, List.push_toArray, List.append_toArray, List.nil_append, List.cons_append]
  go_upto_region 1 with fail
  rw [← HW2.out]
  have hc2 := (HB2.out.cell 0).trans rfl
  go_wp2_with fail
  have HSC := Lib.hid (fun W (hW : Below W2.heap.size W2 W) => ((HS.out.below hW HS.out.lt).cell 1).trans rfl : ∀ W, Below W2.heap.size W2 W → W.cell? ⟨S, 1, none⟩ = some (.int .i64 (room : Int)))
  have HC2C := Lib.hid (fun W (hW : Below W2.heap.size W2 W) => ((HB2.out.below hW HB2.out.lt).cell 0).trans rfl : ∀ W, Below W2.heap.size W2 W → W.cell? ⟨w.heap.size, 0, none⟩ = some (.pointer (some ⟨S, 0, none⟩)))
  have hC0 : Below W2.heap.size W2 W2.drew := (Below.refl _ _).drew
  have hfit := HFIT.out
  have hfit' : ¬ (room : Int) < (takesOf n : Int) := by omega
  have hn := HN.out
  clear hc2 hfit
  refine wp_region_anyN (Below W2.heap.size W2) (by kernel_rfl) ?_
  refine anyC_takes (by kernel_rfl) (fun _ _ _ _ _ h => h) [0, 1, 3, 4, 5, 6] 3 _ _ (by kernel_rfl) ?_
  simp only [List.filterMap_cons, List.filterMap_nil, List.getElem?_toArray, List.getElem?_cons_succ, List.getElem?_cons_zero]
  show wpQuiet _ _ _ _ (_ :: _ :: _ :: _ :: _ :: _ :: List.nil) _
  repeat (first | go_big_quiet_skip | (go_big_quiet_want; first | (refine quiet_load _ _ rfl ⟨S, 1, none⟩ rfl _ HSC.out (fun _ => by kernel_rfl) ?_; simp only [Act.put, List.setIfInBounds_toArray, List.set_cons_succ, List.set_cons_zero]; go_big_quiet_on) | (refine quiet_load _ _ rfl ⟨w.heap.size, 0, none⟩ rfl _ HC2C.out (fun _ => by kernel_rfl) ?_; simp only [Act.put, List.setIfInBounds_toArray, List.set_cons_succ, List.set_cons_zero]; go_big_quiet_on) | (go_big_quiet_op; first | go_big_quiet_on | (refine ⟨_, fun _ _ => rfl, ?_⟩; go_big_quiet_on))))
  refine wpQuiet_nil ?_
  refine anyC_only (i := 2) rfl (by kernel_rfl) hC0 ?_
  go_wp2_with fail
  refine (takes_any n W2.drew (by omega)).mono ?_
  rintro e w3 ⟨rfl, rfl⟩
  go_wp2_with fail
  refine anyC_takes (by kernel_rfl) (fun _ _ _ _ _ h => h) [7, 8] 0 _ _ (by kernel_rfl) ?_
  simp only [List.filterMap_cons, List.filterMap_nil, List.getElem?_toArray, List.getElem?_cons_succ, List.getElem?_cons_zero]
  show wpQuiet _ _ _ _ (_ :: _ :: List.nil) _
  repeat (first | go_big_quiet_skip | (go_big_quiet_want; first | (fail; simp only [Act.put, List.setIfInBounds_toArray, List.set_cons_succ, List.set_cons_zero]; go_big_quiet_on) | (go_big_quiet_op; first | go_big_quiet_on | (refine ⟨_, fun _ _ => rfl, ?_⟩; go_big_quiet_on))))
  refine wpQuiet_nil ?_
  refine ⟨hC0, by kernel_rfl, ?_⟩
  have hc2 : W2.drew.cell? ⟨w.heap.size, 0, none⟩ = some (.pointer (some ⟨S, 0, none⟩)) := HC2C.out _ hC0
  go_wp2_with fail
  refine (Root_any W2.drew F S room s side kept.length (H.out.below ((HB.out).trans (hC0.mono HB.out.size))) HOK.out.root HOK.out.sideLe HOK.out.small).mono ?_
  rintro e w3 ⟨rfl, hb3⟩
  have hb23 : Below W2.heap.size W2 w3 := hC0.trans hb3
  obtain ⟨W4, hW4⟩ : ∃ W4, W4 = (w3.alloc (.cells #[.int .i64 (side : Int), .int .i64 (kept.length : Int)] 97)).alloc (.cells #[.int .i64 (o : Int)] 3) := ⟨_, rfl⟩
  have hb24 : Below W2.heap.size W2 W4 := by rw [hW4]; exact (hb23.alloc hb23.size _).alloc (by have := hb23.size; simp; omega) _
  have hT : Blk W4 w3.heap.size 97 #[.int .i64 (side : Int), .int .i64 (kept.length : Int)] := by rw [hW4]; exact (Blk.new w3 97 #[.int .i64 (side : Int), .int .i64 (kept.length : Int)]).alloc _
  have hT6 : Blk W4 (w3.heap.size + 1) 3 #[.int .i64 (o : Int)] := by rw [hW4]; exact Blk.new' (by simp)
  have hsz4 : W4.heap.size = w3.heap.size + 2 := by rw [hW4]; simp
  have HB24 := Lib.hid hb24; have HT := Lib.hid hT; have HT6 := Lib.hid hT6; have HSZ4 := Lib.hid hsz4; have HW4 := Lib.hid hW4; have HSZ3 := Lib.hid hb23.size
  have hsd := HOK.out.sideLe
  clear hb23 hb24 hT hT6 hsz4 hW4 hb3 hc2 hfit' hC0
  go_upto_region 7 with fail
  rw [HOI.out, ← HW4.out]
  generalize w3.heap.size = R5 at HT HT6 HSZ4 HSZ3 ⊢
  clear hsd
  go_wp2_with fail
  refine (pieces_any A n c W4).mono ?_
  rintro e w5 ⟨rfl, hw5⟩
  have hb45 : Below W2.heap.size W2 w5 := by rw [hw5]; exact HB24.out.alloc HB24.out.size _
  have hBb : Blk w5 W4.heap.size 64 #[.slice A n c] := by rw [hw5]; exact Blk.new _ _ _
  have hT5 : Blk w5 R5 97 #[.int .i64 (side : Int), .int .i64 (kept.length : Int)] := by rw [hw5]; exact HT.out.alloc _
  have hT65 : Blk w5 (R5 + 1) 3 #[.int .i64 (o : Int)] := by rw [hw5]; exact HT6.out.alloc _
  have HBb := Lib.hid hBb; have HT5 := Lib.hid hT5; have HT65 := Lib.hid hT65
  have HB5 := Lib.hid (HB.out.trans (hb45.mono HB.out.size))
  have HS5 := Lib.hid (HS.out.below hb45 HS.out.lt)
  have HB25 := Lib.hid (HB2.out.below hb45 HB2.out.lt); have HB45 := Lib.hid (HB4.out.below hb45 HB4.out.lt)
  have HSZ5 := Lib.hid (show W4.heap.size < w5.heap.size by rw [hw5]; simp)
  have HSZ4' := Lib.hid (show w.heap.size + 2 ≤ R5 by have := HSZ2.out; have := HSZ3.out; omega)
  generalize W4.heap.size = Bb at HBb HSZ5 HSZ4 ⊢
  clear hw5 hb45 hBb hT5 hT65 HT HT6 HB24 HW4
  obtain ⟨F0, hF0⟩ : ∃ F0 : Nat → Prop, F0 = fun k => F k ∧ ∃ o, w.heap[k]? = some o ∧ o.isCells = true := ⟨_, rfl⟩
  have hF0F : ∀ k, F0 k → F k := fun k e => by rw [hF0] at e; exact e.1
  have hF0l : ∀ k, F0 k → k < w.heap.size := fun k e => by rw [hF0] at e; obtain ⟨_, o, e1, _⟩ := e; exact lt_of_get e1
  have h5 : SlotIs w5 F0 S room s := by rw [hF0]; exact H.out.tight.below HB5.out
  have hr5 : Rd w5 w.heap.size A n b := HRD.out.below HB5.out
  have HF0F := Lib.hid hF0F; have HF0L := Lib.hid hF0l; have H5 := Lib.hid h5; have HR5 := Lib.hid hr5
  clear hF0 hF0F hF0l h5 hr5
  have hlen : b.length = n := HRD.out.len.symm
  have HLEN := Lib.hid hlen
  clear hlen
  go_wp2_with fail
  refine (wpIn_wide (n := 3)).1 ?_
  refine range_pieces (n := 3) (by omega) Bb A n c HNC.out b w.heap.size HN.out rfl
    (fun k W => SlotIs W (Grown F0 w5) S room (s.writeAll (newList room o b k)).2 ∧ Blk W S 85 #[.pointer (some ⟨D, 0, none⟩), .int .i64 (room : Int)] ∧ Keeps F0 w5 W ∧ (s.writeAll (newList room o b k)).1 = 0)
    (fun W => SlotIs W (Grown F0 w5) S room (s.save room side kept b).2 ∧ Keeps (fun k => F0 k ∨ k = w.heap.size + 1) w5 W ∧ W.cell? ⟨w.heap.size + 1, 0, none⟩ = some (.int .i64 (s.save room side kept b).1))
    ?_ ?_ ?_ ?_ ⟨H5.out.weaken fun k e => Or.inl e, HS5.out, Keeps.refl _ _, rfl⟩
    (fun k g => ⟨List.toArray (.pointer (some ⟨S, 0, none⟩) :: .slice A n c :: .pointer (some ⟨w.heap.size, 0, none⟩) :: undef :: .pointer (some ⟨w.heap.size + 1, 0, none⟩) :: .pointer (some ⟨R5, 0, none⟩) :: .pointer (some ⟨R5 + 1, 0, none⟩) :: .int .i64 (k : Int) :: .slice (some ⟨g, 0, none⟩) 32 32 :: undef :: undef :: undef :: undef :: undef :: undef :: .bool false :: .pointer (some ⟨S, 0, none⟩) :: .bool false :: .bool false :: .slice A n c :: .int .i64 (n : Int) :: .int .i64 (takesOf n : Int) :: .pointer (some ⟨S, 0, none⟩) :: .pointer (some ⟨S, 0, none⟩) :: .pointer (some ⟨S, 1, none⟩) :: .int .i64 (room : Int) :: .bool false :: .pointer (some ⟨S, 0, none⟩) :: .agg #[.int .i64 (side : Int), .int .i64 (kept.length : Int)] :: .pointer (some ⟨R5, 0, none⟩) :: .int .i64 (side : Int) :: .int .i64 (o : Int) :: .slice A n c :: pcV Bb :: .int .i64 (k : Int) :: .slice (some ⟨g, 0, none⟩) 32 32 :: undef :: undef :: undef :: undef :: undef :: undef :: undef :: undef :: undef :: undef :: undef :: undef :: undef :: undef :: undef :: undef :: undef :: undef :: undef :: undef :: undef :: undef :: undef :: undef :: undef :: undef :: undef :: undef :: undef :: undef :: undef :: undef :: undef :: undef :: undef :: undef :: undef :: undef :: undef :: undef :: undef :: undef :: undef :: undef :: undef :: undef :: undef :: undef :: undef :: undef :: undef :: undef :: undef :: undef :: undef :: undef :: undef :: undef :: undef :: undef :: undef :: undef :: List.nil), []⟩) ?_ ?_ ?_ ?_
  · rintro k W ⟨_, _, hk, _⟩
    refine ⟨(HBb.out.keeps hk fun e => by have := HF0L.out _ e; have := HSZ4.out; have := HSZ4'.out; omega).cell 0, ?_, Nat.le_trans HB5.out.size hk.size⟩
    rcases Nat.eq_zero_or_pos n with h0 | h0
    · exact ⟨HR5.out.1, fun h => absurd h (by omega)⟩
    · exact rd_off HR5.out hk HB5.out.size (fun ad e _ e2 => HOFF.out h0 ad e (HF0F.out _ e2))
  · rintro k W W' ⟨h1, h2, h3, h4⟩ hb
    exact ⟨h1.below hb, h2.below hb h2.lt, h3.trans (Keeps.of_below (F := fun _ => False) hb) (fun _ _ e => e.elim), h4⟩
  · rintro k W l o' ob ⟨h1, h2, h3, h4⟩ hl hg hc
    refine ⟨h1.putObj hg hc _, h2.keeps (keeps_putObj W l o') (fun e => ?_), h3.trans (keeps_putObj W l o') (fun i hi e => by omega), h4⟩
    have := HS5.out.lt
    omega
  · rintro W l o' ob ⟨h1, h2, h3⟩ hl hg hc
    refine ⟨h1.putObj hg hc _, h2.trans (keeps_putObj W l o') (fun i hi e => by omega), ?_⟩
    rw [← h3]
    exact World.cell?_of_block (a := ⟨w.heap.size + 1, 0, none⟩) (World.putObj_heap_other (by have := HB5.out.size; have := HSZ5.out; have := HSZ4.out; have := HSZ4'.out; show w.heap.size + 1 ≠ l; omega))
  · intro l k g W K hK
    gi_wp2
    exact hK
  · rintro l k g W hk ⟨h1, h2, h3, h4⟩ hB
    have HJ := Lib.hid h1; have HJS := Lib.hid h2; have HJK := Lib.hid h3; have HJ0 := Lib.hid h4; have HG := Lib.hid hB; have HK := Lib.hid hk
    clear h1 h2 h3 h4 hB hk
    gi_wp2_with fail
    have hc2 : ∀ X, Keeps F0 w5 X → X.cell? ⟨w.heap.size, 0, none⟩ = some (.pointer (some ⟨S, 0, none⟩)) := fun X hX => ((HB25.out.keeps hX fun e => by have := HF0L.out _ e; omega).cell 0).trans rfl
    have hc6 : ∀ X, Keeps F0 w5 X → X.cell? ⟨R5 + 1, 0, none⟩ = some (.int .i64 (o : Int)) := fun X hX => ((HT65.out.keeps hX fun e => by have := HF0L.out _ e; have := HSZ4'.out; omega).cell 0).trans rfl
    have HCC := Lib.hid (fun X hX hS' => ⟨hc2 X hX, hS', hc6 X hX⟩ : ∀ X, Keeps F0 w5 X → X.cell? ⟨S, 0, none⟩ = some (.pointer (some ⟨D, 0, none⟩)) → SaveC w.heap.size S D R5 o X)
    have HCW := Lib.hid (HCC.out W.drew HJK.out.drew ((HJS.out.cell 0).trans rfl))
    clear hc2 hc6
    have hrm := HOK.out.roomLe
    have hko : k ≤ 100000 := by have := HK.out; have := HN.out; unfold takesOf at this; omega
    refine wpIn_region_anyR (SaveC w.heap.size S D R5 o) (by kernel_rfl) (by kernel_rfl) ?_
    refine anyC_takes (by kernel_rfl) (fun _ _ _ _ _ h => h) [0, 1, 2, 3, 4, 5, 6, 8] 3 _ _ (by kernel_rfl) ?_
    simp only [List.filterMap_cons, List.filterMap_nil, List.getElem?_toArray, List.getElem?_cons_succ, List.getElem?_cons_zero]
    show wpQuiet _ _ _ _ (_ :: _ :: _ :: _ :: _ :: _ :: _ :: _ :: List.nil) _
    repeat (first | go_big_quiet_skip | (go_big_quiet_want; first | (refine quiet_load _ _ rfl ⟨w.heap.size, 0, none⟩ rfl _ (fun X hX => hX.1) (fun _ => by kernel_rfl) ?_; simp only [Act.put, List.setIfInBounds_toArray, List.set_cons_succ, List.set_cons_zero]; go_big_quiet_on) | (refine quiet_load _ _ rfl ⟨S, 0, none⟩ rfl _ (fun X hX => hX.2.1) (fun _ => by kernel_rfl) ?_; simp only [Act.put, List.setIfInBounds_toArray, List.set_cons_succ, List.set_cons_zero]; go_big_quiet_on) | (refine quiet_load _ _ rfl ⟨R5 + 1, 0, none⟩ rfl _ (fun X hX => hX.2.2) (fun _ => by kernel_rfl) ?_; simp only [Act.put, List.setIfInBounds_toArray, List.set_cons_succ, List.set_cons_zero]; go_big_quiet_on) | (go_big_quiet_op; first | go_big_quiet_on | (refine ⟨_, fun _ _ => rfl, ?_⟩; go_big_quiet_on))))
    refine wpQuiet_nil ?_
    refine anyC_only (i := 7) rfl (by kernel_rfl) HCW.out ?_
    go_wp2_with fail
    refine (block_any S D room o k W.drew hrm (by have := HO.out; omega) hko (HJS.out.drew)).mono ?_
    rintro e w6 ⟨rfl, rfl⟩
    go_wp2_with fail
    refine anyC_only (i := 9) rfl (by kernel_rfl) HCW.out ?_
    go_wp2_with fail
    have hwk := (writeAll_writes (newList room o b k) s).1
    rw [newList_len] at hwk
    refine (SWrite_any W.drew (Grown F0 w5) S room (s.writeAll (newList room o b k)).2 (1 + o * room + k) (some ⟨g, 0, none⟩) 32 32 (pieceOf b k) D (by have := HWR.out; omega) (HJ.out.below (Below.refl _ _).drew) ((HJS.out.cell 0).trans rfl) (Rd.of_blk (HG.out.drew) 32 (pieceOf_len _ _).symm)).mono ?_
    rintro e w6 ⟨rfl, hs6, hk6, hf6, hb6⟩
    obtain ⟨er, st, hws⟩ : ∃ er st, (s.writeAll (newList room o b k)).2.write ((1 + o * room + k : Nat) : Int) (pieceOf b k) = (er, st) := ⟨_, _, rfl⟩
    rw [hws] at hs6 ⊢
    have HWS := Lib.hid hws
    clear hws
    have HK6 := Lib.hid (HJK.out.drew.trans hk6 (fun i hi e => by rcases e with e | e; exact e; omega))
    have HJ6 := Lib.hid (hs6.weaken (G := Grown F0 w5) (fun i e => by rcases e with e | e; exact e; exact Or.inr (Nat.le_trans HJK.out.size e)))
    have HF6 := Lib.hid (show KeepsFrom w5.heap.size W w6 from KeepsFrom.any ⟨hf6.size, hf6.same⟩)
    have HC6 := Lib.hid (HCC.out w6 HK6.out ((hb6.cell 0).trans rfl)); have HB6 := Lib.hid hb6
    clear hs6 hk6 hf6 hb6
    go_wp2_with fail
    refine anyC_takes (by kernel_rfl) (fun _ _ _ _ _ h => h) [10] 0 _ _ (by kernel_rfl) ?_
    simp only [List.filterMap_cons, List.filterMap_nil, List.getElem?_toArray, List.getElem?_cons_succ, List.getElem?_cons_zero]
    show wpQuiet _ _ _ _ (_ :: List.nil) _
    repeat (first | go_big_quiet_skip | (go_big_quiet_want; first | (fail; simp only [Act.put, List.setIfInBounds_toArray, List.set_cons_succ, List.set_cons_zero]; go_big_quiet_on) | (go_big_quiet_op; first | go_big_quiet_on | (refine ⟨_, fun _ _ => rfl, ?_⟩; go_big_quiet_on))))
    refine wpQuiet_nil ?_
    refine ⟨HC6.out, by kernel_rfl, ?_⟩
    by_cases her : er = 0
    · subst her
      gi_wp2_with fail
      refine ⟨HF6.out, ?_, HB6.out, HK6.out, ?_⟩
      · rw [save_step HJ0.out, HWS.out]; exact HJ6.out
      · rw [save_step HJ0.out, HWS.out]
    · have k4 : w6.cell? ⟨w.heap.size + 1, 0, none⟩ = some (.int .i64 0) := ((HB45.out.keeps HK6.out fun e => by have := HF0L.out _ e; omega).cell 0).trans rfl
      have f4 : w6.frozen? ⟨w.heap.size + 1, 0, none⟩ = false := (HB45.out.keeps HK6.out fun e => by have := HF0L.out _ e; omega).frozen 0
      have HER := Lib.hid her
      gi_wp2_with fail
      have hsv : s.save room side kept b = (er, st) := by
        have ho := HO.out
        rw [← HWS.out]
        rw [ho]
        refine save_new_no (by rw [HLEN.out]; exact HFIT.out) (by rw [HLEN.out]; exact HK.out) (by rw [← ho]; exact HJ0.out) ?_
        rw [← ho, HWS.out]
        exact HER.out
      rw [hsv]
      refine ⟨HF6.out.trans ((KeepsOthers.setCell _ _ _).from _), ?_, ?_, ?_⟩
      · refine HJ6.out.keeps ((Keeps.refl (fun k => k = w.heap.size + 1) w6).setCell (p := ⟨w.heap.size + 1, 0, none⟩) rfl _) fun i e e2 => ?_
        rcases e with e | e
        · have := HF0L.out _ e; omega
        · have := HSZ5.out; have := HSZ4.out; have := HSZ4'.out; omega
      · exact (HK6.out.weaken (F' := fun k => F0 k ∨ k = w.heap.size + 1) (fun _ _ e => Or.inl e)).setCell (p := ⟨w.heap.size + 1, 0, none⟩) (Or.inr rfl) _
      · exact (((HB45.out.keeps HK6.out fun e => by have := HF0L.out _ e; omega).set_ 0 (.int .i64 er)).cell 0).trans rfl
  · rintro M W hM ⟨h1, h2, h3, h4⟩ hD
    have HJ := Lib.hid h1; have HJS := Lib.hid h2; have HJK := Lib.hid h3; have HJ0 := Lib.hid h4; have HM := Lib.hid hM; have HD := Lib.hid hD; have HMK := Lib.hid mk32
    clear h1 h2 h3 h4 hM hD
    have hmk := HMK.out
    have hn := HN.out
    have HT6W := Lib.hid (HT65.out.keeps HJK.out fun e => by have := HF0L.out _ e; have := HSZ4'.out; omega)
    have k6 : (W.alloc (.cells (zero32.map B8).toArray 5)).cell? ⟨R5 + 1, 0, none⟩ = some (.int .i64 (o : Int)) := ((HT6W.out.alloc _).cell 0).trans rfl
    have ho1 : o ≤ 1 := by have := HO.out; omega
    obtain ⟨Wx, hWx⟩ : ∃ Wx, Wx = (W.alloc (.cells (zero32.map B8).toArray 5)).alloc (.cells #[.int .u8 (o : Int), .int .u8 ((n : Int) / 16777216), .int .u8 ((n : Int) / 65536), .int .u8 ((n : Int) / 256), .int .u8 ((n : Int) % 256)] 5) := ⟨_, rfl⟩
    have HZ := Lib.hid (show Blk Wx W.heap.size 5 (zero32.map B8).toArray by rw [hWx]; exact (Blk.new W _ _).alloc _)
    have HV := Lib.hid (show Blk Wx (W.heap.size + 1) 5 #[.int .u8 (o : Int), .int .u8 ((n : Int) / 16777216), .int .u8 ((n : Int) / 65536), .int .u8 ((n : Int) / 256), .int .u8 ((n : Int) % 256)] by rw [hWx]; exact Blk.new' (by simp))
    have HBX := Lib.hid (show Below W.heap.size W Wx by rw [hWx]; exact ((Below.refl _ _).alloc (Nat.le_refl _) _).alloc (by simp) _)
    have HWX := Lib.hid hWx
    obtain ⟨cs5, hcs5⟩ : ∃ cs5, cs5 = [Value.int .u8 (o : Int), .int .u8 ((n : Int) / 16777216), .int .u8 ((n : Int) / 65536), .int .u8 ((n : Int) / 256), .int .u8 ((n : Int) % 256)] := ⟨_, rfl⟩
    have HPOS := Lib.hid (show 0 < cs5.length → some (⟨W.heap.size, 0, none⟩ : Addr) = some ⟨W.heap.size, 0, none⟩ ∧ ∃ ad, some (⟨W.heap.size + 1, 0, none⟩ : Addr) = some ad ∧ ∀ j v, cs5[j]? = some v → Wx.cell? (ad.add j) = some v from fun _ => ⟨rfl, _, rfl, fun j v hv => by
      have ha : (⟨W.heap.size + 1, 0, none⟩ : Addr).add j = ⟨W.heap.size + 1, j, none⟩ := by unfold Addr.add; split <;> simp_all
      rw [ha, HV.out.cell, ← hv, hcs5]
      simp⟩)
    have HC5 := Lib.hid (show cs5.length = Nat.min 5 32 by rw [hcs5]; rfl)
    have HF5 := Lib.hid (show 0 + cs5.length ≤ (zero32.map B8).length by rw [hcs5, List.length_map, zero32_len]; simp)
    have H15 := Lib.hid (show ∀ v ∈ cs5, v.oneCell' = true by rw [hcs5]; intro v hv; simp at hv; rcases hv with rfl | rfl | rfl | rfl | rfl <;> rfl)
    have HSP := Lib.hid (show splice (zero32.map B8) 0 cs5 = (rootB o n).map B8 by rw [hcs5]; exact root_splice o n ho1 hn)
    clear hcs5 hWx
    go_wp2_with (rw [← HWX.out]; refine wpList_copy_splice rfl (.tmp 52) (.tmp 66) 64 64 rfl 5 Try.underlying64 (by kernel_rfl) (some ⟨W.heap.size, 0, none⟩) (some ⟨W.heap.size + 1, 0, none⟩) 32 32 5 5 rfl rfl W.heap.size 0 (zero32.map B8) 5 HZ.out cs5 HC5.out HPOS.out HF5.out H15.out W.heap.size W HBX.out (Nat.le_refl _) ?_; intro w6 hg6 hb6; rw [HSP.out] at hg6; have HG6 := Lib.hid hg6.out; have HB6 := Lib.hid hb6; clear hg6 hb6 k6 hmk; have hc2 := (((HB25.out.keeps HJK.out (fun e => by have := HF0L.out _ e; omega)).below HB6.out (by have := HB5.out.size; have := HSZ5.out; have := HSZ4.out; have := HSZ4'.out; have := HJK.out.size; omega)).cell 0).trans rfl; have hcS := ((HJS.out.below HB6.out HJS.out.lt).cell 0).trans rfl)
    have hmid : s.mid room side b = (s.writeAll (newList room o b (takesOf n))).2.write ((0 : Nat) : Int) (rootB o n) := by unfold DS.mid; rw [← HO.out, HLEN.out]; rfl
    have hwk := (writeAll_writes (newList room o b (takesOf n)) s).1
    rw [newList_len] at hwk
    have HMID := Lib.hid hmid
    clear hmid
    have ht600 : takesOf n ≤ 600 := by unfold takesOf; omega
    refine (SWrite_any w6 (Grown F0 w5) S room (s.writeAll (newList room o b (takesOf n))).2 0 (some ⟨W.heap.size, 0, none⟩) 32 32 (rootB o n) D (by have := HWR.out; omega) (HJ.out.below HB6.out) hcS (Rd.of_blk HG6.out 32 rfl)).mono ?_
    rintro e w7 ⟨rfl, hs7, hk7, hf7, hb7⟩
    have HK6 := Lib.hid (HJK.out.trans (Keeps.of_below (F := fun _ => False) HB6.out) (fun _ _ e => e.elim))
    have HSW6 := Lib.hid (HK6.out.size)
    have HK7 := Lib.hid (HK6.out.trans hk7 (fun i hi e => by rcases e with e | e; exact e; omega))
    have HJ7 := Lib.hid (hs7.weaken (G := Grown F0 w5) (fun i e => by rcases e with e | e; exact e; exact Or.inr (Nat.le_trans HSW6.out e)))
    have hd7 : w7.heap[M]? = some (.deferred (some [])) := hf7.same M _ (Nat.zero_le _) ((HB6.out.block M (lt_of_get HD.out)).trans HD.out) rfl
    have HD7 := Lib.hid hd7; have HB7 := Lib.hid hb7
    have HWK := Lib.hid (Nat.le_trans (write_writes (s.writeAll (newList room o b (takesOf n))).2 ((0 : Nat) : Int) (rootB o n)).1 (Nat.succ_le_succ hwk))
    clear hs7 hk7 hf7 hd7 hc2 hcS hb7
    obtain ⟨er, st, hws⟩ : ∃ er st, (s.writeAll (newList room o b (takesOf n))).2.write ((0 : Nat) : Int) (rootB o n) = (er, st) := ⟨_, _, rfl⟩
    rw [hws] at HJ7 HMID HWK ⊢
    clear hws
    have HB47 := Lib.hid (HB45.out.keeps HK7.out fun e => by have := HF0L.out _ e; omega)
    by_cases her : er = 0
    · subst her
      have kt : w7.cell? ⟨R5, 1, none⟩ = some (.int .i64 (kept.length : Int)) := ((HT5.out.keeps HK7.out fun e => by have := HF0L.out _ e; have := HSZ4'.out; omega).cell 1).trans rfl
      go_wp2_with (go_at_call 62; refine (takes_any kept.length w7 (by have := HOK.out.small; omega)).mono ?_; rintro e w8 ⟨rfl, rfl⟩)
      obtain ⟨T, hT⟩ : ∃ T, T = takesOf kept.length := ⟨_, rfl⟩
      rw [← hT]
      have hT2 : T ≤ 512 := by rw [hT]; exact Nat.le_trans HOK.out.fits HOK.out.roomLe
      have HTT := Lib.hid hT
      clear hT kt
      go_loopw [13, 14, 80] (fun _ _ q wr => ∃ j : Nat, j ≤ T ∧ q = .int .i64 (j : Int) ∧ SlotIs wr (Grown F0 w5) S room (st.writeAll (oldList room side j)).2 ∧ Blk wr S 85 #[.pointer (some ⟨D, 0, none⟩), .int .i64 (room : Int)] ∧ Keeps F0 w5 wr ∧ (st.writeAll (oldList room side j)).1 = 0 ∧ wr.heap[M]? = some (.deferred (some []))) (fun _ _ q _ => T - (intOf q).toNat)
      case atStart => exact ⟨0, by omega, rfl, HJ7.out, HB7.out, HK7.out, rfl, HD7.out⟩
      case round =>
        obtain ⟨j, hj, rfl, hsl, hsr, hkr, hzr, hdr⟩ := hrel
        by_cases hjT : j < T
        · have hjT' : (j : Int) < (T : Int) := by omega
          have HSL := Lib.hid hsl; have HSR := Lib.hid hsr; have HKR := Lib.hid hkr; have HZR := Lib.hid hzr; have HDR := Lib.hid hdr
          have hc2 : ∀ X, Keeps F0 w5 X → X.cell? ⟨w.heap.size, 0, none⟩ = some (.pointer (some ⟨S, 0, none⟩)) := fun X hX => ((HB25.out.keeps hX fun e => by have := HF0L.out _ e; omega).cell 0).trans rfl
          have hc5 : ∀ X, Keeps F0 w5 X → X.cell? ⟨R5, 0, none⟩ = some (.int .i64 (side : Int)) := fun X hX => ((HT5.out.keeps hX fun e => by have := HF0L.out _ e; have := HSZ4'.out; omega).cell 0).trans rfl
          have HCC := Lib.hid (fun X hX hS' => ⟨hc2 X hX, hS', hc5 X hX⟩ : ∀ X, Keeps F0 w5 X → X.cell? ⟨S, 0, none⟩ = some (.pointer (some ⟨D, 0, none⟩)) → SaveE w.heap.size S D R5 side X)
          have HCW := Lib.hid (HCC.out wr.drew HKR.out.drew ((HSR.out.cell 0).trans rfl))
          have HCA := Lib.hid (HCC.out (wr.drew.alloc (.cells (zero32.map B8).toArray 5)) (HKR.out.drew.alloc _) ((HSR.out.drew.alloc _).cell 0))
          clear hsl hsr hkr hzr hdr hc2 hc5
          have hrm := HOK.out.roomLe
          have hsd := HOK.out.sideLe
          have hwj := (writeAll_writes (oldList room side j) st).1
          rw [oldList_len] at hwj
          go_wp2_with fail
          refine wp_region_anyN (SaveE w.heap.size S D R5 side) (by kernel_rfl) ?_
          refine anyC_takes (by kernel_rfl) (fun _ _ _ _ _ h => h) [0, 1, 2, 3, 4, 5, 6, 7] 4 _ _ (by kernel_rfl) ?_
          simp only [List.filterMap_cons, List.filterMap_nil, List.getElem?_toArray, List.getElem?_cons_succ, List.getElem?_cons_zero]
          show wpQuiet _ _ _ _ (_ :: _ :: _ :: _ :: _ :: _ :: _ :: _ :: List.nil) _
          repeat (first | go_big_quiet_skip | (go_big_quiet_want; first | (refine quiet_load _ _ rfl ⟨w.heap.size, 0, none⟩ rfl _ (fun X hX => hX.1) (fun _ => by kernel_rfl) ?_; simp only [Act.put, List.setIfInBounds_toArray, List.set_cons_succ, List.set_cons_zero]; go_big_quiet_on) | (refine quiet_load _ _ rfl ⟨S, 0, none⟩ rfl _ (fun X hX => hX.2.1) (fun _ => by kernel_rfl) ?_; simp only [Act.put, List.setIfInBounds_toArray, List.set_cons_succ, List.set_cons_zero]; go_big_quiet_on) | (refine quiet_load _ _ rfl ⟨R5, 0, none⟩ rfl _ (fun X hX => hX.2.2) (fun _ => by kernel_rfl) ?_; simp only [Act.put, List.setIfInBounds_toArray, List.set_cons_succ, List.set_cons_zero]; go_big_quiet_on) | (go_big_quiet_op; first | go_big_quiet_on | (refine ⟨_, fun _ _ => rfl, ?_⟩; go_big_quiet_on))))
          refine wpQuiet_nil ?_
          refine anyC_two (i := 8) (j := 9) rfl rfl (by kernel_rfl) HCW.out ?_ ?_
          · go_wp2_with fail
            refine (block_any S D room side j wr.drew hrm (by omega) (by omega) HSR.out.drew).mono ?_
            rintro e w8 ⟨rfl, rfl⟩
            go_wp2_with fail
            refine anyC_only (i := 9) rfl (by kernel_rfl) HCW.out ?_
            have hmk := HMK.out
            go_wp2_with fail
            clear hmk
            refine anyC_only (i := 10) rfl (by kernel_rfl) (HCC.out _ (HKR.out.drew.alloc _) ((HSR.out.drew.alloc _).cell 0)) ?_
            go_wp2_with fail
            refine (SWrite_any _ (Grown F0 w5) S room (st.writeAll (oldList room side j)).2 (1 + side * room + j) (some ⟨wr.heap.size, 0, none⟩) 32 32 zero32 D (by have := HWR.out; have := HWK.out; omega) ((HSL.out.below (Below.refl _ _).drew).below ((Below.refl _ _).alloc (Nat.le_refl _) _)) ((HSR.out.drew.alloc _).cell 0) ((Rd.new_ wr.drew zero32 _ rfl 32 (by rw [zero32_len])).more (by simp))).mono ?_
            rintro e w9 ⟨rfl, hs9, hk9, hf9, hb9⟩
            have hkA : Keeps F0 w5 (wr.drew.alloc (.cells (zero32.map B8).toArray 5)) := HKR.out.drew.alloc _
            have HK9 := Lib.hid (hkA.trans hk9 (fun i hi e => by rcases e with e | e; exact e; omega))
            have HJ9 := Lib.hid (hs9.weaken (G := Grown F0 w5) (fun i e => by rcases e with e | e; exact e; exact Or.inr (by have := HKR.out.size; simp at e; omega)))
            have HD9 := Lib.hid (hf9.same M _ (Nat.zero_le _) ((((Below.refl wr.heap.size wr.drew).alloc (Nat.le_refl _) (.cells (zero32.map B8).toArray 5)).block M (lt_of_get HDR.out)).trans HDR.out) rfl)
            have HB9 := Lib.hid hb9
            have HC9 := Lib.hid (HCC.out w9 HK9.out ((hb9.cell 0).trans rfl))
            clear hs9 hk9 hf9 hb9 hkA
            obtain ⟨e9, s9, hws9⟩ : ∃ e9 s9, (st.writeAll (oldList room side j)).2.write ((1 + side * room + j : Nat) : Int) zero32 = (e9, s9) := ⟨_, _, rfl⟩
            rw [hws9] at HJ9 ⊢
            have HW9 := Lib.hid hws9
            clear hws9
            go_wp2_with fail
            refine anyC_takes (by kernel_rfl) (fun _ _ _ _ _ h => h) [11] 0 _ _ (by kernel_rfl) ?_
            simp only [List.filterMap_cons, List.filterMap_nil, List.getElem?_toArray, List.getElem?_cons_succ, List.getElem?_cons_zero]
            show wpQuiet _ _ _ _ (_ :: List.nil) _
            repeat (first | go_big_quiet_skip | (go_big_quiet_want; first | (fail; simp only [Act.put, List.setIfInBounds_toArray, List.set_cons_succ, List.set_cons_zero]; go_big_quiet_on) | (go_big_quiet_op; first | go_big_quiet_on | (refine ⟨_, fun _ _ => rfl, ?_⟩; go_big_quiet_on))))
            refine wpQuiet_nil ?_
            refine ⟨HC9.out, by kernel_rfl, ?_⟩
            have HB49 := Lib.hid (HB45.out.keeps HK9.out fun e => by have := HF0L.out _ e; omega)
            by_cases he9 : e9 = 0
            · subst he9
              go_wp2_with fail
              go_roundw
              case rel =>
                refine ⟨j + 1, hjT, by go_num, ?_, HB9.out, HK9.out, ?_, HD9.out⟩
                · rw [old_step HZR.out, HW9.out]; exact HJ9.out
                · rw [old_step HZR.out, HW9.out]
              case measure => simp [intOf]; omega
            · have k4 : w9.cell? ⟨w.heap.size + 1, 0, none⟩ = some (.int .i64 0) := HB49.out.cell 0
              have f4 : w9.frozen? ⟨w.heap.size + 1, 0, none⟩ = false := HB49.out.frozen 0
              have HER := Lib.hid he9
              go_wp2_with fail
              have hsv : s.save room side kept b = (e9, s9) := by
                rw [save_mid_ok (by rw [HLEN.out]; exact HFIT.out) (by rw [HLEN.out, ← HO.out]; exact HJ0.out) (by rw [HMID.out]), HMID.out, ← HTT.out, save_old_no hjT HZR.out (by rw [HW9.out]; exact HER.out), HW9.out]
              rw [hsv]
              refine save_leaves (w5 := w5) (F0 := F0) (M := M) rfl HF0F.out HF0L.out HB5.out (by have := HSZ5.out; have := HSZ4.out; have := HSZ4'.out; omega) ?_ ?_ ?_ HM.out ?_ (fun X' h1 h2 => ⟨rfl, h1, h2⟩)
              · refine HJ9.out.keeps ((Keeps.refl (fun k => k = w.heap.size + 1) w9).setCell (p := ⟨w.heap.size + 1, 0, none⟩) rfl _) fun i e e2 => ?_
                rcases e with e | e
                · have := HF0L.out _ e; omega
                · have := HSZ5.out; have := HSZ4.out; have := HSZ4'.out; omega
              · exact (HK9.out.weaken (F' := fun k => F0 k ∨ k = w.heap.size + 1) (fun _ _ e => Or.inl e)).setCell (p := ⟨w.heap.size + 1, 0, none⟩) (Or.inr rfl) _
              · exact ((HB49.out.set_ 0 (.int .i64 e9)).cell 0).trans rfl
              · exact (KeepsOthers.setCell w9 _ _).same M _ HD9.out rfl
          · have hmk := HMK.out
            go_wp2_with fail
            clear hmk
            refine anyC_only (i := 8) rfl (by kernel_rfl) HCA.out ?_
            go_wp2_with fail
            refine (block_any S D room side j _ hrm (by omega) (by omega) (HSR.out.drew.alloc _)).mono ?_
            rintro e w8 ⟨rfl, rfl⟩
            go_wp2_with fail
            refine anyC_only (i := 10) rfl (by kernel_rfl) (HCC.out _ (HKR.out.drew.alloc _) ((HSR.out.drew.alloc _).cell 0)) ?_
            go_wp2_with fail
            refine (SWrite_any _ (Grown F0 w5) S room (st.writeAll (oldList room side j)).2 (1 + side * room + j) (some ⟨wr.heap.size, 0, none⟩) 32 32 zero32 D (by have := HWR.out; have := HWK.out; omega) ((HSL.out.below (Below.refl _ _).drew).below ((Below.refl _ _).alloc (Nat.le_refl _) _)) ((HSR.out.drew.alloc _).cell 0) ((Rd.new_ wr.drew zero32 _ rfl 32 (by rw [zero32_len])).more (by simp))).mono ?_
            rintro e w9 ⟨rfl, hs9, hk9, hf9, hb9⟩
            have hkA : Keeps F0 w5 (wr.drew.alloc (.cells (zero32.map B8).toArray 5)) := HKR.out.drew.alloc _
            have HK9 := Lib.hid (hkA.trans hk9 (fun i hi e => by rcases e with e | e; exact e; omega))
            have HJ9 := Lib.hid (hs9.weaken (G := Grown F0 w5) (fun i e => by rcases e with e | e; exact e; exact Or.inr (by have := HKR.out.size; simp at e; omega)))
            have HD9 := Lib.hid (hf9.same M _ (Nat.zero_le _) ((((Below.refl wr.heap.size wr.drew).alloc (Nat.le_refl _) (.cells (zero32.map B8).toArray 5)).block M (lt_of_get HDR.out)).trans HDR.out) rfl)
            have HB9 := Lib.hid hb9
            have HC9 := Lib.hid (HCC.out w9 HK9.out ((hb9.cell 0).trans rfl))
            clear hs9 hk9 hf9 hb9 hkA
            obtain ⟨e9, s9, hws9⟩ : ∃ e9 s9, (st.writeAll (oldList room side j)).2.write ((1 + side * room + j : Nat) : Int) zero32 = (e9, s9) := ⟨_, _, rfl⟩
            rw [hws9] at HJ9 ⊢
            have HW9 := Lib.hid hws9
            clear hws9
            go_wp2_with fail
            refine anyC_takes (by kernel_rfl) (fun _ _ _ _ _ h => h) [11] 0 _ _ (by kernel_rfl) ?_
            simp only [List.filterMap_cons, List.filterMap_nil, List.getElem?_toArray, List.getElem?_cons_succ, List.getElem?_cons_zero]
            show wpQuiet _ _ _ _ (_ :: List.nil) _
            repeat (first | go_big_quiet_skip | (go_big_quiet_want; first | (fail; simp only [Act.put, List.setIfInBounds_toArray, List.set_cons_succ, List.set_cons_zero]; go_big_quiet_on) | (go_big_quiet_op; first | go_big_quiet_on | (refine ⟨_, fun _ _ => rfl, ?_⟩; go_big_quiet_on))))
            refine wpQuiet_nil ?_
            refine ⟨HC9.out, by kernel_rfl, ?_⟩
            have HB49 := Lib.hid (HB45.out.keeps HK9.out fun e => by have := HF0L.out _ e; omega)
            by_cases he9 : e9 = 0
            · subst he9
              go_wp2_with fail
              go_roundw
              case rel =>
                refine ⟨j + 1, hjT, by go_num, ?_, HB9.out, HK9.out, ?_, HD9.out⟩
                · rw [old_step HZR.out, HW9.out]; exact HJ9.out
                · rw [old_step HZR.out, HW9.out]
              case measure => simp [intOf]; omega
            · have k4 : w9.cell? ⟨w.heap.size + 1, 0, none⟩ = some (.int .i64 0) := HB49.out.cell 0
              have f4 : w9.frozen? ⟨w.heap.size + 1, 0, none⟩ = false := HB49.out.frozen 0
              have HER := Lib.hid he9
              go_wp2_with fail
              have hsv : s.save room side kept b = (e9, s9) := by
                rw [save_mid_ok (by rw [HLEN.out]; exact HFIT.out) (by rw [HLEN.out, ← HO.out]; exact HJ0.out) (by rw [HMID.out]), HMID.out, ← HTT.out, save_old_no hjT HZR.out (by rw [HW9.out]; exact HER.out), HW9.out]
              rw [hsv]
              refine save_leaves (w5 := w5) (F0 := F0) (M := M) rfl HF0F.out HF0L.out HB5.out (by have := HSZ5.out; have := HSZ4.out; have := HSZ4'.out; omega) ?_ ?_ ?_ HM.out ?_ (fun X' h1 h2 => ⟨rfl, h1, h2⟩)
              · refine HJ9.out.keeps ((Keeps.refl (fun k => k = w.heap.size + 1) w9).setCell (p := ⟨w.heap.size + 1, 0, none⟩) rfl _) fun i e e2 => ?_
                rcases e with e | e
                · have := HF0L.out _ e; omega
                · have := HSZ5.out; have := HSZ4.out; have := HSZ4'.out; omega
              · exact (HK9.out.weaken (F' := fun k => F0 k ∨ k = w.heap.size + 1) (fun _ _ e => Or.inl e)).setCell (p := ⟨w.heap.size + 1, 0, none⟩) (Or.inr rfl) _
              · exact ((HB49.out.set_ 0 (.int .i64 e9)).cell 0).trans rfl
              · exact (KeepsOthers.setCell w9 _ _).same M _ HD9.out rfl
        · obtain rfl : j = T := by omega
          have HB48 := Lib.hid (HB45.out.keeps hkr fun e => by have := HF0L.out _ e; omega)
          have k4 : wr.cell? ⟨w.heap.size + 1, 0, none⟩ = some (.int .i64 0) := HB48.out.cell 0
          have f4 : wr.frozen? ⟨w.heap.size + 1, 0, none⟩ = false := HB48.out.frozen 0
          have HSL := Lib.hid hsl; have HKR := Lib.hid hkr; have HZR := Lib.hid hzr; have HDR := Lib.hid hdr
          clear hsl hkr hzr hdr
          go_wp2_with fail
          have hsv : s.save room side kept b = (0, (st.writeAll (oldList room side j)).2) := by
            rw [save_mid_ok (by rw [HLEN.out]; exact HFIT.out) (by rw [HLEN.out, ← HO.out]; exact HJ0.out) (by rw [HMID.out]), HMID.out, ← HTT.out]
            exact Prod.ext HZR.out rfl
          rw [hsv]
          refine save_leaves (w5 := w5) (F0 := F0) (M := M) rfl HF0F.out HF0L.out HB5.out (by have := HSZ5.out; have := HSZ4.out; have := HSZ4'.out; omega) ?_ ?_ ?_ HM.out ?_ (fun X' h1 h2 => ⟨rfl, h1, h2⟩)
          · refine HSL.out.keeps ((Keeps.refl (fun k => k = w.heap.size + 1) wr).setCell (p := ⟨w.heap.size + 1, 0, none⟩) rfl _) fun i e e2 => ?_
            rcases e with e | e
            · have := HF0L.out _ e; omega
            · have := HSZ5.out; have := HSZ4.out; have := HSZ4'.out; omega
          · exact (HKR.out.weaken (F' := fun k => F0 k ∨ k = w.heap.size + 1) (fun _ _ e => Or.inl e)).setCell (p := ⟨w.heap.size + 1, 0, none⟩) (Or.inr rfl) _
          · exact ((HB48.out.set_ 0 (.int .i64 0)).cell 0).trans rfl
          · exact (KeepsOthers.setCell wr _ _).same M _ HDR.out rfl
    · have k4 : w7.cell? ⟨w.heap.size + 1, 0, none⟩ = some (.int .i64 0) := HB47.out.cell 0
      have f4 : w7.frozen? ⟨w.heap.size + 1, 0, none⟩ = false := HB47.out.frozen 0
      have HER := Lib.hid her
      go_wp2_with fail
      have hsv : s.save room side kept b = (er, st) := by
        rw [← HMID.out]
        refine save_mid_no (by rw [HLEN.out]; exact HFIT.out) (by rw [HLEN.out, ← HO.out]; exact HJ0.out) ?_
        rw [HMID.out]
        exact HER.out
      rw [hsv]
      refine save_leaves (w5 := w5) (F0 := F0) (M := M) rfl HF0F.out HF0L.out HB5.out (by have := HSZ5.out; have := HSZ4.out; have := HSZ4'.out; omega) ?_ ?_ ?_ HM.out ?_ (fun X' h1 h2 => ⟨rfl, h1, h2⟩)
      · refine HJ7.out.keeps ((Keeps.refl (fun k => k = w.heap.size + 1) w7).setCell (p := ⟨w.heap.size + 1, 0, none⟩) rfl _) fun i e e2 => ?_
        rcases e with e | e
        · have := HF0L.out _ e; omega
        · have := HSZ5.out; have := HSZ4.out; have := HSZ4'.out; omega
      · exact (HK7.out.weaken (F' := fun k => F0 k ∨ k = w.heap.size + 1) (fun _ _ e => Or.inl e)).setCell (p := ⟨w.heap.size + 1, 0, none⟩) (Or.inr rfl) _
      · exact ((HB47.out.set_ 0 (.int .i64 er)).cell 0).trans rfl
      · exact (KeepsOthers.setCell w7 _ _).same M _ HD7.out rfl
  · rintro M W hM ⟨h1, h2, h3⟩ hD
    refine wpIn_ret ?_
    exact save_leaves (w5 := w5) (F0 := F0) (M := M) rfl HF0F.out HF0L.out HB5.out (by have := HSZ5.out; have := HSZ4.out; have := HSZ4'.out; omega) h1 h2 h3 hM hD (fun X' h1 h2 => ⟨rfl, h1, h2⟩)
end Go.Proofs.Ytlabebapjhhkaaa
namespace Go.Proofs.Ytlabebapjhhkaaa
open Go.RowKit Go.Shelf
/-- The power: writes that are done yet, whether it is gone, writes that were done. -/
structure PW where
  left : Int
  gone : Bool
  writes : Nat
def DS.pw (s : DS) : PW := ⟨s.fuse, s.down, s.writes⟩
/-- So many writes. -/
def PW.run : PW → Nat → Bool × PW
  | p, 0 => (true, p)
  | p, k + 1 => if (p.gone || decide (p.left = 0)) = true then (false, { p with gone := true }) else PW.run ⟨if 0 < p.left then p.left - 1 else p.left, false, p.writes + 1⟩ k
theorem PW.run_succ (p : PW) : ∀ (k : Nat), p.run (k + 1) = if (p.run k).1 = true then (p.run k).2.run 1 else p.run k := by
  intro k
  induction k generalizing p with
  | zero => rfl
  | succ k ih =>
    rw [show p.run (k + 1 + 1) = if (p.gone || decide (p.left = 0)) = true then (false, { p with gone := true }) else PW.run ⟨if 0 < p.left then p.left - 1 else p.left, false, p.writes + 1⟩ (k + 1) from rfl]
    rw [show p.run (k + 1) = if (p.gone || decide (p.left = 0)) = true then (false, { p with gone := true }) else PW.run ⟨if 0 < p.left then p.left - 1 else p.left, false, p.writes + 1⟩ k from rfl]
    split
    · simp
    · exact ih _
theorem PW.run_add (p : PW) (j : Nat) : ∀ (k : Nat), p.run (j + k) = if (p.run j).1 = true then (p.run j).2.run k else p.run j := by
  intro k
  induction k with
  | zero =>
    rw [Nat.add_zero]
    split
    · next h => exact Prod.ext h rfl
    · rfl
  | succ k ih =>
    rw [← Nat.add_assoc, PW.run_succ, ih]
    by_cases h : (p.run j).1 = true
    · rw [if_pos h, if_pos h, ← PW.run_succ]
    · rw [if_neg h, if_neg h, if_neg h]
theorem write_at {s : DS} {k : Nat} {l : List UInt8} (hk : k < s.bl.length) (hl : l.length = 32) : s.write (k : Int) l = if (s.down || decide (s.fuse = 0)) = true then (3, { s with down := true }) else (0, { bl := s.bl.set k l, fuse := if 0 < s.fuse then s.fuse - 1 else s.fuse, down := false, writes := s.writes + 1 }) := by
  unfold DS.write
  rw [if_pos ⟨by unfold DS.has; exact decide_eq_true ⟨by omega, by omega⟩, hl⟩, Int.toNat_natCast]
theorem write_pw {s : DS} {k : Nat} {l : List UInt8} (hk : k < s.bl.length) (hl : l.length = 32) : (s.write (k : Int) l).1 = (if (s.pw.run 1).1 = true then 0 else 3) ∧ (s.write (k : Int) l).2.pw = (s.pw.run 1).2 ∧ ((s.write (k : Int) l).1 = 0 → (s.write (k : Int) l).2.bl = s.bl.set k l) ∧ ((s.write (k : Int) l).1 ≠ 0 → (s.write (k : Int) l).2.bl = s.bl) := by
  rw [write_at hk hl]
  unfold PW.run DS.pw
  split
  · exact ⟨rfl, rfl, fun h => (by cases h), fun _ => rfl⟩
  · exact ⟨rfl, rfl, fun _ => rfl, fun h => absurd rfl h⟩
def Valid (s : DS) (a : List (Nat × List UInt8)) : Prop := ∀ p ∈ a, p.1 < s.bl.length ∧ p.2.length = 32
theorem writeAll_pw (a : List (Nat × List UInt8)) : ∀ (s : DS), Valid s a → (s.writeAll a).1 = (if (s.pw.run a.length).1 = true then 0 else 3) ∧ (s.writeAll a).2.pw = (s.pw.run a.length).2 := by
  induction a with
  | nil => intro s _; exact ⟨rfl, rfl⟩
  | cons p r ih =>
    intro s hv
    obtain ⟨hk, hl⟩ := hv p (by simp)
    obtain ⟨h1, h2, h3, h4⟩ := write_pw hk hl
    have hadd := PW.run_add s.pw 1 r.length
    rw [Nat.add_comm] at hadd
    simp only [DS.writeAll, List.length_cons]
    generalize s.pw.run (r.length + 1) = q at hadd ⊢
    subst hadd
    by_cases hr : (s.pw.run 1).1 = true
    · rw [if_pos hr] at h1
      rw [if_pos h1, if_pos hr, ← h2]
      refine ih _ fun q hq => ?_
      obtain ⟨a1, a2⟩ := hv q (by simp [hq])
      exact ⟨by rw [h3 h1, List.length_set]; exact a1, a2⟩
    · rw [if_neg hr] at h1
      rw [if_neg (by rw [h1]; decide), if_neg hr, if_neg hr]
      exact ⟨h1, h2⟩
/-- Blocks that are not written stay; all that is written has 32 bytes. -/
theorem writeAll_rest (a : List (Nat × List UInt8)) : ∀ (s : DS), Valid s a → (∀ k, (∀ p ∈ a, p.1 ≠ k) → (s.writeAll a).2.bl[k]? = s.bl[k]?) ∧ ((∀ (i : Nat) (l : List UInt8), s.bl[i]? = some l → l.length = 32) → ∀ (i : Nat) (l : List UInt8), (s.writeAll a).2.bl[i]? = some l → l.length = 32) := by
  induction a with
  | nil => intro s _; exact ⟨fun k _ => rfl, fun h => h⟩
  | cons p r ih =>
    intro s hv
    obtain ⟨hk, hl⟩ := hv p (by simp)
    obtain ⟨h1, h2, h3, h4⟩ := write_pw hk hl
    simp only [DS.writeAll]
    have hset : ∀ k, p.1 ≠ k → (s.write (p.1 : Int) p.2).2.bl[k]? = s.bl[k]? := fun k hne => by
      by_cases hz : (s.write (p.1 : Int) p.2).1 = 0
      · rw [h3 hz, List.getElem?_set, if_neg hne]
      · rw [h4 hz]
    have h32 : (∀ (i : Nat) (l : List UInt8), s.bl[i]? = some l → l.length = 32) → ∀ (i : Nat) (l : List UInt8), (s.write (p.1 : Int) p.2).2.bl[i]? = some l → l.length = 32 := fun h i l hi => by
      by_cases hz : (s.write (p.1 : Int) p.2).1 = 0
      · rw [h3 hz, List.getElem?_set] at hi
        by_cases e : p.1 = i
        · subst e
          rw [if_pos rfl, if_pos hk] at hi
          injection hi with hi
          rw [← hi]
          exact hl
        · rw [if_neg e] at hi
          exact h i l hi
      · rw [h4 hz] at hi; exact h i l hi
    split
    · next hz =>
      have hv2 : Valid (s.write (p.1 : Int) p.2).2 r := fun q hq => by
        obtain ⟨a1, a2⟩ := hv q (by simp [hq])
        exact ⟨by rw [h3 hz, List.length_set]; exact a1, a2⟩
      obtain ⟨g1, g2⟩ := ih _ hv2
      exact ⟨fun k hk => (g1 k fun q hq => hk q (by simp [hq])).trans (hset k (hk p (by simp))), fun h => g2 (h32 h)⟩
    · exact ⟨fun k hk => hset k (hk p (by simp)), h32⟩
theorem idx_ne {side room i j : Nat} (hs : side ≤ 1) (hi : i < room) (hj : j < room) : 1 + side * room + i ≠ 1 + (1 - side) * room + j := by
  rcases (show side = 0 ∨ side = 1 by omega) with rfl | rfl <;> simp <;> omega
theorem idx_lt {side room i : Nat} (hs : side ≤ 1) (hi : i < room) : 1 + side * room + i < 1 + 2 * room := by
  have h9 : side * room ≤ 1 * room := Nat.mul_le_mul_right room hs
  omega
theorem newList_mem {room o k : Nat} {b : List UInt8} {p : Nat × List UInt8} (h : p ∈ newList room o b k) : ∃ i, i < k ∧ p = (1 + o * room + i, pieceOf b i) := by
  unfold newList at h
  obtain ⟨i, hi, rfl⟩ := List.mem_map.1 h
  exact ⟨i, List.mem_range.1 hi, rfl⟩
theorem oldList_mem {room o k : Nat} {p : Nat × List UInt8} (h : p ∈ oldList room o k) : ∃ i, i < k ∧ p = (1 + o * room + i, zero32) := by
  unfold oldList at h
  obtain ⟨i, hi, rfl⟩ := List.mem_map.1 h
  exact ⟨i, List.mem_range.1 hi, rfl⟩
theorem newList_valid {s : DS} {room o k : Nat} {b : List UInt8} (hl : s.bl.length = 1 + 2 * room) (ho : o ≤ 1) (hk : k ≤ room) : Valid s (newList room o b k) := fun p hp => by
  obtain ⟨i, hi, rfl⟩ := newList_mem hp
  exact ⟨by rw [hl]; exact idx_lt ho (by omega), pieceOf_len _ _⟩
theorem oldList_valid {s : DS} {room o k : Nat} (hl : s.bl.length = 1 + 2 * room) (ho : o ≤ 1) (hk : k ≤ room) : Valid s (oldList room o k) := fun p hp => by
  obtain ⟨i, hi, rfl⟩ := oldList_mem hp
  exact ⟨by rw [hl]; exact idx_lt ho (by omega), zero32_len⟩
theorem newList_ok {s : DS} {room o : Nat} {b : List UInt8} (hl : s.bl.length = 1 + 2 * room) (ho : o ≤ 1) : ∀ (k : Nat), k ≤ room → (s.writeAll (newList room o b k)).1 = 0 → ∀ i, i < k → (s.writeAll (newList room o b k)).2.bl[1 + o * room + i]? = some (pieceOf b i) := by
  intro k
  induction k with
  | zero => intro _ _ i hi; omega
  | succ k ih =>
    intro hk h0 i hi
    have h1 : (s.writeAll (newList room o b k)).1 = 0 := by
      by_cases h : (s.writeAll (newList room o b k)).1 = 0
      · exact h
      · rw [newList_succ, writeAll_no _ h] at h0; exact absurd h0 h
    rw [save_step h1] at h0 ⊢
    have hlk := (writeAll_writes (newList room o b k) s).2
    obtain ⟨_, _, h3, _⟩ := write_pw (s := (s.writeAll (newList room o b k)).2) (k := 1 + o * room + k) (l := pieceOf b k) (by rw [hlk, hl]; exact idx_lt ho (by omega)) (pieceOf_len _ _)
    rw [h3 h0, List.getElem?_set]
    by_cases e : i = k
    · subst e; rw [if_pos rfl, if_pos (by rw [hlk, hl]; exact idx_lt ho (by omega))]
    · rw [if_neg (by omega)]; exact ih (by omega) h1 i (by omega)
theorem oldList_ok {s : DS} {room o : Nat} (hl : s.bl.length = 1 + 2 * room) (ho : o ≤ 1) : ∀ (k : Nat), k ≤ room → (s.writeAll (oldList room o k)).1 = 0 → ∀ i, i < k → (s.writeAll (oldList room o k)).2.bl[1 + o * room + i]? = some zero32 := by
  intro k
  induction k with
  | zero => intro _ _ i hi; omega
  | succ k ih =>
    intro hk h0 i hi
    have h1 : (s.writeAll (oldList room o k)).1 = 0 := by
      by_cases h : (s.writeAll (oldList room o k)).1 = 0
      · exact h
      · rw [oldList_succ, writeAll_no _ h] at h0; exact absurd h0 h
    rw [old_step h1] at h0 ⊢
    have hlk := (writeAll_writes (oldList room o k) s).2
    obtain ⟨_, _, h3, _⟩ := write_pw (s := (s.writeAll (oldList room o k)).2) (k := 1 + o * room + k) (l := zero32) (by rw [hlk, hl]; exact idx_lt ho (by omega)) zero32_len
    rw [h3 h0, List.getElem?_set]
    by_cases e : i = k
    · subst e; rw [if_pos rfl, if_pos (by rw [hlk, hl]; exact idx_lt ho (by omega))]
    · rw [if_neg (by omega)]; exact ih (by omega) h1 i (by omega)
/-- A side has nothing behind what is kept. -/
def TailP (s : DS) (room side n : Nat) : Prop := ∀ i, takesOf n ≤ i → i < room → s.bl[1 + side * room + i]? = some zero32
theorem CleanP.tail {s : DS} {room side n : Nat} (h : CleanP s room side n) : TailP s room side n := fun i h1 h2 => (h i h2).2 h1
/-- What a Save leaves. -/
structure Saved (s : DS) (room side : Nat) (kept b : List UInt8) (r : Int × DS) : Prop where
  err : r.1 = 0 ∨ r.1 = 3
  pw : r.1 = (if (s.pw.run (takesOf b.length + 1 + takesOf kept.length)).1 = true then 0 else 3) ∧ r.2.pw = (s.pw.run (takesOf b.length + 1 + takesOf kept.length)).2
  old : (s.pw.run (takesOf b.length + 1)).1 = false → SOk r.2 room side kept ∧ (CleanP s room side kept.length → TailP r.2 room side kept.length)
  new : (s.pw.run (takesOf b.length + 1)).1 = true → SOk r.2 room (1 - side) b ∧ (CleanP s room side kept.length → TailP r.2 room (1 - side) b.length ∧ (r.1 = 0 → CleanP r.2 room (1 - side) b.length))
theorem SOk.keep {s s' : DS} {room side : Nat} {kept : List UInt8} (h : SOk s room side kept) (hl : s'.bl.length = s.bl.length) (h32 : ∀ (i : Nat) (l : List UInt8), s'.bl[i]? = some l → l.length = 32) (h0 : s'.bl[0]? = s.bl[0]?) (hr : ∀ i, i < room → s'.bl[1 + side * room + i]? = s.bl[1 + side * room + i]?) : SOk s' room side kept :=
  ⟨hl.trans h.len, h32, h0.trans h.root, h.sideLe, h.fits, fun i hi => (hr i (Nat.lt_of_lt_of_le hi h.fits)).trans (h.data i hi), h.roomLe⟩
theorem TailP.keep {s s' : DS} {room side n : Nat} (h : TailP s room side n) (hr : ∀ i, i < room → s'.bl[1 + side * room + i]? = s.bl[1 + side * room + i]?) : TailP s' room side n := fun i h1 h2 => (hr i h2).trans (h i h1 h2)
theorem ite_zero {b : Bool} (h : (if b = true then (0 : Int) else 3) = 0) : b = true := by cases b <;> simp at h ⊢
theorem save_spec {s : DS} {room side : Nat} {kept b : List UInt8} (hok : SOk s room side kept) (hfit : ¬ room < takesOf b.length) : Saved s room side kept b (s.save room side kept b) := by
  obtain ⟨o, ho⟩ : ∃ o, o = 1 - side := ⟨_, rfl⟩
  have ho1 : o ≤ 1 := by omega
  have hso : side = 1 - o := by have := hok.sideLe; omega
  have hn1 : takesOf b.length ≤ room := by omega
  have hn2 := hok.fits
  have hvA := newList_valid (b := b) hok.len ho1 hn1
  obtain ⟨pA1, pA2⟩ := writeAll_pw _ s hvA
  rw [newList_len] at pA1 pA2
  obtain ⟨rA1, rA2⟩ := writeAll_rest _ s hvA
  have lA := (writeAll_writes (newList room o b (takesOf b.length)) s).2
  have hA32 := rA2 hok.l32
  have keyA : ∀ i, i < room → (s.writeAll (newList room o b (takesOf b.length))).2.bl[1 + side * room + i]? = s.bl[1 + side * room + i]? := fun i hi => rA1 _ fun p hp e => by
    obtain ⟨j, hj, rfl⟩ := newList_mem hp
    have := idx_ne (room := room) hok.sideLe hi (show j < room by omega)
    rw [← ho] at this
    exact this e.symm
  have keyA0 : (s.writeAll (newList room o b (takesOf b.length))).2.bl[0]? = s.bl[0]? := rA1 _ fun p hp e => by
    obtain ⟨j, hj, rfl⟩ := newList_mem hp
    simp at e
  have hsave : s.save room side kept b = s.writeAll (newList room o b (takesOf b.length) ++ ((0, rootB o b.length) :: oldList room side (takesOf kept.length))) := by
    unfold DS.save saveList
    rw [if_neg hfit, ho]
  have hvAll : Valid s (newList room o b (takesOf b.length) ++ ((0, rootB o b.length) :: oldList room side (takesOf kept.length))) := by
    intro p hp
    rcases List.mem_append.1 hp with hp | hp
    · exact hvA p hp
    · rcases List.mem_cons.1 hp with rfl | hp
      · exact ⟨by rw [hok.len]; simp; omega, rfl⟩
      · exact oldList_valid hok.len hok.sideLe hn2 p hp
  obtain ⟨pF1, pF2⟩ := writeAll_pw _ s hvAll
  have hlF : (newList room o b (takesOf b.length) ++ ((0, rootB o b.length) :: oldList room side (takesOf kept.length))).length = takesOf b.length + 1 + takesOf kept.length := by
    rw [List.length_append, newList_len, List.length_cons, oldList_len]; omega
  rw [hlF, ← hsave] at pF1 pF2
  have hadd := PW.run_add s.pw (takesOf b.length) 1
  have hwm := write_pw (s := (s.writeAll (newList room o b (takesOf b.length))).2) (k := 0) (l := rootB o b.length) (by rw [lA, hok.len]; omega) rfl
  rw [pA2] at hwm
  have hmid : s.mid room side b = (s.writeAll (newList room o b (takesOf b.length))).2.write ((0 : Nat) : Int) (rootB o b.length) := by unfold DS.mid; rw [ho]; rfl
  refine ⟨?_, ⟨pF1, pF2⟩, fun hf => ?_, fun ht => ?_⟩
  · rw [pF1]; split
    · exact Or.inl rfl
    · exact Or.inr rfl
  · by_cases hA : (s.pw.run (takesOf b.length)).1 = true
    · rw [hadd, if_pos hA] at hf
      rw [if_pos hA] at pA1
      obtain ⟨m1, m2, m3, m4⟩ := hwm
      rw [hf, if_neg Bool.false_ne_true] at m1
      have hm : s.save room side kept b = s.mid room side b := save_mid_no hfit (by rw [← ho]; exact pA1) (by rw [hmid, m1]; decide)
      have hbl : (s.mid room side b).2.bl = (s.writeAll (newList room o b (takesOf b.length))).2.bl := by rw [hmid]; exact m4 (by rw [m1]; decide)
      rw [hm]
      have hk : ∀ i, i < room → (s.mid room side b).2.bl[1 + side * room + i]? = s.bl[1 + side * room + i]? := fun i hi => by rw [hbl]; exact keyA i hi
      exact ⟨hok.keep (by rw [hbl]; exact lA) (by rw [hbl]; exact hA32) (by rw [hbl]; exact keyA0) hk, fun hc => hc.tail.keep hk⟩
    · rw [if_neg hA] at pA1
      have hm : s.save room side kept b = s.writeAll (newList room o b (takesOf b.length)) := by rw [hsave, writeAll_no _ (by rw [pA1]; decide)]
      rw [hm]
      exact ⟨hok.keep lA hA32 keyA0 keyA, fun hc => hc.tail.keep keyA⟩
  · have hA : (s.pw.run (takesOf b.length)).1 = true := by
      by_cases hA : (s.pw.run (takesOf b.length)).1 = true
      · exact hA
      · rw [hadd, if_neg hA] at ht; exact absurd ht hA
    rw [hadd, if_pos hA] at ht
    rw [if_pos hA] at pA1
    obtain ⟨m1, m2, m3, m4⟩ := hwm
    rw [ht, if_pos rfl] at m1
    have hm : s.save room side kept b = (s.mid room side b).2.writeAll (oldList room side (takesOf kept.length)) := save_mid_ok hfit (by rw [← ho]; exact pA1) (by rw [hmid, m1])
    have hbl : (s.mid room side b).2.bl = (s.writeAll (newList room o b (takesOf b.length))).2.bl.set 0 (rootB o b.length) := by rw [hmid]; exact m3 m1
    obtain ⟨t, ht'⟩ : ∃ t, t = (s.mid room side b).2 := ⟨_, rfl⟩
    rw [← ht'] at hm hbl
    have lt_ : t.bl.length = 1 + 2 * room := by rw [hbl, List.length_set, lA, hok.len]
    have htk : ∀ k, k ≠ 0 → t.bl[k]? = (s.writeAll (newList room o b (takesOf b.length))).2.bl[k]? := fun k hk => by rw [hbl, List.getElem?_set, if_neg (Ne.symm hk)]
    have ht32 : ∀ (i : Nat) (l : List UInt8), t.bl[i]? = some l → l.length = 32 := fun i l hi => by
      by_cases e : i = 0
      · subst e
        rw [hbl, List.getElem?_set, if_pos rfl, if_pos (by rw [lA, hok.len]; omega)] at hi
        injection hi with hi
        rw [← hi]; rfl
      · rw [htk i e] at hi; exact hA32 i l hi
    have hst : SOk t room o b := ⟨lt_, ht32, by rw [hbl, List.getElem?_set, if_pos rfl, if_pos (by rw [lA, hok.len]; omega)], ho1, hn1, fun i hi => by rw [htk _ (by omega)]; exact newList_ok hok.len ho1 _ hn1 pA1 i hi, hok.roomLe⟩
    have hvO := oldList_valid (s := t) (o := side) (k := takesOf kept.length) lt_ hok.sideLe hn2
    obtain ⟨rO1, rO2⟩ := writeAll_rest _ t hvO
    have lO := (writeAll_writes (oldList room side (takesOf kept.length)) t).2
    have keyO : ∀ i, i < room → (t.writeAll (oldList room side (takesOf kept.length))).2.bl[1 + o * room + i]? = t.bl[1 + o * room + i]? := fun i hi => rO1 _ fun p hp e => by
      obtain ⟨j, hj, rfl⟩ := oldList_mem hp
      have := idx_ne (room := room) hok.sideLe (show j < room by omega) hi
      rw [← ho] at this
      exact this e
    have keyO0 : (t.writeAll (oldList room side (takesOf kept.length))).2.bl[0]? = t.bl[0]? := rO1 _ fun p hp e => by
      obtain ⟨j, hj, rfl⟩ := oldList_mem hp
      simp at e
    rw [hm, ← ho]
    refine ⟨hst.keep lO (rO2 ht32) keyO0 keyO, fun hc => ?_⟩
    have hT : TailP t room o b.length := fun i h1 h2 => by
      rw [htk _ (by omega), rA1 _ fun p hp e => by
        obtain ⟨j, hj, rfl⟩ := newList_mem hp
        simp at e
        omega]
      have := (hc i h2).1
      rw [← ho] at this
      exact this
    refine ⟨hT.keep keyO, fun h0 i hi => ⟨?_, fun h1 => ((keyO i hi).trans (hT i h1 hi))⟩⟩
    rw [← hso]
    by_cases hi2 : i < takesOf kept.length
    · exact oldList_ok lt_ hok.sideLe _ hn2 h0 i hi2
    · rw [rO1 _ fun p hp e => by
        obtain ⟨j, hj, rfl⟩ := oldList_mem hp
        simp at e
        omega]
      rw [htk _ (by omega), keyA i hi]
      exact hc.tail i (by omega) hi
set_option maxRecDepth 100000 in
theorem Save_any (w : World) (F : Nat → Prop) (S room : Nat) (s : DS) (side : Nat) (kept b : List UInt8) (A : Option Addr) (n c : Nat) (h : SlotIs w F S room s) (hok : SOk s room side kept) (hr : Rd w w.heap.size A n b) (hnc : n ≤ c) (hoff : 0 < n → ∀ ad, A = some ad → ¬ F ad.block)
    (hwr : s.writes ≤ 4611686018400000000) (hn : n ≤ 9223372036854775000) :
    Calls Try.prog 76 #[.pointer (some ⟨S, 0, none⟩), .slice A n c] w fun e w' => e = .returned (.int .i64 (s.save room side kept b).1) ∧ SlotIs w' (Grown F w) S room (s.save room side kept b).2 ∧ Keeps F w w' := by
  by_cases hbig : room < takesOf n
  · refine (Save_big w F S room s A n c h hn hbig).mono ?_
    rintro e w' ⟨rfl, hb⟩
    have hs : s.save room side kept b = (7, s) := by unfold DS.save; rw [if_pos (by rw [← hr.len]; exact hbig)]
    rw [hs]
    exact ⟨rfl, (h.below hb).weaken fun k e => Or.inl e, Keeps.of_below hb⟩
  · have h1 : SlotIs w (fun k => F k ∧ k < w.heap.size) S room s := h.tight.weaken fun k e => ⟨e.1, by obtain ⟨o, e1, _⟩ := e.2; exact lt_of_get e1⟩
    refine (callsIn_wide.1 (Save_fit w _ S room s side kept b A n c h1 hok hr hnc (fun h0 ad e e2 => hoff h0 ad e e2.1) hwr hbig (fun k e => e.2))).mono ?_
    rintro e w' ⟨rfl, hs, hk⟩
    exact ⟨rfl, hs.weaken fun k e => by rcases e with e | e; exact Or.inl e.1; exact Or.inr e, hk.weaken fun k _ e => e.1⟩
end Go.Proofs.Ytlabebapjhhkaaa
