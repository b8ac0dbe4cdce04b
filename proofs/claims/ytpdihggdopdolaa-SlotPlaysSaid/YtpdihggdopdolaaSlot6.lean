/- A loop over the pieces of what is saved. No conditions but the sizes. -/
import Derived.Test.YtpdihggdopdolaaSlot5
namespace Go.Proofs.Ytpdihggdopdolaa
open Go.RowKit Go.Shelf
/-- How a round's body is left: it goes on, or it returns. -/
def roundEnds (B : Nat) (I Ix : World → Prop) (W : World) : Exit → Act → World → Prop
  | .normal, _, W' => KeepsFrom B W W' ∧ I W'
  | .ret, _, W' => KeepsFrom B W W' ∧ Ix W'
  | _, _, _ => False
set_option maxRecDepth 100000 in
theorem range_pieces {n : Nat} (h1 : 2 ≤ n) {gop : Operand} {p0 p1 : Tmp} {assign body : Code} {Q : Exit → Act → World → Prop} {a : Act} {w : World} (Bb : Nat) (A : Option Addr) (nn c : Nat) (hnc : nn ≤ c) (lb : List UInt8) (n0 : Nat) (hn : nn ≤ 16384)
    (hg : a.eval gop = .func (.func 46) #[] #[.pointer (some ⟨Bb, 0, none⟩)])
    (I : Nat → World → Prop) (Ix : World → Prop)
    (hIr : ∀ k W, I k W → W.cell? ⟨Bb, 0, none⟩ = some (.slice A nn c) ∧ Rd W n0 A nn lb ∧ n0 ≤ W.heap.size)
    (hIb : ∀ k W W', I k W → Below W.heap.size W W' → I k W')
    (hIp : ∀ k W l o ob, I k W → w.heap.size ≤ l → W.heap[l]? = some ob → ob.isCells = false → I k (W.putObj l o))
    (hIx : ∀ W l o ob, Ix W → w.heap.size ≤ l → W.heap[l]? = some ob → ob.isCells = false → Ix (W.putObj l o))
    (h0 : I 0 w) (a₁ : Nat → Nat → Act)
    (hassign : ∀ (l k g : Nat) (W : World) (K : Act → World → Prop), K (a₁ k g) W →
      assign.wpIn (Fence.wide.inRound l) (n - 1 - 1) Try.prog (Exit.then K (fun _ _ _ => False)) { tmps := ((#[p0, p1] : Array Tmp).zip #[.int .i64 (k : Int), .slice (some ⟨g, 0, none⟩) 32 32]).foldl (fun t (p, v) => t.setIfInBounds p v) a.tmps, defers := [] } W)
    (hbody : ∀ (l k g : Nat) (W : World), k < takesOf nn → I k W → Blk W g 5 ((pieceOf lb k).map B8).toArray → body.wpIn (Fence.wide.inRound l) (n - 1 - 1) Try.prog (roundEnds w.heap.size (I (k + 1)) Ix W) (a₁ k g) W)
    (hdone : ∀ (D : Nat) (W : World), w.heap.size ≤ D → I (takesOf nn) W → W.heap[D]? = some (.deferred (some [])) → Q .normal { a with defers := { target := .collected D, args := #[] } :: a.defers } W)
    (hstop : ∀ (D : Nat) (W : World), w.heap.size ≤ D → Ix W → W.heap[D]? = some (.deferred (some [])) → Code.ret.wpIn Fence.wide n Try.prog Q { a with defers := { target := .collected D, args := #[] } :: a.defers } W) :
    (Code.rangeFunc gop #[p0, p1] assign body).wpIn Fence.wide n Try.prog Q a w := by
  refine wpIn_rangeFunc ?_
  intro fn hfn
  obtain ⟨rec, hrec⟩ : ∃ rec : LoopState → Option Code → Loop, rec = fun st pe => { state := st, pending := pe, fn, tmps := a.tmps, params := #[p0, p1], assign, body, defers := w.heap.size } := ⟨_, rfl⟩
  obtain ⟨W1, hW1⟩ : ∃ W1, (w.alloc (.deferred (some []))).alloc (.loop (rec .ready none)) = W1 := ⟨_, rfl⟩
  obtain ⟨l, hl⟩ : ∃ l, l = w.heap.size + 1 := ⟨_, rfl⟩
  obtain ⟨D, hD⟩ : ∃ D, D = w.heap.size := ⟨_, rfl⟩
  have hL1 : W1.heap[l]? = some (.loop (rec .ready none)) := by
    rw [← hW1, hl]; have := World.alloc_heap_new (w.alloc (.deferred (some []))) (.loop (rec .ready none)); rwa [World.size_alloc] at this
  have hK1 : W1.heap[D]? = some (.deferred (some [])) := by
    rw [← hW1, hD]; exact (Below.heap_alloc _ _ _ (by simp)).trans (World.alloc_heap_new w _)
  have hI1 : I 0 W1 := by
    rw [← hW1]
    exact hIb 0 w _ h0 (((Below.refl _ w).alloc (Nat.le_refl _) _).alloc (by simp) _)
  refine ⟨l, [{ target := .collected D, args := #[] }], W1, { target := .fn (.func 46) #[.pointer (some ⟨Bb, 0, none⟩)], args := #[.func (.yield l) #[] #[]] }, W1, 46,
    #[.func (.yield l) #[] #[], .pointer (some ⟨Bb, 0, none⟩)], W1, ?_, ?_, ?_, ?_, fun _ => by omega, ?_⟩
  · rw [← hW1, hrec, hl, hD]; exact run_enterLoop_outer _ _ _ _ _
  · simp only [resolve, hg]
    simp [go_sem]
  · intro f' _; trivial
  · simp [invoke, go_sem]
  · have hDl : D ≠ l := by omega
    refine (pieces1_any (n - 1) (by omega) l Bb A nn c hnc lb n0
      (fun k W => I k W ∧ W.heap[l]? = some (.loop (rec .ready none)) ∧ W.heap[D]? = some (.deferred (some [])))
      (fun W => Ix W ∧ W.heap[l]? = some (.loop (rec .done (some .ret))) ∧ W.heap[D]? = some (.deferred (some [])))
      hn (fun k W h => hIr k W h.1)
      (fun k W W' h hb => ⟨hIb k W W' h.1 hb, (hb.block l (lt_of_block h.2.1)).trans h.2.1, (hb.block D (lt_of_block h.2.2)).trans h.2.2⟩)
      ?_ W1 ⟨hI1, hL1, hK1⟩).mono ?_
    · rintro k W g hk ⟨hi, hlW, hkW⟩ hB
      have hlt : l < W.heap.size := lt_of_block hlW
      have hy := run_yield (P := Try.prog) (args := #[.int .i64 (k : Int), .slice (some ⟨g, 0, none⟩) 32 32]) hlW (by rw [hrec]; rfl)
      rw [hrec] at hy
      have hgl : g ≠ l := fun e => by rw [e] at hB; rw [show W.heap[l]? = _ from hB] at hlW; cases hlW
      refine ⟨fn, _, assign, body, hy, roundIn_of_wpIn hfn ?_⟩
      refine hassign l k g W _ ?_
      refine ⟨_, run_beginRound hlW (by rw [hrec]), ?_⟩
      have hl2 : (W.putObj l (.loop { rec .ready none with state := .busy })).heap[l]? = some (.loop { rec .ready none with state := .busy }) := World.putObj_heap_same hlt
      have hk2 : (W.putObj l (.loop { rec .ready none with state := .busy })).heap[D]? = some (.deferred (some [])) := (World.putObj_heap_other hDl).trans hkW
      refine wpIn_mono (hbody l k g _ hk (hIp k W l _ _ hi (by omega) hlW rfl) ((World.putObj_heap_other hgl).trans hB)) ?_
      have fin : ∀ (jump : Option Code) (W3 : World), KeepsFrom w.heap.size (W.putObj l (.loop { rec .ready none with state := .busy })) W3 →
          (Instr.endRound l jump).run Try.prog W3 = .ok (.bool jump.isNone) (W3.putObj l (.loop (rec (if jump.isNone then .ready else .done) jump))) ∧
          W3.heap[l]? = some (.loop { rec .ready none with state := .busy }) ∧
          (W3.putObj l (.loop (rec (if jump.isNone then .ready else .done) jump))).heap[l]? = some (.loop (rec (if jump.isNone then .ready else .done) jump)) ∧
          (W3.putObj l (.loop (rec (if jump.isNone then .ready else .done) jump))).heap[D]? = some (.deferred (some [])) := fun jump W3 hk3 => by
        have hl3 := hk3.same _ _ (by omega) hl2 rfl
        have := run_endRound (P := Try.prog) jump hl3
        rw [hrec] at this ⊢
        exact ⟨this, by rw [hrec] at hl3; exact hl3, World.putObj_heap_same (lt_of_block hl3), (World.putObj_heap_other hDl).trans (hk3.same _ _ (by omega) hk2 rfl)⟩
      rintro e a3 W3 hp
      cases e with
      | normal =>
        obtain ⟨hk3, hi3⟩ := hp
        obtain ⟨hr, hl3, hl4, hk4⟩ := fin none W3 hk3
        exact ⟨_, _, hr, .inl ⟨rfl, hIp _ _ _ _ _ hi3 (by omega) hl3 rfl, hl4, hk4⟩⟩
      | ret =>
        obtain ⟨hk3, hi3⟩ := hp
        obtain ⟨hr, hl3, hl4, hk4⟩ := fin (some .ret) W3 hk3
        exact ⟨_, _, hr, .inr ⟨rfl, hIx _ _ _ _ hi3 (by omega) hl3 rfl, hl4, hk4⟩⟩
      | exit id => exact hp.elim
      | goto t => exact hp.elim
      | panic ch => exact hp.elim
      | outgrown => exact hp.elim
    · rintro e W2 ⟨⟨v, rfl⟩, (⟨hi, hl3, hk3⟩ | ⟨hi, hl3, hk3⟩)⟩
      · exact ⟨none, _, by have := run_endLoop (P := Try.prog) hl3 (by rw [hrec]; simp); rw [hrec] at this; exact this, hdone D _ (by omega) (hIp _ _ _ _ _ hi (by omega) hl3 rfl) ((World.putObj_heap_other hDl).trans hk3)⟩
      · exact ⟨some .ret, _, by have := run_endLoop (P := Try.prog) hl3 (by rw [hrec]; simp); rw [hrec] at this; exact this, hstop D _ (by omega) (hIx _ _ _ _ hi (by omega) hl3 rfl) ((World.putObj_heap_other hDl).trans hk3)⟩
/-- A region that draws its order, within a round: walked as anywhere. -/
theorem wpOps_round {P : Program} {ops : Array Oper} {Q : Exit → Act → World → Prop} {l n : Nat} (hL : ¬ LetsOut Q) (hno : ∀ (i : Nat) (o : Oper) (c : Call), ops[i]? = some o → o.op ≠ .defer c) :
    ∀ (is : List Nat) (a : Act) (w : World), wpOps P ops Q is a w → wpOpsIn (Fence.wide.inRound l) n P ops Q is a w := by
  intro is
  induction is with
  | nil => exact fun a w h => h
  | cons i is ih =>
    intro a w h
    unfold wpOps at h
    unfold wpOpsIn
    cases ho : ops[i]? with
    | none => rw [ho] at h; exact ih a w h
    | some o =>
      simp only [ho] at h ⊢
      split
      · rename_i hw
        rw [if_pos hw] at h
        rcases h with h | ⟨_, h⟩
        · refine ⟨fun f _ => trivial, ?_⟩
          have hs : o.semAt (Fence.wide.inRound l).round a.eval = execOp a.eval o := Oper.semAt_some l a.eval o (fun c => hno i o c ho)
          rw [hs]
          unfold Oper.wp at h
          generalize (execOp a.eval o).run P w = r at h ⊢
          cases r with
          | ok x w' =>
            cases x <;> simp only [Oper.upon, Oper.uponIn] at h ⊢
            case value v => exact ih _ _ h
            case skip => exact ih _ _ h
            case defer d => exact ih _ _ h
            case enter f args =>
              refine ⟨fun e => (by cases e), CallsIn.inRound l (callsIn_wide.2 (h.mono ?_))⟩
              intro e w'' he
              cases e with
              | returned v => exact ih _ _ he
              | panicked c => exact he
              | outgrown => exact he
            case row row args =>
              refine ⟨fun e => (by cases e), fun c cs _ => ?_⟩
              obtain ⟨v, w'', r, s⟩ := h c cs
              exact ⟨v, w'', ih _ _ r, stepsIn_wide.2 s⟩
          | halt x w' => cases x <;> simp only [Oper.upon, Oper.uponIn] at h ⊢ <;> exact h
        · exact absurd h hL
      · rename_i hw
        rw [if_neg hw] at h
        exact ⟨fun f _ => trivial, ih _ _ h⟩
def noDeferB (L : List Oper) : Bool := L.all fun o => match o.op with | .defer _ => false | _ => true
theorem noDefer_of {L : List Oper} (h : noDeferB L = true) : ∀ (i : Nat) (o : Oper) (c : Call), L.toArray[i]? = some o → o.op ≠ .defer c := by
  intro i o c hi e
  have h1 := List.all_eq_true.1 h o (List.mem_of_getElem? (by simpa using hi))
  rw [e] at h1
  cases h1
theorem wpIn_region_anyR {P : Program} {Q : Exit → Act → World → Prop} {id n l : Nat} {a : Act} {w : World} {L : List Oper} (C : World → Prop) (hm : P.follows .mixedOrders = true) (hno : noDeferB L = true)
    (h : anyC P .any L.toArray C (Exit.then (Q .normal) (fun _ _ _ => False)) L.length (Array.replicate L.length false) a w.drew) : (Code.region id L.toArray true).wpIn (Fence.wide.inRound l) n P Q a w := by
  refine wpIn_mono (Q := Exit.then (Q .normal) (fun _ _ _ => False)) (wpIn_region_draw fun t => wpOps_round (by rintro ⟨_, _, h⟩; exact h) (noDefer_of hno) _ _ _ ?_) (by intro e a w h; cases e <;> first | exact h | exact h.elim)
  simp only [Region.schedule, hm, Bool.true_or, if_true]
  have h2 := any_of_anyC _ _ _ _ h
  exact wpAny_sound L.toArray.size t _ a _ (by simpa using h2)
end Go.Proofs.Ytpdihggdopdolaa
