/- The pieces of what is saved: the iterator's contract. No conditions but the sizes. -/
import Derived.Test.YtpdihggdopdolaaSlot4
import Derived.RangeFuncNested
import Derived.RangeFuncBound
import Derived.RangeFuncCalls
import Derived.RangeFuncLeaves
import Derived.Shelf.Abstract
import Derived.Shelf.RegionOpen
import Derived.WalkKit
import Derived.OwnWalkIn
import Derived.TacticsInMore
import Derived.LoopNIn
import Derived.LoopIn
import Derived.Sort.CutIn
namespace Go.Proofs.Ytpdihggdopdolaa
open Go.RowKit Go.Shelf
attribute [local go_sem] Oper.semAt_some
section
variable {P : Program} {ops : Array Oper} {Q : Exit → Act → World → Prop} {rest : List Oper} {o : Oper} {a : Act} {w : World}
theorem wpList_slice_l (hw : Region.wanted o (yielded ops a.tmps) = true) (ty : TypeId) (x y : Operand) (ho : o.op = .slice ty x (some y) none none) (xv v : Value) (lo : Int) (hx : a.eval x = xv) (hy : a.eval y = .int .i64 lo)
    (hs : (Instr.sliceAt ty xv (some (.int .i64 lo)) none none).run P w = .ok v w) (h : wpList P ops Q rest (a.put o.dst v) w) : wpList P ops Q (o :: rest) a w := by
  have hq : o.quiet P a (fun W => W = w) (fun a' => a' = a.put o.dst v) := by
    refine ⟨_, fun W hW => ?_, rfl⟩
    unfold Oper.quietAt execOp
    subst hW
    simp only [ho, hx, hy, Option.map_some, Option.map_none, Sem.run_bind, hs, Result.andThen_ok, Sem.run_pure, Oper.quietUpon, and_self]
  exact wpList_quiet hw hq (fun f args w' => no_enter a.eval o (by rw [ho]; rfl) w f args w') (fun a' e => e ▸ h)
end
theorem slice_lo8 (A : Option Addr) (n cap lo : Nat) (h : lo ≤ n) (W : World) : (Instr.sliceAt 22 (.slice A n cap) (some (.int .i64 (lo : Int))) none none).run Try.prog W = .ok (.slice (if cap = lo then A else A.map (·.add (lo * 1))) (n - lo) (cap - lo)) W := by
  rw [run_sliceAt_slice W 22 _ _ _ _ Try.underlying22, run_slice_l W 22 _ n cap Try.underlying22 .i64 (lo : Int) (by omega) (by omega)]
  rw [show (sizeOf (Try.prog.elem 22)).run Try.prog W = .ok 1 W from by kernel_rfl]
  rfl
theorem splice_piece (l : List UInt8) (k : Nat) : splice (zero32.map B8) 0 (((l.drop (32 * k)).take 32).map B8) = (pieceOf l k).map B8 := by
  unfold splice pieceOf zero32
  rw [List.map_append, List.take_zero, List.nil_append, List.map_replicate, List.map_replicate, List.drop_replicate, List.length_map, Nat.zero_add]
set_option maxRecDepth 100000 in
theorem pieces1_any (m : Nat) (hm : 1 ≤ m) (l Bb : Nat) (A : Option Addr) (n c : Nat) (hnc : n ≤ c) (lb : List UInt8) (n0 : Nat) (J : Nat → World → Prop) (Jx : World → Prop) (hn : n ≤ 16384)
    (hJr : ∀ k W, J k W → W.cell? ⟨Bb, 0, none⟩ = some (.slice A n c) ∧ Rd W n0 A n lb ∧ n0 ≤ W.heap.size)
    (hJb : ∀ k W W', J k W → Below W.heap.size W W' → J k W')
    (hY : ∀ k W g, k < takesOf n → J k W → Blk W g 5 ((pieceOf lb k).map B8).toArray → YieldAt Fence.wide (m - 1) Try.prog l #[.int .i64 (k : Int), .slice (some ⟨g, 0, none⟩) 32 32] W fun e W' => (e = .returned (.bool true) ∧ J (k + 1) W') ∨ (e = .returned (.bool false) ∧ Jx W'))
    (W : World) (h0 : J 0 W) :
    CallsIn Fence.wide m Try.prog 46 #[.func (.yield l) #[] #[], .pointer (some ⟨Bb, 0, none⟩)] W fun e W' => (∃ v, e = .returned v) ∧ (J (takesOf n) W' ∨ Jx W') := by
  have h1 := (hJr 0 W h0).1
  refine callsIn_of_wp Try.func46 rfl trivial ?_
  simp only [Try.ntmps46, List.size_toArray, List.length_cons, List.length_nil, Nat.reduceAdd, Nat.reduceSub, Array.replicate_succ, Array.replicate_zero, List.push_toArray, List.append_toArray, List.nil_append, List.cons_append]
  gi_wp2_with (refine ⟨trivial, ?_⟩; gi_at_call 38; refine (callsIn_wide.2 (takes_any n W (by omega))).mono ?_; rintro e w' ⟨rfl, rfl⟩)
  gi_loopw [3, 4, 8] (fun _ _ q wr => ∃ k : Nat, k ≤ takesOf n ∧ q = .int .i64 (k : Int) ∧ J k wr) (fun _ _ q _ => takesOf n - (intOf q).toNat)
  case atStart => exact ⟨0, by omega, rfl, h0⟩
  case round =>
    obtain ⟨k, hk, rfl, hJ⟩ := hrel
    by_cases hkt : k < takesOf n
    · have hkt' : (k : Int) < (takesOf n : Int) := by omega
      obtain ⟨hc, hr, hsz⟩ := hJr k wr hJ
      have HJ := Lib.hid hJ; have HR := Lib.hid hr; have HSZ := Lib.hid hsz; have HMK := Lib.hid mk32; have HC := Lib.hid hc
      clear h0 h1 hJ hr hsz hc
      gi_upto_region 3 with fail
      refine wpIn_wide.2 ?_
      have hmk := HMK.out
      go_wp2_with fail
      clear hmk
      gi_upto_region 4 with fail
      have hb1 : Below wr.heap.size wr (wr.alloc (.cells (zero32.map B8).toArray 5)) := (Below.refl _ _).alloc (Nat.le_refl _) _
      have hlt : 32 * k < n := by unfold takesOf at hkt; omega
      have hcut := (HR.out.below (hb1.mono HSZ.out)).cut (k := 32 * k) (cap := c) (by omega) hnc
      have hcA : (wr.alloc (.cells (zero32.map B8).toArray 5)).cell? ⟨Bb, 0, none⟩ = some (.slice A n c) := by
        rw [← HC.out]
        exact hb1.cell (p := ⟨Bb, 0, none⟩) (by
          have := World.block_lt_of_cell? wr _ HC.out
          exact this)
      have HJ1 := Lib.hid (hJb k _ _ HJ.out hb1)
      have HG := Lib.hid (Blk.new wr 5 (zero32.map B8).toArray)
      have HB1 := Lib.hid hb1
      have hsl := slice_lo8 A n c (32 * k) (by omega)
      rw [if_neg (by omega)] at hsl hcut
      have HCUT := Lib.hid hcut; have HLT := Lib.hid hlt; have HLEN := Lib.hid HR.out.len
      clear hb1 hcut hlt
      have hkb : k ≤ 600 := by unfold takesOf at hkt; omega
      have hk32 : ((32 * k : Nat) : Int) = (k : Int) * 32 := by omega
      rw [hk32] at hsl
      have HSL := Lib.hid hsl
      obtain ⟨cs, hcs⟩ : ∃ cs, cs = ((lb.drop (32 * k)).take 32).map B8 := ⟨_, rfl⟩
      have HCS := Lib.hid hcs
      have hcl : cs.length = Nat.min (n - 32 * k) 32 := by rw [hcs, List.length_map, List.length_take, List.length_drop, HLEN.out]; exact Nat.min_comm _ _
      have hpos : 0 < cs.length → some (⟨wr.heap.size, 0, none⟩ : Addr) = some ⟨wr.heap.size, 0, none⟩ ∧ ∃ ad, A.map (·.add (32 * k * 1)) = some ad ∧ ∀ j v, cs[j]? = some v → (wr.alloc (.cells (zero32.map B8).toArray 5)).cell? (ad.add j) = some v := by
        intro _
        obtain ⟨ad, e, _, h9⟩ := HCUT.out.2 (by have := HLT.out; omega)
        refine ⟨rfl, ad, e, fun j v hv => h9 j v ?_⟩
        rw [hcs, List.map_take, List.map_drop, List.getElem?_take] at hv
        split at hv
        · rw [show 32 * k * 1 = 32 * k by omega]; exact hv
        · cases hv
      have hfit : 0 + cs.length ≤ (zero32.map B8).length := by rw [hcl, List.length_map, zero32_len, Nat.zero_add]; exact Nat.min_le_right _ _
      have hone : ∀ v ∈ cs, v.oneCell' = true := by rw [hcs]; exact B8_one _
      have HPOS := Lib.hid hpos; have HFIT := Lib.hid hfit; have HONE := Lib.hid hone
      have HCL := Lib.hid hcl
      clear hsl hk32 hcs hcl hpos hfit hone
      refine wpIn_wide.2 ?_
      go_wp2_with (first
        | (refine wpList_slice_l (by rfl) 22 (.tmp 13) (.tmp 15) rfl (.slice A n c) _ ((k : Int) * 32) rfl rfl (HSL.out _) ?_)
        | (refine wpList_copy_splice rfl (.tmp 12) (.tmp 16) 22 22 rfl 5 Try.underlying22 (by kernel_rfl) (some ⟨wr.heap.size, 0, none⟩) (A.map (·.add (32 * k * 1))) 32 32 (n - 32 * k) (c - 32 * k) rfl rfl wr.heap.size 0 (zero32.map B8) 5 HG.out cs HCL.out HPOS.out HFIT.out HONE.out wr.heap.size wr HB1.out (Nat.le_refl _) ?_; intro w2 hg2 hb2; rw [HCS.out, splice_piece] at hg2; have HJ2 := Lib.hid (hJb k _ _ HJ.out hb2); have HG2 := Lib.hid (show Blk w2 wr.heap.size 5 ((pieceOf lb k).map B8).toArray from hg2.out); clear hg2 hb2))
      obtain ⟨fn, tmps, assign, body, hy, hR⟩ := hY k w2 wr.heap.size hkt HJ2.out HG2.out
      gi_wp2
      refine hR.mono ?_
      rintro e w3 (⟨rfl, hJ3⟩ | ⟨rfl, hJx⟩)
      · have HJ3 := Lib.hid hJ3
        clear hJ3 hR hy
        gi_wp2
        go_roundw
        case rel => exact ⟨k + 1, hkt, by go_num, HJ3.out⟩
        case measure => simp [intOf]; omega
      · clear hR hy
        gi_wp2
        refine bodyPost_ret (results_none rfl _ _ _) rfl ?_
        exact ⟨⟨_, rfl⟩, Or.inr hJx⟩
    · obtain rfl : k = takesOf n := by omega
      gi_wp2
      go_end0
      exact ⟨⟨_, rfl⟩, Or.inl hJ⟩
end Go.Proofs.Ytpdihggdopdolaa
