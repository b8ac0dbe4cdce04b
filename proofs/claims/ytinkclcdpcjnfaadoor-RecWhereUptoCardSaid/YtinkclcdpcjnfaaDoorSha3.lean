/- The walk of (*state).add. Conditions: the table of the constants, the state's block, 64 bytes. -/
import Derived.Test.YtinkclcdpcjnfaaDoorProg
import Derived.Test.YtinkclcdpcjnfaaDoorSha1
import Derived.Test.YtinkclcdpcjnfaaDoorInv
import Derived.Test.YtinkclcdpcjnfaaDoorBytes
namespace Go.Proofs.YtinkclcdpcjnfaaDoor
open Go.RowKit
def Consts (w : World) : Prop := ∀ j, j < 64 → w.cell? ⟨0, j, none⟩ = some (.int .u32 (n32 (ks.getD j 0)))
/-- What holds while the first statement of add is under way. -/
structure Add0 (w : World) (sg g off cap : Nat) (v : V8) (l : List UInt8) (d : Nat → Bool) (x : Nat → Value) (W : World) : Prop where
  bel : Below w.heap.size w W
  x0 : d 0 = true → x 0 = .slice (some ⟨g, off, none⟩) 64 cap
  x1 : d 1 = true → x 1 = .agg (arr l 64)
  x2 : d 2 = true → x 2 = .pointer (some ⟨sg, 0, none⟩)
  x3 : d 3 = true → x 3 = .pointer (some ⟨sg, 0, none⟩)
  x4 : d 4 = true → x 4 = .agg v.cells
  x5 : d 5 = true → ∃ b cs, x 5 = .pointer (some ⟨b, 0, none⟩) ∧ w.heap.size ≤ b ∧ Blk W b 102 cs ∧ cs.size = 64 ∧ (d 7 = true → cs = arr l 64)
  x6 : d 6 = true → ∃ b cs, x 6 = .pointer (some ⟨b, 0, none⟩) ∧ w.heap.size ≤ b ∧ Blk W b 94 cs ∧ cs.size = 8 ∧ (d 8 = true → cs = v.cells)
theorem Add0.ext {w : World} {sg g off cap : Nat} {v : V8} {l : List UInt8} {d d' : Nat → Bool} {x : Nat → Value} {W : World} (h : ∀ i, i < 9 → d i = d' i) (H : Add0 w sg g off cap v l d x W) : Add0 w sg g off cap v l d' x W := by
  obtain ⟨h1, h2, h3, h4, h5, h6, h7, h8⟩ := H
  rw [h 0 (by omega)] at h2; rw [h 1 (by omega)] at h3; rw [h 2 (by omega)] at h4; rw [h 3 (by omega)] at h5; rw [h 4 (by omega)] at h6
  rw [h 5 (by omega), h 7 (by omega)] at h7; rw [h 6 (by omega), h 8 (by omega)] at h8
  exact ⟨h1, h2, h3, h4, h5, h6, h7, h8⟩
set_option maxRecDepth 100000 in
set_option maxHeartbeats 1000000 in
theorem add_any (sg g off cap : Nat) (v : V8) (w : World) (l : List UInt8) (hk : Consts w) (hs : Blk w sg 94 v.cells) (hc : ∀ j, j < 64 → w.cell? ⟨g, off + j, none⟩ = some (.int .u8 (l.getD j 0).toNat)) :
    Calls Tryd.prog 53 #[.pointer (some ⟨sg, 0, none⟩), .slice (some ⟨g, off, none⟩) 64 cap] w fun e w' => e = .returned (.tuple #[]) ∧ Blk w' sg 94 (step v l).cells ∧ w.grownBy w' (some sg) := by
  have hsg := hs.lt
  have hgB : g < w.heap.size := World.block_lt_of_cell? w ⟨g, off + 0, none⟩ (hc 0 (by omega))
  go_enter Tryd.func53, Tryd.ntmps53
  go_wp2_with fail
  refine wp_region_inv (by kernel_rfl) (by kernel_rfl) (Add0 w sg g off cap v l) ?_ ?_ ?_ ?_
  · intro d hd
    have h0 := fun i (h : i < 9) => hd i h
    refine ⟨(Below.refl _ _).drew, ?_, ?_, ?_, ?_, ?_, ?_, ?_⟩ <;> intro h
    · rw [h0 0 (by omega)] at h; cases h
    · rw [h0 1 (by omega)] at h; cases h
    · rw [h0 2 (by omega)] at h; cases h
    · rw [h0 3 (by omega)] at h; cases h
    · rw [h0 4 (by omega)] at h; cases h
    · rw [h0 5 (by omega)] at h; cases h
    · rw [h0 6 (by omega)] at h; cases h
  · intro i o d x W ho hI hd hcl hdep
    have hlt : i < 9 := (List.getElem?_eq_some_iff.1 ho).1
    have hsW : Blk W sg 94 v.cells := hs.below hI.bel hsg
    match i, hlt, ho, hd with
    | 0, _, ho, hd =>
      cases ho
      refine into_move _ (.slice (some ⟨g, off, none⟩) 64 cap) rfl (putD_other _ _ _ _ _ _ (by kernel_rfl)) ?_
      exact ⟨hI.bel, fun _ => rfl, hI.x1, hI.x2, hI.x3, hI.x4, hI.x5, hI.x6⟩
    | 1, _, ho, hd =>
      cases ho
      have d0 : d 0 = true := hdep ⟨0, .data⟩ (by simp) rfl
      refine into_call _ _ _ rfl (fun _ _ => by kernel_rfl) #[.slice (some ⟨g, off, none⟩) 64 cap] (by simp only [List.map_toArray, List.map_cons, List.map_nil]; exact congrArg (fun z => #[z]) ((putD_done _ 0 _ d x 0 _ 13 (by kernel_rfl) rfl rfl d0 (by simp)).trans (hI.x0 d0))) ?_
      refine (spread_any g off cap W l (fun j hj => (hI.bel.cell hgB).trans (hc j hj))).mono ?_
      rintro e W' ⟨rfl, hb⟩
      refine ⟨_, rfl, hI.bel.trans (hb.mono hI.bel.size), hI.x0, fun _ => rfl, hI.x2, hI.x3, hI.x4, ?_, ?_⟩
      · intro h
        obtain ⟨b, cs, h1, h2, h3, h4, h5⟩ := hI.x5 h
        exact ⟨b, cs, h1, h2, h3.below hb h3.lt, h4, h5⟩
      · intro h
        obtain ⟨b, cs, h1, h2, h3, h4, h5⟩ := hI.x6 h
        exact ⟨b, cs, h1, h2, h3.below hb h3.lt, h4, h5⟩
    | 2, _, ho, hd =>
      cases ho
      refine into_move _ (.pointer (some ⟨sg, 0, none⟩)) rfl (putD_other _ _ _ _ _ _ (by kernel_rfl)) ?_
      exact ⟨hI.bel, hI.x0, hI.x1, fun _ => rfl, hI.x3, hI.x4, hI.x5, hI.x6⟩
    | 3, _, ho, hd =>
      cases ho
      have d2 : d 2 = true := hdep ⟨2, .data⟩ (by simp) rfl
      refine into_nilCheck _ ⟨sg, 0, none⟩ rfl ((putD_done _ 0 _ d x 2 _ 15 (by kernel_rfl) rfl rfl d2 (by simp)).trans (hI.x2 d2)) ?_
      exact ⟨hI.bel, hI.x0, hI.x1, hI.x2, fun _ => rfl, hI.x4, hI.x5, hI.x6⟩
    | 4, _, ho, hd =>
      cases ho
      have d3 : d 3 = true := hdep ⟨3, .data⟩ (by simp) rfl
      refine into_load_row 94 _ rfl sg ((putD_done _ 0 _ d x 3 _ 16 (by kernel_rfl) rfl rfl d3 (by simp)).trans (hI.x3 d3)) 94 v.cells _ hsW Tryd.underlying94 rfl (by kernel_rfl) ?_
      exact ⟨hI.bel, hI.x0, hI.x1, hI.x2, hI.x3, fun _ => rfl, hI.x5, hI.x6⟩
    | 5, _, ho, hd =>
      cases ho
      refine into_alloc _ rfl zer (fun _ => by kernel_rfl) ?_
      refine ⟨hI.bel.alloc hI.bel.size _, hI.x0, hI.x1, hI.x2, hI.x3, hI.x4, fun _ => ⟨W.heap.size, zer, rfl, hI.bel.size, Blk.new _ _ _, rfl, fun h7 => ?_⟩, ?_⟩
      · have h7' : d 7 = true := h7
        exact absurd (hcl 7 _ rfl h7' ⟨5, .data⟩ (by simp) rfl) (by rw [hd]; simp)
      · intro h
        obtain ⟨b, cs, h1, h2, h3, h4, h5⟩ := hI.x6 h
        exact ⟨b, cs, h1, h2, h3.alloc _, h4, h5⟩
    | 6, _, ho, hd =>
      cases ho
      refine into_alloc _ rfl (Array.replicate 8 (.int .u32 0)) (fun _ => by kernel_rfl) ?_
      refine ⟨hI.bel.alloc hI.bel.size _, hI.x0, hI.x1, hI.x2, hI.x3, hI.x4, ?_, fun _ => ⟨W.heap.size, _, rfl, hI.bel.size, Blk.new _ _ _, rfl, fun h7 => ?_⟩⟩
      · intro h
        obtain ⟨b, cs, h1, h2, h3, h4, h5⟩ := hI.x5 h
        exact ⟨b, cs, h1, h2, h3.alloc _, h4, h5⟩
      · have h7' : d 8 = true := h7
        exact absurd (hcl 8 _ rfl h7' ⟨6, .data⟩ (by simp) rfl) (by rw [hd]; simp)
    | 7, _, ho, hd =>
      cases ho
      have d5 : d 5 = true := hdep ⟨5, .data⟩ (by simp) rfl
      have d1 : d 1 = true := hdep ⟨1, .data⟩ (by simp) rfl
      obtain ⟨b, cs, h1, h2, h3, h4, _⟩ := hI.x5 d5
      refine into_store_row 102 _ _ rfl b (arr l 64) ((putD_done _ 0 _ d x 5 _ 4 (by kernel_rfl) rfl rfl d5 (by simp)).trans h1) ((putD_done _ 0 _ d x 1 _ 14 (by kernel_rfl) rfl rfl d1 (by simp)).trans (hI.x1 d1)) 102 cs h3 (by rw [arr_size l 64 (by omega)]; kernel_rfl) (by rw [arr_size l 64 (by omega)]; exact h4) (arr_one l 64) ?_
      refine ⟨below_setRow hI.bel h2 _, hI.x0, hI.x1, hI.x2, hI.x3, hI.x4, fun _ => ⟨b, arr l 64, h1, h2, h3.setRow _, arr_size l 64 (by omega), fun _ => rfl⟩, ?_⟩
      intro h
      obtain ⟨b', cs', k1, k2, k3, k4, k5⟩ := hI.x6 h
      exact ⟨b', cs', k1, k2, k3.setRow_ne (k3.ne_ h3 (by decide)) _, k4, k5⟩
    | 8, _, ho, hd =>
      cases ho
      have d6 : d 6 = true := hdep ⟨6, .data⟩ (by simp) rfl
      have d4 : d 4 = true := hdep ⟨4, .data⟩ (by simp) rfl
      obtain ⟨b, cs, h1, h2, h3, h4, _⟩ := hI.x6 d6
      refine into_store_row 94 _ _ rfl b v.cells ((putD_done _ 0 _ d x 6 _ 5 (by kernel_rfl) rfl rfl d6 (by simp)).trans h1) ((putD_done _ 0 _ d x 4 _ 17 (by kernel_rfl) rfl rfl d4 (by simp)).trans (hI.x4 d4)) 94 cs h3 (by kernel_rfl) h4 v.one ?_
      refine ⟨below_setRow hI.bel h2 _, hI.x0, hI.x1, hI.x2, hI.x3, hI.x4, ?_, fun _ => ⟨b, v.cells, h1, h2, h3.setRow _, rfl, fun _ => rfl⟩⟩
      intro h
      obtain ⟨b', cs', k1, k2, k3, k4, k5⟩ := hI.x5 h
      exact ⟨b', cs', k1, k2, k3.setRow_ne (k3.ne_ h3 (by decide)) _, k4, k5⟩
  · intro x W hI
    obtain ⟨b4, cs4, e4, hB4, hb4, _, hc4⟩ := hI.x5 rfl
    obtain ⟨b5, cs5, e5, hB5, hb5, _, hc5⟩ := hI.x6 rfl
    obtain rfl := hc4 rfl
    obtain rfl := hc5 rfl
    simp only [putD, if_true, hI.x0 rfl, hI.x1 rfl, hI.x2 rfl, hI.x3 rfl, hI.x4 rfl, e4, e5, Act.put, List.setIfInBounds_toArray, List.set_cons_succ, List.set_cons_zero]
    have hbel := hI.bel
    clear hI
    have hsW0 := hs
    go_wp2_with (refine wpList_load_row rfl 102 _ rfl b4 rfl 102 (arr l 64) (0, 0) _ hb4 Tryd.underlying102 rfl (by rw [arr_size l 64 (by omega)]; kernel_rfl) ?_)
    go_loopw [19, 6, 7, 8, 9, 10, 11] (fun i _ _ _ _ _ _ wr => ∃ t : Nat, t ≤ 64 ∧ i = .int .i64 t ∧ Below w.heap.size w wr ∧ Blk wr b5 94 (rnds ks (spreadTo l 64) v t).cells) (fun i _ _ _ _ _ _ _ => 64 - (intOf i).toNat)
    case atStart => exact ⟨0, by omega, rfl, hbel, by rw [rnds_zero]; exact hb5⟩
    case round =>
      obtain ⟨t, ht, rfl, hb, hv⟩ := hrel
      by_cases h64 : t < 64
      · have hidx : (arr l 64)[t]? = some (.int .u32 (n32 ((spreadTo l 64).getD t 0))) := arr_get l 64 t h64
        have hkt : wr.cell? ⟨0, t, none⟩ = some (.int .u32 (n32 (ks.getD t 0))) := (hb.cell (World.block_lt_of_cell? w _ (hk t h64))).trans (hk t h64)
        have hnext : rnds ks (spreadTo l 64) v (t + 1) = rnd (rnds ks (spreadTo l 64) v t) (ks.getD t 0) ((spreadTo l 64).getD t 0) := rnds_succ ..
        generalize (spreadTo l 64).getD t 0 = wt at hidx hnext
        generalize ks.getD t 0 = kt at hkt hnext
        generalize hV : rnds ks (spreadTo l 64) v t = V at hv hnext
        have HN := Lib.hid hnext; clear hnext hV
        obtain ⟨va, vb, vc, vd, ve, vf, vg, vh⟩ := V
        have q0 : wr.cell? ⟨b5, 0, none⟩ = some (.int .u32 (n32 va)) := hv.cell 0
        have q1 : wr.cell? ⟨b5, 1, none⟩ = some (.int .u32 (n32 vb)) := hv.cell 1
        have q2 : wr.cell? ⟨b5, 2, none⟩ = some (.int .u32 (n32 vc)) := hv.cell 2
        have q3 : wr.cell? ⟨b5, 3, none⟩ = some (.int .u32 (n32 vd)) := hv.cell 3
        have q4 : wr.cell? ⟨b5, 4, none⟩ = some (.int .u32 (n32 ve)) := hv.cell 4
        have q5 : wr.cell? ⟨b5, 5, none⟩ = some (.int .u32 (n32 vf)) := hv.cell 5
        have q6 : wr.cell? ⟨b5, 6, none⟩ = some (.int .u32 (n32 vg)) := hv.cell 6
        have q7 : wr.cell? ⟨b5, 7, none⟩ = some (.int .u32 (n32 vh)) := hv.cell 7
        have HI := Lib.hid hidx; clear hidx
        go_wp2_with (refine wpList_index_one rfl 102 _ _ rfl 92 64 (arr l 64) .i64 t (.int .u32 (n32 wt)) rfl rfl Tryd.underlying102 (by kernel_rfl) (fun _ => by kernel_rfl) h64 HI.out ?_)
        refine wp_region_q (by kernel_rfl) (by kernel_rfl) ?_
        repeat (first | go_big_quiet_skip | (go_big_quiet_want; go_big_quiet_op; first | go_big_quiet_on))
        refine wpQuiet_nil ?_
        go_wp2_with fail
        refine wp_region_q (by kernel_rfl) (by kernel_rfl) ?_
        repeat (first | go_big_quiet_skip | (go_big_quiet_want; go_big_quiet_op; first | go_big_quiet_on | (apply Exists.intro; refine ⟨?_, ?_⟩; (with_reducible first | exact right_6 _ _ | exact right_11 _ _ | exact right_25 _ _); go_big_quiet_on)))
        refine wpQuiet_nil ?_
        go_wp2_with fail
        refine wp_region_q (by kernel_rfl) (by kernel_rfl) ?_
        repeat (first | go_big_quiet_skip | (go_big_quiet_want; go_big_quiet_op; first | go_big_quiet_on | (apply Exists.intro; refine ⟨?_, ?_⟩; (with_reducible first | exact right_2 _ _ | exact right_13 _ _ | exact right_22 _ _); go_big_quiet_on)))
        refine wpQuiet_nil ?_
        go_wp2_with (refine wpList_store_row rfl 94 _ _ rfl b5 (rnd ⟨va, vb, vc, vd, ve, vf, vg, vh⟩ kt wt).cells rfl rfl 94 _ hv.drew.drew.drew (by kernel_rfl) (by kernel_rfl) (V8.one _) ?_)
        go_roundw
        case rel => exact ⟨t + 1, by omega, by go_num, below_setRow hb.drew.drew.drew hB5 _, by rw [HN.out]; exact hv.drew.drew.drew.setRow _⟩
        case measure => simp [intOf]; omega
      · obtain rfl : t = 64 := by omega
        go_wp2
        obtain ⟨wo, rfl⟩ : ∃ wo : World, wo = wr := ⟨_, rfl⟩
        have hstep : step v l = v.add (rnds ks (spreadTo l 64) v 64) := rfl
        generalize rnds ks (spreadTo l 64) v 64 = V at hv hstep
        have HS := Lib.hid hstep; clear hstep hk hc hs hb4 hb5
        have hs0 : Blk wo sg 94 v.cells := hsW0.below hb hsg
        have hne : b5 ≠ sg := by omega
        have HNE := Lib.hid hne; clear hne
        go_loopw [98, 12] (fun i _ wr => ∃ n : Nat, n ≤ 8 ∧ i = .int .i64 n ∧ w.grownBy wr (some sg) ∧ Blk wr sg 94 (mixC v V n) ∧ Blk wr b5 94 V.cells) (fun i _ _ => 8 - (intOf i).toNat)
        case atStart => exact ⟨0, by omega, rfl, grownBy_below hb, hs0, hv⟩
        case round =>
          obtain ⟨n, hn, rfl, hg, h1, h2⟩ := hrel
          by_cases h8 : n < 8
          · have c1 : wr.cell? ⟨sg, n, none⟩ = some (.int .u32 (n32 (v.list.getD n 0))) := (h1.cell n).trans (mixC_here v V n h8)
            have c2 : wr.cell? ⟨b5, n, none⟩ = some (.int .u32 (n32 (V.list.getD n 0))) := (h2.cell n).trans (cells_get V n h8)
            have f1 : wr.frozen? ⟨sg, n, none⟩ = false := h1.frozen n
            have hst := mixC_step v V n h8
            generalize v.list.getD n 0 = xn at c1 hst
            generalize V.list.getD n 0 = yn at c2 hst
            have HST := Lib.hid hst; clear hst
            go_wp2_with fail
            refine wp_region_qt 11 (by kernel_rfl) (by kernel_rfl) ?_
            simp only [List.take_succ_cons, List.take_zero, List.drop_succ_cons, List.drop_zero]
            repeat (first | go_big_quiet_skip | (go_big_quiet_want; go_big_quiet_op; first | go_big_quiet_on))
            refine wpQuiet_nil ?_
            go_wp2
            go_roundw
            case rel => exact ⟨n + 1, by omega, by go_num, grownBy_drew (grownBy_set hg _ _), by rw [← HST.out]; exact (h1.set_ n _).drew, (h2.far HNE.out _).drew⟩
            case measure => simp [intOf]; omega
          · obtain rfl : n = 8 := by omega
            go_wp2
            go_end0
            exact ⟨rfl, by rw [HS.out]; exact h1, hg⟩
  · intro d d' x W h H
    exact Add0.ext h H
end Go.Proofs.YtinkclcdpcjnfaaDoor
