/- The walk of sha.Sum. Conditions: the table of the constants; the slice takes at most the form's own reach. -/
import Derived.Test.YtinkclcdpcjnfaaDoorSha2
import Derived.Test.YtinkclcdpcjnfaaDoorSha3
namespace Go.Proofs.YtinkclcdpcjnfaaDoor
open Go.RowKit
theorem Consts.below {w W : World} {B : Nat} (h : Consts w) (hb : Below B w W) (hB : 0 < B) : Consts W := fun j hj => (hb.cell hB).trans (h j hj)
set_option maxRecDepth 100000 in
set_option maxHeartbeats 1000000 in
theorem Sum_any (A : Option Addr) (n c : Nat) (w : World) (l : List UInt8) (hk : Consts w) (hn : n ≤ 140737488355000) (hr : Rd w w.heap.size A n l) :
    Calls Tryd.prog 46 #[.slice A n c] w fun e w' => ∃ v, e = .returned v ∧ Own w' w.heap.size v (sha l) ∧ Below w.heap.size w w' := by
  have hB0 : 0 < w.heap.size := by have := World.block_lt_of_cell? w _ (hk 0 (by omega)); omega
  go_enter Tryd.func46, Tryd.ntmps46
  go_wp2_with fail
  refine (begin_any _).mono ?_
  rintro e w1 ⟨rfl, hb1⟩
  rw [st0_cells]
  have hB1 := hb1.size
  go_wp2_with (refine wpList_store_row rfl 94 _ _ rfl w1.heap.size st0V.cells rfl rfl 94 _ (Blk.new w1 _ _) (by kernel_rfl) (by kernel_rfl) (V8.one _) ?_)
  have hb2 := below_setRow (hb1.alloc hB1 (.cells #[.int .u32 0, .int .u32 0, .int .u32 0, .int .u32 0, .int .u32 0, .int .u32 0, .int .u32 0, .int .u32 0] 94)) hB1 st0V.cells
  have hs2 : Blk _ w1.heap.size 94 st0V.cells := (Blk.new w1 94 #[.int .u32 0, .int .u32 0, .int .u32 0, .int .u32 0, .int .u32 0, .int .u32 0, .int .u32 0, .int .u32 0]).setRow _
  have hsz := hs2.lt
  generalize World.setRow _ _ _ = w2 at hb2 hs2 hsz ⊢
  refine (padded_any A n c w2 l hn ((hr.below hb2).more hb2.size)).mono ?_
  rintro e w3 ⟨v, rfl, hown, hb3⟩
  obtain ⟨k, hk64, hk0, hple⟩ := pad_length l
  have hsha := sha_eq l k hk64
  generalize pad l = P at hown hk64 hple hsha
  obtain ⟨g, cc, cur, rfl, hg, hcur, hcc, hcell⟩ := hown.blk (by omega)
  have hs3 := hs2.below hb3 hs2.lt
  have hb3' : Below w.heap.size w w3 := hb2.trans (hb3.mono hb2.size)
  generalize hsg : w1.heap.size = sg at hs3 hsz hB1
  have hgs : sg < g := by omega
  have hBg : w.heap.size ≤ g := by omega
  have hPm : 64 * k ≤ n + 72 := by have := hr.len; omega
  have HSG := Lib.hid hsg; have HSHA := Lib.hid hsha; have HPL := Lib.hid hk64
  clear hsg hsha hk64 hown hb1 hb2 hb3 hs2 hr
  rw [HPL.out] at hcc
  go_wp2_with fail
  rw [HPL.out]
  go_loopw [4] (fun v wr => ∃ (i m c' : Nat) (A' : Option Addr) (V : V8), v = .slice A' m c' ∧ m + 64 * i = 64 * k ∧ m ≤ c' ∧ (0 < m → A' = some ⟨g, 64 * i, none⟩) ∧ Blk wr g 5 cur ∧ Blk wr sg 94 V.cells ∧ steps V (P.drop (64 * i)) (k - i) = steps st0V P k ∧ Below w.heap.size w wr)
    (fun v _ => match v with | .slice _ n _ => n | _ => 0)
  case atStart => exact ⟨0, 64 * k, cc, _, st0V, rfl, by omega, hcc, fun _ => rfl, hcur, hs3, by simp, hb3'⟩
  case round =>
    obtain ⟨i, m, c', A', V, rfl, hmi, hmc, hA, hcur', hsV, hst, hb⟩ := hrel
    by_cases h0 : m = 0
    · subst h0
      obtain rfl : i = k := by omega
      have hV : V = steps st0V P i := by rw [Nat.sub_self, steps_zero] at hst; exact hst
      have HV := Lib.hid hV; clear hV hst hmi hA hcell hk hs3 hcur hcur' hb3' hcc hPm
      go_wp2_with (refine wpList_load_row rfl 94 _ rfl sg rfl 94 V.cells (0, 0) _ hsV Tryd.underlying94 rfl (by kernel_rfl) ?_)
      obtain ⟨wo, rfl⟩ : ∃ wo : World, wo = wr := ⟨_, rfl⟩
      go_loopw [20, 5, 7] (fun q v _ wr => ∃ m : Nat, m ≤ 8 ∧ q = .int .i64 m ∧ Own wr w.heap.size v ((V.list.take m).flatMap outOf) ∧ Below w.heap.size w wr) (fun q _ _ _ => 8 - (intOf q).toNat)
      case atStart => exact ⟨0, by omega, rfl, Own.nil_ _ _, hb⟩
      case round =>
        obtain ⟨m, hm, rfl, hown, hb⟩ := hrel
        by_cases h8 : m < 8
        · have HI := Lib.hid (cells_get V m h8)
          have hos := out_step V m h8
          have hol := out_len V m hm
          generalize V.list.getD m 0 = xm at HI hos
          have HOS := Lib.hid hos; have HOL := Lib.hid hol; clear hos hol
          go_wp2_with (first
            | (refine wpList_index_one rfl 94 _ _ rfl 92 8 V.cells .i64 m (.int .u32 (n32 xm)) rfl rfl Tryd.underlying94 (by kernel_rfl) (fun _ => by kernel_rfl) h8 HI.out ?_)
            | (at_builtin; refine app_bytes rfl (.tmp 23) (.tmp 35) rfl w.heap.size _ _ rfl (hown.alloc _) (wr.heap.size + 1) _ 4 4 (outOf xm) rfl (Rd.new_ wr (outOf xm) _ rfl 4 rfl) (by rw [HOL.out]; omega) (by have := hb.size; simp; omega) ?_; intro v' w' hown' hg' _))
          rw [HOS.out] at hown'
          have hb' := below_app (hb.alloc hb.size _) (hown.alloc _) (by have := hb.size; simp; omega) hg'
          clear hg'
          go_roundw
          case rel => exact ⟨m + 1, by omega, by go_num, hown', hb'⟩
          case measure => simp [intOf]; omega
        · obtain rfl : m = 8 := by omega
          go_wp2
          go_ret
          refine ⟨_, rfl, ?_, hb⟩
          rw [HSHA.out, ← HV.out]
          rwa [List.take_of_length_le (by rw [list_len]; omega)] at hown
    · obtain rfl := hA (by omega)
      have h64 : 64 ≤ m := by omega
      have hpos : (0 : Int) < (m : Int) := by omega
      have hcb : ∀ j, j < 64 → wr.cell? ⟨g, 64 * i + j, none⟩ = some (.int .u8 (((P.drop (64 * i)).take 64).getD j 0).toNat) := fun j hj => by
        have e : ((P.drop (64 * i)).take 64).getD j 0 = P.getD (64 * i + j) 0 := by
          rw [List.getD_eq_getElem?_getD, List.getElem?_take, if_pos hj, List.getElem?_drop, List.getD_eq_getElem?_getD]
        rw [e]
        exact (hcur'.cell _).trans (hcell _ (by rw [HPL.out]; omega))
      have hst' : steps (step V ((P.drop (64 * i)).take 64)) (P.drop (64 * (i + 1))) (k - (i + 1)) = steps st0V P k := by
        rw [show k - i = k - (i + 1) + 1 by omega, steps_succ, List.drop_drop] at hst
        exact hst
      have hkr : Consts wr := hk.below hb hB0
      have HC := Lib.hid hcb; have HST := Lib.hid hst'; have HMI := Lib.hid hmi; clear hst hst' hmi hA hcb
      rcases Decidable.em (c' = 64) with rfl | hc64
      all_goals
        go_wp2_with fail
        refine (add_any sg g (64 * i) _ V wr ((P.drop (64 * i)).take 64) hkr hsV HC.out).mono ?_
        rintro e w4 ⟨rfl, hs4, hg4⟩
        have hcur4 := hcur'.grown hg4 (by intro e; cases e; omega)
        have hb4 : Below w.heap.size w w4 := hb.grown hg4 hb.size (fun q e => by cases e; omega)
        clear hg4
        go_wp2
        go_roundw
        case rel => first | exact ⟨i + 1, 0, 0, _, _, rfl, by have := HMI.out; omega, by omega, fun h => absurd h (by omega), hcur4, hs4, HST.out, hb4⟩ | exact ⟨i + 1, m - 64, _, _, _, rfl, by have := HMI.out; omega, by omega, fun _ => by simp [Nat.mul_add], hcur4, hs4, HST.out, hb4⟩
        case measure => simp; omega
end Go.Proofs.YtinkclcdpcjnfaaDoor
