/- The walk of layer 6's law ShaPads. Condition: the table of the constants. -/
import Derived.Test.YtkaboebjdjfahaaDoorLaw06a
import Derived.Laws.MakeOwn
import Derived.Laws.OwnMore
namespace Go.Proofs.YtkaboebjdjfahaaDoor
open Go.RowKit
theorem Own.put_ {w : World} {base g n c : Nat} {l : List UInt8} (h : Own w base (.slice (some ⟨g, 0, none⟩) n c) l) (k : Nat) (y : UInt8) : Own (w.setCell ⟨g, k, none⟩ (.int .u8 y.toNat)) base (.slice (some ⟨g, 0, none⟩) n c) (l.set k y) := by
  rcases h.2 with ⟨e, _⟩ | ⟨g', cap, cur, e, hb, hh, hle, hm, hsz, ht⟩
  · cases e
  · injection e with e1 e2 e3
    simp only [Option.some.injEq, Addr.mk.injEq, and_true] at e1
    subst e1; subst e3
    refine ⟨by simp, Or.inr ⟨g, c, cur.setIfInBounds k (.int .u8 y.toNat), by rw [List.length_set, e2], hb, Blk.set_ hh k _, by rw [List.length_set]; exact hle, hm, by simpa using hsz, ?_⟩⟩
    rw [Array.toList_setIfInBounds, List.length_set, List.take_set, ht, List.map_set]
    rfl
/-- make([]byte, n). -/
theorem run_make_bytes (w : World) (n : Nat) (hn : n ≤ 140737488355328) : (Instr.makeSlice 22 (.int .i64 (n : Int)) (.int .i64 (n : Int))).run Tryd.prog w = .ok (.slice (some ⟨w.heap.size, 0, none⟩) n n) (w.alloc (.cells (madeCells #[.int .u8 0] n) 5)) := by
  obtain ⟨i0, hi0, hz0, hz1, hz2⟩ := info_parts u8_info
  have h := run_make (P := Tryd.prog) w 22 5 i0 (.int .u8 0) Tryd.underlying22 hi0 hz0 .i64 .i64 n n (by omega) (Int.le_refl _) (by rw [hz2]; omega) (by omega)
  rw [hz1, Nat.mul_one, Int.toNat_natCast] at h
  exact h
theorem Own.made (w : World) (base n : Nat) (hb : base ≤ w.heap.size) (hn : n ≤ 140737488355328) : Own (w.alloc (.cells (madeCells #[.int .u8 0] n) 5)) base (.slice (some ⟨w.heap.size, 0, none⟩) n n) (List.replicate n 0) := by
  refine ⟨by simp, Or.inr ⟨w.heap.size, n, _, by simp, hb, heap_alloc_new w _, by simp, by simp only [maxLen]; omega, by rw [size_madeCells]; omega, ?_⟩⟩
  rw [toList_madeCells_one, List.take_of_length_le (by simp), List.map_replicate]
  rfl
set_option maxRecDepth 100000 in
set_option maxHeartbeats 1000000 in
theorem ShaPads_any (N x s : UInt8) (w : World) (hk : Consts w) :
    Calls Tryd.prog 4 #[.int .u8 N.toNat, .int .u8 x.toNat, .int .u8 s.toNat] w fun e w' => e = .returned (.bool true) ∧ Below w.heap.size w w' := by
  have hB0 : 0 < w.heap.size := by have := World.block_lt_of_cell? w _ (hk 0 (by omega)); omega
  have hN := N.toNat_lt
  generalize N.toNat = n at hN ⊢
  have hmk := fun w => run_make_bytes w n (by omega)
  have hn64 : (IntKind.i64.wrap (n : Int)) = n := by rw [IntKind.wrap_i64]; omega
  go_enter Tryd.func4, Tryd.ntmps4
  go_wp2_with fail
  have ho0 := Own.made w w.heap.size n (Nat.le_refl _) (by omega)
  have hb0 : Below w.heap.size w (w.alloc (.cells (madeCells #[.int .u8 0] n) 5)) := (Below.refl _ _).alloc (Nat.le_refl _) _
  generalize hg : w.heap.size = g at ho0 ⊢
  generalize World.alloc w _ = wm at ho0 hb0 ⊢
  clear hmk
  go_loopw [8] (fun q wr => ∃ (i : Nat) (L : List UInt8), i ≤ n ∧ q = .int .i64 (i : Int) ∧ L.length = n ∧ Own wr g (.slice (some ⟨g, 0, none⟩) n n) L ∧ Below g w wr) (fun q _ => n - (intOf q).toNat)
  case atStart => exact ⟨0, _, by omega, rfl, by simp, ho0, hg ▸ hb0⟩
  case round =>
    obtain ⟨i, L, hi, rfl, hL, ho, hb⟩ := hrel
    by_cases h : i < n
    · obtain ⟨g', c', cur, e1, hgg, hcur, hlc, hcell⟩ := ho.blk (by omega)
      injection e1 with e1 e2 e3
      simp only [Option.some.injEq, Addr.mk.injEq, and_true] at e1
      subst e1
      have c1 : wr.cell? ⟨g, i, none⟩ = some (.int .u8 (L.getD i 0).toNat) := (hcur.cell i).trans (hcell i (by omega))
      have f1 : wr.frozen? ⟨g, i, none⟩ = false := hcur.frozen i
      generalize (L.getD i 0).toNat = z at c1
      have hI : (i : Int) < (n : Int) := by omega
      clear hcell hlc hcur e2 e3 hgg
      have hsl := hb.size
      go_wp2_with fail
      go_roundw
      case rel =>
        have he : (((UInt8.ofNat (x.toNat + i * s.toNat)).toNat : Nat) : Int) = ((x.toNat : Int) + (i : Int) * (s.toNat : Int)) % 256 := by
          rw [UInt8.toNat_ofNat']; simp
        refine ⟨i + 1, L.set i (UInt8.ofNat (x.toNat + i * s.toNat)), by omega, by go_num, by simpa using hL, ?_, hb.setCell (Nat.le_refl _) _⟩
        rw [← he]
        exact ho.put_ i _
      case measure => simp [intOf]; omega
    · obtain rfl : i = n := by omega
      go_wp2_with fail
      subst hg
      have hr := ho.rd
      have hkr : Consts wr := hk.below hb hB0
      have hBr : 0 < wr.heap.size := by have := hb.size; omega
      have HLN := Lib.hid hL
      have HR := Lib.hid ho
      have hgs := hb.size
      generalize hgw : w.heap.size = g at hr ho ho0 hb HR hgs ⊢
      clear hL ho HR ho0 hb0 hB0
      have hC0 : Below wr.heap.size wr wr.drew := (Below.refl _ _).drew
      refine wp_region_anyN (Below wr.heap.size wr) (by kernel_rfl) ?_
      refine anyC_only (i := 0) rfl (by kernel_rfl) hC0 ?_
      go_wp2_with fail
      refine (answers06_any wr.drew hkr).mono ?_
      rintro e w4 ⟨rfl, hb4⟩
      replace hb4 : Below wr.heap.size wr w4 := hC0.trans hb4
      go_wp2_with fail
      refine anyC_takes (by kernel_rfl) (fun _ _ _ _ _ h => h) [1, 2, 5] 7 _ _ (by kernel_rfl) ?_
      simp only [List.filterMap_cons, List.filterMap_nil, List.getElem?_toArray, List.getElem?_cons_succ, List.getElem?_cons_zero]
      show wpQuiet _ _ _ _ (_ :: _ :: _ :: List.nil) _
      repeat (first | go_big_quiet_skip | (go_big_quiet_want; first | (fail; simp only [Act.put, List.setIfInBounds_toArray, List.set_cons_succ, List.set_cons_zero]; go_big_quiet_on) | (go_big_quiet_op; first | go_big_quiet_on | (refine ⟨_, fun _ _ => rfl, ?_⟩; go_big_quiet_on))))
      refine wpQuiet_nil ?_
      refine anyC_only (i := 3) rfl (by kernel_rfl) hb4 ?_
      go_wp2_with fail
      have hk4 := hkr.below hb4 hBr
      refine (Sum_any (some ⟨g, 0, none⟩) i i w4 L hk4 (by omega) (hr.below hb4 |>.more hb4.size)).mono ?_
      rintro e w5 ⟨v5, rfl, ho5, hb5⟩
      have hb05 : Below wr.heap.size wr w5 := hb4.trans (hb5.mono hb4.size)
      obtain ⟨A5, c5, rfl⟩ := ho5.shape
      go_wp2_with fail
      have hC5 : ∀ W, Below w5.heap.size w5 W → Below wr.heap.size wr W := fun W hW => hb05.trans (hW.mono hb05.size)
      have K5 := Lib.hid (fun W (hW : Below w5.heap.size w5 W) => ho5.rd.below hW)
      refine anyC_narrow (C' := Below w5.heap.size w5) hC5 _ _ _ _ ?_
      refine anyC_takes (by kernel_rfl) (fun _ _ _ _ _ h => h) [4] 5 _ _ (by kernel_rfl) ?_
      simp only [List.filterMap_cons, List.filterMap_nil, List.getElem?_toArray, List.getElem?_cons_succ, List.getElem?_cons_zero]
      show wpQuiet _ _ _ _ (_ :: List.nil) _
      repeat (first | go_big_quiet_skip | (go_big_quiet_want; first | (refine quiet_str 22 9 5 (.tmp 30) rfl A5 _ c5 (sha L) rfl Tryd.underlying22 Tryd.underlying5 Tryd.underlying9 _ K5.out ?_; simp only [Act.put, List.setIfInBounds_toArray, List.set_cons_succ, List.set_cons_zero]; go_big_quiet_on) | (go_big_quiet_op; first | go_big_quiet_on | (refine ⟨_, fun _ _ => rfl, ?_⟩; go_big_quiet_on))))
      refine wpQuiet_nil ?_
      refine anyC_only (i := 6) rfl (by kernel_rfl) (Below.refl _ _) ?_
      go_wp2_with fail
      refine (RefSum_any (some ⟨g, 0, none⟩) i i w5 L (by omega) ((hr.below hb05).more hb05.size)).mono ?_
      rintro e w6 ⟨v6, rfl, ho6, hb6⟩
      obtain ⟨A6, c6, rfl⟩ := ho6.shape
      go_wp2_with fail
      have hC6 : ∀ W, Below w6.heap.size w6 W → Below w5.heap.size w5 W := fun W hW => hb6.trans (hW.mono hb6.size)
      have K6 := Lib.hid (fun W (hW : Below w6.heap.size w6 W) => ho6.rd.below hW)
      refine anyC_narrow (C' := Below w6.heap.size w6) hC6 _ _ _ _ ?_
      refine anyC_takes (by kernel_rfl) (fun _ _ _ _ _ h => h) [7, 8, 9, 10] 0 _ _ (by kernel_rfl) ?_
      simp only [List.filterMap_cons, List.filterMap_nil, List.getElem?_toArray, List.getElem?_cons_succ, List.getElem?_cons_zero]
      show wpQuiet _ _ _ _ (_ :: _ :: _ :: _ :: List.nil) _
      repeat (first | go_big_quiet_skip | (go_big_quiet_want; first | (refine quiet_eql_str _ _ _ _ rfl _ rfl rfl ?_; simp only [Act.put, List.setIfInBounds_toArray, List.set_cons_succ, List.set_cons_zero]; go_big_quiet_on) | (refine quiet_pick _ _ _ rfl rfl (.bool true) rfl ?_; simp only [Act.put, List.setIfInBounds_toArray, List.set_cons_succ, List.set_cons_zero]; go_big_quiet_on) | (refine quiet_str 22 9 5 (.tmp 33) rfl A6 _ c6 (sha L) rfl Tryd.underlying22 Tryd.underlying5 Tryd.underlying9 _ K6.out ?_; simp only [Act.put, List.setIfInBounds_toArray, List.set_cons_succ, List.set_cons_zero]; go_big_quiet_on) | (go_big_quiet_op; first | go_big_quiet_on | (refine ⟨_, fun _ _ => rfl, ?_⟩; go_big_quiet_on))))
      refine wpQuiet_nil ?_
      refine ⟨Below.refl _ _, by kernel_rfl, ?_⟩
      go_wp2
      go_ret
      exact ⟨rfl, by rw [hgw]; exact hb.trans ((hb05.trans (hb6.mono hb05.size)).mono hgs)⟩
end Go.Proofs.YtkaboebjdjfahaaDoor
