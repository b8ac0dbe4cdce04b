/- The walk of layer 14's law DiskFuse. Condition: the slice takes at most the form's own reach. -/
import Derived.Test.YtpdihggdopdolaaLaw14
import Derived.Test.YtpdihggdopdolaaStr
namespace Go.Proofs.Ytpdihggdopdolaa
open Go.RowKit
theorem quiet_eql_ne {P : Program} {C : World → Prop} {o : Oper} {a : Act} {K : Act → Prop} (t t' : TypeId) (x y : Operand) (ho : o.op = .binOp .eql t x y t') (k : IntKind) (i j : Int) (hx : a.eval x = .int k i) (hy : a.eval y = .int k j) (hne : ¬ i = j) (hK : K (a.put o.dst (.bool false))) : o.quiet P a C K := by
  refine ⟨_, fun w _ => ?_, hK⟩
  unfold Oper.quietAt execOp
  have h1 : (eqGuard .eql t x y (.int k i) (.int k j)) = pure () := rfl
  have h2 : (binOp .eql t (.int k i) (.int k j)).run P w = .ok (.bool false) w := by
    simp [go_sem, hne]
  simp only [ho, hx, hy, h1, h2, Sem.run_bind, Sem.run_pure, Result.andThen_ok, Oper.quietUpon, and_self]
/-- The disk behind i writes of l, the fuse being f. -/
def FS (f i : Nat) (l : List UInt8) : DS := { bl := List.replicate (min i f) l ++ List.replicate (300 - min i f) zero32, fuse := ((f - min i f : Nat) : Int), down := decide (f < i), writes := min i f }
theorem FS_step (f i : Nat) (l : List UInt8) (hf : f < 256) (hi : i < 300) (hl : l.length = 32) : (FS f i l).write i l = (if i < f then 0 else 3, FS f (i + 1) l) := by
  have hlen : (FS f i l).bl.length = 300 := by simp [FS]; omega
  have hhas : (FS f i l).has i = true := by simp only [DS.has, hlen]; simp; omega
  unfold DS.write
  rw [if_pos ⟨hhas, hl⟩]
  by_cases h : i < f
  · have h1 : min i f = i := by omega
    have h2 : min (i + 1) f = i + 1 := by omega
    rw [if_neg (by simp only [FS, h1]; simp; omega), if_pos h]
    simp only [FS, h1, h2, Prod.mk.injEq, DS.mk.injEq, true_and]
    refine ⟨?_, ?_, ?_⟩
    · rw [Int.toNat_natCast, List.set_append_right _ _ (by simp)]
      simp only [List.length_replicate, Nat.sub_self]
      rw [show 300 - i = (300 - (i + 1)) + 1 by omega, List.replicate_succ, List.set_cons_zero, List.replicate_succ' (n := i), List.append_assoc]
      rfl
    · rw [if_pos (by omega)]; omega
    · have : ¬ f < i + 1 := by omega
      simp [this]
  · have h1 : min i f = f := by omega
    have h2 : min (i + 1) f = f := by omega
    rw [if_pos (by simp only [FS, h1]; simp), if_neg h]
    simp only [FS, h1, h2]
    have : f < i + 1 := by omega
    simp [this]
set_option maxRecDepth 100000 in
set_option maxHeartbeats 4000000 in
theorem DiskFuse_any (x : UInt8) (A : Option Addr) (n c : Nat) (w : World) (l : List UInt8) (hn : n ≤ 140737488351232) (hr : Rd w w.heap.size A n l) :
    Calls Try.prog 4 #[.int .u8 x.toNat, .slice A n c] w fun e w' => e = .returned (.bool true) ∧ Below w.heap.size w w' := by
  have hf := x.toNat_lt
  generalize x.toNat = f at hf ⊢
  by_cases h32 : n = 32
  · subst h32
    have hlen : l.length = 32 := hr.len.symm
    have hfw : IntKind.i64.wrap (f : Int) = f := by rw [IntKind.wrap_i64]; omega
    have hnew : ({ DS.new 300 with fuse := max (f : Int) 0 } : DS) = FS f 0 l := by
      have h1 : min 0 f = 0 := by omega
      have h2 : (max (f : Int) 0) = ((f - 0 : Nat) : Int) := by omega
      have h3 : decide (f < 0) = false := by simp
      unfold FS
      rw [h1, h2, h3]
      rfl
    have hstep := fun i hi => FS_step f i l hf hi hlen
    have HNEW := Lib.hid hnew; have HST := Lib.hid hstep; have HLEN := Lib.hid hlen
    clear hnew hstep hlen
    go_enter Try.func4, Try.ntmps4
    go_wp2_with fail
    refine (New_any w 300).mono ?_
    rintro e w1 ⟨D, rfl, hd1, hb1⟩
    go_wp2_with fail
    refine (Fuse_any w1 _ D _ f (by omega) hd1).mono ?_
    rw [HNEW.out]
    rintro e w2 ⟨rfl, hd2, hk2⟩
    have hb2 : Below w.heap.size w w2 := hb1.trans (hk2.below (fun _ e => e) hb1.size)
    clear hd1 hk2 hb1
    go_wp2_with fail
    go_loopw [7, 6] (fun q m wr => ∃ i : Nat, i ≤ 300 ∧ q = .int .i64 (i : Int) ∧ m = .int .i64 ((min i f : Nat) : Int) ∧ DiskIs wr (fun k => w.heap.size ≤ k) D (FS f i l) ∧ Below w.heap.size w wr) (fun q _ _ => 300 - (intOf q).toNat)
    case atStart => exact ⟨0, by omega, rfl, by simp, hd2, hb2⟩
    case round =>
      obtain ⟨i, hi, rfl, rfl, hd, hb⟩ := hrel
      by_cases h300 : i < 300
      · have hst := HST.out i h300
        have HH := Lib.hid hst; have HD := Lib.hid hd; have HB := Lib.hid hb
        have hrr : Rd wr wr.heap.size A 32 l := (hr.below hb).more hb.size
        have HRR := Lib.hid hrr
        clear hst hd hb hrr hd2 hb2
        by_cases hif : i < f
        · have hmin : (min i f : Nat) = i := by omega
          have hmin2 : (min (i + 1) f : Nat) = i + 1 := by omega
          rw [hmin]
          go_wp2_with fail
          refine (Write_any wr _ D _ i A 32 c l (by simp only [FS]; omega) HD.out HRR.out).mono ?_
          rw [HH.out, if_pos hif]
          rintro e w3 ⟨rfl, hd3, hk3⟩
          have hb3 : Below w.heap.size w w3 := HB.out.trans (hk3.below (fun _ e => e) HB.out.size)
          replace hd3 := hd3.back HB.out.size
          go_wp2
          go_roundw
          case rel => exact ⟨i + 1, by omega, by go_num, by rw [hmin2]; go_num, hd3, hb3⟩
          case measure => simp [intOf]; omega
        · have hmin : (min i f : Nat) = f := by omega
          have hmin2 : (min (i + 1) f : Nat) = f := by omega
          rw [hmin]
          go_wp2_with fail
          refine (Write_any wr _ D _ i A 32 c l (by simp only [FS]; omega) HD.out HRR.out).mono ?_
          rw [HH.out, if_neg hif]
          rintro e w3 ⟨rfl, hd3, hk3⟩
          have hb3 : Below w.heap.size w w3 := HB.out.trans (hk3.below (fun _ e => e) HB.out.size)
          replace hd3 := hd3.back HB.out.size
          go_wp2
          go_roundw
          case rel => exact ⟨i + 1, by omega, by go_num, by rw [hmin2], hd3, hb3⟩
          case measure => simp [intOf]; omega
      · obtain rfl : i = 300 := by omega
        have hmin : (min 300 f : Nat) = f := by omega
        rw [hmin]
        have hfs : FS f 300 l = { bl := List.replicate f l ++ List.replicate (300 - f) zero32, fuse := 0, down := true, writes := f } := by
          unfold FS
          rw [hmin]
          simp; omega
        rw [hfs] at hd
        obtain ⟨gs, r, hA, _⟩ := hd
        clear hfs hd2 hb2 hmin
        have hff : ({ bl := List.replicate f l ++ List.replicate (300 - f) zero32, fuse := 0, down := true, writes := f } : DS).has (f : Int) = true := by simp [DS.has]; omega
        have hf0 : ({ bl := List.replicate f l ++ List.replicate (300 - f) zero32, fuse := 0, down := true, writes := f } : DS).has 0 = true := by simp [DS.has]; omega
        have hgf : ({ bl := List.replicate f l ++ List.replicate (300 - f) zero32, fuse := 0, down := true, writes := f } : DS).bl.getD (f : Int).toNat [] = zero32 := by
          rw [Int.toNat_natCast]
          simp only [List.getD_eq_getElem?_getD]
          rw [List.getElem?_append_right (by simp), List.length_replicate, Nat.sub_self, List.getElem?_replicate, if_pos (by omega)]
          rfl
        have hhasf := hff
        have hhas0 := Lib.hid hf0; clear hf0 hff
        by_cases hz : f = 0
        · subst hz
          have hg0 := Lib.hid (show ({ bl := List.replicate 0 l ++ List.replicate (300 - 0) zero32, fuse := 0, down := true, writes := 0 } : DS).bl.getD (0 : Int).toNat [] = zero32 from rfl)
          have hl0 := Lib.hid zero32_len
          go_wp2_with fail
          refine (Read_any wr D gs r _ ((0 : Nat) : Int) hA).mono ?_
          rintro e w3 ⟨v3, rfl, ho3, hb3⟩
          rw [hhasf, if_pos rfl, hgf] at ho3
          rw [hhasf]
          obtain ⟨A3, c3, rfl⟩ := ho3.shape
          rw [zero32_len]
          have hA3 := hA.below hb3
          have HA3 := Lib.hid hA3; have H3 := Lib.hid ho3; have HAA := Lib.hid hA
          clear hA ho3 hA3 hhasf hgf
          go_wp2_with fail
          refine (Read_any w3 D gs r _ 0 HA3.out).mono ?_
          rintro e w4 ⟨v4, rfl, ho4, hb4⟩
          rw [hhas0.out, if_pos rfl, hg0.out] at ho4
          rw [hhas0.out]
          obtain ⟨A4, c4, rfl⟩ := ho4.shape
          rw [hl0.out]
          have H4 := Lib.hid ho4
          have hb04 : Below wr.heap.size wr w4 := hb3.trans (hb4.mono hb3.size)
          have hbw4 : Below w.heap.size w w4 := hb.trans (hb04.mono hb.size)
          clear ho4
          have hC0 : Below w4.heap.size w4 w4.drew := (Below.refl _ _).drew
          go_wp2_with fail
          refine wp_region_anyN (Below w4.heap.size w4) (by kernel_rfl) ?_
          refine anyC_only (i := 0) rfl (by kernel_rfl) hC0 ?_
          go_wp2_with fail
          refine (answers14_any w4.drew).mono ?_
          rintro e w5 ⟨rfl, hb5⟩
          replace hb5 : Below w4.heap.size w4 w5 := hC0.trans hb5
          have hA5 : DiskAt w5 D gs r _ := HAA.out.below (hb04.trans (hb5.mono hb04.size))
          go_wp2_with fail
          refine anyC_takes (by kernel_rfl) (fun _ _ _ _ _ h => h) [1, 2, 3, 4, 5, 6, 7, 8] 27 _ _ (by kernel_rfl) ?_
          simp only [List.filterMap_cons, List.filterMap_nil, List.getElem?_toArray, List.getElem?_cons_succ, List.getElem?_cons_zero]
          show wpQuiet _ _ _ _ (_ :: _ :: _ :: _ :: _ :: _ :: _ :: _ :: List.nil) _
          repeat (first | go_big_quiet_skip | (go_big_quiet_want; first | (fail; simp only [Act.put, List.setIfInBounds_toArray, List.set_cons_succ, List.set_cons_zero]; go_big_quiet_on) | (go_big_quiet_op; first | go_big_quiet_on | (refine ⟨_, fun _ _ => rfl, ?_⟩; go_big_quiet_on))))
          refine wpQuiet_nil ?_
          refine anyC_only (i := 9) rfl (by kernel_rfl) hb5 ?_
          go_wp2_with fail
          refine (Down_any w5 hA5).mono ?_
          rintro e w6 ⟨rfl, rfl⟩
          go_wp2_with fail
          refine anyC_takes (by kernel_rfl) (fun _ _ _ _ _ h => h) [10, 11, 12, 14] 22 _ _ (by kernel_rfl) ?_
          simp only [List.filterMap_cons, List.filterMap_nil, List.getElem?_toArray, List.getElem?_cons_succ, List.getElem?_cons_zero]
          show wpQuiet _ _ _ _ (_ :: _ :: _ :: _ :: List.nil) _
          repeat (first | go_big_quiet_skip | (go_big_quiet_want; first | (fail; simp only [Act.put, List.setIfInBounds_toArray, List.set_cons_succ, List.set_cons_zero]; go_big_quiet_on) | (go_big_quiet_op; first | go_big_quiet_on | (refine ⟨_, fun _ _ => rfl, ?_⟩; go_big_quiet_on))))
          refine wpQuiet_nil ?_
          refine anyC_only (i := 13) rfl (by kernel_rfl) hb5 ?_
          go_wp2_with fail
          refine (Writes_any _ hA5).mono ?_
          rintro e w7 ⟨rfl, rfl⟩
          go_wp2_with fail
          have hr3 : Rd w4 w4.heap.size A3 32 zero32 := by have := H3.out.rd; rw [zero32_len] at this; exact (this.below hb4).more hb4.size
          have K3 := Lib.hid (fun W (hW : Below w4.heap.size w4 W) => hr3.below hW)
          clear hr3 hA5
          refine anyC_takes (by kernel_rfl) (fun _ _ _ _ _ h => h) [15, 16, 17, 18, 19] 16 _ _ (by kernel_rfl) ?_
          simp only [List.filterMap_cons, List.filterMap_nil, List.getElem?_toArray, List.getElem?_cons_succ, List.getElem?_cons_zero]
          show wpQuiet _ _ _ _ (_ :: _ :: _ :: _ :: _ :: List.nil) _
          repeat (first | go_big_quiet_skip | (go_big_quiet_want; first | (refine quiet_str 22 9 5 (.tmp 62) rfl A3 _ c3 zero32 rfl Try.underlying22 Try.underlying5 Try.underlying9 _ (K3.out) ?_; simp only [Act.put, List.setIfInBounds_toArray, List.set_cons_succ, List.set_cons_zero]; go_big_quiet_on) | (go_big_quiet_op; first | go_big_quiet_on | (refine ⟨_, fun _ _ => rfl, ?_⟩; go_big_quiet_on))))
          refine wpQuiet_nil ?_
          refine anyC_only (i := 20) rfl (by kernel_rfl) hb5 ?_
          have hmk := mk32
          go_wp2_with fail
          clear hmk
          have hb8 : Below w4.heap.size w4 (w7.alloc (.cells (zero32.map B8).toArray 5)) := hb5.alloc hb5.size _
          have hr8 : Rd (w7.alloc (.cells (zero32.map B8).toArray 5)) (w7.heap.size + 1) (some ⟨w7.heap.size, 0, none⟩) 32 zero32 := Rd.new_ w7 zero32 _ rfl 32 (by rw [zero32_len])
          obtain ⟨q, hq⟩ : ∃ q, q = w7.heap.size := ⟨_, rfl⟩
          rw [← hq] at hr8 ⊢
          generalize w7.alloc (.cells (zero32.map B8).toArray 5) = w8 at hb8 hr8 ⊢
          have hN8 : ∀ W, Below (max w8.heap.size (q + 1)) w8 W → Below w4.heap.size w4 W := fun W hW => hb8.trans (hW.mono (Nat.le_trans hb8.size (Nat.le_max_left _ _)))
          have K8 := Lib.hid (fun W (hW : Below (max w8.heap.size (q + 1)) w8 W) => hr8.below (hW.mono (Nat.le_max_right _ _)))
          have hr4 : Rd w4 w4.heap.size A4 32 zero32 := by have := H4.out.rd; rw [hl0.out] at this; exact this
          have K4 := Lib.hid (fun W (hW : Below (max w8.heap.size (q + 1)) w8 W) => hr4.below (hN8 W hW))
          have KB := Lib.hid (fun W (hW : Below (max w8.heap.size (q + 1)) w8 W) => (hr.below hbw4).below ((hN8 W hW).mono hbw4.size))
          refine anyC_narrow (C' := Below (max w8.heap.size (q + 1)) w8) hN8 _ _ _ _ ?_
          clear hr4 hr8
          refine anyC_takes (by kernel_rfl) (fun _ _ _ _ _ h => h) [21, 22, 23, 24, 25, 26, 27, 28, 29, 30, 31, 32, 33, 34, 35] 0 _ _ (by kernel_rfl) ?_
          simp only [List.filterMap_cons, List.filterMap_nil, List.getElem?_toArray, List.getElem?_cons_succ, List.getElem?_cons_zero]
          show wpQuiet _ _ _ _ (_ :: _ :: _ :: _ :: _ :: _ :: _ :: _ :: _ :: _ :: _ :: _ :: _ :: _ :: _ :: List.nil) _
          repeat (first | go_big_quiet_skip | (go_big_quiet_want; first | (refine quiet_str 22 9 5 (.tmp 64) rfl (some ⟨q, 0, none⟩) _ 32 zero32 rfl Try.underlying22 Try.underlying5 Try.underlying9 _ (K8.out) ?_; simp only [Act.put, List.setIfInBounds_toArray, List.set_cons_succ, List.set_cons_zero]; go_big_quiet_on) | (refine quiet_eql_str _ _ _ _ rfl _ rfl rfl ?_; simp only [Act.put, List.setIfInBounds_toArray, List.set_cons_succ, List.set_cons_zero]; go_big_quiet_on) | (refine quiet_pick _ _ _ rfl rfl (.bool true) rfl ?_; simp only [Act.put, List.setIfInBounds_toArray, List.set_cons_succ, List.set_cons_zero]; go_big_quiet_on) | (go_big_quiet_op; first | go_big_quiet_on | (refine ⟨_, fun _ _ => rfl, ?_⟩; go_big_quiet_on))))
          refine wpQuiet_nil ?_
          refine ⟨Below.refl _ _, by kernel_rfl, ?_⟩
          go_wp2
          go_ret
          exact ⟨rfl, hbw4.trans (hb8.mono hbw4.size)⟩
        · have hg0 := Lib.hid (show ({ bl := List.replicate f l ++ List.replicate (300 - f) zero32, fuse := 0, down := true, writes := f } : DS).bl.getD (0 : Int).toNat [] = l from by
            obtain ⟨k, rfl⟩ : ∃ k, f = k + 1 := ⟨f - 1, by omega⟩
            rfl)
          have hl0 := HLEN
          have hz' : ¬ (f : Int) = 0 := by omega
          go_wp2_with fail
          refine (Read_any wr D gs r _ f hA).mono ?_
          rintro e w3 ⟨v3, rfl, ho3, hb3⟩
          rw [hhasf, if_pos rfl, hgf] at ho3
          rw [hhasf]
          obtain ⟨A3, c3, rfl⟩ := ho3.shape
          rw [zero32_len]
          have hA3 := hA.below hb3
          have HA3 := Lib.hid hA3; have H3 := Lib.hid ho3; have HAA := Lib.hid hA
          clear hA ho3 hA3 hhasf hgf
          go_wp2_with fail
          refine (Read_any w3 D gs r _ 0 HA3.out).mono ?_
          rintro e w4 ⟨v4, rfl, ho4, hb4⟩
          rw [hhas0.out, if_pos rfl, hg0.out] at ho4
          rw [hhas0.out]
          obtain ⟨A4, c4, rfl⟩ := ho4.shape
          rw [hl0.out]
          have H4 := Lib.hid ho4
          have hb04 : Below wr.heap.size wr w4 := hb3.trans (hb4.mono hb3.size)
          have hbw4 : Below w.heap.size w w4 := hb.trans (hb04.mono hb.size)
          clear ho4
          have hC0 : Below w4.heap.size w4 w4.drew := (Below.refl _ _).drew
          go_wp2_with fail
          refine wp_region_anyN (Below w4.heap.size w4) (by kernel_rfl) ?_
          refine anyC_only (i := 0) rfl (by kernel_rfl) hC0 ?_
          go_wp2_with fail
          refine (answers14_any w4.drew).mono ?_
          rintro e w5 ⟨rfl, hb5⟩
          replace hb5 : Below w4.heap.size w4 w5 := hC0.trans hb5
          have hA5 : DiskAt w5 D gs r _ := HAA.out.below (hb04.trans (hb5.mono hb04.size))
          go_wp2_with fail
          refine anyC_takes (by kernel_rfl) (fun _ _ _ _ _ h => h) [1, 2, 3, 4, 5, 6, 7, 8] 27 _ _ (by kernel_rfl) ?_
          simp only [List.filterMap_cons, List.filterMap_nil, List.getElem?_toArray, List.getElem?_cons_succ, List.getElem?_cons_zero]
          show wpQuiet _ _ _ _ (_ :: _ :: _ :: _ :: _ :: _ :: _ :: _ :: List.nil) _
          repeat (first | go_big_quiet_skip | (go_big_quiet_want; first | (fail; simp only [Act.put, List.setIfInBounds_toArray, List.set_cons_succ, List.set_cons_zero]; go_big_quiet_on) | (go_big_quiet_op; first | go_big_quiet_on | (refine ⟨_, fun _ _ => rfl, ?_⟩; go_big_quiet_on))))
          refine wpQuiet_nil ?_
          refine anyC_only (i := 9) rfl (by kernel_rfl) hb5 ?_
          go_wp2_with fail
          refine (Down_any w5 hA5).mono ?_
          rintro e w6 ⟨rfl, rfl⟩
          go_wp2_with fail
          refine anyC_takes (by kernel_rfl) (fun _ _ _ _ _ h => h) [10, 11, 12, 14] 22 _ _ (by kernel_rfl) ?_
          simp only [List.filterMap_cons, List.filterMap_nil, List.getElem?_toArray, List.getElem?_cons_succ, List.getElem?_cons_zero]
          show wpQuiet _ _ _ _ (_ :: _ :: _ :: _ :: List.nil) _
          repeat (first | go_big_quiet_skip | (go_big_quiet_want; first | (fail; simp only [Act.put, List.setIfInBounds_toArray, List.set_cons_succ, List.set_cons_zero]; go_big_quiet_on) | (go_big_quiet_op; first | go_big_quiet_on | (refine ⟨_, fun _ _ => rfl, ?_⟩; go_big_quiet_on))))
          refine wpQuiet_nil ?_
          refine anyC_only (i := 13) rfl (by kernel_rfl) hb5 ?_
          go_wp2_with fail
          refine (Writes_any _ hA5).mono ?_
          rintro e w7 ⟨rfl, rfl⟩
          go_wp2_with fail
          have hr3 : Rd w4 w4.heap.size A3 32 zero32 := by have := H3.out.rd; rw [zero32_len] at this; exact (this.below hb4).more hb4.size
          have K3 := Lib.hid (fun W (hW : Below w4.heap.size w4 W) => hr3.below hW)
          clear hr3 hA5
          refine anyC_takes (by kernel_rfl) (fun _ _ _ _ _ h => h) [15, 16, 17, 18, 19] 16 _ _ (by kernel_rfl) ?_
          simp only [List.filterMap_cons, List.filterMap_nil, List.getElem?_toArray, List.getElem?_cons_succ, List.getElem?_cons_zero]
          show wpQuiet _ _ _ _ (_ :: _ :: _ :: _ :: _ :: List.nil) _
          repeat (first | go_big_quiet_skip | (go_big_quiet_want; first | (refine quiet_str 22 9 5 (.tmp 62) rfl A3 _ c3 zero32 rfl Try.underlying22 Try.underlying5 Try.underlying9 _ (K3.out) ?_; simp only [Act.put, List.setIfInBounds_toArray, List.set_cons_succ, List.set_cons_zero]; go_big_quiet_on) | (go_big_quiet_op; first | go_big_quiet_on | (refine ⟨_, fun _ _ => rfl, ?_⟩; go_big_quiet_on))))
          refine wpQuiet_nil ?_
          refine anyC_only (i := 20) rfl (by kernel_rfl) hb5 ?_
          have hmk := mk32
          go_wp2_with fail
          clear hmk
          have hb8 : Below w4.heap.size w4 (w7.alloc (.cells (zero32.map B8).toArray 5)) := hb5.alloc hb5.size _
          have hr8 : Rd (w7.alloc (.cells (zero32.map B8).toArray 5)) (w7.heap.size + 1) (some ⟨w7.heap.size, 0, none⟩) 32 zero32 := Rd.new_ w7 zero32 _ rfl 32 (by rw [zero32_len])
          obtain ⟨q, hq⟩ : ∃ q, q = w7.heap.size := ⟨_, rfl⟩
          rw [← hq] at hr8 ⊢
          generalize w7.alloc (.cells (zero32.map B8).toArray 5) = w8 at hb8 hr8 ⊢
          have hN8 : ∀ W, Below (max w8.heap.size (q + 1)) w8 W → Below w4.heap.size w4 W := fun W hW => hb8.trans (hW.mono (Nat.le_trans hb8.size (Nat.le_max_left _ _)))
          have K8 := Lib.hid (fun W (hW : Below (max w8.heap.size (q + 1)) w8 W) => hr8.below (hW.mono (Nat.le_max_right _ _)))
          have hr4 : Rd w4 w4.heap.size A4 32 l := by have := H4.out.rd; rw [hl0.out] at this; exact this
          have K4 := Lib.hid (fun W (hW : Below (max w8.heap.size (q + 1)) w8 W) => hr4.below (hN8 W hW))
          have KB := Lib.hid (fun W (hW : Below (max w8.heap.size (q + 1)) w8 W) => (hr.below hbw4).below ((hN8 W hW).mono hbw4.size))
          refine anyC_narrow (C' := Below (max w8.heap.size (q + 1)) w8) hN8 _ _ _ _ ?_
          clear hr4 hr8
          refine anyC_takes (by kernel_rfl) (fun _ _ _ _ _ h => h) [21, 22, 23, 24, 25, 26, 27, 28, 29, 30, 31, 32, 33, 34, 35] 0 _ _ (by kernel_rfl) ?_
          simp only [List.filterMap_cons, List.filterMap_nil, List.getElem?_toArray, List.getElem?_cons_succ, List.getElem?_cons_zero]
          show wpQuiet _ _ _ _ (_ :: _ :: _ :: _ :: _ :: _ :: _ :: _ :: _ :: _ :: _ :: _ :: _ :: _ :: _ :: List.nil) _
          repeat (first | go_big_quiet_skip | (go_big_quiet_want; first | (refine quiet_eql_ne _ _ (.tmp 69) _ rfl .u8 f 0 rfl rfl hz' ?_; simp only [Act.put, List.setIfInBounds_toArray, List.set_cons_succ, List.set_cons_zero]; go_big_quiet_on) | (refine quiet_str 22 9 5 (.tmp 64) rfl (some ⟨q, 0, none⟩) _ 32 zero32 rfl Try.underlying22 Try.underlying5 Try.underlying9 _ (K8.out) ?_; simp only [Act.put, List.setIfInBounds_toArray, List.set_cons_succ, List.set_cons_zero]; go_big_quiet_on) | (refine quiet_str 22 9 5 (.tmp 72) rfl A4 _ c4 l rfl Try.underlying22 Try.underlying5 Try.underlying9 _ (K4.out) ?_; simp only [Act.put, List.setIfInBounds_toArray, List.set_cons_succ, List.set_cons_zero]; go_big_quiet_on) | (refine quiet_str 22 9 5 (.tmp 74) rfl A _ c l rfl Try.underlying22 Try.underlying5 Try.underlying9 _ (KB.out) ?_; simp only [Act.put, List.setIfInBounds_toArray, List.set_cons_succ, List.set_cons_zero]; go_big_quiet_on) | (refine quiet_eql_str _ _ _ _ rfl _ rfl rfl ?_; simp only [Act.put, List.setIfInBounds_toArray, List.set_cons_succ, List.set_cons_zero]; go_big_quiet_on) | (refine quiet_pick _ _ _ rfl rfl (.bool true) rfl ?_; simp only [Act.put, List.setIfInBounds_toArray, List.set_cons_succ, List.set_cons_zero]; go_big_quiet_on) | (go_big_quiet_op; first | go_big_quiet_on | (refine ⟨_, fun _ _ => rfl, ?_⟩; go_big_quiet_on))))
          refine wpQuiet_nil ?_
          refine ⟨Below.refl _ _, by kernel_rfl, ?_⟩
          go_wp2
          go_ret
          exact ⟨rfl, hbw4.trans (hb8.mono hbw4.size)⟩
  · have h32' : ¬ (n : Int) = 32 := by omega
    go_enter Try.func4, Try.ntmps4
    go_wp2_with fail
    refine (answers14_any w).mono ?_
    rintro e w1 ⟨rfl, hb1⟩
    go_wp2
    go_ret
    exact ⟨rfl, hb1⟩
end Go.Proofs.Ytpdihggdopdolaa
