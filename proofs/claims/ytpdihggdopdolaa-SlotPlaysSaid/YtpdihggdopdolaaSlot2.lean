/- What a slot keeps, in bytes; what Load does. No conditions. -/
import Derived.Test.YtpdihggdopdolaaSlot1
namespace Go.Proofs.Ytpdihggdopdolaa
open Go.RowKit
/-- A block of what is kept. -/
def pieceOf (l : List UInt8) (i : Nat) : List UInt8 := (l.drop (32 * i)).take 32 ++ List.replicate (32 - ((l.drop (32 * i)).take 32).length) 0
theorem pieceOf_len (l : List UInt8) (i : Nat) : (pieceOf l i).length = 32 := by unfold pieceOf; simp; omega
/-- A slot's disk, and what it keeps. -/
structure SOk (s : DS) (room side : Nat) (kept : List UInt8) : Prop where
  len : s.bl.length = 1 + 2 * room
  l32 : ∀ (i : Nat) (l : List UInt8), s.bl[i]? = some l → l.length = 32
  root : s.bl[0]? = some (rootB side kept.length)
  sideLe : side ≤ 1
  fits : takesOf kept.length ≤ room
  data : ∀ i, i < takesOf kept.length → s.bl[1 + side * room + i]? = some (pieceOf kept i)
  roomLe : room ≤ 512
theorem SOk.small {s : DS} {room side : Nat} {kept : List UInt8} (h : SOk s room side kept) : kept.length ≤ 16384 := by
  have h1 := h.fits; have h2 := h.roomLe; unfold takesOf at h1; omega
def accOf (l : List UInt8) (i : Nat) : List UInt8 := (List.range i).flatMap (pieceOf l)
theorem accOf_succ (l : List UInt8) (i : Nat) : accOf l (i + 1) = accOf l i ++ pieceOf l i := by unfold accOf; rw [List.range_succ, List.flatMap_append]; simp
theorem accOf_len (l : List UInt8) (i : Nat) : (accOf l i).length = 32 * i := by
  induction i with
  | zero => rfl
  | succ i ih => rw [accOf_succ, List.length_append, ih, pieceOf_len]; omega
theorem accOf_full (l : List UInt8) (i : Nat) (h : 32 * i ≤ l.length) : accOf l i = l.take (32 * i) := by
  induction i with
  | zero => rfl
  | succ i ih =>
    rw [accOf_succ, ih (by omega)]
    have hp : pieceOf l i = (l.drop (32 * i)).take 32 := by
      unfold pieceOf
      have : ((l.drop (32 * i)).take 32).length = 32 := by rw [List.length_take, List.length_drop]; omega
      rw [this]; simp
    rw [hp, show 32 * (i + 1) = 32 * i + 32 by omega, List.take_add]
theorem accOf_take (l : List UInt8) : (accOf l (takesOf l.length)).take l.length = l := by
  by_cases h : 32 * takesOf l.length ≤ l.length
  · rw [accOf_full l _ h, List.take_take]
    have : 32 * takesOf l.length = l.length := by unfold takesOf at *; omega
    rw [this, Nat.min_self, List.take_length]
  · obtain ⟨t, ht⟩ : ∃ t, takesOf l.length = t + 1 := ⟨takesOf l.length - 1, by omega⟩
    have h1 : 32 * t ≤ l.length := by unfold takesOf at *; omega
    rw [ht, accOf_succ, accOf_full l t h1]
    have hp : pieceOf l t = l.drop (32 * t) ++ List.replicate (32 - (l.drop (32 * t)).length) 0 := by
      unfold pieceOf
      rw [List.take_of_length_le (by rw [List.length_drop]; unfold takesOf at *; omega)]
    rw [hp, ← List.append_assoc, List.take_append_drop]
    exact List.take_left
theorem Rd.take_ {w : World} {B n : Nat} {A : Option Addr} {l : List UInt8} (h : Rd w B A n l) (k : Nat) (hk : k ≤ n) : Rd w B A k (l.take k) := by
  have hl := h.len
  refine ⟨by simp; omega, fun hp => ?_⟩
  obtain ⟨ad, e, hb, hc⟩ := h.2 (by omega)
  refine ⟨ad, e, hb, fun j u hu => hc j u ?_⟩
  rw [List.map_take, List.getElem?_take] at hu
  split at hu
  · exact hu
  · cases hu
theorem root_ne (side n : Nat) (h : ¬ (side = 0 ∧ n = 0)) (W : World) : Sem.run Try.prog (binOp .eql 74 (.agg #[.int .i64 (side : Int), .int .i64 (n : Int)]) (.agg #[.int .i64 0, .int .i64 0])) W = .ok (.bool false) W := by
  simp [go_sem]
  omega
/-- What a read of a good slot's disk hands back. -/
theorem Read_k (w : World) (G : Nat → Prop) (D : Nat) (s : DS) (k : Nat) (l : List UInt8) (h : DiskIs w G D s) (hl : s.bl[k]? = some l) (h32 : l.length = 32) :
    Calls Try.prog 15 #[.pointer (some ⟨D, 0, none⟩), .int .i64 (k : Int)] w fun e w' => ∃ A c, e = .returned (.tuple #[.slice A 32 c, .bool true]) ∧ Rd w' w'.heap.size A 32 l ∧ Below w.heap.size w w' := by
  obtain ⟨gs, r, hA, hF⟩ := h
  refine (Read_any w D gs r s (k : Int) hA).mono ?_
  rintro e w2 ⟨v, rfl, hv, hb⟩
  have hk : k < s.bl.length := (List.getElem?_eq_some_iff.1 hl).1
  have hhas : s.has (k : Int) = true := by unfold DS.has; exact decide_eq_true ⟨by omega, by omega⟩
  have hgl : s.bl.getD (k : Int).toNat [] = l := by rw [Int.toNat_natCast, List.getD_eq_getElem?_getD, hl]; rfl
  rw [hhas, if_pos rfl, hgl] at hv
  rw [hhas]
  obtain ⟨A, c, rfl⟩ := hv.shape
  have hr := hv.rd
  rw [h32] at hr ⊢
  exact ⟨A, c, rfl, hr, hb⟩
set_option maxRecDepth 100000 in
theorem Load_any (w : World) (F : Nat → Prop) (S room : Nat) (s : DS) (side : Nat) (kept : List UInt8) (h : SlotIs w F S room s) (hok : SOk s room side kept) :
    Calls Try.prog 27 #[.pointer (some ⟨S, 0, none⟩)] w fun e w' => ∃ A c, e = .returned (.slice A kept.length c) ∧ Rd w' w'.heap.size A kept.length kept ∧ Below w.heap.size w w' := by
  by_cases hz : side = 0 ∧ kept.length = 0
  · obtain ⟨hz1, hz2⟩ := hz
    obtain rfl : kept = [] := List.eq_nil_of_length_eq_zero hz2
    subst hz1
    have HOK := Lib.hid hok
    have H := Lib.hid h
    clear h hok hz2
    go_enter Try.func27, Try.ntmps27
    go_wp2_with fail
    refine (Root_any w F S room s 0 0 H.out HOK.out.root (by omega) (by omega)).mono ?_
    rintro e w1 ⟨rfl, hb1⟩
    have hb1a := hb1.alloc hb1.size (.cells #[.int .i64 0, .int .i64 0] 74)
    have HT := Lib.hid (Blk.new w1 74 #[.int .i64 0, .int .i64 0])
    have HB1 := Lib.hid hb1a
    clear hb1 hb1a
    go_wp2_with (refine wpList_load_row rfl 74 (.tmp 3) rfl w1.heap.size rfl _ _ _ _ HT.out Try.underlying74 rfl (by kernel_rfl) ?_)
    go_ret
    exact ⟨none, 0, rfl, Rd.nil_, HB1.out⟩
  have HNE := Lib.hid (root_ne side kept.length hz)
  have HOK := Lib.hid hok
  have H := Lib.hid h
  clear h hok hz
  go_enter Try.func27, Try.ntmps27
  go_wp2_with fail
  refine (Root_any w F S room s side kept.length H.out HOK.out.root HOK.out.sideLe HOK.out.small).mono ?_
  rintro e w1 ⟨rfl, hb1⟩
  have hb1a := hb1.alloc hb1.size (.cells #[.int .i64 (side : Int), .int .i64 (kept.length : Int)] 74)
  have HT := Lib.hid (Blk.new w1 74 #[.int .i64 (side : Int), .int .i64 (kept.length : Int)])
  have H1 := Lib.hid (H.out.below hb1a); have HB1 := Lib.hid hb1a
  have HRL := Lib.hid (show w1.heap.size < (w1.alloc (.cells #[.int .i64 (side : Int), .int .i64 (kept.length : Int)] 74)).heap.size by simp)
  clear hb1 hb1a
  go_upto_region 4 with (fail)
  generalize w1.alloc (.cells #[.int .i64 (side : Int), .int .i64 (kept.length : Int)] 74) = W2 at HT H1 HB1 HRL ⊢
  generalize w1.heap.size = R at HT HRL ⊢
  obtain ⟨i0, hi0, hz0, hz1, hz2⟩ := info_parts u8_info
  obtain ⟨W3, hrun, hown, hgr⟩ := run_make_own (P := Try.prog) W2 W2.heap.size 22 5 i0 (.int .u8 0) 1 Try.underlying22 hi0 hz0 hz1 .i64 .i64 kept.length (by rw [hz2]; have := HOK.out.small; omega) (by have := HOK.out.small; simp only [maxLen]; omega) (Nat.le_refl _)
  clear hi0 hz0 hz1 hz2
  have hb23 : Below W2.heap.size W2 W3 := ⟨hgr.os, hgr.tape, hgr.output, hgr.size, fun k hk => hgr.block k hk (by simp)⟩
  have HO3 := Lib.hid hown; have HB3 := Lib.hid hb23
  have hne := HNE.out
  have kt1 : W2.cell? ⟨R, 1, none⟩ = some (.int .i64 (kept.length : Int)) := (HT.out.cell 1).trans rfl
  clear hown hgr hb23
  go_upto_region 7 with (refine wpList_load_row rfl 74 (.tmp 3) rfl R rfl _ _ _ _ HT.out Try.underlying74 rfl (by kernel_rfl) ?_)
  have kt2 : W3.cell? ⟨R, 1, none⟩ = some (.int .i64 (kept.length : Int)) := ((HT.out.below HB3.out HRL.out).cell 1).trans rfl
  generalize hB2 : W2.heap.size = B2 at HO3 HB3 HRL ⊢
  have HB2 := Lib.hid hB2
  clear hrun hne kt1 hB2
  go_wp2_with (go_at_call 38; refine (takes_any kept.length W3 (by have := HOK.out.small; omega)).mono ?_; rintro e w4 ⟨rfl, rfl⟩)
  obtain ⟨T, hT⟩ : ∃ T, T = takesOf kept.length := ⟨_, rfl⟩
  rw [← hT]
  have hT2 : T ≤ 512 := by rw [hT]; exact Nat.le_trans HOK.out.fits HOK.out.roomLe
  have HTK := Lib.hid hT
  clear hT kt2
  go_loopw [4, 5, 6, 7, 21] (fun out _ _ _ q wr => ∃ j : Nat, j ≤ T ∧ q = .int .i64 (j : Int) ∧ Own wr B2 out (accOf kept j) ∧ Below B2 W2 wr) (fun _ _ _ _ q _ => T - (intOf q).toNat)
  case atStart => exact ⟨0, by omega, rfl, HO3.out, HB3.out⟩
  case round =>
    obtain ⟨j, hj, rfl, ho, hb⟩ := hrel
    obtain ⟨oA, oc, rfl⟩ := ho.shape
    rw [accOf_len]
    clear HB3 HO3
    have HO := Lib.hid ho; have HB := Lib.hid hb
    have HT1 := Lib.hid (HT.out.below hb HRL.out)
    have HBw := Lib.hid (show B2 ≤ wr.heap.size by have := hb.size; have := HB2.out; omega)
    have hs := H1.out.below (HB2.out.symm ▸ hb)
    clear ho hb
    by_cases hjT : j < T
    · have hjT' : (j : Int) < (T : Int) := by omega
      obtain ⟨D, G, hS, hd, h3, h4, h5⟩ := hs
      have HS := Lib.hid hS; have HD := Lib.hid hd
      have HSC := Lib.hid (fun W (hW : Below wr.heap.size wr W) => ((hS.below hW hS.lt).cell 0).trans rfl : ∀ W, Below wr.heap.size wr W → W.cell? ⟨S, 0, none⟩ = some (.pointer (some ⟨D, 0, none⟩)))
      have HTC := Lib.hid (fun W (hW : Below wr.heap.size wr W) => ((HT1.out.below hW (Nat.lt_of_lt_of_le HRL.out HBw.out)).cell 0).trans rfl : ∀ W, Below wr.heap.size wr W → W.cell? ⟨R, 0, none⟩ = some (.int .i64 (side : Int)))
      clear hS hd
      go_wp2_with fail
      have hC0 : Below wr.heap.size wr wr.drew := (Below.refl _ _).drew
      refine wp_region_anyN (Below wr.heap.size wr) (by kernel_rfl) ?_
      refine anyC_takes (by kernel_rfl) (fun _ _ _ _ _ h => h) [0, 1, 2, 3, 4, 5, 6, 7] 7 _ _ (by kernel_rfl) ?_
      simp only [List.filterMap_cons, List.filterMap_nil, List.getElem?_toArray, List.getElem?_cons_succ, List.getElem?_cons_zero]
      show wpQuiet _ _ _ _ (_ :: _ :: _ :: _ :: _ :: _ :: _ :: _ :: List.nil) _
      repeat (first | go_big_quiet_skip | (go_big_quiet_want; first | (refine quiet_load _ _ rfl ⟨S, 0, none⟩ rfl _ HSC.out (fun _ => by kernel_rfl) ?_; simp only [Act.put, List.setIfInBounds_toArray, List.set_cons_succ, List.set_cons_zero]; go_big_quiet_on) | (refine quiet_load _ _ rfl ⟨R, 0, none⟩ rfl _ HTC.out (fun _ => by kernel_rfl) ?_; simp only [Act.put, List.setIfInBounds_toArray, List.set_cons_succ, List.set_cons_zero]; go_big_quiet_on) | (go_big_quiet_op; first | go_big_quiet_on | (refine ⟨_, fun _ _ => rfl, ?_⟩; go_big_quiet_on))))
      refine wpQuiet_nil ?_
      refine anyC_only (i := 8) rfl (by kernel_rfl) hC0 ?_
      go_wp2_with fail
      refine (block_any S D room side j wr.drew HOK.out.roomLe (by have := HOK.out.sideLe; omega) (by have := HOK.out.small; have := HTK.out; unfold takesOf at this; omega) (HS.out.below hC0 HS.out.lt)).mono ?_
      rintro e w5 ⟨rfl, rfl⟩
      go_wp2_with fail
      refine anyC_only (i := 9) rfl (by kernel_rfl) hC0 ?_
      go_wp2_with fail
      refine (Read_k wr.drew G D s (1 + side * room + j) (pieceOf kept j) (HD.out.below hC0) (HOK.out.data j (by rw [← HTK.out]; exact hjT)) (pieceOf_len _ _)).mono ?_
      rintro e w6 ⟨A6, c6, rfl, hr6, hb6⟩
      have HR6 := Lib.hid hr6; have HC6 := Lib.hid (hC0.trans hb6)
      clear hr6 hb6
      go_wp2_with fail
      refine anyC_takes (by kernel_rfl) (fun _ _ _ _ _ h => h) [10, 11, 12, 13, 14] 0 _ _ (by kernel_rfl) ?_
      simp only [List.filterMap_cons, List.filterMap_nil, List.getElem?_toArray, List.getElem?_cons_succ, List.getElem?_cons_zero]
      show wpQuiet _ _ _ _ (_ :: _ :: _ :: _ :: _ :: List.nil) _
      repeat (first | go_big_quiet_skip | (go_big_quiet_want; first | (fail; simp only [Act.put, List.setIfInBounds_toArray, List.set_cons_succ, List.set_cons_zero]; go_big_quiet_on) | (go_big_quiet_op; first | go_big_quiet_on | (refine ⟨_, fun _ _ => rfl, ?_⟩; go_big_quiet_on))))
      refine wpQuiet_nil ?_
      refine ⟨HC6.out, by kernel_rfl, ?_⟩
      have HB6 := Lib.hid (HB.out.trans (HC6.out.mono HBw.out))
      have HO6 := Lib.hid (HO.out.below HC6.out)
      have HBw6 := Lib.hid (Nat.le_trans HBw.out HC6.out.size)
      go_wp2_with (at_builtin; refine app_bytes rfl (.tmp 37) (.tmp 38) rfl B2 _ (accOf kept j) (by first | rfl | (rw [accOf_len]; rfl)) HO6.out w6.heap.size A6 32 c6 (pieceOf kept j) rfl HR6.out (by rw [accOf_len]; have := HOK.out.small; have := HTK.out; unfold takesOf at this; omega) HBw6.out ?_; intro v' w7 hown' hg' hat'; rw [← accOf_succ] at hown'; obtain ⟨A7, c7, rfl⟩ := hown'.shape; rw [accOf_len])
      have hb7 : Below B2 W2 w7 := below_app HB6.out HO6.out HBw6.out hg'
      go_roundw
      case rel => exact ⟨j + 1, hjT, by go_num, by rw [accOf_len] at hown'; exact hown', hb7⟩
      case measure => simp [intOf]; omega
    · obtain rfl : j = T := by omega
      have kt3 : wr.cell? ⟨R, 1, none⟩ = some (.int .i64 (kept.length : Int)) := (HT1.out.cell 1).trans rfl
      have hle : kept.length ≤ 32 * j := by have := HTK.out; unfold takesOf at this; omega
      have hrd := HO.out.rd
      rw [accOf_len] at hrd
      have HRD := Lib.hid hrd
      have hcap : 32 * j ≤ oc := by
        rcases HO.out.2 with ⟨e, e2⟩ | ⟨g, cap, cur, e, _, _, h9, _⟩
        · rw [accOf_len] at e2; omega
        · injection e with _ _ e; rw [accOf_len] at h9; omega
      clear hrd
      go_wp2_with fail
      go_ret
      refine ⟨_, _, rfl, ?_, HB1.out.trans ((HB2.out.symm ▸ HB.out : Below W2.heap.size W2 wr).mono HB1.out.size)⟩
      have h9 := Rd.take_ HRD.out kept.length hle
      rw [HTK.out, accOf_take] at h9
      exact h9
end Go.Proofs.Ytpdihggdopdolaa
