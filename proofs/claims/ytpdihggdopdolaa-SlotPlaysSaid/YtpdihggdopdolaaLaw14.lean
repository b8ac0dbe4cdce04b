/- The walk of the laws' own answers, layer 14. No conditions. -/
import Derived.Test.YtpdihggdopdolaaDisk3
namespace Go.Proofs.Ytpdihggdopdolaa
open Go.RowKit
theorem zero32_len : zero32.length = 32 := by unfold zero32; rfl
theorem DiskIs.back {w w' : World} {B D : Nat} {s : DS} (h : DiskIs w' (Grown (fun k => B ≤ k) w) D s) (hB : B ≤ w.heap.size) : DiskIs w' (fun k => B ≤ k) D s :=
  h.weaken (fun k e => by rcases e with e | e; exact e; exact Nat.le_trans hB e)
theorem DiskIs.alloc {w : World} {F : Nat → Prop} {D : Nat} {s : DS} (h : DiskIs w F D s) (o : Obj) : DiskIs (w.alloc o) F D s := h.below ((Below.refl _ _).alloc (Nat.le_refl _) o)
set_option maxRecDepth 100000 in
theorem answers14_any (w : World) : Calls Try.prog 12 #[] w fun e w' => e = .returned (.bool true) ∧ Below w.heap.size w w' := by
  have hn2 : DS.new 2 = { bl := [zero32, zero32], fuse := -1, down := false, writes := 0 } := rfl
  have hw1 : ({ bl := [zero32, zero32], fuse := max 1 0, down := false, writes := 0 } : DS).write 1 zero32 = (0, { bl := [zero32, zero32], fuse := 0, down := false, writes := 1 }) := by
    unfold DS.write
    rw [if_pos ⟨rfl, zero32_len⟩]
    rfl
  have hw2 : ({ bl := [zero32, zero32], fuse := 0, down := false, writes := 1 } : DS).write 1 zero32 = (3, { bl := [zero32, zero32], fuse := 0, down := true, writes := 1 }) := by
    unfold DS.write
    rw [if_pos ⟨rfl, zero32_len⟩]
    rfl
  have hmk := mk32
  have HN := Lib.hid hn2; have HW1 := Lib.hid hw1; have HW2 := Lib.hid hw2; have HMK := Lib.hid hmk
  clear hn2 hw1 hw2 hmk
  go_enter Try.func12, Try.ntmps12
  go_wp2_with fail
  refine (New_any w 2).mono ?_
  rintro e w1 ⟨D, rfl, hd1, hb1⟩
  rw [HN.out] at hd1
  go_wp2_with fail
  refine (Fuse_any w1 _ D _ 1 (by omega) hd1).mono ?_
  rintro e w2 ⟨rfl, hd2, hk2⟩
  have hb2 : Below w.heap.size w w2 := hb1.trans (hk2.below (fun _ e => e) hb1.size)
  clear hd1 hk2
  have hmk := HMK.out
  go_wp2_with fail
  clear hmk
  refine (Write_any _ _ D _ 1 _ 32 32 zero32 (by decide) (hd2.alloc _) ((Rd.new_ w2 zero32 _ rfl 32 (by rw [zero32_len])).more (by simp))).mono ?_
  rw [HW1.out]
  rintro e w3 ⟨rfl, hd3, hk3⟩
  have hb2a := hb2.alloc hb2.size (.cells (zero32.map B8).toArray 5)
  have hb3 : Below w.heap.size w w3 := hb2a.trans (hk3.below (fun _ e => e) hb2a.size)
  replace hd3 := hd3.back hb2a.size
  clear hd2 hk3
  have hmk := HMK.out
  go_wp2_with fail
  clear hmk
  refine (Write_any _ _ D _ 1 _ 32 32 zero32 (by decide) (hd3.alloc _) ((Rd.new_ w3 zero32 _ rfl 32 (by rw [zero32_len])).more (by simp))).mono ?_
  rw [HW2.out]
  rintro e w4 ⟨rfl, hd4, hk4⟩
  have hb3a := hb3.alloc hb3.size (.cells (zero32.map B8).toArray 5)
  have hb4 : Below w.heap.size w w4 := hb3a.trans (hk4.below (fun _ e => e) hb3a.size)
  replace hd4 := hd4.back hb3a.size
  clear hd3 hk4
  go_wp2_with fail
  obtain ⟨gs, r, hA4, hF4⟩ := hd4
  refine (Read_any w4 D gs r _ 1 hA4).mono ?_
  rintro e w5 ⟨v5, rfl, ho5, hb5⟩
  have hhas : ({ bl := [zero32, zero32], fuse := 0, down := true, writes := 1 } : DS).has 1 = true := rfl
  rw [hhas, if_pos rfl] at ho5
  rw [hhas]
  obtain ⟨A5, c5, rfl⟩ := ho5.shape
  have hl5 : (({ bl := [zero32, zero32], fuse := 0, down := true, writes := 1 } : DS).bl.getD (1 : Int).toNat []).length = 32 := zero32_len
  rw [hl5]
  have hA5 := hA4.below hb5
  have hbZ : Below w.heap.size w w5 := hb4.trans (hb5.mono hb4.size)
  have HA5 := Lib.hid hA5
  clear hhas hl5 ho5 hA4 hb5 hA5 hF4
  go_wp2_with (first
    | (go_at_call 20; refine (Len_any w5 HA5.out).mono ?_; rintro e w6 ⟨rfl, rfl⟩)
    | (go_at_call 17; refine (Down_any _ HA5.out).mono ?_; rintro e w7 ⟨rfl, rfl⟩)
    | (go_at_call 18; refine (Writes_any _ HA5.out).mono ?_; rintro e w8 ⟨rfl, rfl⟩)
    | fail)
  go_ret
  exact ⟨rfl, hbZ⟩
end Go.Proofs.Ytpdihggdopdolaa
