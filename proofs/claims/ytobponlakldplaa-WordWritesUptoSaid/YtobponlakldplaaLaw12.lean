/- The walk of the laws' own answers, layer 12. No conditions. -/
import Derived.Test.YtobponlakldplaaWord2
import Derived.Test.YtobponlakldplaaStr
namespace Go.Proofs.Ytobponlakldplaa
open Go.RowKit
theorem WrIs.back {w w' : World} {B D : Nat} {s : WS} (h : WrIs w' (Grown (fun k => B ≤ k) w) D s) (hB : B ≤ w.heap.size) : WrIs w' (fun k => B ≤ k) D s :=
  h.weaken (fun k e => by rcases e with e | e; exact e; exact Nat.le_trans hB e)
set_option maxRecDepth 100000 in
theorem answers12_any (w : World) : Calls Try.prog 18 #[] w fun e w' => e = .returned (.bool true) ∧ Below w.heap.size w w' := by
  have hs1 : ({ out := [], bad := false } : WS).int (-1) = { out := [0, 0, 0, 1], bad := false } := by kernel_rfl
  have hs2 : ({ out := [0, 0, 0, 1], bad := false } : WS).bytes [7] = { out := [0, 0, 0, 1, 0, 1, 7], bad := false } := by kernel_rfl
  have hr1 : ({ left := [0, 0, 0, 1, 0, 1, 7], bad := false } : RS).int = (-1, { left := [0, 1, 7], bad := false }) := by kernel_rfl
  have hr2 : ({ left := [0, 1, 7], bad := false } : RS).bytes = ([7], { left := [], bad := false }) := by kernel_rfl
  have HS1 := Lib.hid hs1; have HS2 := Lib.hid hs2; have HR1 := Lib.hid hr1; have HR2 := Lib.hid hr2
  clear hs1 hs2 hr1 hr2
  go_enter Try.func18, Try.ntmps18
  go_wp2_with fail
  refine (WNew_any w).mono ?_
  rintro e w1 ⟨D, rfl, hd1, hb1⟩
  go_wp2_with fail
  refine (WInt_any w1 _ D _ (-1) hd1 (by simp)).mono ?_
  rw [HS1.out]
  rintro e w2 ⟨rfl, hd2, hk2⟩
  have hb2 : Below w.heap.size w w2 := hb1.trans (hk2.below (fun _ e => e) hb1.size)
  replace hd2 := hd2.back hb1.size
  clear hd1 hk2
  go_wp2_with fail
  have hb2a := hb2.alloc hb2.size (.cells #[Value.int .u8 7] 5)
  have hd2a := hd2.below ((Below.refl _ w2).alloc (Nat.le_refl _) (.cells #[Value.int .u8 7] 5))
  have hq : Rd (w2.alloc (.cells #[Value.int .u8 7] 5)) (w2.heap.size + 1) (some ⟨w2.heap.size, 0, none⟩) 1 [7] := Rd.new_ w2 [7] _ rfl 1 rfl
  refine (WBytes_any _ (fun k => w.heap.size ≤ k ∧ k ≠ w2.heap.size) D { out := [0, 0, 0, 1], bad := false } _ 1 1 [7] (?_) (fun W hW => ((hq.more (by simp)).keeps hW (Nat.le_refl _) (fun ad e => by injection e with e; subst e; exact fun e2 => e2.2 rfl))) (by simp)).mono ?_
  · obtain ⟨v, k1, k2, k3⟩ := hd2
    have k1' := k1.keeps (G := fun _ => False) (w' := w2.alloc (.cells #[Value.int .u8 7] 5)) (Keeps.of_below ((Below.refl _ w2).alloc (Nat.le_refl _) _)) id (fun _ _ => id)
    exact ⟨v, k1', ⟨k2, by have := k1.cells.lt; omega⟩, fun k e => ⟨k3 k e, by have := (k1.own.lt k e).2; omega⟩⟩
  rw [HS2.out]
  rintro e w3 ⟨rfl, hd3, hk3⟩
  have hb3 : Below w.heap.size w w3 := hb2a.trans (hk3.below (fun _ e => e.1) hb2a.size)
  obtain ⟨v3, hw3, _, _⟩ := hd3
  clear hd2 hk3 hd2a hq
  go_wp2_with fail
  refine (WOut_any w3 D v3 _ hw3 (by simp)).mono ?_
  simp only [Bool.false_eq_true, if_false, Bool.not_false]
  rintro e w4 ⟨v4, rfl, ⟨A4, c4, rfl, hr4, had4⟩, hb34⟩
  have hb4 : Below w.heap.size w w4 := hb3.trans (hb34.mono hb3.size)
  clear hw3 hb34
  go_wp2_with fail
  refine (Read_any A4 7 c4 w4 [0, 0, 0, 1, 0, 1, 7] (by decide) hr4).mono ?_
  rintro e w5 ⟨R, rfl, hi5, hb45⟩
  go_wp2_with fail
  refine (RInt_any w5 _ R _ hi5).mono ?_
  rw [HR1.out]
  rintro e w6 ⟨rfl, hi6, hk6⟩
  have hb46 : Below w4.heap.size w4 w6 := hb45.trans (hk6.below (fun _ e => e) hb45.size)
  go_wp2_with fail
  refine (RBytes_any w6 _ R _ hi6).mono ?_
  rw [HR2.out]
  rintro e w7 ⟨v7, rfl, ⟨A7, c7, rfl, hr7, had7⟩, hi7, hk7⟩
  have hb47 : Below w4.heap.size w4 w7 := hb46.trans (hk7.below (fun _ e => e) hb46.size)
  have hb7 : Below w.heap.size w w7 := hb4.trans (hb47.mono hb4.size)
  have HB := Lib.hid (hr4.below hb47); have HC := Lib.hid hr7; have HI := Lib.hid hi7
  clear hr4 hr7 hi7 hi6 hi5 hk6 hk7
  go_wp2_with (first
    | (refine wpList_str rfl 26 9 5 (.tmp 26) rfl A4 7 c4 [0, 0, 0, 1, 0, 1, 7] rfl Try.underlying26 Try.underlying5 Try.underlying9 _ HB.out ?_)
    | (refine wpList_str rfl 26 9 5 (.tmp 35) rfl A7 1 c7 [7] rfl Try.underlying26 Try.underlying5 Try.underlying9 _ HC.out ?_)
    | (go_at_call 20; refine (Done_any w7 _ R _ HI.out).mono ?_; rintro e w8 ⟨rfl, rfl⟩)
    | fail)
  go_ret
  exact ⟨rfl, hb7⟩
end Go.Proofs.Ytobponlakldplaa
