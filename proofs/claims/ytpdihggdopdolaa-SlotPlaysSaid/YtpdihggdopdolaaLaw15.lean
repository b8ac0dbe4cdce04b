/- The walk of the laws' own answers, layer 15. No conditions. -/
import Derived.Test.YtpdihggdopdolaaSlot9
namespace Go.Proofs.Ytpdihggdopdolaa
open Go.RowKit
theorem SOk.bl {s s' : DS} {room side : Nat} {kept : List UInt8} (h : SOk s room side kept) (e : s'.bl = s.bl) : SOk s' room side kept :=
  ⟨by rw [e]; exact h.len, by rw [e]; exact h.l32, by rw [e]; exact h.root, h.sideLe, h.fits, by rw [e]; exact h.data, h.roomLe⟩
theorem CleanP.bl {s s' : DS} {room side n : Nat} (h : CleanP s room side n) (e : s'.bl = s.bl) : CleanP s' room side n := fun i hi => by rw [e]; exact h i hi
theorem TailP.bl {s s' : DS} {room side n : Nat} (h : TailP s room side n) (e : s'.bl = s.bl) : TailP s' room side n := fun i h1 h2 => by rw [e]; exact h i h1 h2
theorem new_bl (m : Nat) (hm : m ≤ 512) : (DS.new (1 + 2 * (m : Int))).bl = List.replicate (1 + 2 * m) zero32 := by
  unfold DS.new
  simp only
  congr 1
  omega
theorem new_get (m : Nat) (hm : m ≤ 512) (i : Nat) (hi : i < 1 + 2 * m) : (DS.new (1 + 2 * (m : Int))).bl[i]? = some zero32 := by
  rw [new_bl m hm, List.getElem?_replicate, if_pos hi]
theorem SOk.new (m : Nat) (hm : m ≤ 512) : SOk (DS.new (1 + 2 * (m : Int))) m 0 [] ∧ CleanP (DS.new (1 + 2 * (m : Int))) m 0 0 := by
  refine ⟨⟨by rw [new_bl m hm]; simp, fun i l hi => ?_, ?_, by omega, by unfold takesOf; simp, fun i hi => ?_, hm⟩, fun i hi => ⟨new_get m hm _ (by simp; omega), fun _ => new_get m hm _ (by simp; omega)⟩⟩
  · rw [new_bl m hm, List.getElem?_replicate] at hi
    split at hi
    · injection hi with hi; rw [← hi]; exact zero32_len
    · cases hi
  · rw [new_get m hm 0 (by omega)]
    unfold zero32
    rfl
  · unfold takesOf at hi
    simp at hi
theorem started {s s' : DS} {room side : Nat} {kept : List UInt8} (h : SOk s room side kept) (hc : Cleared s s' (1 + (1 - side) * room) room) : SOk s' room side kept ∧ ∀ n, TailP s room side n → CleanP s' room side n := by
  have hk : ∀ i, i < room → s'.bl[1 + side * room + i]? = s.bl[1 + side * room + i]? := fun i hi => hc.rest _ fun j hj => idx_ne h.sideLe hi hj
  refine ⟨h.keep hc.len (fun i l hi => ?_) (hc.rest 0 fun j hj e => by have e' := e; revert e'; generalize (1 - side) * room = p; omega) hk, fun n ht i hi => ⟨hc.zero i hi, fun h1 => (hk i hi).trans (ht i h1 hi)⟩⟩
  by_cases e : ∃ j, j < room ∧ i = 1 + (1 - side) * room + j
  · obtain ⟨j, hj, rfl⟩ := e
    rw [hc.zero j hj] at hi
    injection hi with hi
    rw [← hi]; exact zero32_len
  · rw [hc.rest i fun j hj e2 => e ⟨j, hj, e2⟩] at hi
    exact h.l32 i l hi
/-! The calls, as a law makes them: its slot lies from B on. -/
section
variable {w : World} {B S room : Nat} {s : DS}
theorem Grown.ge {F : Nat → Prop} (hF : ∀ k, F k → B ≤ k) (hB : B ≤ w.heap.size) : ∀ k, Grown F w k → B ≤ k := fun k e => by
  rcases e with e | e
  · exact hF k e
  · omega
theorem Save_B (F : Nat → Prop) (side : Nat) (kept b : List UInt8) (A : Option Addr) (n c : Nat) (h : SlotIs w F S room s) (hF : ∀ k, F k → B ≤ k) (hB : B ≤ w.heap.size) (hok : SOk s room side kept) (hr : Rd w w.heap.size A n b) (hnc : n ≤ c) (hoff : 0 < n → ∀ ad, A = some ad → ¬ F ad.block)
    (hwr : s.writes ≤ 4611686018400000000) (hn : n ≤ 9223372036854775000) :
    Calls Try.prog 25 #[.pointer (some ⟨S, 0, none⟩), .slice A n c] w fun e w' => e = .returned (.int .i64 (s.save room side kept b).1) ∧ SlotIs w' (fun k => B ≤ k) S room (s.save room side kept b).2 ∧ Below B w w' :=
  (Save_any w F S room s side kept b A n c h hok hr hnc hoff hwr hn).mono fun _ _ ⟨h1, h2, h3⟩ => ⟨h1, h2.weaken (Grown.ge hF hB), h3.below hF hB⟩
theorem Save_arg (side : Nat) (kept b : List UInt8) (A : Option Addr) (n c : Nat) (h : SlotIs w (fun k => B ≤ k) S room s) (hB : B ≤ w.heap.size) (hok : SOk s room side kept) (hr : Rd w B A n b) (hnc : n ≤ c) (hwr : s.writes ≤ 4611686018400000000) (hn : n ≤ 140737488351232) :
    Calls Try.prog 25 #[.pointer (some ⟨S, 0, none⟩), .slice A n c] w fun e w' => e = .returned (.int .i64 (s.save room side kept b).1) ∧ SlotIs w' (fun k => B ≤ k) S room (s.save room side kept b).2 ∧ Below B w w' := by
  refine Save_B (fun k => B ≤ k) side kept b A n c h (fun _ e => e) hB hok (hr.more hB) hnc (fun h0 ad e e2 => ?_) hwr (by omega)
  obtain ⟨ad', e1, hb, _⟩ := hr.2 h0
  rw [e] at e1
  cases e1
  omega
theorem Start_B (side : Nat) (kept : List UInt8) (h : SlotIs w (fun k => B ≤ k) S room s) (hB : B ≤ w.heap.size) (hok : SOk s room side kept) (hwr : s.writes ≤ 4611686018400000000) :
    Calls Try.prog 29 #[.pointer (some ⟨S, 0, none⟩)] w fun e w' => e = .returned (.tuple #[]) ∧ (∃ s', SlotIs w' (fun k => B ≤ k) S room s' ∧ Cleared s s' (1 + (1 - side) * room) room) ∧ Below B w w' :=
  (Start_any w _ S room s side kept h hok (by omega)).mono fun _ _ ⟨h1, ⟨s', h2, h2'⟩, h3⟩ => ⟨h1, ⟨s', h2.weaken (Grown.ge (fun _ e => e) hB), h2'⟩, h3.below (fun _ e => e) hB⟩
theorem SFuse_B (n : Int) (hn : n ≤ 9223372036854775807) (h : SlotIs w (fun k => B ≤ k) S room s) (hB : B ≤ w.heap.size) :
    Calls Try.prog 28 #[.pointer (some ⟨S, 0, none⟩), .int .i64 n] w fun e w' => e = .returned (.tuple #[]) ∧ SlotIs w' (fun k => B ≤ k) S room { s with fuse := max n 0 } ∧ Below B w w' :=
  (SFuse_any w _ S room s n hn h).mono fun _ _ ⟨h1, h2, h3⟩ => ⟨h1, h2.weaken (Grown.ge (fun _ e => e) hB), h3.below (fun _ e => e) hB⟩
/-- A slot, before something new is laid. -/
theorem SlotIs.before (h : SlotIs w (fun k => B ≤ k) S room s) (o : Obj) : SlotIs (w.alloc o) (fun k => B ≤ k ∧ k < w.heap.size) S room s :=
  (h.tight.weaken fun k e => ⟨e.1, by obtain ⟨o, e1, _⟩ := e.2; exact lt_of_get e1⟩).below ((Below.refl _ _).alloc (Nat.le_refl _) o)
end
set_option maxRecDepth 100000 in
theorem answers15_any (w : World) : Calls Try.prog 26 #[] w fun e w' => e = .returned (.bool true) ∧ Below w.heap.size w w' := by
  generalize hBe : w.heap.size = B
  have HBE := Lib.hid hBe
  clear hBe
  go_enter Try.func26, Try.ntmps26
  go_wp2_with fail
  refine (SNew_any w 2 (by omega)).mono ?_
  rintro e w1 ⟨S, rfl, hs1, hb1⟩
  rw [HBE.out] at hs1 hb1
  obtain ⟨hok1, hcl1⟩ := SOk.new 2 (by omega)
  have hw1 : (DS.new (1 + 2 * ((2 : Nat) : Int))).pw = ⟨-1, false, 0⟩ := rfl
  have hs1 : SlotIs w1 (fun k => B ≤ k) S 2 (DS.new (1 + 2 * ((2 : Nat) : Int))) := hs1
  have hB1 : B ≤ w1.heap.size := by have := hb1.size; have := HBE.out; omega
  generalize DS.new (1 + 2 * ((2 : Nat) : Int)) = s1 at hok1 hcl1 hw1 hs1
  have hwz : s1.writes = 0 := congrArg PW.writes hw1
  have hsv := save_spec (b := [1, 2]) hok1 (by decide)
  obtain ⟨hok2, hcl2⟩ := hsv.new (by rw [hw1]; rfl)
  have hp2 := hsv.pw
  rw [hw1] at hp2
  have he2 : (s1.save 2 0 [] [1, 2]).1 = 0 := hp2.1
  have hw2 : (s1.save 2 0 [] [1, 2]).2.pw = ⟨-1, false, 2⟩ := hp2.2
  have hcl3 := (hcl2 hcl1).2 he2
  have HS1 := Lib.hid hs1; have HB1 := Lib.hid hb1; have HOK1 := Lib.hid hok1; have HOK2 := Lib.hid hok2; have HCL3 := Lib.hid hcl3; have HE2 := Lib.hid he2; have HW2 := Lib.hid hw2; have HWZ := Lib.hid hwz; have HBW := Lib.hid hB1
  clear hs1 hb1 hok1 hok2 hcl1 hcl2 hcl3 he2 hw2 hp2 hsv hw1 hwz hB1
  go_wp2_with fail
  refine (Save_B (fun k => B ≤ k ∧ k < w1.heap.size) 0 [] [1, 2] (some ⟨w1.heap.size, 0, none⟩) 2 2 (HS1.out.before _) (fun k e => e.1) (by have := HBW.out; simp; omega) HOK1.out ((Rd.new_ w1 [1, 2] _ rfl 2 rfl).more (by simp)) (Nat.le_refl _) (fun _ ad e e2 => by cases e; exact absurd e2.2 (Nat.lt_irrefl _)) (by rw [HWZ.out]; omega) (by omega)).mono ?_
  rintro e w2 ⟨rfl, hs2, hb2⟩
  rw [HE2.out]
  have HB2 := Lib.hid ((HB1.out.alloc HBW.out _).trans hb2)
  have HBW2 := Lib.hid (show B ≤ w2.heap.size from Nat.le_trans (by have := HBW.out; simp; omega) hb2.size)
  generalize (s1.save 2 0 [] [1, 2]).2 = s2 at hs2 HOK2 HCL3 HW2
  have HS2 := Lib.hid hs2
  clear hs2 hb2 HE2
  go_wp2_with fail
  refine (SFuse_B 1 (by omega) HS2.out HBW2.out).mono ?_
  rintro e w3 ⟨rfl, hs3, hb3⟩
  have HB3 := Lib.hid (HB2.out.trans hb3); have HBW3 := Lib.hid (Nat.le_trans HBW2.out hb3.size)
  have hok3 : SOk { s2 with fuse := max 1 0 } 2 1 [1, 2] := HOK2.out.bl rfl
  have hcl3 : CleanP { s2 with fuse := max 1 0 } 2 1 2 := HCL3.out.bl rfl
  have hw3 : ({ s2 with fuse := max 1 0 } : DS).pw = ⟨1, false, 2⟩ := by
    have h9 := HW2.out
    unfold DS.pw at h9 ⊢
    injection h9 with _ h10 h11
    rw [h10, h11]; rfl
  generalize ({ s2 with fuse := max 1 0 } : DS) = s3 at hs3 hok3 hcl3 hw3
  have hwz3 : s3.writes = 2 := congrArg PW.writes hw3
  have hsv := save_spec (b := [3]) hok3 (by decide)
  obtain ⟨hok4, ht4⟩ := hsv.old (by rw [hw3]; rfl)
  have hp4 := hsv.pw
  rw [hw3] at hp4
  have he4 : (s3.save 2 1 [1, 2] [3]).1 = 3 := hp4.1
  have hw4 : (s3.save 2 1 [1, 2] [3]).2.pw = ⟨0, true, 3⟩ := hp4.2
  have ht4 := ht4 hcl3
  have HS3 := Lib.hid hs3; have HOK3 := Lib.hid hok3; have HOK4 := Lib.hid hok4; have HT4 := Lib.hid ht4; have HE4 := Lib.hid he4; have HW4 := Lib.hid hw4; have HWZ3 := Lib.hid hwz3
  clear hs3 hb3 hok3 hcl3 hw3 hsv hok4 ht4 hp4 he4 hw4 hwz3
  go_wp2_with fail
  refine (Save_B (fun k => B ≤ k ∧ k < w3.heap.size) 1 [1, 2] [3] (some ⟨w3.heap.size, 0, none⟩) 1 1 (HS3.out.before _) (fun k e => e.1) (by have := HBW3.out; simp; omega) HOK3.out ((Rd.new_ w3 [3] _ rfl 1 rfl).more (by simp)) (Nat.le_refl _) (fun _ ad e e2 => by cases e; exact absurd e2.2 (Nat.lt_irrefl _)) (by rw [HWZ3.out]; omega) (by omega)).mono ?_
  rintro e w4 ⟨rfl, hs4, hb4⟩
  rw [HE4.out]
  have HB4 := Lib.hid ((HB3.out.alloc HBW3.out _).trans hb4)
  have HBW4 := Lib.hid (show B ≤ w4.heap.size from Nat.le_trans (by have := HBW3.out; simp; omega) hb4.size)
  generalize (s3.save 2 1 [1, 2] [3]).2 = s4 at hs4 HOK4 HT4 HW4
  have hwz4 : s4.writes = 3 := congrArg PW.writes HW4.out
  have HS4 := Lib.hid hs4; have HWZ4 := Lib.hid hwz4
  clear hs4 hb4 HE4 hwz4
  go_wp2_with fail
  refine (Load_any w4 _ S 2 s4 1 [1, 2] HS4.out HOK4.out).mono ?_
  rintro e w5 ⟨A5, c5, rfl, hr5, hb5⟩
  have HR5 := Lib.hid hr5; have HS5 := Lib.hid (HS4.out.below hb5); have HB5 := Lib.hid (HB4.out.trans (hb5.mono HBW4.out)); have HBW5 := Lib.hid (Nat.le_trans HBW4.out hb5.size)
  clear hr5 hb5
  go_wp2_with (refine wpList_str (by rfl) 22 9 5 (.tmp 15) rfl A5 _ c5 [1, 2] rfl Try.underlying22 Try.underlying5 Try.underlying9 _ HR5.out ?_)
  refine (Start_B 1 [1, 2] HS5.out HBW5.out HOK4.out (by rw [HWZ4.out]; omega)).mono ?_
  rintro e w6 ⟨rfl, ⟨s6, hs6, hc6⟩, hb6⟩
  obtain ⟨hok6, hcl6⟩ := started HOK4.out hc6
  have HS6 := Lib.hid hs6; have HOK6 := Lib.hid hok6; have HCL6 := Lib.hid (hcl6 _ HT4.out); have HDN := Lib.hid hc6.down; have HB6 := Lib.hid (HB5.out.trans hb6); have HBW6 := Lib.hid (Nat.le_trans HBW5.out hb6.size)
  clear hs6 hc6 hb6 hok6 hcl6
  go_wp2_with (go_at_call 31; refine (SDown_any _ _ S 2 s6 HS6.out).mono ?_; rintro e w7 ⟨rfl, rfl⟩; rw [HDN.out])
  refine (Clean_any _ _ S 2 s6 1 [1, 2] HS6.out HOK6.out).mono ?_
  rintro e w8 ⟨⟨b8, rfl, hb8⟩, hbe8⟩
  have HS8 := Lib.hid (HS6.out.below hbe8); have HB8 := Lib.hid (HB6.out.trans (hbe8.mono HBW6.out)); have HBW8 := Lib.hid (Nat.le_trans HBW6.out hbe8.size)
  obtain rfl : b8 = true := hb8.2 HCL6.out
  clear hb8 hbe8
  go_wp2_with fail
  refine (Load_any w8 _ S 2 s6 1 [1, 2] HS8.out HOK6.out).mono ?_
  rintro e w9 ⟨A9, c9, rfl, hr9, hb9⟩
  have HR9 := Lib.hid hr9; have HB9 := Lib.hid (HB8.out.trans (hb9.mono HBW8.out))
  clear hr9 hb9
  go_wp2_with (refine wpList_str (by rfl) 22 9 5 (.tmp 40) rfl A9 _ c9 [1, 2] rfl Try.underlying22 Try.underlying5 Try.underlying9 _ HR9.out ?_)
  go_ret
  exact ⟨rfl, HB9.out⟩
end Go.Proofs.Ytpdihggdopdolaa
