/- What a slot's small functions do, further on. No conditions. -/
import Derived.Test.YtpdihggdopdolaaSlot0
namespace Go.Proofs.Ytpdihggdopdolaa
open Go.RowKit
theorem Equal_any (w : World) (A A' : Option Addr) (n n' c c' B : Nat) (l l' : List UInt8) (h : Rd w B A n l) (h' : Rd w B A' n' l') :
    Calls Try.prog 47 #[.slice A n c, .slice A' n' c'] w fun e w' => e = .returned (.bool (decide (l = l'))) ∧ w' = w := by
  have H := Lib.hid h; have H' := Lib.hid h'
  clear h h'
  go_enter Try.func47, Try.ntmps47
  go_wp2_with (first
    | (refine wpList_str (by rfl) 22 9 5 (.tmp 5) rfl A n c l rfl Try.underlying22 Try.underlying5 Try.underlying9 B H.out ?_)
    | (refine wpList_str (by rfl) 22 9 5 (.tmp 7) rfl A' n' c' l' rfl Try.underlying22 Try.underlying5 Try.underlying9 B H'.out ?_)
    | (refine wpList_eql (by rfl) 9 9 (.tmp 6) (.tmp 8) rfl l l' rfl rfl ?_))
  go_ret
  exact ⟨rfl, rfl⟩
set_option maxRecDepth 100000 in
theorem zero_any (w : World) (F : Nat → Prop) (S room : Nat) (s : DS) (k : Nat) (h : SlotIs w F S room s) (hk : k < s.bl.length) :
    Calls Try.prog 42 #[.pointer (some ⟨S, 0, none⟩), .int .i64 (k : Int)] w fun e w' => e = .returned (.bool (decide (s.bl.getD k [] = zero32))) ∧ Below w.heap.size w w' := by
  obtain ⟨D, G, hS, hd, _, _, _⟩ := h
  obtain ⟨gs, r, hA, hF⟩ := hd
  have c0 : w.cell? ⟨S, 0, none⟩ = some (.pointer (some ⟨D, 0, none⟩)) := (hS.cell 0).trans rfl
  have HA := Lib.hid hA; have HK := Lib.hid hk; have HMK := Lib.hid mk32
  clear hS hA hF hk
  go_enter Try.func42, Try.ntmps42
  go_wp2_with fail
  refine (Read_any w D gs r s (k : Int) HA.out).mono ?_
  rintro e w2 ⟨v, rfl, hv, hb⟩
  have hhas : s.has (k : Int) = true := by unfold DS.has; exact decide_eq_true ⟨by omega, by have := HK.out; omega⟩
  rw [hhas, if_pos rfl, Int.toNat_natCast] at hv
  rw [hhas]
  obtain ⟨A, c, rfl⟩ := hv.shape
  have hr := hv.rd
  have HRD := Lib.hid (hr.alloc (Nat.le_refl _) (.cells (zero32.map B8).toArray 5)); have HB := Lib.hid hb
  have hmk := HMK.out
  clear hv hr hb hhas
  go_wp2_with fail
  clear hmk
  refine (Equal_any _ _ _ _ _ _ _ (w2.heap.size + 1) _ zero32 (HRD.out.more (by omega)) (Rd.new_ w2 zero32 _ rfl 32 (by rw [zero32_len]))).mono ?_
  rintro e w3 ⟨rfl, rfl⟩
  go_wp2_with fail
  go_ret
  exact ⟨rfl, HB.out.alloc HB.out.size _⟩
theorem SlotIs.new_ {w w1 : World} {D : Nat} {s : DS} (room : Nat) (h : DiskIs w1 (fun k => w.heap.size ≤ k) D s) (hb : Below w.heap.size w w1) :
    SlotIs (w1.alloc (.cells #[.pointer (some ⟨D, 0, none⟩), .int .i64 (room : Int)] 71)) (fun k => w.heap.size ≤ k) w1.heap.size room s ∧ Below w.heap.size w (w1.alloc (.cells #[.pointer (some ⟨D, 0, none⟩), .int .i64 (room : Int)] 71)) := by
  have hlt : ∃ G, DiskIs w1 G D s ∧ (∀ k, G k → w.heap.size ≤ k ∧ k < w1.heap.size) := by
    obtain ⟨gs, r, h1, h2⟩ := h
    exact ⟨_, ⟨gs, r, h1, fun k e => e⟩, fun k e => ⟨h2 k e, h1.foot_lt k e⟩⟩
  obtain ⟨G, h1, h2⟩ := hlt
  exact ⟨⟨D, G, Blk.new _ _ _, h1.alloc _, fun e => by have := (h2 _ e).2; omega, fun k e => (h2 k e).1, hb.size⟩, hb.alloc hb.size _⟩
set_option maxRecDepth 100000 in
theorem SNew_any (w : World) (n : Int) (hn : n ≤ 9223372036854775807) :
    Calls Try.prog 24 #[.int .i64 n] w fun e w' => ∃ S, e = .returned (.pointer (some ⟨S, 0, none⟩)) ∧ SlotIs w' (fun k => w.heap.size ≤ k) S (min (max n 0) 512).toNat (DS.new (1 + 2 * (min (max n 0) 512))) ∧ Below w.heap.size w w' := by
  by_cases h1 : n < 0
  · have hm : min (max n 0) 512 = 0 := by omega
    rw [hm]
    clear hm
    go_enter Try.func24, Try.ntmps24
    go_wp2_with (go_at_call 13; refine (New_any w _).mono ?_; rintro e w1 ⟨D, rfl, hd, hb⟩; have H := Lib.hid (SlotIs.new_ 0 hd hb); clear hd hb)
    all_goals first | (exfalso; omega) | (go_ret; exact ⟨_, rfl, H.out⟩)
  · by_cases h2 : n ≤ 512
    · have hm : min (max n 0) 512 = n := by omega
      obtain ⟨m, rfl⟩ : ∃ m : Nat, n = m := ⟨n.toNat, by omega⟩
      rw [hm, Int.toNat_natCast]
      clear hm
      go_enter Try.func24, Try.ntmps24
      go_wp2_with (go_at_call 13; refine (New_any w _).mono ?_; rintro e w1 ⟨D, rfl, hd, hb⟩; have H := Lib.hid (SlotIs.new_ m hd hb); clear hd hb)
      all_goals first | (exfalso; omega) | (go_ret; exact ⟨_, rfl, H.out⟩) | skip
    · have hm : min (max n 0) 512 = 512 := by omega
      rw [hm]
      clear hm
      go_enter Try.func24, Try.ntmps24
      go_wp2_with (go_at_call 13; refine (New_any w _).mono ?_; rintro e w1 ⟨D, rfl, hd, hb⟩; have H := Lib.hid (SlotIs.new_ 512 hd hb); clear hd hb)
      all_goals first | (exfalso; omega) | (go_ret; exact ⟨_, rfl, H.out⟩) | skip
theorem SFuse_any (w : World) (F : Nat → Prop) (S room : Nat) (s : DS) (n : Int) (hn : n ≤ 9223372036854775807) (h : SlotIs w F S room s) :
    Calls Try.prog 28 #[.pointer (some ⟨S, 0, none⟩), .int .i64 n] w fun e w' => e = .returned (.tuple #[]) ∧ SlotIs w' (Grown F w) S room { s with fuse := max n 0 } ∧ Keeps F w w' := by
  obtain ⟨D, G, hS, hd, h3, h4, h5⟩ := h
  have c0 : w.cell? ⟨S, 0, none⟩ = some (.pointer (some ⟨D, 0, none⟩)) := (hS.cell 0).trans rfl
  have HS := Lib.hid hS; have HD := Lib.hid hd; have HN := Lib.hid hn
  clear hS hd hn
  go_enter Try.func28, Try.ntmps28
  go_wp2_with fail
  refine (Fuse_any w G D s n HN.out HD.out).mono ?_
  rintro e w2 ⟨rfl, hd2, hk2⟩
  go_wp2
  go_end0
  exact ⟨rfl, SlotIs.call HS.out h3 h4 h5 (hd2.weaken fun k e => Or.inl e) hk2⟩
theorem SDown_any (w : World) (F : Nat → Prop) (S room : Nat) (s : DS) (h : SlotIs w F S room s) :
    Calls Try.prog 31 #[.pointer (some ⟨S, 0, none⟩)] w fun e w' => e = .returned (.bool s.down) ∧ w' = w := by
  obtain ⟨D, G, hS, hd, h3, h4, h5⟩ := h
  obtain ⟨gs, r, hA, hF⟩ := hd
  have c0 : w.cell? ⟨S, 0, none⟩ = some (.pointer (some ⟨D, 0, none⟩)) := (hS.cell 0).trans rfl
  have HA := Lib.hid hA
  clear hS hA hF
  go_enter Try.func31, Try.ntmps31
  go_wp2_with (go_at_call 17; refine (Down_any w HA.out).mono ?_; rintro e w7 ⟨rfl, rfl⟩)
  go_ret
  exact ⟨rfl, rfl⟩
theorem SDisk_any (w : World) (F : Nat → Prop) (S room : Nat) (s : DS) (h : SlotIs w F S room s) :
    Calls Try.prog 34 #[.pointer (some ⟨S, 0, none⟩)] w fun e w' => (∃ D G, e = .returned (.pointer (some ⟨D, 0, none⟩)) ∧ DiskIs w G D s) ∧ w' = w := by
  obtain ⟨D, G, hS, hd, h3, h4, h5⟩ := h
  have c0 : w.cell? ⟨S, 0, none⟩ = some (.pointer (some ⟨D, 0, none⟩)) := (hS.cell 0).trans rfl
  go_enter Try.func34, Try.ntmps34
  go_wp2
  go_ret
  exact ⟨⟨D, G, rfl, hd⟩, rfl⟩
end Go.Proofs.Ytpdihggdopdolaa
