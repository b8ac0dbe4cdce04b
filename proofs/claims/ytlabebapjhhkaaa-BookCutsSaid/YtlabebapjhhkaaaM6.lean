/- A slot in memory, walked: New, Load, Start. Conditions stand with each theorem. -/
import Derived.Test.YtlabebapjhhkaaaM5
import Derived.Test.YtlabebapjhhkaaaM1
namespace Go.Proofs.Ytlabebapjhhkaaa
open Go.RowKit
/-- A slot: its block, and its disk, all of F. -/
def SlotIs (w : World) (F : Nat → Prop) (S room : Nat) (s : DS) : Prop :=
  ∃ D G, Blk w S 85 #[.pointer (some ⟨D, 0, none⟩), .int .i64 (room : Int)] ∧ DiskIs w G D s ∧ ¬ G S ∧ (∀ k, G k → F k) ∧ F S
def takesOf (n : Nat) : Nat := (n + 31) / 32
/-- The bytes of a root. -/
def rootB (side n : Nat) : List UInt8 := [UInt8.ofNat side, 0, 0, UInt8.ofNat (n / 256), UInt8.ofNat n] ++ List.replicate 27 0
theorem rootB_len (side n : Nat) : (rootB side n).length = 32 := rfl
section
variable {w w' : World} {F G : Nat → Prop} {S room : Nat} {s : DS}
theorem SlotIs.weaken (h : SlotIs w F S room s) (hn : ∀ k, F k → G k) : SlotIs w G S room s := by
  obtain ⟨D, G', h1, h2, h3, h4, h5⟩ := h
  exact ⟨D, G', h1, h2, h3, fun k e => hn k (h4 k e), hn S h5⟩
theorem SlotIs.keeps (h : SlotIs w F S room s) (hk : Keeps G w w') (hn : ∀ k, F k → ¬ G k) : SlotIs w' F S room s := by
  obtain ⟨D, G', h1, h2, h3, h4, h5⟩ := h
  exact ⟨D, G', h1.keeps hk (hn S h5), h2.keeps hk (fun k e => hn k (h4 k e)), h3, h4, h5⟩
theorem SlotIs.below (h : SlotIs w F S room s) (hb : Below w.heap.size w w') : SlotIs w' F S room s := by
  obtain ⟨D, G', h1, h2, h3, h4, h5⟩ := h
  exact ⟨D, G', h1.below hb h1.lt, h2.below hb, h3, h4, h5⟩
theorem SlotIs.lt (h : SlotIs w F S room s) : S < w.heap.size := by
  obtain ⟨D, G', h1, h2, h3, h4, h5⟩ := h
  exact h1.lt
/-- Behind a call of the disk. -/
theorem SlotIs.call {D : Nat} {G' : Nat → Prop} {s' : DS} (h1 : Blk w S 85 #[.pointer (some ⟨D, 0, none⟩), .int .i64 (room : Int)]) (h3 : ¬ G' S) (h4 : ∀ k, G' k → F k) (h5 : F S) (hd : DiskIs w' (Grown G' w) D s') (hk : Keeps G' w w') :
    SlotIs w' (Grown F w) S room s' ∧ Keeps F w w' := by
  refine ⟨⟨D, Grown G' w, h1.keeps hk h3, hd, fun e => ?_, fun k e => ?_, Or.inl h5⟩, hk.weaken fun k _ e => h4 k e⟩
  · rcases e with e | e
    · exact h3 e
    · have := h1.lt; omega
  · rcases e with e | e
    · exact Or.inl (h4 k e)
    · exact Or.inr e
end
theorem takes_any (n : Nat) (w : World) (hn : n ≤ 9223372036854775000) :
    Calls Try.prog 62 #[.int .i64 (n : Int)] w fun e w' => e = .returned (.int .i64 (takesOf n : Int)) ∧ w' = w := by
  go_enter Try.func62, Try.ntmps62
  go_wp2
  go_ret
  refine ⟨?_, rfl⟩
  unfold takesOf
  go_num
theorem block_any (S D room : Nat) (side n : Nat) (w : World) (hr : room ≤ 512) (hs : side ≤ 255) (hn : n ≤ 100000) (h : Blk w S 85 #[.pointer (some ⟨D, 0, none⟩), .int .i64 (room : Int)]) :
    Calls Try.prog 64 #[.pointer (some ⟨S, 0, none⟩), .int .i64 (side : Int), .int .i64 (n : Int)] w fun e w' => e = .returned (.int .i64 ((1 + side * room + n : Nat) : Int)) ∧ w' = w := by
  have c1 := (h.cell 1).trans rfl
  have f1 := h.frozen 1
  have hm : side * room ≤ 255 * 512 := Nat.mul_le_mul hs hr
  obtain ⟨p, hp⟩ : ∃ p, p = side * room := ⟨_, rfl⟩
  have hp2 : (side : Int) * (room : Int) = (p : Int) := by rw [hp]; exact (Int.natCast_mul _ _).symm
  rw [← hp] at hm ⊢
  clear h hp
  go_enter Try.func64, Try.ntmps64
  go_wp2_with fail
  go_ret
  refine ⟨?_, rfl⟩
  go_num
theorem Own.byte {w : World} {B g c : Nat} {l : List UInt8} (h : Own w B (.slice (some ⟨g, 0, none⟩) l.length c) l) (j : Nat) (hj : j < l.length) : w.cell? ⟨g, j, none⟩ = some (.int .u8 ((l.getD j 0).toNat : Int)) := by
  obtain ⟨g', c', cur, e, _, hb, _, hc⟩ := h.blk (by omega)
  injection e with e1 _ _
  simp only [Option.some.injEq, Addr.mk.injEq, and_true] at e1
  subst e1
  rw [hb.cell, hc j hj]
theorem or64 (x y : Nat) (hx : x < 9223372036854775808) (hy : y < 9223372036854775808) : bits .or .i64 (x : Int) (y : Int) = ((x ||| y : Nat) : Int) := by
  have hz : x ||| y < 2 ^ 63 := Nat.or_lt_two_pow (by omega) (by omega)
  show IntKind.i64.wrap ((BitVec.ofInt 64 (x : Int) ||| BitVec.ofInt 64 (y : Int)).toNat : Int) = _
  rw [BitVec.toNat_or, ofInt_u64 x (by omega), ofInt_u64 y (by omega)]
  unfold IntKind.wrap
  simp only [IntKind.bits, IntKind.signed, Bool.true_and, decide_eq_true_eq]
  rw [if_neg (by simp; omega)]
  omega
set_option maxRecDepth 100000 in
theorem Root_any (w : World) (F : Nat → Prop) (S room : Nat) (s : DS) (side n : Nat) (h : SlotIs w F S room s) (hr : s.bl[0]? = some (rootB side n)) (hs : side ≤ 1) (hn : n ≤ 16384) :
    Calls Try.prog 61 #[.pointer (some ⟨S, 0, none⟩)] w fun e w' => e = .returned (.agg #[.int .i64 (side : Int), .int .i64 (n : Int)]) ∧ Below w.heap.size w w' := by
  obtain ⟨D, G, hS, hd, _, _, _⟩ := h
  obtain ⟨gs, r, hA, hF⟩ := hd
  have hb0 : Below w.heap.size w (w.alloc (.cells #[.int .i64 0, .int .i64 0] 97)) := (Below.refl _ _).alloc (Nat.le_refl _) _
  have cA : (w.alloc (.cells #[.int .i64 0, .int .i64 0] 97)).cell? ⟨S, 0, none⟩ = some (.pointer (some ⟨D, 0, none⟩)) := ((hS.alloc _).cell 0).trans rfl
  have HA := Lib.hid (hA.below hb0)
  have HB0 := Lib.hid hb0
  have HR := Lib.hid hr
  have HSi := Lib.hid hs
  have HN := Lib.hid hn
  have HT := Lib.hid (Blk.new w 97 #[.int .i64 0, .int .i64 0])
  clear hS hA hF hr hs hn hb0
  go_enter Try.func61, Try.ntmps61
  go_wp2_with fail
  refine (DRead_any _ D gs r s 0 HA.out).mono ?_
  rintro e w2 ⟨v, rfl, hv, hb⟩
  have hbl : 0 < s.bl.length := (List.getElem?_eq_some_iff.1 HR.out).1
  have hhas : s.has 0 = true := by unfold DS.has; exact decide_eq_true ⟨by omega, by omega⟩
  have hgl : s.bl.getD (0 : Int).toNat [] = rootB side n := by show s.bl.getD 0 [] = _; rw [List.getD_eq_getElem?_getD, HR.out]; rfl
  rw [hhas, if_pos rfl, hgl] at hv
  rw [hhas]
  obtain ⟨g, c, cur, rfl, hg, hB, hc, hcur⟩ := hv.blk (by rw [rootB_len]; omega)
  have hB2 : Below w.heap.size w w2 := HB0.out.trans (hb.mono HB0.out.size)
  have hT2 := HT.out.below hb (by simp)
  have k0 : w2.cell? ⟨g, 0, none⟩ = some (.int .u8 (((UInt8.ofNat side).toNat : Nat) : Int)) := (hB.cell 0).trans (hcur 0 (by rw [rootB_len]; omega))
  have k1 : w2.cell? ⟨g, 1, none⟩ = some (.int .u8 0) := (hB.cell 1).trans (hcur 1 (by rw [rootB_len]; omega))
  have k2 : w2.cell? ⟨g, 2, none⟩ = some (.int .u8 0) := (hB.cell 2).trans (hcur 2 (by rw [rootB_len]; omega))
  have k3 : w2.cell? ⟨g, 3, none⟩ = some (.int .u8 (((UInt8.ofNat (n / 256)).toNat : Nat) : Int)) := (hB.cell 3).trans (hcur 3 (by rw [rootB_len]; omega))
  have k4 : w2.cell? ⟨g, 4, none⟩ = some (.int .u8 (((UInt8.ofNat n).toNat : Nat) : Int)) := (hB.cell 4).trans (hcur 4 (by rw [rootB_len]; omega))
  have HB2 := Lib.hid hB2; have HT2 := Lib.hid hT2
  clear hv hb hhas hgl hbl hcur hB hc hg hB2 hT2 cA
  rw [rootB_len]
  go_wp2_with fail
  refine wp_region_qt 27 (by kernel_rfl) (by kernel_rfl) ?_
  simp only [List.take_succ_cons, List.take_zero, List.drop_succ_cons, List.drop_zero]
  repeat (first | go_big_quiet_skip | (go_big_quiet_want; go_big_quiet_op; first | go_big_quiet_on))
  refine wpQuiet_nil ?_
  go_wp2_with (refine wpList_store_row rfl 97 (.tmp 2) (.tmp 39) rfl w.heap.size _ (by rfl) (by rfl) _ _ HT2.out (by kernel_rfl) (by rfl) (by simp [Value.oneCell']) ?_)
  have hs := HSi.out; have hn := HN.out
  have e1 : (side : Int) % 256 = side := by omega
  have e2 : (n : Int) / 256 % 256 * 256 = ((n / 256 * 256 : Nat) : Int) := by omega
  have e3 : (n : Int) % 256 = ((n % 256 : Nat) : Int) := by omega
  have e4 : bits .or .i64 0 0 = 0 := by rfl
  have e5 : bits .or .i64 0 ((n / 256 * 256 : Nat) : Int) = ((n / 256 * 256 : Nat) : Int) := by have h := or64 0 (n / 256 * 256) (by omega) (by omega); rw [Nat.zero_or] at h; exact h
  have e6 : bits .or .i64 ((n / 256 * 256 : Nat) : Int) ((n % 256 : Nat) : Int) = (n : Int) := by
    rw [or64 _ _ (by omega) (by omega), nat_join 8 _ _ (by omega) (by omega)]
    omega
  rw [e1, e2, e3, e4, e5, e6]
  simp only [Act.put]
  refine bodyPost_ret (v := .agg #[.int .i64 (side : Int), .int .i64 (n : Int)]) (results_cell_row rfl _ _ w.heap.size 97 _ (0, 0) _ rfl (setRow_heap w2.drew w.heap.size #[.int .i64 0, .int .i64 0] _ _ _ HT2.out) Try.underlying97 rfl (by kernel_rfl)) rfl ⟨rfl, ?_⟩
  exact ⟨HB2.out.os, HB2.out.tape, HB2.out.output, by simpa using HB2.out.size, fun k hk => (setRow_other w2.drew w.heap.size k _ (by omega)).trans (HB2.out.block k hk)⟩
end Go.Proofs.Ytlabebapjhhkaaa
namespace Go.Proofs.Ytlabebapjhhkaaa
open Go.RowKit
theorem BEqual_any (w : World) (A A' : Option Addr) (n n' c c' B : Nat) (l l' : List UInt8) (h : Rd w B A n l) (h' : Rd w B A' n' l') :
    Calls Try.prog 98 #[.slice A n c, .slice A' n' c'] w fun e w' => e = .returned (.bool (decide (l = l'))) ∧ w' = w := by
  have H := Lib.hid h; have H' := Lib.hid h'
  clear h h'
  go_enter Try.func98, Try.ntmps98
  go_wp2_with (first
    | (refine wpList_str (by rfl) 64 9 5 (.tmp 5) rfl A n c l rfl Try.underlying64 Try.underlying5 Try.underlying9 B H.out ?_)
    | (refine wpList_str (by rfl) 64 9 5 (.tmp 7) rfl A' n' c' l' rfl Try.underlying64 Try.underlying5 Try.underlying9 B H'.out ?_)
    | (refine wpList_eql (by rfl) 9 9 (.tmp 6) (.tmp 8) rfl l l' rfl rfl ?_))
  go_ret
  exact ⟨rfl, rfl⟩
set_option maxRecDepth 100000 in
theorem zero_any (w : World) (F : Nat → Prop) (S room : Nat) (s : DS) (k : Nat) (h : SlotIs w F S room s) (hk : k < s.bl.length) :
    Calls Try.prog 74 #[.pointer (some ⟨S, 0, none⟩), .int .i64 (k : Int)] w fun e w' => e = .returned (.bool (decide (s.bl.getD k [] = zero32))) ∧ Below w.heap.size w w' := by
  obtain ⟨D, G, hS, hd, _, _, _⟩ := h
  obtain ⟨gs, r, hA, hF⟩ := hd
  have c0 : w.cell? ⟨S, 0, none⟩ = some (.pointer (some ⟨D, 0, none⟩)) := (hS.cell 0).trans rfl
  have HA := Lib.hid hA; have HK := Lib.hid hk; have HMK := Lib.hid mk32
  clear hS hA hF hk
  go_enter Try.func74, Try.ntmps74
  go_wp2_with fail
  refine (DRead_any w D gs r s (k : Int) HA.out).mono ?_
  rintro e w2 ⟨v, rfl, hv, hb⟩
  have hhas : s.has (k : Int) = true := by unfold DS.has; exact decide_eq_true ⟨by omega, by have := HK.out; omega⟩
  rw [hhas, if_pos rfl, Int.toNat_natCast] at hv
  rw [hhas]
  obtain ⟨A, c, rfl⟩ := hv.shape
  have hr := hv.rd
  have HRD := Lib.hid (hr.alloc (Nat.le_refl _) (.cells (zero32.map B8).toArray 5)); have HB := Lib.hid hb
  have hmk := HMK.out
  clear hv hr hb hhas
  go_wp2_with fail
  clear hmk
  refine (BEqual_any _ _ _ _ _ _ _ (w2.heap.size + 1) _ zero32 (HRD.out.more (by omega)) (Rd.new_ w2 zero32 _ rfl 32 (by rw [zero32_len]))).mono ?_
  rintro e w3 ⟨rfl, rfl⟩
  go_wp2_with fail
  go_ret
  exact ⟨rfl, HB.out.alloc HB.out.size _⟩
theorem SlotIs.new_ {w w1 : World} {D : Nat} {s : DS} (room : Nat) (h : DiskIs w1 (fun k => w.heap.size ≤ k) D s) (hb : Below w.heap.size w w1) :
    SlotIs (w1.alloc (.cells #[.pointer (some ⟨D, 0, none⟩), .int .i64 (room : Int)] 85)) (fun k => w.heap.size ≤ k) w1.heap.size room s ∧ Below w.heap.size w (w1.alloc (.cells #[.pointer (some ⟨D, 0, none⟩), .int .i64 (room : Int)] 85)) := by
  have hlt : ∃ G, DiskIs w1 G D s ∧ (∀ k, G k → w.heap.size ≤ k ∧ k < w1.heap.size) := by
    obtain ⟨gs, r, h1, h2⟩ := h
    exact ⟨_, ⟨gs, r, h1, fun k e => e⟩, fun k e => ⟨h2 k e, h1.foot_lt k e⟩⟩
  obtain ⟨G, h1, h2⟩ := hlt
  exact ⟨⟨D, G, Blk.new _ _ _, h1.alloc _, fun e => by have := (h2 _ e).2; omega, fun k e => (h2 k e).1, hb.size⟩, hb.alloc hb.size _⟩
set_option maxRecDepth 100000 in
theorem SNew_any (w : World) (n : Int) (hn : n ≤ 9223372036854775807) :
    Calls Try.prog 25 #[.int .i64 n] w fun e w' => ∃ S, e = .returned (.pointer (some ⟨S, 0, none⟩)) ∧ SlotIs w' (fun k => w.heap.size ≤ k) S (min (max n 0) 512).toNat (DS.new (1 + 2 * (min (max n 0) 512))) ∧ Below w.heap.size w w' := by
  by_cases h1 : n < 0
  · have hm : min (max n 0) 512 = 0 := by omega
    rw [hm]
    clear hm
    go_enter Try.func25, Try.ntmps25
    go_wp2_with (go_at_call 52; refine (New_any w _).mono ?_; rintro e w1 ⟨D, rfl, hd, hb⟩; have H := Lib.hid (SlotIs.new_ 0 hd hb); clear hd hb)
    all_goals first | (exfalso; omega) | (go_ret; exact ⟨_, rfl, H.out⟩)
  · by_cases h2 : n ≤ 512
    · have hm : min (max n 0) 512 = n := by omega
      obtain ⟨m, rfl⟩ : ∃ m : Nat, n = m := ⟨n.toNat, by omega⟩
      rw [hm, Int.toNat_natCast]
      clear hm
      go_enter Try.func25, Try.ntmps25
      go_wp2_with (go_at_call 52; refine (New_any w _).mono ?_; rintro e w1 ⟨D, rfl, hd, hb⟩; have H := Lib.hid (SlotIs.new_ m hd hb); clear hd hb)
      all_goals first | (exfalso; omega) | (go_ret; exact ⟨_, rfl, H.out⟩) | skip
    · have hm : min (max n 0) 512 = 512 := by omega
      rw [hm]
      clear hm
      go_enter Try.func25, Try.ntmps25
      go_wp2_with (go_at_call 52; refine (New_any w _).mono ?_; rintro e w1 ⟨D, rfl, hd, hb⟩; have H := Lib.hid (SlotIs.new_ 512 hd hb); clear hd hb)
      all_goals first | (exfalso; omega) | (go_ret; exact ⟨_, rfl, H.out⟩) | skip
theorem SFuse_any (w : World) (F : Nat → Prop) (S room : Nat) (s : DS) (n : Int) (hn : n ≤ 9223372036854775807) (h : SlotIs w F S room s) :
    Calls Try.prog 40 #[.pointer (some ⟨S, 0, none⟩), .int .i64 n] w fun e w' => e = .returned (.tuple #[]) ∧ SlotIs w' (Grown F w) S room { s with fuse := max n 0 } ∧ Keeps F w w' := by
  obtain ⟨D, G, hS, hd, h3, h4, h5⟩ := h
  have c0 : w.cell? ⟨S, 0, none⟩ = some (.pointer (some ⟨D, 0, none⟩)) := (hS.cell 0).trans rfl
  have HS := Lib.hid hS; have HD := Lib.hid hd; have HN := Lib.hid hn
  clear hS hd hn
  go_enter Try.func40, Try.ntmps40
  go_wp2_with fail
  refine (Fuse_any w G D s n HN.out HD.out).mono ?_
  rintro e w2 ⟨rfl, hd2, hk2⟩
  go_wp2
  go_end0
  exact ⟨rfl, SlotIs.call HS.out h3 h4 h5 (hd2.weaken fun k e => Or.inl e) hk2⟩
theorem SDown_any (w : World) (F : Nat → Prop) (S room : Nat) (s : DS) (h : SlotIs w F S room s) :
    Calls Try.prog 35 #[.pointer (some ⟨S, 0, none⟩)] w fun e w' => e = .returned (.bool s.down) ∧ w' = w := by
  obtain ⟨D, G, hS, hd, h3, h4, h5⟩ := h
  obtain ⟨gs, r, hA, hF⟩ := hd
  have c0 : w.cell? ⟨S, 0, none⟩ = some (.pointer (some ⟨D, 0, none⟩)) := (hS.cell 0).trans rfl
  have HA := Lib.hid hA
  clear hS hA hF
  go_enter Try.func35, Try.ntmps35
  go_wp2_with (go_at_call 57; refine (Down_any w HA.out).mono ?_; rintro e w7 ⟨rfl, rfl⟩)
  go_ret
  exact ⟨rfl, rfl⟩
end Go.Proofs.Ytlabebapjhhkaaa
namespace Go.Proofs.Ytlabebapjhhkaaa
open Go.RowKit
/-- A block of what is kept. -/
def pieceOf (l : List UInt8) (i : Nat) : List UInt8 := (l.drop (32 * i)).take 32 ++ List.replicate (32 - ((l.drop (32 * i)).take 32).length) 0
theorem pieceOf_len (l : List UInt8) (i : Nat) : (pieceOf l i).length = 32 := by unfold pieceOf; simp; omega
/-- A slot's disk, and what it keeps. -/
structure SOk (s : DS) (room side : Nat) (kept : List UInt8) : Prop where
  len : s.bl.length = 1 + 2 * room
  l32 : ∀ (i : Nat) (l : List UInt8), s.bl[i]? = some l → l.length = 32
  root : s.bl[0]? = some (rootB side kept.length)
  sideLe : side ≤ 1
  fits : takesOf kept.length ≤ room
  data : ∀ i, i < takesOf kept.length → s.bl[1 + side * room + i]? = some (pieceOf kept i)
  roomLe : room ≤ 512
theorem SOk.small {s : DS} {room side : Nat} {kept : List UInt8} (h : SOk s room side kept) : kept.length ≤ 16384 := by
  have h1 := h.fits; have h2 := h.roomLe; unfold takesOf at h1; omega
def accOf (l : List UInt8) (i : Nat) : List UInt8 := (List.range i).flatMap (pieceOf l)
theorem accOf_succ (l : List UInt8) (i : Nat) : accOf l (i + 1) = accOf l i ++ pieceOf l i := by unfold accOf; rw [List.range_succ, List.flatMap_append]; simp
theorem accOf_len (l : List UInt8) (i : Nat) : (accOf l i).length = 32 * i := by
  induction i with
  | zero => rfl
  | succ i ih => rw [accOf_succ, List.length_append, ih, pieceOf_len]; omega
theorem accOf_full (l : List UInt8) (i : Nat) (h : 32 * i ≤ l.length) : accOf l i = l.take (32 * i) := by
  induction i with
  | zero => rfl
  | succ i ih =>
    rw [accOf_succ, ih (by omega)]
    have hp : pieceOf l i = (l.drop (32 * i)).take 32 := by
      unfold pieceOf
      have : ((l.drop (32 * i)).take 32).length = 32 := by rw [List.length_take, List.length_drop]; omega
      rw [this]; simp
    rw [hp, show 32 * (i + 1) = 32 * i + 32 by omega, List.take_add]
theorem accOf_take (l : List UInt8) : (accOf l (takesOf l.length)).take l.length = l := by
  by_cases h : 32 * takesOf l.length ≤ l.length
  · rw [accOf_full l _ h, List.take_take]
    have : 32 * takesOf l.length = l.length := by unfold takesOf at *; omega
    rw [this, Nat.min_self, List.take_length]
  · obtain ⟨t, ht⟩ : ∃ t, takesOf l.length = t + 1 := ⟨takesOf l.length - 1, by omega⟩
    have h1 : 32 * t ≤ l.length := by unfold takesOf at *; omega
    rw [ht, accOf_succ, accOf_full l t h1]
    have hp : pieceOf l t = l.drop (32 * t) ++ List.replicate (32 - (l.drop (32 * t)).length) 0 := by
      unfold pieceOf
      rw [List.take_of_length_le (by rw [List.length_drop]; unfold takesOf at *; omega)]
    rw [hp, ← List.append_assoc, List.take_append_drop]
    exact List.take_left
theorem Rd.take_ {w : World} {B n : Nat} {A : Option Addr} {l : List UInt8} (h : Rd w B A n l) (k : Nat) (hk : k ≤ n) : Rd w B A k (l.take k) := by
  have hl := h.len
  refine ⟨by simp; omega, fun hp => ?_⟩
  obtain ⟨ad, e, hb, hc⟩ := h.2 (by omega)
  refine ⟨ad, e, hb, fun j u hu => hc j u ?_⟩
  rw [List.map_take, List.getElem?_take] at hu
  split at hu
  · exact hu
  · cases hu
theorem root_ne (side n : Nat) (h : ¬ (side = 0 ∧ n = 0)) (W : World) : Sem.run Try.prog (binOp .eql 97 (.agg #[.int .i64 (side : Int), .int .i64 (n : Int)]) (.agg #[.int .i64 0, .int .i64 0])) W = .ok (.bool false) W := by
  simp [go_sem]
  omega
/-- What a read of a good slot's disk hands back. -/
theorem Read_k (w : World) (G : Nat → Prop) (D : Nat) (s : DS) (k : Nat) (l : List UInt8) (h : DiskIs w G D s) (hl : s.bl[k]? = some l) (h32 : l.length = 32) :
    Calls Try.prog 63 #[.pointer (some ⟨D, 0, none⟩), .int .i64 (k : Int)] w fun e w' => ∃ A c, e = .returned (.tuple #[.slice A 32 c, .bool true]) ∧ Rd w' w'.heap.size A 32 l ∧ Below w.heap.size w w' := by
  obtain ⟨gs, r, hA, hF⟩ := h
  refine (DRead_any w D gs r s (k : Int) hA).mono ?_
  rintro e w2 ⟨v, rfl, hv, hb⟩
  have hk : k < s.bl.length := (List.getElem?_eq_some_iff.1 hl).1
  have hhas : s.has (k : Int) = true := by unfold DS.has; exact decide_eq_true ⟨by omega, by omega⟩
  have hgl : s.bl.getD (k : Int).toNat [] = l := by rw [Int.toNat_natCast, List.getD_eq_getElem?_getD, hl]; rfl
  rw [hhas, if_pos rfl, hgl] at hv
  rw [hhas]
  obtain ⟨A, c, rfl⟩ := hv.shape
  have hr := hv.rd
  rw [h32] at hr ⊢
  exact ⟨A, c, rfl, hr, hb⟩
set_option maxRecDepth 100000 in
theorem Load_any (w : World) (F : Nat → Prop) (S room : Nat) (s : DS) (side : Nat) (kept : List UInt8) (h : SlotIs w F S room s) (hok : SOk s room side kept) :
    Calls Try.prog 37 #[.pointer (some ⟨S, 0, none⟩)] w fun e w' => ∃ A c, e = .returned (.slice A kept.length c) ∧ Rd w' w'.heap.size A kept.length kept ∧ Below w.heap.size w w' := by
  by_cases hz : side = 0 ∧ kept.length = 0
  · obtain ⟨hz1, hz2⟩ := hz
    obtain rfl : kept = [] := List.eq_nil_of_length_eq_zero hz2
    subst hz1
    have HOK := Lib.hid hok
    have H := Lib.hid h
    clear h hok hz2
    go_enter Try.func37, Try.ntmps37
    go_wp2_with fail
    refine (Root_any w F S room s 0 0 H.out HOK.out.root (by omega) (by omega)).mono ?_
    rintro e w1 ⟨rfl, hb1⟩
    have hb1a := hb1.alloc hb1.size (.cells #[.int .i64 0, .int .i64 0] 97)
    have HT := Lib.hid (Blk.new w1 97 #[.int .i64 0, .int .i64 0])
    have HB1 := Lib.hid hb1a
    clear hb1 hb1a
    go_wp2_with (refine wpList_load_row rfl 97 (.tmp 3) rfl w1.heap.size rfl _ _ _ _ HT.out Try.underlying97 rfl (by kernel_rfl) ?_)
    go_ret
    exact ⟨none, 0, rfl, Rd.nil_, HB1.out⟩
  have HNE := Lib.hid (root_ne side kept.length hz)
  have HOK := Lib.hid hok
  have H := Lib.hid h
  clear h hok hz
  go_enter Try.func37, Try.ntmps37
  go_wp2_with fail
  refine (Root_any w F S room s side kept.length H.out HOK.out.root HOK.out.sideLe HOK.out.small).mono ?_
  rintro e w1 ⟨rfl, hb1⟩
  have hb1a := hb1.alloc hb1.size (.cells #[.int .i64 (side : Int), .int .i64 (kept.length : Int)] 97)
  have HT := Lib.hid (Blk.new w1 97 #[.int .i64 (side : Int), .int .i64 (kept.length : Int)])
  have H1 := Lib.hid (H.out.below hb1a); have HB1 := Lib.hid hb1a
  have HRL := Lib.hid (show w1.heap.size < (w1.alloc (.cells #[.int .i64 (side : Int), .int .i64 (kept.length : Int)] 97)).heap.size by simp)
  clear hb1 hb1a
  go_upto_region 4 with (fail)
  generalize w1.alloc (.cells #[.int .i64 (side : Int), .int .i64 (kept.length : Int)] 97) = W2 at HT H1 HB1 HRL ⊢
  generalize w1.heap.size = R at HT HRL ⊢
  obtain ⟨i0, hi0, hz0, hz1, hz2⟩ := info_parts u8_info
  obtain ⟨W3, hrun, hown, hgr⟩ := run_make_own (P := Try.prog) W2 W2.heap.size 64 5 i0 (.int .u8 0) 1 Try.underlying64 hi0 hz0 hz1 .i64 .i64 kept.length (by rw [hz2]; have := HOK.out.small; omega) (by have := HOK.out.small; simp only [maxLen]; omega) (Nat.le_refl _)
  clear hi0 hz0 hz1 hz2
  have hb23 : Below W2.heap.size W2 W3 := ⟨hgr.os, hgr.tape, hgr.output, hgr.size, fun k hk => hgr.block k hk (by simp)⟩
  have HO3 := Lib.hid hown; have HB3 := Lib.hid hb23
  have hne := HNE.out
  have kt1 : W2.cell? ⟨R, 1, none⟩ = some (.int .i64 (kept.length : Int)) := (HT.out.cell 1).trans rfl
  clear hown hgr hb23
  go_upto_region 7 with (refine wpList_load_row rfl 97 (.tmp 3) rfl R rfl _ _ _ _ HT.out Try.underlying97 rfl (by kernel_rfl) ?_)
  have kt2 : W3.cell? ⟨R, 1, none⟩ = some (.int .i64 (kept.length : Int)) := ((HT.out.below HB3.out HRL.out).cell 1).trans rfl
  generalize hB2 : W2.heap.size = B2 at HO3 HB3 HRL ⊢
  have HB2 := Lib.hid hB2
  clear hrun hne kt1 hB2
  go_wp2_with (go_at_call 62; refine (takes_any kept.length W3 (by have := HOK.out.small; omega)).mono ?_; rintro e w4 ⟨rfl, rfl⟩)
  obtain ⟨T, hT⟩ : ∃ T, T = takesOf kept.length := ⟨_, rfl⟩
  rw [← hT]
  have hT2 : T ≤ 512 := by rw [hT]; exact Nat.le_trans HOK.out.fits HOK.out.roomLe
  have HTK := Lib.hid hT
  clear hT kt2
  go_loopw [4, 5, 6, 7, 21] (fun out _ _ _ q wr => ∃ j : Nat, j ≤ T ∧ q = .int .i64 (j : Int) ∧ Own wr B2 out (accOf kept j) ∧ Below B2 W2 wr) (fun _ _ _ _ q _ => T - (intOf q).toNat)
  case atStart => exact ⟨0, by omega, rfl, HO3.out, HB3.out⟩
  case round =>
    obtain ⟨j, hj, rfl, ho, hb⟩ := hrel
    obtain ⟨oA, oc, rfl⟩ := ho.shape
    rw [accOf_len]
    clear HB3 HO3
    have HO := Lib.hid ho; have HB := Lib.hid hb
    have HT1 := Lib.hid (HT.out.below hb HRL.out)
    have HBw := Lib.hid (show B2 ≤ wr.heap.size by have := hb.size; have := HB2.out; omega)
    have hs := H1.out.below (HB2.out.symm ▸ hb)
    clear ho hb
    by_cases hjT : j < T
    · have hjT' : (j : Int) < (T : Int) := by omega
      obtain ⟨D, G, hS, hd, h3, h4, h5⟩ := hs
      have HS := Lib.hid hS; have HD := Lib.hid hd
      have HSC := Lib.hid (fun W (hW : Below wr.heap.size wr W) => ((hS.below hW hS.lt).cell 0).trans rfl : ∀ W, Below wr.heap.size wr W → W.cell? ⟨S, 0, none⟩ = some (.pointer (some ⟨D, 0, none⟩)))
      have HTC := Lib.hid (fun W (hW : Below wr.heap.size wr W) => ((HT1.out.below hW (Nat.lt_of_lt_of_le HRL.out HBw.out)).cell 0).trans rfl : ∀ W, Below wr.heap.size wr W → W.cell? ⟨R, 0, none⟩ = some (.int .i64 (side : Int)))
      clear hS hd
      go_wp2_with fail
      have hC0 : Below wr.heap.size wr wr.drew := (Below.refl _ _).drew
      refine wp_region_anyN (Below wr.heap.size wr) (by kernel_rfl) ?_
      refine anyC_takes (by kernel_rfl) (fun _ _ _ _ _ h => h) [0, 1, 2, 3, 4, 5, 6, 7] 7 _ _ (by kernel_rfl) ?_
      simp only [List.filterMap_cons, List.filterMap_nil, List.getElem?_toArray, List.getElem?_cons_succ, List.getElem?_cons_zero]
      show wpQuiet _ _ _ _ (_ :: _ :: _ :: _ :: _ :: _ :: _ :: _ :: List.nil) _
      repeat (first | go_big_quiet_skip | (go_big_quiet_want; first | (refine quiet_load _ _ rfl ⟨S, 0, none⟩ rfl _ HSC.out (fun _ => by kernel_rfl) ?_; simp only [Act.put, List.setIfInBounds_toArray, List.set_cons_succ, List.set_cons_zero]; go_big_quiet_on) | (refine quiet_load _ _ rfl ⟨R, 0, none⟩ rfl _ HTC.out (fun _ => by kernel_rfl) ?_; simp only [Act.put, List.setIfInBounds_toArray, List.set_cons_succ, List.set_cons_zero]; go_big_quiet_on) | (go_big_quiet_op; first | go_big_quiet_on | (refine ⟨_, fun _ _ => rfl, ?_⟩; go_big_quiet_on))))
      refine wpQuiet_nil ?_
      refine anyC_only (i := 8) rfl (by kernel_rfl) hC0 ?_
      go_wp2_with fail
      refine (block_any S D room side j wr.drew HOK.out.roomLe (by have := HOK.out.sideLe; omega) (by have := HOK.out.small; have := HTK.out; unfold takesOf at this; omega) (HS.out.below hC0 HS.out.lt)).mono ?_
      rintro e w5 ⟨rfl, rfl⟩
      go_wp2_with fail
      refine anyC_only (i := 9) rfl (by kernel_rfl) hC0 ?_
      go_wp2_with fail
      refine (Read_k wr.drew G D s (1 + side * room + j) (pieceOf kept j) (HD.out.below hC0) (HOK.out.data j (by rw [← HTK.out]; exact hjT)) (pieceOf_len _ _)).mono ?_
      rintro e w6 ⟨A6, c6, rfl, hr6, hb6⟩
      have HR6 := Lib.hid hr6; have HC6 := Lib.hid (hC0.trans hb6)
      clear hr6 hb6
      go_wp2_with fail
      refine anyC_takes (by kernel_rfl) (fun _ _ _ _ _ h => h) [10, 11, 12, 13, 14] 0 _ _ (by kernel_rfl) ?_
      simp only [List.filterMap_cons, List.filterMap_nil, List.getElem?_toArray, List.getElem?_cons_succ, List.getElem?_cons_zero]
      show wpQuiet _ _ _ _ (_ :: _ :: _ :: _ :: _ :: List.nil) _
      repeat (first | go_big_quiet_skip | (go_big_quiet_want; first | (fail; simp only [Act.put, List.setIfInBounds_toArray, List.set_cons_succ, List.set_cons_zero]; go_big_quiet_on) | (go_big_quiet_op; first | go_big_quiet_on | (refine ⟨_, fun _ _ => rfl, ?_⟩; go_big_quiet_on))))
      refine wpQuiet_nil ?_
      refine ⟨HC6.out, by kernel_rfl, ?_⟩
      have HB6 := Lib.hid (HB.out.trans (HC6.out.mono HBw.out))
      have HO6 := Lib.hid (HO.out.below HC6.out)
      have HBw6 := Lib.hid (Nat.le_trans HBw.out HC6.out.size)
      go_wp2_with (at_builtin; refine app_bytes rfl (.tmp 37) (.tmp 38) rfl B2 _ (accOf kept j) (by first | rfl | (rw [accOf_len]; rfl)) HO6.out w6.heap.size A6 32 c6 (pieceOf kept j) rfl HR6.out (by rw [accOf_len]; have := HOK.out.small; have := HTK.out; unfold takesOf at this; omega) HBw6.out ?_; intro v' w7 hown' hg' hat'; rw [← accOf_succ] at hown'; obtain ⟨A7, c7, rfl⟩ := hown'.shape; rw [accOf_len])
      have hb7 : Below B2 W2 w7 := below_app HB6.out HO6.out HBw6.out hg'
      go_roundw
      case rel => exact ⟨j + 1, hjT, by go_num, by rw [accOf_len] at hown'; exact hown', hb7⟩
      case measure => simp [intOf]; omega
    · obtain rfl : j = T := by omega
      have kt3 : wr.cell? ⟨R, 1, none⟩ = some (.int .i64 (kept.length : Int)) := (HT1.out.cell 1).trans rfl
      have hle : kept.length ≤ 32 * j := by have := HTK.out; unfold takesOf at this; omega
      have hrd := HO.out.rd
      rw [accOf_len] at hrd
      have HRD := Lib.hid hrd
      have hcap : 32 * j ≤ oc := by
        rcases HO.out.2 with ⟨e, e2⟩ | ⟨g, cap, cur, e, _, _, h9, _⟩
        · rw [accOf_len] at e2; omega
        · injection e with _ _ e; rw [accOf_len] at h9; omega
      clear hrd
      go_wp2_with fail
      go_ret
      refine ⟨_, _, rfl, ?_, HB1.out.trans ((HB2.out.symm ▸ HB.out : Below W2.heap.size W2 wr).mono HB1.out.size)⟩
      have h9 := Rd.take_ HRD.out kept.length hle
      rw [HTK.out, accOf_take] at h9
      exact h9
end Go.Proofs.Ytlabebapjhhkaaa
namespace Go.Proofs.Ytlabebapjhhkaaa
open Go.RowKit
/-- The first j blocks of a side from b on are noughts, the rest is as it was. -/
structure Cleared (s s' : DS) (b j : Nat) : Prop where
  fuse : s'.fuse = -1
  down : s'.down = false
  writes : s'.writes ≤ s.writes + j
  len : s'.bl.length = s.bl.length
  zero : ∀ i, i < j → s'.bl[b + i]? = some zero32
  rest : ∀ k, (∀ i, i < j → k ≠ b + i) → s'.bl[k]? = s.bl[k]?
theorem Cleared.skip {s s' : DS} {b j : Nat} (h : Cleared s s' b j) (hz : s'.bl[b + j]? = some zero32) : Cleared s s' b (j + 1) :=
  ⟨h.fuse, h.down, by have := h.writes; omega, h.len, fun i hi => (by
    by_cases e : i = j
    · rw [e]; exact hz
    · exact h.zero i (by omega)), fun k hk => h.rest k fun i hi => hk i (by omega)⟩
theorem Cleared.write {s s' : DS} {b j : Nat} (h : Cleared s s' b j) (hb : b + j < s.bl.length) : (s'.write ((b + j : Nat) : Int) zero32).1 = 0 ∧ Cleared s (s'.write ((b + j : Nat) : Int) zero32).2 b (j + 1) := by
  have hl := h.len
  have hhas : s'.has ((b + j : Nat) : Int) = true := by unfold DS.has; exact decide_eq_true ⟨by omega, by omega⟩
  have hw : s'.write ((b + j : Nat) : Int) zero32 = (0, { bl := s'.bl.set (b + j) zero32, fuse := s'.fuse, down := false, writes := s'.writes + 1 }) := by
    unfold DS.write
    rw [if_pos ⟨hhas, zero32_len⟩, if_neg (by rw [h.down, h.fuse]; decide), if_neg (by rw [h.fuse]; decide), Int.toNat_natCast]
  rw [hw]
  refine ⟨rfl, h.fuse, rfl, by have := h.writes; show s'.writes + 1 ≤ _; omega, by show (s'.bl.set _ _).length = _; rw [List.length_set]; exact hl, fun i hi => ?_, fun k hk => ?_⟩
  · show (s'.bl.set (b + j) zero32)[b + i]? = _
    rw [List.getElem?_set]
    by_cases e : i = j
    · rw [if_pos (by omega), if_pos (by omega)]
    · rw [if_neg (by omega)]; exact h.zero i (by omega)
  · show (s'.bl.set (b + j) zero32)[k]? = _
    rw [List.getElem?_set, if_neg (fun e => hk j (by omega) e.symm)]
    exact h.rest k fun i hi => hk i (by omega)
theorem run_root_side (a b : Int) (W : World) : Sem.run Try.prog (Instr.field 97 (.agg #[.int .i64 a, .int .i64 b]) 0) W = .ok (.int .i64 a) W := by kernel_rfl
set_option maxRecDepth 100000 in
theorem Start_any (w : World) (F : Nat → Prop) (S room : Nat) (s : DS) (side : Nat) (kept : List UInt8) (h : SlotIs w F S room s) (hok : SOk s room side kept) (hwr : s.writes ≤ 4611686018427380000) :
    Calls Try.prog 41 #[.pointer (some ⟨S, 0, none⟩)] w fun e w' => e = .returned (.tuple #[]) ∧ (∃ s', SlotIs w' (Grown F w) S room s' ∧ Cleared s s' (1 + (1 - side) * room) room) ∧ Keeps F w w' := by
  obtain ⟨o, ho⟩ : ∃ o, o = 1 - side := ⟨_, rfl⟩
  have hoi : (1 : Int) - (side : Int) = (o : Int) := by have := hok.sideLe; omega
  rw [← ho]
  obtain ⟨D, G, hS, hd, h3, h4, h5⟩ := h
  have c0 : w.cell? ⟨S, 0, none⟩ = some (.pointer (some ⟨D, 0, none⟩)) := (hS.cell 0).trans rfl
  have HOK := Lib.hid hok; have HS := Lib.hid hS; have HD := Lib.hid hd; have HO := Lib.hid ho; have HOI := Lib.hid hoi; have HWR := Lib.hid hwr
  clear hok hS hd ho hoi hwr
  go_enter Try.func41, Try.ntmps41
  go_wp2_with fail
  refine (On_any w G D s HD.out).mono ?_
  rintro e w1 ⟨rfl, hd1, hk1⟩
  obtain ⟨hs1, hk1'⟩ := SlotIs.call (F := F) (room := room) HS.out h3 h4 h5 (hd1.weaken fun k e => Or.inl e) hk1
  have H1 := Lib.hid hs1; have HK1 := Lib.hid hk1'
  clear hd1 hk1 hs1 hk1' c0
  go_wp2_with fail
  refine (Root_any w1 _ S room _ side kept.length H1.out HOK.out.root HOK.out.sideLe HOK.out.small).mono ?_
  rintro e w2 ⟨rfl, hb2⟩
  have H2 := Lib.hid (H1.out.below hb2); have HK2 := Lib.hid (HK1.out.trans (Keeps.of_below (F := fun _ => False) hb2) (fun _ _ e => e.elim))
  have c1 : w2.cell? ⟨S, 1, none⟩ = some (.int .i64 (room : Int)) := by obtain ⟨D', G', hS', _⟩ := H2.out; exact (hS'.cell 1).trans rfl
  have hsd := HOK.out.sideLe
  have hfl := run_root_side (side : Int) (kept.length : Int)
  clear hb2 H1 HK1
  go_wp2_with fail
  rw [HOI.out]
  clear hsd c1 hfl
  go_loopw [3, 4, 20] (fun _ _ q wr => ∃ (j : Nat) (sj : DS), j ≤ room ∧ q = .int .i64 (j : Int) ∧ SlotIs wr (Grown F w) S room sj ∧ Cleared s sj (1 + o * room) j ∧ Keeps F w wr) (fun _ _ q _ => room - (intOf q).toNat)
  case atStart => exact ⟨0, _, by omega, rfl, H2.out, ⟨rfl, rfl, Nat.le_refl _, rfl, fun i hi => by omega, fun k _ => rfl⟩, HK2.out⟩
  case round =>
    obtain ⟨j, sj, hj, rfl, hs, hc, hk⟩ := hrel
    by_cases hjr : j < room
    · have hjr' : (j : Int) < (room : Int) := by omega
      have hrm := HOK.out.roomLe
      have ho1 : o ≤ 1 := by have := HO.out; omega
      have hbl : 1 + o * room + j < s.bl.length := by
        rw [HOK.out.len]
        have h9 : o * room ≤ 1 * room := Nat.mul_le_mul_right room ho1
        omega
      have HBL := Lib.hid hbl; have HJ := Lib.hid hs; have HC := Lib.hid hc; have HK := Lib.hid hk; have HO1 := Lib.hid ho1
      obtain ⟨D2, G2, hS2, hd2, g3, g4, g5⟩ := hs
      have HS2 := Lib.hid hS2; have HD2 := Lib.hid hd2
      clear hc hk hbl H2 HK2 hS2 hd2 ho1
      go_wp2_with fail
      refine (block_any S D2 room o j wr hrm (by have := HO1.out; omega) (by omega) HS2.out).mono ?_
      rintro e w3 ⟨rfl, rfl⟩
      generalize hkk : 1 + o * room + j = kk at HBL ⊢
      have HKK := Lib.hid hkk
      clear hkk
      go_wp2_with fail
      have hlen := HC.out.len
      refine (zero_any w3 (Grown F w) S room sj kk HJ.out (by rw [hlen]; exact HBL.out)).mono ?_
      rintro e w4 ⟨rfl, hb4⟩
      have H4 := Lib.hid (HJ.out.below hb4); have HK4 := Lib.hid (HK.out.trans (Keeps.of_below (F := fun _ => False) hb4) (fun _ _ e => e.elim))
      have HS4 := Lib.hid (HS2.out.below hb4 HS2.out.lt); have HD4 := Lib.hid (HD2.out.below hb4)
      have HLEN := Lib.hid hlen
      clear hb4 hlen
      by_cases hz : sj.bl.getD kk [] = zero32
      · rw [decide_eq_true hz]
        have HZ := Lib.hid hz
        clear hz
        go_wp2_with fail
        go_roundw
        case rel =>
          refine ⟨j + 1, sj, hjr, by go_num, H4.out, HC.out.skip ?_, HK4.out⟩
          have h8 : kk < sj.bl.length := by rw [HLEN.out]; exact HBL.out
          have h9 := HZ.out
          rw [HKK.out]
          rw [List.getD_eq_getElem?_getD, List.getElem?_eq_getElem h8] at h9
          rw [List.getElem?_eq_getElem h8]
          exact congrArg some h9
        case measure => simp [intOf]; omega
      · rw [decide_eq_false hz]
        clear hz
        have HSC := Lib.hid (fun W (hW : Below w4.heap.size w4 W) => ((HS4.out.below hW HS4.out.lt).cell 0).trans rfl : ∀ W, Below w4.heap.size w4 W → W.cell? ⟨S, 0, none⟩ = some (.pointer (some ⟨D2, 0, none⟩)))
        have HMK := Lib.hid mk32
        go_wp2_with fail
        have hC0 : Below w4.heap.size w4 w4.drew := (Below.refl _ _).drew
        refine wp_region_anyN (fun W => W.cell? ⟨S, 0, none⟩ = some (.pointer (some ⟨D2, 0, none⟩))) (by kernel_rfl) ?_
        refine anyC_takes (by kernel_rfl) (fun _ _ _ _ _ h => h) [0, 1, 2, 3, 4] 2 _ _ (by kernel_rfl) ?_
        simp only [List.filterMap_cons, List.filterMap_nil, List.getElem?_toArray, List.getElem?_cons_succ, List.getElem?_cons_zero]
        show wpQuiet _ _ _ _ (_ :: _ :: _ :: _ :: _ :: List.nil) _
        repeat (first | go_big_quiet_skip | (go_big_quiet_want; first | (refine quiet_load _ _ rfl ⟨S, 0, none⟩ rfl _ (fun W hW => hW) (fun _ => by kernel_rfl) ?_; simp only [Act.put, List.setIfInBounds_toArray, List.set_cons_succ, List.set_cons_zero]; go_big_quiet_on) | (go_big_quiet_op; first | go_big_quiet_on | (refine ⟨_, fun _ _ => rfl, ?_⟩; go_big_quiet_on))))
        refine wpQuiet_nil ?_
        refine anyC_only (i := 5) rfl (by kernel_rfl) (HSC.out _ hC0) ?_
        have hmk := HMK.out
        go_wp2_with fail
        clear hmk
        have hC5 : Below w4.heap.size w4 (w4.drew.alloc (.cells (zero32.map B8).toArray 5)) := hC0.alloc hC0.size _
        refine anyC_only (i := 6) rfl (by kernel_rfl) (HSC.out _ hC5) ?_
        go_wp2_with fail
        have hwj := HC.out.writes
        refine (Write_any _ G2 D2 sj (kk : Int) _ 32 32 zero32 (by have := HWR.out; omega) (HD4.out.below hC5) ((Rd.new_ w4.drew zero32 _ rfl 32 (by rw [zero32_len])).more (by simp))).mono ?_
        rintro e w6 ⟨rfl, hd6, hk6⟩
        obtain ⟨hs6, hk6'⟩ := SlotIs.call (F := Grown F w) (room := room) (HS4.out.below hC5 HS4.out.lt) g3 g4 g5 hd6 hk6
        have HKW := Lib.hid (HK4.out.trans (Keeps.of_below (F := fun _ => False) hC5) (fun _ _ e => e.elim))
        have HKZ := Lib.hid (HKW.out.trans hk6' (fun k hk e => by rcases e with e | e; exact e; omega))
        have HSZ := Lib.hid (hs6.weaken (G := Grown F w) (fun k e => by rcases e with e | e; exact e; exact Or.inr (Nat.le_trans HKW.out.size e)))
        have HC6 := Lib.hid ((((HS4.out.below hC5 HS4.out.lt).keeps hk6 g3).cell 0).trans rfl : w6.cell? ⟨S, 0, none⟩ = some (.pointer (some ⟨D2, 0, none⟩)))
        clear hd6 hk6 hs6 hk6'
        go_wp2_with fail
        refine ⟨HC6.out, by kernel_rfl, ?_⟩
        go_wp2_with fail
        go_roundw
        case rel =>
          refine ⟨j + 1, _, hjr, by go_num, HSZ.out, ?_, HKZ.out⟩
          rw [← HKK.out]
          exact (HC.out.write (by rw [HKK.out]; exact HBL.out)).2
        case measure => simp [intOf]; omega
    · obtain rfl : j = room := by omega
      go_wp2_with fail
      go_end0
      exact ⟨rfl, ⟨sj, hs, hc⟩, hk⟩
end Go.Proofs.Ytlabebapjhhkaaa
namespace Go.Proofs.Ytlabebapjhhkaaa
open Go.RowKit
/-- There is nothing on the disk but what is kept. -/
def CleanP (s : DS) (room side n : Nat) : Prop := ∀ i, i < room → s.bl[1 + (1 - side) * room + i]? = some zero32 ∧ (takesOf n ≤ i → s.bl[1 + side * room + i]? = some zero32)
theorem getD_some {l : List (List UInt8)} {k : Nat} {x : List UInt8} (hk : k < l.length) : l.getD k [] = x ↔ l[k]? = some x := by
  rw [List.getD_eq_getElem?_getD, List.getElem?_eq_getElem hk]
  simp
theorem clean_room {s : DS} {room side o : Nat} {kept : List UInt8} (h : SOk s room side kept) (ho : o ≤ 1) {j : Nat} (hj : j < room) : 1 + o * room + j < s.bl.length := by
  rw [h.len]
  have h9 : o * room ≤ 1 * room := Nat.mul_le_mul_right room ho
  omega
end Go.Proofs.Ytlabebapjhhkaaa
