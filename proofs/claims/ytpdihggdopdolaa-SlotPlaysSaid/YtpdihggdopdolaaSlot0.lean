/- A slot in memory, and what its small functions do. No conditions. -/
import Derived.Test.YtpdihggdopdolaaLaw14
import Derived.Test.YtpdihggdopdolaaTurn
import Derived.Test.YtpdihggdopdolaaStr
import Derived.Test.YtpdihggdopdolaaAnyD
namespace Go.Proofs.Ytpdihggdopdolaa
open Go.RowKit
/-- A slot: its block, and its disk, all of F. -/
def SlotIs (w : World) (F : Nat → Prop) (S room : Nat) (s : DS) : Prop :=
  ∃ D G, Blk w S 71 #[.pointer (some ⟨D, 0, none⟩), .int .i64 (room : Int)] ∧ DiskIs w G D s ∧ ¬ G S ∧ (∀ k, G k → F k) ∧ F S
def takesOf (n : Nat) : Nat := (n + 31) / 32
/-- The bytes of a root. -/
def rootB (side n : Nat) : List UInt8 := [UInt8.ofNat side, 0, 0, UInt8.ofNat (n / 256), UInt8.ofNat n] ++ List.replicate 27 0
theorem rootB_len (side n : Nat) : (rootB side n).length = 32 := rfl
section
variable {w w' : World} {F G : Nat → Prop} {S room : Nat} {s : DS}
theorem SlotIs.weaken (h : SlotIs w F S room s) (hn : ∀ k, F k → G k) : SlotIs w G S room s := by
  obtain ⟨D, G', h1, h2, h3, h4, h5⟩ := h
  exact ⟨D, G', h1, h2, h3, fun k e => hn k (h4 k e), hn S h5⟩
theorem SlotIs.keeps (h : SlotIs w F S room s) (hk : Keeps G w w') (hn : ∀ k, F k → ¬ G k) : SlotIs w' F S room s := by
  obtain ⟨D, G', h1, h2, h3, h4, h5⟩ := h
  exact ⟨D, G', h1.keeps hk (hn S h5), h2.keeps hk (fun k e => hn k (h4 k e)), h3, h4, h5⟩
theorem SlotIs.below (h : SlotIs w F S room s) (hb : Below w.heap.size w w') : SlotIs w' F S room s := by
  obtain ⟨D, G', h1, h2, h3, h4, h5⟩ := h
  exact ⟨D, G', h1.below hb h1.lt, h2.below hb, h3, h4, h5⟩
theorem SlotIs.lt (h : SlotIs w F S room s) : S < w.heap.size := by
  obtain ⟨D, G', h1, h2, h3, h4, h5⟩ := h
  exact h1.lt
/-- Behind a call of the disk. -/
theorem SlotIs.call {D : Nat} {G' : Nat → Prop} {s' : DS} (h1 : Blk w S 71 #[.pointer (some ⟨D, 0, none⟩), .int .i64 (room : Int)]) (h3 : ¬ G' S) (h4 : ∀ k, G' k → F k) (h5 : F S) (hd : DiskIs w' (Grown G' w) D s') (hk : Keeps G' w w') :
    SlotIs w' (Grown F w) S room s' ∧ Keeps F w w' := by
  refine ⟨⟨D, Grown G' w, h1.keeps hk h3, hd, fun e => ?_, fun k e => ?_, Or.inl h5⟩, hk.weaken fun k _ e => h4 k e⟩
  · rcases e with e | e
    · exact h3 e
    · have := h1.lt; omega
  · rcases e with e | e
    · exact Or.inl (h4 k e)
    · exact Or.inr e
end
theorem wpList_store_row {P : Program} {ops : Array Oper} {rest : List Oper} {o : Oper} {a : Act} {w : World} {Q : Exit → Act → World → Prop} (hgd : o.guard = none) (ty : TypeId) (x y : Operand) (ho : o.op = .store ty x y)
    (g : Nat) (cells : Array Value) (hx : a.eval x = .pointer (some ⟨g, 0, none⟩)) (hy : a.eval y = .agg cells) (t : TypeId) (old : Array Value) (hg : w.heap[g]? = some (.cells old t (0, 0))) (hi : (P.info? ty).map (·.size) = some cells.size)
    (hold : old.size = cells.size) (h1 : cells.all (·.oneCell') = true) (h : wpList P ops Q rest (a.put o.dst undef) (w.setRow g cells)) : wpList P ops Q (o :: rest) a w :=
  wpList_plain hgd fun _ hK => wp_store_row ty x y ho g cells hx hy t old hg hi hold h1 (hK _ _ h)
theorem takes_any (n : Nat) (w : World) (hn : n ≤ 9223372036854775000) :
    Calls Try.prog 38 #[.int .i64 (n : Int)] w fun e w' => e = .returned (.int .i64 (takesOf n : Int)) ∧ w' = w := by
  go_enter Try.func38, Try.ntmps38
  go_wp2
  go_ret
  refine ⟨?_, rfl⟩
  unfold takesOf
  go_num
theorem block_any (S D room : Nat) (side n : Nat) (w : World) (hr : room ≤ 512) (hs : side ≤ 255) (hn : n ≤ 100000) (h : Blk w S 71 #[.pointer (some ⟨D, 0, none⟩), .int .i64 (room : Int)]) :
    Calls Try.prog 41 #[.pointer (some ⟨S, 0, none⟩), .int .i64 (side : Int), .int .i64 (n : Int)] w fun e w' => e = .returned (.int .i64 ((1 + side * room + n : Nat) : Int)) ∧ w' = w := by
  have c1 := (h.cell 1).trans rfl
  have f1 := h.frozen 1
  have hm : side * room ≤ 255 * 512 := Nat.mul_le_mul hs hr
  obtain ⟨p, hp⟩ : ∃ p, p = side * room := ⟨_, rfl⟩
  have hp2 : (side : Int) * (room : Int) = (p : Int) := by rw [hp]; exact (Int.natCast_mul _ _).symm
  rw [← hp] at hm ⊢
  clear h hp
  go_enter Try.func41, Try.ntmps41
  go_wp2_with fail
  go_ret
  refine ⟨?_, rfl⟩
  go_num
theorem Own.byte {w : World} {B g c : Nat} {l : List UInt8} (h : Own w B (.slice (some ⟨g, 0, none⟩) l.length c) l) (j : Nat) (hj : j < l.length) : w.cell? ⟨g, j, none⟩ = some (.int .u8 ((l.getD j 0).toNat : Int)) := by
  obtain ⟨g', c', cur, e, _, hb, _, hc⟩ := h.blk (by omega)
  injection e with e1 _ _
  simp only [Option.some.injEq, Addr.mk.injEq, and_true] at e1
  subst e1
  rw [hb.cell, hc j hj]
theorem or64 (x y : Nat) (hx : x < 9223372036854775808) (hy : y < 9223372036854775808) : bits .or .i64 (x : Int) (y : Int) = ((x ||| y : Nat) : Int) := by
  have hz : x ||| y < 2 ^ 63 := Nat.or_lt_two_pow (by omega) (by omega)
  show IntKind.i64.wrap ((BitVec.ofInt 64 (x : Int) ||| BitVec.ofInt 64 (y : Int)).toNat : Int) = _
  rw [BitVec.toNat_or, ofInt_u64 x (by omega), ofInt_u64 y (by omega)]
  unfold IntKind.wrap
  simp only [IntKind.bits, IntKind.signed, Bool.true_and, decide_eq_true_eq]
  rw [if_neg (by simp; omega)]
  omega
set_option maxRecDepth 100000 in
theorem Root_any (w : World) (F : Nat → Prop) (S room : Nat) (s : DS) (side n : Nat) (h : SlotIs w F S room s) (hr : s.bl[0]? = some (rootB side n)) (hs : side ≤ 1) (hn : n ≤ 16384) :
    Calls Try.prog 39 #[.pointer (some ⟨S, 0, none⟩)] w fun e w' => e = .returned (.agg #[.int .i64 (side : Int), .int .i64 (n : Int)]) ∧ Below w.heap.size w w' := by
  obtain ⟨D, G, hS, hd, _, _, _⟩ := h
  obtain ⟨gs, r, hA, hF⟩ := hd
  have hb0 : Below w.heap.size w (w.alloc (.cells #[.int .i64 0, .int .i64 0] 74)) := (Below.refl _ _).alloc (Nat.le_refl _) _
  have cA : (w.alloc (.cells #[.int .i64 0, .int .i64 0] 74)).cell? ⟨S, 0, none⟩ = some (.pointer (some ⟨D, 0, none⟩)) := ((hS.alloc _).cell 0).trans rfl
  have HA := Lib.hid (hA.below hb0)
  have HB0 := Lib.hid hb0
  have HR := Lib.hid hr
  have HSi := Lib.hid hs
  have HN := Lib.hid hn
  have HT := Lib.hid (Blk.new w 74 #[.int .i64 0, .int .i64 0])
  clear hS hA hF hr hs hn hb0
  go_enter Try.func39, Try.ntmps39
  go_wp2_with fail
  refine (Read_any _ D gs r s 0 HA.out).mono ?_
  rintro e w2 ⟨v, rfl, hv, hb⟩
  have hbl : 0 < s.bl.length := (List.getElem?_eq_some_iff.1 HR.out).1
  have hhas : s.has 0 = true := by unfold DS.has; exact decide_eq_true ⟨by omega, by omega⟩
  have hgl : s.bl.getD (0 : Int).toNat [] = rootB side n := by show s.bl.getD 0 [] = _; rw [List.getD_eq_getElem?_getD, HR.out]; rfl
  rw [hhas, if_pos rfl, hgl] at hv
  rw [hhas]
  obtain ⟨g, c, cur, rfl, hg, hB, hc, hcur⟩ := hv.blk (by rw [rootB_len]; omega)
  have hB2 : Below w.heap.size w w2 := HB0.out.trans (hb.mono HB0.out.size)
  have hT2 := HT.out.below hb (by simp)
  have k0 : w2.cell? ⟨g, 0, none⟩ = some (.int .u8 (((UInt8.ofNat side).toNat : Nat) : Int)) := (hB.cell 0).trans (hcur 0 (by rw [rootB_len]; omega))
  have k1 : w2.cell? ⟨g, 1, none⟩ = some (.int .u8 0) := (hB.cell 1).trans (hcur 1 (by rw [rootB_len]; omega))
  have k2 : w2.cell? ⟨g, 2, none⟩ = some (.int .u8 0) := (hB.cell 2).trans (hcur 2 (by rw [rootB_len]; omega))
  have k3 : w2.cell? ⟨g, 3, none⟩ = some (.int .u8 (((UInt8.ofNat (n / 256)).toNat : Nat) : Int)) := (hB.cell 3).trans (hcur 3 (by rw [rootB_len]; omega))
  have k4 : w2.cell? ⟨g, 4, none⟩ = some (.int .u8 (((UInt8.ofNat n).toNat : Nat) : Int)) := (hB.cell 4).trans (hcur 4 (by rw [rootB_len]; omega))
  have HB2 := Lib.hid hB2; have HT2 := Lib.hid hT2
  clear hv hb hhas hgl hbl hcur hB hc hg hB2 hT2 cA
  rw [rootB_len]
  go_wp2_with fail
  refine wp_region_qt 27 (by kernel_rfl) (by kernel_rfl) ?_
  simp only [List.take_succ_cons, List.take_zero, List.drop_succ_cons, List.drop_zero]
  repeat (first | go_big_quiet_skip | (go_big_quiet_want; go_big_quiet_op; first | go_big_quiet_on))
  refine wpQuiet_nil ?_
  go_wp2_with (refine wpList_store_row rfl 74 (.tmp 2) (.tmp 39) rfl w.heap.size _ (by rfl) (by rfl) _ _ HT2.out (by kernel_rfl) (by rfl) (by simp [Value.oneCell']) ?_)
  have hs := HSi.out; have hn := HN.out
  have e1 : (side : Int) % 256 = side := by omega
  have e2 : (n : Int) / 256 % 256 * 256 = ((n / 256 * 256 : Nat) : Int) := by omega
  have e3 : (n : Int) % 256 = ((n % 256 : Nat) : Int) := by omega
  have e4 : bits .or .i64 0 0 = 0 := by rfl
  have e5 : bits .or .i64 0 ((n / 256 * 256 : Nat) : Int) = ((n / 256 * 256 : Nat) : Int) := by have h := or64 0 (n / 256 * 256) (by omega) (by omega); rw [Nat.zero_or] at h; exact h
  have e6 : bits .or .i64 ((n / 256 * 256 : Nat) : Int) ((n % 256 : Nat) : Int) = (n : Int) := by
    rw [or64 _ _ (by omega) (by omega), nat_join 8 _ _ (by omega) (by omega)]
    omega
  rw [e1, e2, e3, e4, e5, e6]
  simp only [Act.put]
  refine bodyPost_ret (v := .agg #[.int .i64 (side : Int), .int .i64 (n : Int)]) (results_cell_row rfl _ _ w.heap.size 74 _ (0, 0) _ rfl (setRow_heap w2.drew w.heap.size #[.int .i64 0, .int .i64 0] _ _ _ HT2.out) Try.underlying74 rfl (by kernel_rfl)) rfl ⟨rfl, ?_⟩
  exact ⟨HB2.out.os, HB2.out.tape, HB2.out.output, by simpa using HB2.out.size, fun k hk => (setRow_other w2.drew w.heap.size k _ (by omega)).trans (HB2.out.block k hk)⟩
end Go.Proofs.Ytpdihggdopdolaa
