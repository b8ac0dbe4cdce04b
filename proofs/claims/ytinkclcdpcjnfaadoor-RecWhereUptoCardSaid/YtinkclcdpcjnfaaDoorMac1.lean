/- The walks of mac.pad and slices.Grow. Conditions: a key of at most a block; a count that memory bears. -/
import Derived.Test.YtinkclcdpcjnfaaDoorBytes
import Derived.Laws.CopyOwn
import Derived.Lib.AppendZerosOnto
namespace Go.Proofs.YtinkclcdpcjnfaaDoor
open Go.RowKit
set_option linter.unusedSimpArgs false
theorem wrap_u8 (n : Int) : IntKind.u8.wrap n = n % 256 := by simp [IntKind.wrap, IntKind.bits, IntKind.signed]
theorem u8_ofInt (x : UInt8) : BitVec.ofInt 8 (x.toNat : Int) = x.toBitVec := by
  apply BitVec.eq_of_toNat_eq
  simp
@[go_sem] theorem u8_xor (x y : UInt8) : bits .xor .u8 (x.toNat : Int) (y.toNat : Int) = ((x ^^^ y).toNat : Int) := by
  simp only [bits, IntKind.bits, u8_ofInt, wrap_u8]
  have := (x ^^^ y).toNat_lt
  simp only [UInt8.toNat_xor] at *
  show ((x.toNat ^^^ y.toNat : Nat) : Int) % 256 = ((x.toNat ^^^ y.toNat : Nat) : Int)
  omega
@[go_sem] theorem u8_or (x y : UInt8) : bits .or .u8 (x.toNat : Int) (y.toNat : Int) = ((x ||| y).toNat : Int) := by
  simp only [bits, IntKind.bits, u8_ofInt, wrap_u8]
  have := (x ||| y).toNat_lt
  simp only [UInt8.toNat_or] at *
  show ((x.toNat ||| y.toNat : Nat) : Int) % 256 = ((x.toNat ||| y.toNat : Nat) : Int)
  omega
def padk (l : List UInt8) (y : UInt8) : List UInt8 := (List.range 64).map fun j => l.getD j 0 ^^^ y
theorem padk_len (l : List UInt8) (y : UInt8) : (padk l y).length = 64 := by simp [padk]
theorem padk_getD (l : List UInt8) (y : UInt8) (j : Nat) (h : j < 64) : (padk l y)[j]? = some (l.getD j 0 ^^^ y) := by simp [padk, h]
def zer8 : Array Value := (List.replicate 64 (Value.int .u8 0)).toArray
/-- What the block holds when j of the 64 are turned. -/
def Half (l : List UInt8) (y : UInt8) (j : Nat) (cs : Array Value) : Prop := cs.size = 64 ∧ ∀ k, k < 64 → cs[k]? = some (.int .u8 ((if k < j then l.getD k 0 ^^^ y else l.getD k 0).toNat))
theorem Half.set_ {l : List UInt8} {y : UInt8} {j : Nat} {cs : Array Value} (h : Half l y j cs) : Half l y (j + 1) (cs.setIfInBounds j (.int .u8 (l.getD j 0 ^^^ y).toNat)) := by
  refine ⟨by simp [h.1], fun k hk => ?_⟩
  rw [Array.getElem?_setIfInBounds]
  by_cases hkj : j = k
  · subst hkj
    rw [if_pos rfl, if_pos (by rw [h.1]; exact hk), if_pos (by omega)]
  · rw [if_neg hkj, h.2 k hk]
    by_cases h1 : k < j
    · rw [if_pos h1, if_pos (by omega)]
    · rw [if_neg h1, if_neg (by omega)]
theorem Half.start (l : List UInt8) (y : UInt8) (hl : l.length ≤ 64) : Half l y 0 (splice (List.replicate 64 (Value.int .u8 0)) 0 (l.map B8)).toArray := by
  refine ⟨by simp [splice]; omega, fun k hk => ?_⟩
  rw [if_neg (by omega)]
  simp only [splice, List.take_zero, List.nil_append, Nat.zero_add, List.length_map, List.drop_replicate, List.getElem?_toArray]
  by_cases h : k < l.length
  · rw [List.getElem?_append_left (by simpa using h), List.getElem?_map, List.getElem?_eq_getElem h, List.getD_eq_getElem?_getD, List.getElem?_eq_getElem h]
    rfl
  · rw [List.getElem?_append_right (by simp; omega), List.getElem?_replicate, if_pos (by simp; omega), List.getD_eq_getElem?_getD, List.getElem?_eq_none (by omega)]
    rfl
theorem Half.own {l : List UInt8} {y : UInt8} {cs : Array Value} {w : World} {g base : Nat} (h : Half l y 64 cs) (hb : Blk w g 5 cs) (hg : base ≤ g) : Own w base (.slice (some ⟨g, 0, none⟩) 64 64) (padk l y) := by
  have he : cs.toList = (padk l y).map B8 := by
    apply List.ext_getElem?
    intro k
    by_cases hk : k < 64
    · have h1 := h.2 k hk
      rw [if_pos hk] at h1
      rw [Array.getElem?_toList, h1, List.getElem?_map, padk_getD l y k hk]
      rfl
    · rw [List.getElem?_eq_none (by simp [h.1]; omega), List.getElem?_eq_none (by simp [padk_len]; omega)]
  have hl : (padk l y).length = 64 := padk_len l y
  refine ⟨by simp, Or.inr ⟨g, 64, cs, by rw [hl], hg, hb, by omega, ?_, ?_, ?_⟩⟩
  · simp [maxLen]
  · rw [h.1]
  · rw [he, List.take_of_length_le (by simp)]
set_option maxRecDepth 100000 in
theorem pad_any (A : Option Addr) (n c : Nat) (y : UInt8) (w : World) (l : List UInt8) (hn : n ≤ 64) (hr : Rd w w.heap.size A n l) :
    Calls Tryd.prog 48 #[.slice A n c, .int .u8 y.toNat] w fun e w' => ∃ v, e = .returned v ∧ Own w' w.heap.size v (padk l y) ∧ Below w.heap.size w w' := by
  have HL := Lib.hid hr.len
  have hmk : ∀ w, (Instr.makeSlice 27 (.int .i64 64) (.int .i64 64)).run Tryd.prog w = .ok (.slice (some ⟨w.heap.size, 0, none⟩) 64 64) (w.alloc (.cells zer8 5)) := fun _ => by kernel_rfl
  have hmin : Nat.min n 64 = n := Nat.min_eq_left hn
  go_enter Tryd.func48, Tryd.ntmps48
  go_wp2_with (refine wpList_copy_splice rfl (.tmp 8) (.tmp 9) 27 27 rfl 5 Tryd.underlying27 (by kernel_rfl) (some ⟨w.heap.size, 0, none⟩) A 64 64 n c rfl rfl w.heap.size 0 (List.replicate 64 (Value.int .u8 0)) 5 (heap_alloc_new w _) (l.map B8) (by rw [List.length_map, hmin]; exact HL.out.symm) (fun h0 => ⟨rfl, by obtain ⟨ad, h1, _, h3⟩ := (hr.alloc (Nat.le_refl _) (.cells zer8 5)).2 (by have := HL.out; simp at h0; omega); exact ⟨ad, h1, h3⟩⟩) (by have := HL.out; simp; omega) (by intro v hv; obtain ⟨b, _, rfl⟩ := List.mem_map.1 hv; rfl) w.heap.size w ((Below.refl _ _).alloc (Nat.le_refl _) _) (Nat.le_refl _) ?_; intro w1 hw1 hb1)
  have hB : Blk w1 w.heap.size 5 (splice (List.replicate 64 (Value.int .u8 0)) 0 (l.map B8)).toArray := hw1.out
  have hst := Half.start l y (by have := HL.out; omega)
  generalize hg : w.heap.size = g at hB hb1
  generalize (splice (List.replicate 64 (Value.int .u8 0)) 0 (l.map B8)).toArray = cs0 at hB hst
  have HG := Lib.hid hg
  clear hw1 hmk hmin hr hg
  go_loopw [13] (fun q wr => ∃ (j : Nat) (cs : Array Value), j ≤ 64 ∧ q = .int .i64 j ∧ Blk wr g 5 cs ∧ Half l y j cs ∧ Below g w wr) (fun q _ => 64 - (intOf q).toNat)
  case atStart => exact ⟨0, cs0, by omega, rfl, hB, hst, hb1⟩
  case round =>
    obtain ⟨j, cs, hj, rfl, hB, hH, hb⟩ := hrel
    by_cases h64 : j < 64
    · have hcj : wr.cell? ⟨g, j, none⟩ = some (.int .u8 (l.getD j 0).toNat) := (hB.cell j).trans ((hH.2 j h64).trans (by rw [if_neg (by omega)]))
      have hfz := hB.frozen j
      have HH := Lib.hid hH.set_
      have HB := Lib.hid hB
      clear hH hB
      go_wp2
      go_roundw
      case rel => exact ⟨j + 1, _, by omega, by go_num, HB.out.set_ j _, HH.out, hb.setCell (Nat.le_refl _) _⟩
      case measure => simp [intOf]; omega
    · obtain rfl : j = 64 := by omega
      go_wp2
      go_ret
      exact ⟨_, rfl, hH.own hB (by rw [HG.out]; omega), by rw [HG.out]; exact hb⟩
theorem u8_info_ : ∃ i0, Tryd.prog.info? 5 = some i0 ∧ i0.zero = some (.int .u8 0) ∧ i0.size = 1 ∧ i0.bytes = 1 := by
  obtain ⟨i0, hi0, hz0, hz1, hz2⟩ := info_parts u8_info
  exact ⟨i0, hi0, hz0, hz1, hz2⟩
set_option maxRecDepth 100000 in
/-- slices.Grow of nil. -/
theorem Grow_any (n : Nat) (w : World) (hn : n ≤ 140737488355328) :
    Calls Tryd.prog 54 #[.slice none 0 0, .int .i64 n] w fun e w' => ∃ v, e = .returned v ∧ Own w' w.heap.size v [] ∧ Below w.heap.size w w' := by
  have h1 : ¬ ((n : Int) < 0) := by omega
  by_cases h0 : n = 0
  · subst h0
    go_enter Tryd.func54, Tryd.ntmps54
    go_wp2
    go_ret
    exact ⟨_, rfl, Own.nil_ _ _, Below.refl _ _⟩
  · have h4 : (n : Int) > 0 := by omega
    obtain ⟨i0, hi0, hz0, hz1, hz2⟩ := u8_info_
    have hrz : ∀ ty, (Builtin.append_ #[27, 3] ty #[.slice none 0 0, .int .i64 (n : Int)]).run Tryd.prog w =
        .ok (.slice (some ⟨w.heap.size, 0, none⟩) n (grownCap w n 0 5)) (w.drew.alloc (.cells (([] : List Value).toArray ++ Builtin.zeroCells (Value.int .u8 0).cells n ++ Builtin.zeroCells (Value.int .u8 0).cells (grownCap w n 0 5 - n)) 5)) := fun ty => by
      have h := Lib.run_append_grow_zeros w 27 3 ty 5 i0 (.int .u8 0) .i64 .i64 Tryd.underlying27 Tryd.underlying3 hi0 hz0 none 0 0 [] (run_firstCells_none w.drew i0.size 0 0 0) n (by omega) (by omega) (by omega) (by omega) (by rw [hz2]; omega)
        (by rw [Nat.zero_add]; exact growslice_fits (by omega) (by rw [hz2]; omega))
      rw [Nat.zero_add] at h
      exact h
    have hGn : n ≤ grownCap w n 0 5 := grownCap_ge w _ _ _
    have hG63 := grownCap_le_maxLen w n 0 5 (by unfold maxLen; omega)
    generalize grownCap w n 0 5 = G at hrz hGn hG63
    unfold maxLen at hG63
    have hG0 : ¬ G = 0 := by omega
    go_enter Tryd.func54, Tryd.ntmps54
    go_wp2_with (at_builtin; refine Lib.wpList_append_run _ rfl _ _ _ _ rfl _ _ rfl rfl _ _ (hrz _) ?_)
    go_ret
    refine ⟨_, rfl, ⟨by simp, Or.inr ⟨w.heap.size, G, _, rfl, Nat.le_refl _, heap_alloc_new w.drew _, by simp, ?_, ?_, by simp⟩⟩, (Below.refl _ _).drew.alloc (Nat.le_refl _) _⟩
    · unfold maxLen; omega
    · simp [Builtin.zeroCells, Value.cells]; omega
end Go.Proofs.YtinkclcdpcjnfaaDoor
