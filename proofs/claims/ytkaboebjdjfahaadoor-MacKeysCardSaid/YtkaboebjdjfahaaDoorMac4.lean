/- The walk of mac.Same. No conditions. -/
import Derived.Test.YtkaboebjdjfahaaDoorMac1
namespace Go.Proofs.YtkaboebjdjfahaaDoor
open Go.RowKit
theorem u8_or3 (x y z : UInt8) : bits .or .u8 (x.toNat : Int) ((y.toNat ^^^ z.toNat : Nat) : Int) = ((x.toNat ||| (y.toNat ^^^ z.toNat) : Nat) : Int) := by
  have := u8_or x (y ^^^ z)
  simpa using this
def unl (l1 l2 : List UInt8) : Nat → UInt8
  | 0 => 0
  | j + 1 => unl l1 l2 j ||| (l1.getD j 0 ^^^ l2.getD j 0)
theorem u8_or_zero (x y : UInt8) : x ||| y = 0 ↔ x = 0 ∧ y = 0 := by
  constructor
  · intro h
    have h' : x.toNat ||| y.toNat = 0 := by rw [← UInt8.toNat_or, h]; rfl
    have := Nat.or_eq_zero_iff.1 h'
    exact ⟨UInt8.toNat_inj.1 this.1, UInt8.toNat_inj.1 this.2⟩
  · rintro ⟨rfl, rfl⟩; rfl
theorem u8_xor_zero (x y : UInt8) : x ^^^ y = 0 ↔ x = y := UInt8.xor_eq_zero_iff
theorem unl_zero (l1 l2 : List UInt8) (j : Nat) : unl l1 l2 j = 0 ↔ ∀ k, k < j → l1.getD k 0 = l2.getD k 0 := by
  induction j with
  | zero => simp [unl]
  | succ j ih =>
    rw [unl, u8_or_zero, ih, u8_xor_zero]
    constructor
    · rintro ⟨h1, h2⟩ k hk
      by_cases e : k = j
      · subst e; exact h2
      · exact h1 k (by omega)
    · intro h; exact ⟨fun k hk => h k (by omega), h j (by omega)⟩
theorem unl_eq (l1 l2 : List UInt8) (h : l1.length = l2.length) : unl l1 l2 l1.length = 0 ↔ l1 = l2 := by
  rw [unl_zero]
  constructor
  · intro hk
    apply List.ext_getElem? 
    intro k
    by_cases hlt : k < l1.length
    · have := hk k hlt
      rw [List.getD_eq_getElem?_getD, List.getD_eq_getElem?_getD, List.getElem?_eq_getElem hlt, List.getElem?_eq_getElem (by omega)] at this
      rw [List.getElem?_eq_getElem hlt, List.getElem?_eq_getElem (by omega)]
      simpa using this
    · rw [List.getElem?_eq_none (by omega), List.getElem?_eq_none (by omega)]
  · rintro rfl k _; rfl
/-- The cells of a slice of bytes, one by one. -/
theorem Rd.cells_ {w : World} {B : Nat} {A : Option Addr} {n : Nat} {l : List UInt8} (h : Rd w B A n l) (hn : 0 < n) : ∃ b off, A = some ⟨b, off, none⟩ ∧ b < B ∧ ∀ j, j < n → w.cell? ⟨b, off + j, none⟩ = some (.int .u8 (l.getD j 0).toNat) := by
  obtain ⟨ad, h1, h2, h3⟩ := h.at_ hn
  obtain ⟨b, off, spot⟩ := ad
  have hsp : spot = none := by simpa [Addr.add] using World.cell?_spot h3
  subst hsp
  refine ⟨b, off, h1, h2, fun j hj => ?_⟩
  obtain ⟨ad', h1', _, h3'⟩ := h.at_ hj
  rw [h1] at h1'
  obtain rfl := Option.some.inj h1'
  have ha : (⟨b, off, none⟩ : Addr).add j = ⟨b, off + j, none⟩ := by unfold Addr.add; split <;> simp_all
  rw [← ha]; exact h3'
attribute [irreducible] unl
set_option maxRecDepth 100000 in
theorem Same_any (A1 : Option Addr) (n1 c1 : Nat) (A2 : Option Addr) (n2 c2 : Nat) (w : World) (B1 B2 : Nat) (l1 l2 : List UInt8) (hn : n1 ≤ 140737488355328) (hr1 : Rd w B1 A1 n1 l1) (hr2 : Rd w B2 A2 n2 l2) :
    Calls Tryd.prog 16 #[.slice A1 n1 c1, .slice A2 n2 c2] w fun e w' => e = .returned (.bool (decide (l1 = l2))) ∧ Below w.heap.size w w' := by
  have HL1 := Lib.hid hr1.len
  have HL2 := Lib.hid hr2.len
  by_cases hne : n1 = n2
  · subst hne
    have hall : ∃ b1 o1 b2 o2, (0 < n1 → A1 = some ⟨b1, o1, none⟩ ∧ A2 = some ⟨b2, o2, none⟩ ∧ (∀ j, j < n1 → w.cell? ⟨b1, o1 + j, none⟩ = some (.int .u8 (l1.getD j 0).toNat)) ∧ ∀ j, j < n1 → w.cell? ⟨b2, o2 + j, none⟩ = some (.int .u8 (l2.getD j 0).toNat)) := by
      by_cases h0 : 0 < n1
      · obtain ⟨b1, o1, h1, _, h2⟩ := hr1.cells_ h0
        obtain ⟨b2, o2, h3, _, h4⟩ := hr2.cells_ h0
        exact ⟨b1, o1, b2, o2, fun _ => ⟨h1, h3, h2, h4⟩⟩
      · exact ⟨0, 0, 0, 0, fun h => absurd h h0⟩
    obtain ⟨b1, o1, b2, o2, hall⟩ := hall
    have HA := Lib.hid hall; clear hall hr1 hr2
    go_enter Tryd.func16, Tryd.ntmps16
    go_wp2
    go_loopw [5, 14] (fun s q wr => ∃ (j : Nat), j ≤ n1 ∧ q = .int .i64 j ∧ s = .int .u8 (unl l1 l2 j).toNat ∧ ∃ d, wr = w.drewN d) (fun _ q _ => n1 - (intOf q).toNat)
    case atStart => exact ⟨0, by omega, rfl, by unfold unl; rfl, 0, rfl⟩
    case round =>
      obtain ⟨j, hj, rfl, rfl, d, rfl⟩ := hrel
      by_cases hlt : j < n1
      · obtain ⟨rfl, rfl, hc1, hc2⟩ := HA.out (by omega)
        have k1 : (w.drewN d).cell? ⟨b1, o1 + j, none⟩ = some (.int .u8 (l1.getD j 0).toNat) := hc1 j hlt
        have k2 : (w.drewN d).cell? ⟨b2, o2 + j, none⟩ = some (.int .u8 (l2.getD j 0).toNat) := hc2 j hlt
        have hu : unl l1 l2 j ||| (l1.getD j 0 ^^^ l2.getD j 0) = unl l1 l2 (j + 1) := by conv => rhs; unfold unl
        generalize l1.getD j 0 = x1 at k1 hu
        generalize l2.getD j 0 = x2 at k2 hu
        have HU := Lib.hid hu
        clear hc1 hc2 hu
        generalize hW : w.drewN d = W at k1 k2
        have HW := Lib.hid hW; clear hW
        go_wp2_with fail
        refine wp_region_q (by kernel_rfl) (by kernel_rfl) ?_
        repeat (first | go_big_quiet_skip | (go_big_quiet_want; go_big_quiet_op; first | go_big_quiet_on))
        refine wpQuiet_nil ?_
        go_wp2
        go_roundw
        case rel => exact ⟨j + 1, by omega, by go_num, by rw [← HU.out]; simp [u8_or3], d + 1, by rw [← HW.out]; rfl⟩
        case measure => simp [intOf]; omega
      · obtain rfl : j = n1 := by omega
        have hz : (unl l1 l2 j = 0) = (l1 = l2) := by rw [HL1.out]; exact propext (unl_eq l1 l2 (by rw [← HL1.out, ← HL2.out]))
        have hd : decide ((unl l1 l2 j).toNat = 0) = decide (l1 = l2) := by
          rw [decide_eq_decide, ← hz]
          exact ⟨fun h => UInt8.toNat_inj.1 h, fun h => by rw [h]; rfl⟩
        have hd2 : (((unl l1 l2 j).toNat : Int) == 0) = decide (l1 = l2) := by
          rw [← hd]
          by_cases h : (unl l1 l2 j).toNat = 0 <;> simp [h]
        clear hz hd
        go_wp2
        go_ret
        exact ⟨by simp, rfl, rfl, rfl, Nat.le_refl _, fun _ _ => rfl⟩
  · have hne' : ¬ l1 = l2 := by rintro rfl; exact hne (by rw [HL1.out, HL2.out])
    have hd : decide (l1 = l2) = false := decide_eq_false hne'
    rw [hd]
    have hb : ((n1 : Int) == (n2 : Int)) = false := by simp; omega
    clear hr1 hr2
    go_enter Tryd.func16, Tryd.ntmps16
    go_wp2
    go_ret
    exact ⟨rfl, Below.refl _ _⟩
end Go.Proofs.YtkaboebjdjfahaaDoor
