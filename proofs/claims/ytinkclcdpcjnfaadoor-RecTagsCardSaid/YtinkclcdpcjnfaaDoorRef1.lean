/- Words of 32 bits held in ints; the walks of the reference's turn and constants. No conditions. -/
import Derived.Test.YtinkclcdpcjnfaaDoorProg
import Derived.Test.YtinkclcdpcjnfaaDoorShaSpec
import Derived.Test.YtinkclcdpcjnfaaDoorBytes
namespace Go.Proofs.YtinkclcdpcjnfaaDoor
open Go.RowKit
theorem wrap_i64 (n : Int) (h0 : -9223372036854775808 ≤ n) (h1 : n < 9223372036854775808) : IntKind.i64.wrap n = n := IntWalk.i64_in n ⟨h0, by omega⟩
theorem i64_ofInt (x : UInt32) : BitVec.ofInt 64 (n32 x) = (x.toBitVec).setWidth 64 := by
  unfold n32
  apply BitVec.eq_of_toNat_eq
  simp
theorem i64_bits_back (x : UInt32) : IntKind.i64.wrap (((x.toBitVec).setWidth 64).toNat : Int) = n32 x := by
  have := x.toNat_lt
  have e : ((x.toBitVec).setWidth 64).toNat = x.toNat := by simp
  rw [e]
  exact wrap_i64 _ (by omega) (by omega)
@[go_sem] theorem i64_xor (x y : UInt32) : bits .xor .i64 (n32 x) (n32 y) = n32 (x ^^^ y) := by
  have h := i64_bits_back (x ^^^ y)
  simp only [bits, IntKind.bits, i64_ofInt]
  rw [← h]
  congr 2
@[go_sem] theorem i64_and (x y : UInt32) : bits .and .i64 (n32 x) (n32 y) = n32 (x &&& y) := by
  have h := i64_bits_back (x &&& y)
  simp only [bits, IntKind.bits, i64_ofInt]
  rw [← h]
  congr 2
@[go_sem] theorem i64_not (x : UInt32) : IntKind.i64.wrap (4294967295 - n32 x) = n32 (~~~x) := by
  have h0 := u32_lo x
  have h1 := u32_hi x
  rw [wrap_i64 _ (by omega) (by omega)]
  unfold n32
  have := x.toNat_lt
  have h2 : (~~~x).toNat = 4294967295 - x.toNat := by
    rw [UInt32.toNat_not]; rfl
  rw [h2]
  omega
@[go_sem] theorem i64_w2 (a b : UInt32) : IntKind.i64.wrap (n32 a + n32 b) = n32 a + n32 b := by
  have la := u32_lo a
  have ha := u32_hi a
  have lb := u32_lo b
  have hb := u32_hi b
  exact wrap_i64 _ (by omega) (by omega)
theorem mod_w2 (a b : UInt32) : (n32 a + n32 b) % (4294967296 : Int) = n32 (a + b) := u32_add a b
@[go_sem] theorem tmod_w2 (a b : UInt32) : Int.tmod (n32 a + n32 b) 4294967296 = n32 (a + b) := by
  have la := u32_lo a
  have ha := u32_hi a
  have lb := u32_lo b
  have hb := u32_hi b
  rw [Int.tmod_eq_emod_of_nonneg (by omega)]
  exact mod_w2 ..
@[go_sem] theorem i64_w3 (a b c : UInt32) : IntKind.i64.wrap (n32 a + n32 b + n32 c) = n32 a + n32 b + n32 c := by
  have la := u32_lo a
  have ha := u32_hi a
  have lb := u32_lo b
  have hb := u32_hi b
  have lc := u32_lo c
  have hc := u32_hi c
  exact wrap_i64 _ (by omega) (by omega)
theorem mod_w3 (a b c : UInt32) : (n32 a + n32 b + n32 c) % (4294967296 : Int) = n32 (a + b + c) := by
  simp only [← u32_add]
  omega
@[go_sem] theorem tmod_w3 (a b c : UInt32) : Int.tmod (n32 a + n32 b + n32 c) 4294967296 = n32 (a + b + c) := by
  have la := u32_lo a
  have ha := u32_hi a
  have lb := u32_lo b
  have hb := u32_hi b
  have lc := u32_lo c
  have hc := u32_hi c
  rw [Int.tmod_eq_emod_of_nonneg (by omega)]
  exact mod_w3 ..
@[go_sem] theorem i64_w4 (a b c d : UInt32) : IntKind.i64.wrap (n32 a + n32 b + n32 c + n32 d) = n32 a + n32 b + n32 c + n32 d := by
  have la := u32_lo a
  have ha := u32_hi a
  have lb := u32_lo b
  have hb := u32_hi b
  have lc := u32_lo c
  have hc := u32_hi c
  have ld := u32_lo d
  have hd := u32_hi d
  exact wrap_i64 _ (by omega) (by omega)
theorem mod_w4 (a b c d : UInt32) : (n32 a + n32 b + n32 c + n32 d) % (4294967296 : Int) = n32 (a + b + c + d) := by
  simp only [← u32_add]
  omega
@[go_sem] theorem tmod_w4 (a b c d : UInt32) : Int.tmod (n32 a + n32 b + n32 c + n32 d) 4294967296 = n32 (a + b + c + d) := by
  have la := u32_lo a
  have ha := u32_hi a
  have lb := u32_lo b
  have hb := u32_hi b
  have lc := u32_lo c
  have hc := u32_hi c
  have ld := u32_lo d
  have hd := u32_hi d
  rw [Int.tmod_eq_emod_of_nonneg (by omega)]
  exact mod_w4 ..
@[go_sem] theorem i64_w5 (a b c d e : UInt32) : IntKind.i64.wrap (n32 a + n32 b + n32 c + n32 d + n32 e) = n32 a + n32 b + n32 c + n32 d + n32 e := by
  have la := u32_lo a
  have ha := u32_hi a
  have lb := u32_lo b
  have hb := u32_hi b
  have lc := u32_lo c
  have hc := u32_hi c
  have ld := u32_lo d
  have hd := u32_hi d
  have le := u32_lo e
  have he := u32_hi e
  exact wrap_i64 _ (by omega) (by omega)
theorem mod_w5 (a b c d e : UInt32) : (n32 a + n32 b + n32 c + n32 d + n32 e) % (4294967296 : Int) = n32 (a + b + c + d + e) := by
  simp only [← u32_add]
  omega
@[go_sem] theorem tmod_w5 (a b c d e : UInt32) : Int.tmod (n32 a + n32 b + n32 c + n32 d + n32 e) 4294967296 = n32 (a + b + c + d + e) := by
  have la := u32_lo a
  have ha := u32_hi a
  have lb := u32_lo b
  have hb := u32_hi b
  have lc := u32_lo c
  have hc := u32_hi c
  have ld := u32_lo d
  have hd := u32_hi d
  have le := u32_lo e
  have he := u32_hi e
  rw [Int.tmod_eq_emod_of_nonneg (by omega)]
  exact mod_w5 ..
@[go_sem] theorem i64_w6 (a b c d e f : UInt32) : IntKind.i64.wrap (n32 f + (n32 a + n32 b + n32 c + n32 d + n32 e)) = n32 f + (n32 a + n32 b + n32 c + n32 d + n32 e) := by
  have la := u32_lo a
  have ha := u32_hi a
  have lb := u32_lo b
  have hb := u32_hi b
  have lc := u32_lo c
  have hc := u32_hi c
  have ld := u32_lo d
  have hd := u32_hi d
  have le := u32_lo e
  have he := u32_hi e
  have lf := u32_lo f
  have hf := u32_hi f
  exact wrap_i64 _ (by omega) (by omega)
theorem mod_w6 (a b c d e f : UInt32) : (n32 f + (n32 a + n32 b + n32 c + n32 d + n32 e)) % (4294967296 : Int) = n32 (f + (a + b + c + d + e)) := by
  simp only [← u32_add]
  omega
@[go_sem] theorem tmod_w6 (a b c d e f : UInt32) : Int.tmod (n32 f + (n32 a + n32 b + n32 c + n32 d + n32 e)) 4294967296 = n32 (f + (a + b + c + d + e)) := by
  have la := u32_lo a
  have ha := u32_hi a
  have lb := u32_lo b
  have hb := u32_hi b
  have lc := u32_lo c
  have hc := u32_hi c
  have ld := u32_lo d
  have hd := u32_hi d
  have le := u32_lo e
  have he := u32_hi e
  have lf := u32_lo f
  have hf := u32_hi f
  rw [Int.tmod_eq_emod_of_nonneg (by omega)]
  exact mod_w6 ..
@[go_sem] theorem i64_w7 (a b c d e f g : UInt32) : IntKind.i64.wrap (n32 a + n32 b + n32 c + n32 d + n32 e + (n32 f + n32 g)) = n32 a + n32 b + n32 c + n32 d + n32 e + (n32 f + n32 g) := by
  have la := u32_lo a
  have ha := u32_hi a
  have lb := u32_lo b
  have hb := u32_hi b
  have lc := u32_lo c
  have hc := u32_hi c
  have ld := u32_lo d
  have hd := u32_hi d
  have le := u32_lo e
  have he := u32_hi e
  have lf := u32_lo f
  have hf := u32_hi f
  have lg := u32_lo g
  have hg := u32_hi g
  exact wrap_i64 _ (by omega) (by omega)
theorem mod_w7 (a b c d e f g : UInt32) : (n32 a + n32 b + n32 c + n32 d + n32 e + (n32 f + n32 g)) % (4294967296 : Int) = n32 (a + b + c + d + e + (f + g)) := by
  simp only [← u32_add]
  omega
@[go_sem] theorem tmod_w7 (a b c d e f g : UInt32) : Int.tmod (n32 a + n32 b + n32 c + n32 d + n32 e + (n32 f + n32 g)) 4294967296 = n32 (a + b + c + d + e + (f + g)) := by
  have la := u32_lo a
  have ha := u32_hi a
  have lb := u32_lo b
  have hb := u32_hi b
  have lc := u32_lo c
  have hc := u32_hi c
  have ld := u32_lo d
  have hd := u32_hi d
  have le := u32_lo e
  have he := u32_hi e
  have lf := u32_lo f
  have hf := u32_hi f
  have lg := u32_lo g
  have hg := u32_hi g
  rw [Int.tmod_eq_emod_of_nonneg (by omega)]
  exact mod_w7 ..
theorem turn_raw (x : UInt32) (n : Nat) (h0 : 0 < n) (h : n < 32) : IntKind.i64.wrap (n32 x / 2 ^ n + Int.tmod (IntKind.i64.wrap (n32 x * 2 ^ (32 - n))) 4294967296) = n32 (rotr x n) := by
  have l := u32_lo x
  have u := u32_hi x
  have e1 := u32_shl x (32 - n) (by omega)
  rw [wrap_u32] at e1
  have hp : (2 : Int) ^ (32 - n) ≤ 2147483648 := by
    have : (2 : Int) ^ (32 - n) = ((2 ^ (32 - n) : Nat) : Int) := by rw [Int.natCast_pow]; rfl
    rw [this]
    have h2 : 2 ^ (32 - n) ≤ 2 ^ 31 := Nat.pow_le_pow_right (by omega) (by omega)
    omega
  have hp0 : (0 : Int) ≤ 2 ^ (32 - n) := Int.pow_nonneg (by omega)
  have hm : n32 x * 2 ^ (32 - n) ≤ 4294967295 * 2147483648 := Int.mul_le_mul (by omega) hp hp0 (by omega)
  have hm0 : 0 ≤ n32 x * 2 ^ (32 - n) := Int.mul_nonneg l hp0
  rw [wrap_i64 (n32 x * 2 ^ (32 - n)) (by omega) (by omega), Int.tmod_eq_emod_of_nonneg hm0, e1, u32_shr x n h]
  have e2 : n32 (x >>> UInt32.ofNat n) + n32 (x <<< UInt32.ofNat (32 - n)) = n32 (rotr x n) := by
    unfold n32 rotr
    have hx := x.toNat_lt
    rw [UInt32.toNat_or, UInt32.toNat_shiftLeft, UInt32.toNat_shiftRight, UInt32.toNat_ofNat', UInt32.toNat_ofNat']
    rw [Nat.mod_eq_of_lt (a := n) (by omega), Nat.mod_eq_of_lt (a := 32 - n) (by omega), Nat.mod_eq_of_lt h, Nat.mod_eq_of_lt (a := 32 - n) (by omega)]
    have key : ∀ m : Nat, n + m = 32 → (x.toNat <<< m) % 2 ^ 32 = (x.toNat % 2 ^ n) <<< m := by
      intro m hm
      rw [← hm, Nat.pow_add, Nat.shiftLeft_eq, Nat.shiftLeft_eq, Nat.mul_mod_mul_right]
    have hd := key (32 - n) (by omega)
    rw [hd, Nat.shiftRight_eq_div_pow]
    have hlt : x.toNat / 2 ^ n < 2 ^ (32 - n) := by
      rw [Nat.div_lt_iff_lt_mul (Nat.two_pow_pos n), ← Nat.pow_add, show 32 - n + n = 32 by omega]
      exact hx
    rw [← Nat.shiftLeft_add_eq_or_of_lt hlt]
    omega
  rw [e2]
  exact wrap_i64 _ (by have := u32_lo (rotr x n); omega) (by have := u32_hi (rotr x n); omega)
theorem wrapEq (x : Int) : wrap64 x = IntKind.i64.wrap x := by rw [IntKind.wrap_i64]; unfold wrap64; rfl
theorem turn_any (x : UInt32) (k : Int) (n : Nat) (hk : k = (n : Int)) (h0 : 0 < n) (h : n < 32) (w : World) :
    Calls Tryd.prog 56 #[.int .i64 (n32 x), .int .i64 k] w fun e w' => e = .returned (.int .i64 (n32 (rotr x n))) ∧ w' = w := by
  subst hk
  have l := u32_lo x
  have u := u32_hi x
  have h32 : (n : Int) < 32 := by omega
  go_enter Tryd.func56, Tryd.ntmps56
  go_wp2
  go_ret
  exact ⟨congrArg (fun z => Ending.returned (.int .i64 z)) (by rw [wrapEq, wrapEq]; exact turn_raw x n h0 h), rfl⟩
theorem turn_17 (x : UInt32) (w : World) : Calls Tryd.prog 56 #[.int .i64 (n32 x), .int .i64 17] w fun e w' => e = .returned (.int .i64 (n32 (rotr x 17))) ∧ w' = w := turn_any x 17 17 rfl (by omega) (by omega) w
theorem turn_19 (x : UInt32) (w : World) : Calls Tryd.prog 56 #[.int .i64 (n32 x), .int .i64 19] w fun e w' => e = .returned (.int .i64 (n32 (rotr x 19))) ∧ w' = w := turn_any x 19 19 rfl (by omega) (by omega) w
theorem turn_7 (x : UInt32) (w : World) : Calls Tryd.prog 56 #[.int .i64 (n32 x), .int .i64 7] w fun e w' => e = .returned (.int .i64 (n32 (rotr x 7))) ∧ w' = w := turn_any x 7 7 rfl (by omega) (by omega) w
theorem turn_18 (x : UInt32) (w : World) : Calls Tryd.prog 56 #[.int .i64 (n32 x), .int .i64 18] w fun e w' => e = .returned (.int .i64 (n32 (rotr x 18))) ∧ w' = w := turn_any x 18 18 rfl (by omega) (by omega) w
theorem turn_6 (x : UInt32) (w : World) : Calls Tryd.prog 56 #[.int .i64 (n32 x), .int .i64 6] w fun e w' => e = .returned (.int .i64 (n32 (rotr x 6))) ∧ w' = w := turn_any x 6 6 rfl (by omega) (by omega) w
theorem turn_11 (x : UInt32) (w : World) : Calls Tryd.prog 56 #[.int .i64 (n32 x), .int .i64 11] w fun e w' => e = .returned (.int .i64 (n32 (rotr x 11))) ∧ w' = w := turn_any x 11 11 rfl (by omega) (by omega) w
theorem turn_25 (x : UInt32) (w : World) : Calls Tryd.prog 56 #[.int .i64 (n32 x), .int .i64 25] w fun e w' => e = .returned (.int .i64 (n32 (rotr x 25))) ∧ w' = w := turn_any x 25 25 rfl (by omega) (by omega) w
theorem turn_2 (x : UInt32) (w : World) : Calls Tryd.prog 56 #[.int .i64 (n32 x), .int .i64 2] w fun e w' => e = .returned (.int .i64 (n32 (rotr x 2))) ∧ w' = w := turn_any x 2 2 rfl (by omega) (by omega) w
theorem turn_13 (x : UInt32) (w : World) : Calls Tryd.prog 56 #[.int .i64 (n32 x), .int .i64 13] w fun e w' => e = .returned (.int .i64 (n32 (rotr x 13))) ∧ w' = w := turn_any x 13 13 rfl (by omega) (by omega) w
theorem turn_22 (x : UInt32) (w : World) : Calls Tryd.prog 56 #[.int .i64 (n32 x), .int .i64 22] w fun e w' => e = .returned (.int .i64 (n32 (rotr x 22))) ∧ w' = w := turn_any x 22 22 rfl (by omega) (by omega) w
def I (x : UInt32) : Value := .int .i64 (n32 x)
def kcells : Array Value := (ks.map I).toArray
set_option maxRecDepth 100000 in
theorem constants_any (w : World) : Calls Tryd.prog 55 #[] w fun e w' => e = .returned (.slice (some ⟨w.heap.size, 0, none⟩) 64 64) ∧ w' = w.alloc (.cells kcells 3) := by
  go_enter Tryd.func55, Tryd.ntmps55
  go_wp2
  go_ret
  exact ⟨rfl, rfl⟩
end Go.Proofs.YtinkclcdpcjnfaaDoor
