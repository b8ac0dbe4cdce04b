/- The walks of layer 12's laws WordNone and WordBad. Condition: the slice takes at most the form's own reach. -/
import Derived.Test.YtobponlakldplaaLaw12
namespace Go.Proofs.Ytobponlakldplaa
open Go.RowKit
theorem WInt_none (w : World) (n : Int) : Calls Try.prog 15 #[.pointer none, .int .i64 n] w fun e w' => e = .returned (.tuple #[]) ∧ w' = w := by
  go_enter Try.func15, Try.ntmps15
  go_wp2
  (try simp only [Exit.inBlock, Exit.then]); refine bodyPost_ret (results_none rfl _ _ _) rfl ?_
  exact ⟨rfl, rfl⟩
theorem WBytes_none (w : World) (A : Option Addr) (n c : Nat) : Calls Try.prog 13 #[.pointer none, .slice A n c] w fun e w' => e = .returned (.tuple #[]) ∧ w' = w := by
  go_enter Try.func13, Try.ntmps13
  go_wp2
  (try simp only [Exit.inBlock, Exit.then]); refine bodyPost_ret (results_none rfl _ _ _) rfl ?_
  exact ⟨rfl, rfl⟩
theorem WOut_none (w : World) : Calls Try.prog 17 #[.pointer none] w fun e w' => e = .returned (.tuple #[.slice none 0 0, .bool false]) ∧ w' = w := by
  go_enter Try.func17, Try.ntmps17
  go_wp2
  go_ret2
  exact ⟨rfl, rfl⟩
theorem RInt_none (w : World) : Calls Try.prog 22 #[.pointer none] w fun e w' => e = .returned (.int .i64 0) ∧ w' = w := by
  go_enter Try.func22, Try.ntmps22
  go_wp2
  go_ret
  exact ⟨rfl, rfl⟩
theorem RBytes_none (w : World) : Calls Try.prog 21 #[.pointer none] w fun e w' => e = .returned (.slice none 0 0) ∧ w' = w := by
  go_enter Try.func21, Try.ntmps21
  go_wp2
  go_ret
  exact ⟨rfl, rfl⟩
theorem Done_none (w : World) : Calls Try.prog 20 #[.pointer none] w fun e w' => e = .returned (.bool false) ∧ w' = w := by
  go_enter Try.func20, Try.ntmps20
  go_wp2
  go_ret
  exact ⟨rfl, rfl⟩
set_option maxRecDepth 100000 in
theorem WordNone_any (n : Int) (A : Option Addr) (m c : Nat) (w : World) (l : List UInt8) (_h0 : -9223372036854775808 ≤ n) (_h1 : n ≤ 9223372036854775807) (_hm : m ≤ 140737488351232) (_hr : Rd w w.heap.size A m l) :
    Calls Try.prog 5 #[.int .i64 n, .slice A m c] w fun e w' => e = .returned (.bool true) ∧ Below w.heap.size w w' := by
  go_enter Try.func5, Try.ntmps5
  go_wp2_with fail
  refine (WInt_none w n).mono ?_
  rintro e w1 ⟨rfl, rfl⟩
  go_wp2_with fail
  refine (WBytes_none _ A m c).mono ?_
  rintro e w2 ⟨rfl, rfl⟩
  go_wp2_with fail
  refine (WOut_none _).mono ?_
  rintro e w3 ⟨rfl, rfl⟩
  go_wp2_with fail
  refine (answers12_any _).mono ?_
  rintro e w4 ⟨rfl, hb⟩
  go_wp2_with (first
    | (go_at_call 22; refine (RInt_none _).mono ?_; rintro e w5 ⟨rfl, rfl⟩)
    | (go_at_call 21; refine (RBytes_none _).mono ?_; rintro e w6 ⟨rfl, rfl⟩)
    | (go_at_call 20; refine (Done_none _).mono ?_; rintro e w7 ⟨rfl, rfl⟩)
    | fail)
  go_ret
  exact ⟨rfl, hb⟩
/-- ref.Int: has a number bytes? -/
theorem RefInt_any (w : World) (n : Int) : Calls Try.prog 23 #[.int .i64 n] w fun e w' => ∃ v, e = .returned (.tuple #[v, .bool (decide (-2 ≤ n ∧ n ≤ 2147483645))]) ∧ Below w.heap.size w w' := by
  by_cases hlo : n < -2
  · have hd : decide (-2 ≤ n ∧ n ≤ 2147483645) = false := by simp; omega
    rw [hd]
    go_enter Try.func23, Try.ntmps23
    go_wp2
    go_ret2
    exact ⟨_, rfl, Below.refl _ _⟩
  · by_cases hhi : n > 2147483645
    · have hd : decide (-2 ≤ n ∧ n ≤ 2147483645) = false := by simp; omega
      rw [hd]
      go_enter Try.func23, Try.ntmps23
      go_wp2
      go_ret2
      first | exact ⟨_, rfl, Below.refl _ _⟩ | exact ⟨⟨_, rfl⟩, Below.refl _ _⟩
    · have hd : decide (-2 ≤ n ∧ n ≤ 2147483645) = true := by simp; omega
      rw [hd]
      obtain ⟨m, rfl⟩ : ∃ m : Nat, n = (m : Int) - 2 := ⟨(n + 2).toNat, by omega⟩
      have hm : m ≤ 2147483647 := by omega
      have e3 : (m : Int) - 2 + 2 = m := by omega
      clear hd
      go_enter Try.func23, Try.ntmps23
      go_wp2
      go_ret2
      first | exact ⟨_, rfl, (Below.refl _ _).alloc (Nat.le_refl _) _⟩ | exact ⟨⟨_, rfl⟩, (Below.refl _ _).alloc (Nat.le_refl _) _⟩
set_option maxRecDepth 100000 in
theorem WordBad_any (n : Int) (A : Option Addr) (k c : Nat) (m : Int) (w : World) (l : List UInt8) (_h0 : -9223372036854775808 ≤ n) (_h1 : n ≤ 9223372036854775807) (_hk : k ≤ 140737488351232) (_h2 : -9223372036854775808 ≤ m) (_h3 : m ≤ 9223372036854775807) (hr : Rd w w.heap.size A k l) :
    Calls Try.prog 6 #[.int .i64 n, .slice A k c, .int .i64 m] w fun e w' => e = .returned (.bool true) ∧ Below w.heap.size w w' := by
  have hkl := hr.len
  have hs1 : ((({ out := [], bad := false } : WS).bytes l).out.length ≤ 65537) := by
    unfold WS.bytes
    split
    · simp [b2]; omega
    · simp
  have hs2 : (((({ out := [], bad := false } : WS).bytes l).int n).out.length ≤ 65541) := by
    unfold WS.int
    split
    · simp only [List.length_append]; have : (b4 (n + 2).toNat).length = 4 := rfl; omega
    · exact Nat.le_trans hs1 (by omega)
  have hs3 : ((((({ out := [], bad := false } : WS).bytes l).int n).int m).out.length ≤ 65545) := by
    unfold WS.int at *
    split
    · simp only [List.length_append]; have : (b4 (m + 2).toNat).length = 4 := rfl; omega
    · exact Nat.le_trans hs2 (by omega)
  have hbad : (((({ out := [], bad := false } : WS).bytes l).int n).int m).bad = !(decide (-2 ≤ n ∧ n ≤ 2147483645) && (decide (-2 ≤ m ∧ m ≤ 2147483645) && decide (l.length ≤ 65535))) := by
    unfold WS.int WS.bytes
    by_cases h1 : l.length ≤ 65535 <;> by_cases h2 : (-2 ≤ n ∧ n ≤ 2147483645) <;> by_cases h3 : (-2 ≤ m ∧ m ≤ 2147483645) <;> simp [h1, h2, h3]
  have HS1 := Lib.hid hs1; have HS2 := Lib.hid hs2; have HS3 := Lib.hid hs3; have HBAD := Lib.hid hbad; have HKL := Lib.hid hkl
  clear hs1 hs2 hs3 hbad hkl
  go_enter Try.func6, Try.ntmps6
  go_wp2_with fail
  refine (WNew_any w).mono ?_
  rintro e w1 ⟨D, rfl, hd1, hb1⟩
  go_wp2_with fail
  refine (WBytes_any w1 (fun k => w.heap.size ≤ k) D _ A k c l hd1 (fun W hW => (hr.below (hb1.trans (hW.below (fun _ e => e) hb1.size))).more hb1.size) (by simp)).mono ?_
  rintro e w2 ⟨rfl, hd2, hk2⟩
  have hb2 : Below w.heap.size w w2 := hb1.trans (hk2.below (fun _ e => e) hb1.size)
  replace hd2 := hd2.back hb1.size
  clear hd1 hk2
  generalize (({ out := [], bad := false } : WS).bytes l) = s1 at *
  go_wp2_with fail
  refine (WInt_any w2 _ D s1 n hd2 (by have := HS1.out; omega)).mono ?_
  rintro e w3 ⟨rfl, hd3, hk3⟩
  have hb3 : Below w.heap.size w w3 := hb2.trans (hk3.below (fun _ e => e) hb2.size)
  replace hd3 := hd3.back hb2.size
  clear hd2 hk3
  generalize s1.int n = s2 at *
  go_wp2_with fail
  refine (WInt_any w3 _ D s2 m hd3 (by have := HS2.out; omega)).mono ?_
  rintro e w4 ⟨rfl, hd4, hk4⟩
  have hb4 : Below w.heap.size w w4 := hb3.trans (hk4.below (fun _ e => e) hb3.size)
  obtain ⟨v4, hw4, _, _⟩ := hd4
  clear hd3 hk4
  generalize s2.int m = s3 at *
  go_wp2_with fail
  refine (WOut_any w4 D v4 s3 hw4 (by have := HS3.out; omega)).mono ?_
  rintro e w5 ⟨v5, rfl, _, hb45⟩
  have hb5 : Below w.heap.size w w5 := hb4.trans (hb45.mono hb4.size)
  rw [HBAD.out, Bool.not_not]
  obtain ⟨X, hX⟩ : ∃ X, X = decide (-2 ≤ n ∧ n ≤ 2147483645) := ⟨_, rfl⟩
  obtain ⟨Y, hY⟩ : ∃ Y, Y = decide (-2 ≤ m ∧ m ≤ 2147483645) := ⟨_, rfl⟩
  rw [← hX, ← hY]
  have HX := Lib.hid hX; have HY := Lib.hid hY
  clear hX hY hb45 hw4
  go_wp2_with fail
  refine (RefInt_any w5 n).mono ?_
  rintro e w6 ⟨v6, rfl, hb56⟩
  rw [← HX.out]
  have hb6 : Below w.heap.size w w6 := hb5.trans (hb56.mono hb5.size)
  go_wp2_with fail
  refine (RefInt_any w6 m).mono ?_
  rintro e w7 ⟨v7, rfl, hb67⟩
  rw [← HY.out]
  have hb7 : Below w.heap.size w w7 := hb6.trans (hb67.mono hb6.size)
  go_wp2_with fail
  refine (answers12_any w7).mono ?_
  rintro e w8 ⟨rfl, hb78⟩
  have hb8 : Below w.heap.size w w8 := hb7.trans (hb78.mono hb7.size)
  rw [← HKL.out]
  clear hb78 hb67 hb56
  by_cases hk6 : k ≤ 65535
  · have hk6' : (k : Int) ≤ 65535 := by omega
    have hd6 : decide (k ≤ 65535) = true := by simp [hk6]
    rw [hd6]
    cases X <;> cases Y <;> (go_wp2; go_ret; exact ⟨rfl, hb8⟩)
  · have hk6' : ¬ (k : Int) ≤ 65535 := by omega
    have hd6 : decide (k ≤ 65535) = false := by simp [hk6]
    rw [hd6]
    cases X <;> cases Y <;> (go_wp2; go_ret; refine ⟨?_, hb8⟩; first | rfl | (show Ending.returned (.bool (!decide ((k : Int) ≤ 65535))) = _; simp [hk6']))
end Go.Proofs.Ytobponlakldplaa
