/- The reference's slot, layer 15: its power, its takes, its solid. No conditions but the sizes. -/
import Derived.Test.YtpdihggdopdolaaLaw15s
namespace Go.Proofs.Ytpdihggdopdolaa
open Go.RowKit
/-- The cells of the reference's slot. -/
abbrev RCells (room : Nat) (p : PW) (dirty : Bool) (v : Value) : Array Value := #[.int .i64 (room : Int), .int .i64 p.left, .int .i64 (p.writes : Int), .bool p.gone, .bool dirty, v]
theorem rtakes_any (A : Option Addr) (n c : Nat) (w : World) (hn : n ≤ 9223372036854775000) :
    Calls Try.prog 43 #[.slice A n c] w fun e w' => e = .returned (.int .i64 (takesOf n : Int)) ∧ w' = w := by
  go_enter Try.func43, Try.ntmps43
  go_wp2
  go_ret
  refine ⟨?_, rfl⟩
  unfold takesOf
  go_num
theorem rwrite_any (w : World) (R room : Nat) (p : PW) (dirty : Bool) (v : Value) (h : Blk w R 58 (RCells room p dirty v)) (hl : -1 ≤ p.left) (hl2 : p.left ≤ 9223372036854775807) (hw : p.writes ≤ 4611686018427387904) :
    Calls Try.prog 44 #[.pointer (some ⟨R, 0, none⟩)] w fun e w' => e = .returned (.bool (p.run 1).1) ∧ Blk w' R 58 (RCells room (p.run 1).2 dirty v) ∧ Keeps (fun k => k = R) w w' := by
  obtain ⟨left, gone, wr⟩ := p
  have c1 : w.cell? ⟨R, 1, none⟩ = some (.int .i64 left) := (h.cell 1).trans rfl
  have c2 : w.cell? ⟨R, 2, none⟩ = some (.int .i64 (wr : Int)) := (h.cell 2).trans rfl
  have c3 : w.cell? ⟨R, 3, none⟩ = some (.bool gone) := (h.cell 3).trans rfl
  have f1 := h.frozen 1; have f2 := h.frozen 2; have f3 := h.frozen 3
  have H := Lib.hid h
  have kr := Keeps.refl (fun k => k = R) w
  clear h
  simp only at hl hl2 hw
  by_cases h0 : left = 0
  · subst h0
    have hp : PW.run ⟨0, gone, wr⟩ 1 = (false, ⟨0, true, wr⟩) := by cases gone <;> rfl
    rw [hp]
    go_enter Try.func44, Try.ntmps44
    go_wp2
    go_ret
    exact ⟨rfl, H.out.set_ 3 (.bool true), kr.setCell (p := ⟨R, 3, none⟩) rfl _⟩
  · cases gone
    · by_cases hpos : 0 < left
      · have hp : PW.run ⟨left, false, wr⟩ 1 = (true, ⟨left - 1, false, wr + 1⟩) := by
          unfold PW.run
          rw [if_neg (by simp [h0]), if_pos hpos]
          rfl
        rw [hp]
        go_enter Try.func44, Try.ntmps44
        go_wp2
        go_ret
        exact ⟨rfl, by have h9 := (H.out.set_ 1 (.int .i64 (left - 1))).set_ 2 (.int .i64 ((wr : Int) + 1)); exact h9, (kr.setCell (p := ⟨R, 1, none⟩) rfl _).setCell (p := ⟨R, 2, none⟩) rfl _⟩
      · have hp : PW.run ⟨left, false, wr⟩ 1 = (true, ⟨left, false, wr + 1⟩) := by
          unfold PW.run
          rw [if_neg (by simp [h0]), if_neg hpos]
          rfl
        rw [hp]
        go_enter Try.func44, Try.ntmps44
        go_wp2
        go_ret
        exact ⟨rfl, H.out.set_ 2 (.int .i64 ((wr : Int) + 1)), kr.setCell (p := ⟨R, 2, none⟩) rfl _⟩
    · have hp : PW.run ⟨left, true, wr⟩ 1 = (false, ⟨left, true, wr⟩) := rfl
      rw [hp]
      go_enter Try.func44, Try.ntmps44
      go_wp2
      go_ret
      exact ⟨rfl, H.out, kr⟩
set_option maxRecDepth 100000 in
theorem solid_any (w : World) (B : Nat) (A : Option Addr) (n c : Nat) (l : List UInt8) (i : Nat) (hn : n ≤ 16384) (hi : i ≤ 600) (hr : Rd w B A n l) :
    Calls Try.prog 45 #[.slice A n c, .int .i64 (i : Int)] w fun e w' => (∃ b, e = .returned (.bool b)) ∧ w' = w := by
  have HR := Lib.hid hr
  clear hr
  go_enter Try.func45, Try.ntmps45
  go_wp2_with fail
  go_loop [5] (fun q => ∃ j : Nat, j ≤ 40000 ∧ q = .int .i64 (j : Int)) (fun q => 60000 - (intOf q).toNat)
  case atStart => exact ⟨32 * i, by omega, by go_num⟩
  case round =>
    obtain ⟨j, hj, rfl⟩ := hrel
    by_cases h1 : j < n
    · have h1' : (j : Int) < (n : Int) := by omega
      by_cases h2 : j < 32 * i + 32
      · have h2' : (j : Int) < 32 * (i : Int) + 32 := by omega
        obtain ⟨ad, rfl, _, hc⟩ := HR.out.at_ h1
        by_cases hz : l.getD j 0 = 0
        · rw [hz] at hc
          go_wp2_with fail
          exact ⟨⟨j + 1, by omega, by go_num⟩, by simp [intOf]; omega⟩
        · have hz' : ((l.getD j 0).toNat : Int) ≠ 0 := fun e => hz (by
            have : (l.getD j 0).toNat = 0 := by omega
            exact UInt8.toNat_inj.1 this)
          generalize ((l.getD j 0).toNat : Int) = yv at hc hz'
          go_wp2_with fail
          go_ret
          exact ⟨by first | exact Or.inl rfl | exact Or.inr rfl, rfl⟩
      · have h2' : ¬ (j : Int) < 32 * (i : Int) + 32 := by omega
        go_wp2_with fail
        go_ret
        exact ⟨by first | exact Or.inl rfl | exact Or.inr rfl, rfl⟩
    · have h1' : ¬ (j : Int) < (n : Int) := by omega
      go_wp2_with fail
      go_ret
      exact ⟨by first | exact Or.inl rfl | exact Or.inr rfl, rfl⟩
end Go.Proofs.Ytpdihggdopdolaa
