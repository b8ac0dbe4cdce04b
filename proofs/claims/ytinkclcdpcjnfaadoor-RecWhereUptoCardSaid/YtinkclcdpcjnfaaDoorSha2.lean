/- The walk of sha.padded. Condition: the slice takes at most the form's own reach. -/
import Derived.Test.YtinkclcdpcjnfaaDoorProg
import Derived.Test.YtinkclcdpcjnfaaDoorShaSpec
import Derived.Test.YtinkclcdpcjnfaaDoorBytes
namespace Go.Proofs.YtinkclcdpcjnfaaDoor
open Go.RowKit
set_option maxRecDepth 100000 in
theorem padded_any (A : Option Addr) (n c : Nat) (w : World) (l : List UInt8) (hn : n ≤ 140737488355000) (hr : Rd w w.heap.size A n l) :
    Calls Tryd.prog 52 #[.slice A n c] w fun e w' => ∃ v, e = .returned v ∧ Own w' w.heap.size v (pad l) ∧ Below w.heap.size w w' := by
  obtain rfl := hr.len
  go_enter Tryd.func52, Tryd.ntmps52
  go_wp2_with (first
    | (at_builtin; refine app_bytes rfl (.tmp 6) (.tmp 7) rfl w.heap.size (.slice (some ⟨w.heap.size, 0, none⟩) 0 0) [] rfl (Own.new_ w w.heap.size (Nat.le_refl _) [] (by simp) _ rfl) w.heap.size A l.length c l rfl (hr.alloc (Nat.le_refl _) _) (by simp; omega) (by simp) ?_; intro v1 w1 hown1 hg1 hat1)
    | (at_builtin; refine app_bytes rfl (.tmp 8) (.tmp 9) rfl w.heap.size v1 _ rfl (hown1.alloc _) (w1.heap.size + 1) _ 1 1 [128] rfl (Rd.new_ w1 [128] _ rfl 1 rfl) (by simp; omega) (by have := hg1.size; simp at this ⊢; omega) ?_; intro v2 w2 hown2 hg2 hat2))
  have hb1 := below_app ((Below.refl w.heap.size w).alloc (Nat.le_refl _) _) (Own.new_ w w.heap.size (Nat.le_refl _) [] (by simp) _ rfl) (by simp) hg1
  have hb2 := below_app (hb1.alloc hb1.size (.cells #[.int .u8 128] 5)) (hown1.alloc _) (by have := hb1.size; simp; omega) hg2
  obtain ⟨A2, c2, rfl⟩ := hown2.shape
  clear hown1 hg1 hat1 hb1 hg2 hat2
  simp only [List.nil_append, List.length_append, List.length_cons, List.length_nil, Nat.zero_add] at hown2 ⊢
  go_loopw [3] (fun v wr => ∃ (j : Nat) (A' : Option Addr) (c' : Nat), j ≤ noughts l.length ∧ v = .slice A' (l.length + 1 + j) c' ∧ Own wr w.heap.size (.slice A' (l.length + 1 + j) c') (l ++ [128] ++ List.replicate j 0) ∧ Below w.heap.size w wr)
    (fun v _ => noughts l.length + l.length + 1 - (match v with | .slice _ n _ => n | _ => 0))
  case atStart => exact ⟨0, A2, c2, by omega, by simp, by simpa using hown2, hb2⟩
  case round =>
    obtain ⟨j, A', c', hj, rfl, hown, hb⟩ := hrel
    have hnn : noughts l.length < 64 := by unfold noughts; omega
    by_cases hlt : j < noughts l.length
    · have h56 : ¬ ((l.length : Int) + 1 + (j : Int)) % 64 = 56 := by unfold noughts at hlt hj; omega
      go_wp2_with (at_builtin; refine app_bytes rfl (.tmp 15) (.tmp 16) rfl w.heap.size (.slice A' (l.length + 1 + j) c') _ rfl (hown.alloc _) (wr.heap.size + 1) _ 1 1 [0] rfl (Rd.new_ wr [0] _ rfl 1 rfl) (by simp; omega) (by have := hb.size; simp; omega) ?_; intro v' w' hown' hg' hat')
      have hb' := below_app (hb.alloc hb.size (.cells #[.int .u8 0] 5)) (hown.alloc _) (by have := hb.size; simp; omega) hg'
      obtain ⟨A3, c3, rfl⟩ := hown'.shape
      have he : l ++ [128] ++ List.replicate j 0 ++ [0] = l ++ [128] ++ List.replicate (j + 1) 0 := by rw [List.append_assoc, ← List.replicate_succ']
      have hn2 : (l ++ [128] ++ List.replicate j 0 ++ [(0 : UInt8)]).length = l.length + 1 + (j + 1) := by simp; omega
      rw [hn2, he] at hown'
      rw [hn2]
      clear he hn2 hg' hat'
      go_roundw
      case rel => exact ⟨j + 1, A3, c3, by omega, rfl, hown', hb'⟩
      case measure => simp; omega
    · have h56 : ((l.length : Int) + 1 + (j : Int)) % 64 = 56 := by unfold noughts at hlt hj; omega
      go_wp2
      obtain rfl : j = noughts l.length := by omega
      obtain ⟨wo, rfl⟩ : ∃ wo : World, wo = wr := ⟨_, rfl⟩
      clear h56
      generalize hP : l ++ [128] ++ List.replicate (noughts l.length) 0 = P at hown
      generalize hM : l.length + 1 + noughts l.length = M at hown ⊢
      have hPM : P.length = M := by rw [← hP, ← hM]; simp; omega
      have hMle : M ≤ l.length + 64 := by omega
      have HP := Lib.hid hP; have HM := Lib.hid hM; have HPM := Lib.hid hPM; clear hP hM hPM
      go_loopw [3, 5] (fun v s wr => ∃ (i : Nat) (A' : Option Addr) (c' : Nat), i ≤ 8 ∧ s = .int .i64 (56 - 8 * (i : Int)) ∧ v = .slice A' (M + i) c' ∧ Own wr w.heap.size (.slice A' (M + i) c') (P ++ be64 (l.length * 8) i) ∧ Below w.heap.size w wr)
        (fun _ s _ => (intOf s + 8).toNat)
      case atStart => exact ⟨0, A', c', by omega, rfl, rfl, by simpa [be64] using hown, hb⟩
      case round =>
        obtain ⟨i, A', c', hi, rfl, rfl, hown, hb⟩ := hrel
        by_cases hlt : i < 8
        · have hge : (0 : Int) ≤ 56 - 8 * (i : Int) := by omega
          have hby : #[Value.int .u8 ((l.length : Int) * 8 / 2 ^ (56 - 8 * i) % 256)] = ([UInt8.ofNat (l.length * 8 / 2 ^ (56 - 8 * i))].map B8).toArray := by
            have := be64_byte (l.length * 8) (56 - 8 * i)
            rw [Int.natCast_mul] at this
            simp only [B8, List.map_cons, List.map_nil]
            rw [← this]
            rfl
          have HBY := Lib.hid hby; clear hby
          have hPl : P.length ≤ l.length + 64 := by rw [HPM.out]; omega
          go_wp2_with (at_builtin; refine app_bytes rfl (.tmp 26) (.tmp 31) rfl w.heap.size (.slice A' (M + i) c') _ rfl (hown.alloc _) (wr.heap.size + 1) _ 1 1 [UInt8.ofNat (l.length * 8 / 2 ^ (56 - 8 * i))] rfl (Rd.new_ wr _ _ HBY.out 1 rfl) (by rw [List.length_append, be64_length]; omega) (by have := hb.size; simp; omega) ?_; intro v' w' hown' hg' hat')
          have hb' := below_app (hb.alloc hb.size _) (hown.alloc _) (by have := hb.size; simp; omega) hg'
          obtain ⟨A3, c3, rfl⟩ := hown'.shape
          have hn2 : (P ++ be64 (l.length * 8) i ++ [UInt8.ofNat (l.length * 8 / 2 ^ (56 - 8 * i))]).length = M + (i + 1) := by simp [be64_length, HPM.out]
          rw [hn2, List.append_assoc, ← be64_succ] at hown'
          rw [hn2]
          clear hn2 hg' hat'
          go_roundw
          case rel => exact ⟨i + 1, A3, c3, by omega, by go_num, rfl, hown', hb'⟩
          case measure => simp [intOf]; omega
        · obtain rfl : i = 8 := by omega
          go_wp2
          go_ret
          refine ⟨_, rfl, ?_, hb⟩
          rw [← HP.out] at hown
          exact hown
end Go.Proofs.YtinkclcdpcjnfaaDoor
