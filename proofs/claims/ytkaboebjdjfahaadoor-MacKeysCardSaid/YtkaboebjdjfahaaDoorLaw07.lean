/- The walk of the laws' own answers, layer 7. Condition: the table of the constants. -/
import Derived.Test.YtkaboebjdjfahaaDoorMac3
import Derived.Test.YtkaboebjdjfahaaDoorMac4
namespace Go.Proofs.YtkaboebjdjfahaaDoor
open Go.RowKit
theorem mac_nil : (mac [] []).take 2 = [0xb6, 0x13] := by decide +kernel
theorem Rd.tail_ {w : World} {B n b o : Nat} {l : List UInt8} (h : Rd w B (some ⟨b, o, none⟩) n l) : Rd w B (some ⟨b, o + 1, none⟩) (n - 1) (l.drop 1) := by
  have hn := h.len
  refine ⟨by simp [hn], fun h0 => ?_⟩
  obtain ⟨b', o', h1, h2, h3⟩ := h.cells_ (by omega)
  simp only [Option.some.injEq, Addr.mk.injEq, and_true] at h1
  obtain ⟨rfl, rfl⟩ := h1
  refine ⟨_, rfl, h2, fun j u hu => ?_⟩
  have hj : j < (l.drop 1).length := by have := (List.getElem?_eq_some_iff.1 hu).1; simpa using this
  have ha : (⟨b, o + 1, none⟩ : Addr).add j = ⟨b, o + (j + 1), none⟩ := by unfold Addr.add; split <;> simp_all <;> omega
  rw [ha, h3 (j + 1) (by simp at hj; omega)]
  rw [List.getElem?_map, List.getElem?_drop] at hu
  rw [List.getD_eq_getElem?_getD]
  rw [Nat.add_comm] at hu
  rcases hx : l[j + 1]? with _ | x
  · rw [hx] at hu; cases hu
  · rw [hx] at hu; exact hu
set_option maxRecDepth 100000 in
theorem answers07_any (w : World) (hk : Consts w) : Calls Tryd.prog 13 #[] w fun e w' => e = .returned (.bool true) ∧ Below w.heap.size w w' := by
  have hl1 := mac_len [] []
  have h1 := mac_nil
  generalize hs1 : mac [] [] = s1 at hl1 h1
  have HS1 := Lib.hid hs1; have HL1 := Lib.hid hl1
  have e10 : s1.getD 0 0 = 0xb6 := by have := congrArg (fun l => l.getD 0 0) h1; simpa using this
  have e11 : s1.getD 1 0 = 0x13 := by have := congrArg (fun l => l.getD 1 0) h1; simpa using this
  have E10 := Lib.hid e10; have E11 := Lib.hid e11
  clear hl1 h1 e10 e11 hs1
  go_enter Tryd.func13, Tryd.ntmps13
  go_wp2_with fail
  refine (Mac_any none 0 0 none 0 0 w [] [] hk (by omega) (by omega) Rd.nil_ Rd.nil_).mono ?_
  rintro e w1 ⟨v1, rfl, ho1, hb1⟩
  rw [HS1.out] at ho1
  obtain ⟨g1, c1, cur1, rfl, hg1, hcur1, hc1, hcell1⟩ := ho1.blk (by rw [HL1.out]; omega)
  have hrd := ho1.rd
  rw [HL1.out] at hrd hc1 ⊢
  have hs1 := hb1.size
  have hc10 : w1.cell? ⟨g1, 0, none⟩ = some (.int .u8 182) := (hcur1.cell 0).trans ((hcell1 0 (by rw [HL1.out]; omega)).trans (by rw [E10.out]; rfl))
  have hc11 : w1.cell? ⟨g1, 1, none⟩ = some (.int .u8 19) := (hcur1.cell 1).trans ((hcell1 1 (by rw [HL1.out]; omega)).trans (by rw [E11.out]; rfl))
  have hc01 : ¬ c1 = 1 := by omega
  clear hcell1 hcur1 ho1
  go_wp2_with fail
  refine (Same_any (some ⟨g1, 0, none⟩) 32 c1 (some ⟨g1, 0, none⟩) 32 c1 w1 _ _ s1 s1 (by omega) hrd hrd).mono ?_
  rintro e w2 ⟨rfl, hb2⟩
  rw [decide_eq_true rfl]
  have hrd2 : Rd w2 w1.heap.size (some ⟨g1, 0, none⟩) 32 s1 := hrd.below hb2
  go_wp2_with fail
  refine (Same_any (some ⟨g1, 0, none⟩) 32 c1 (some ⟨g1, 1, none⟩) 31 (c1 - 1) w2 _ _ s1 (s1.drop 1) (by omega) hrd2 hrd2.tail_).mono ?_
  rintro e w3 ⟨rfl, hb3⟩
  rw [decide_eq_false (by intro e; have := congrArg List.length e; rw [List.length_drop, HL1.out] at this; omega)]
  go_wp2
  go_ret
  exact ⟨rfl, (hb1.trans (hb2.mono hs1)).trans (hb3.mono (by have := hb2.size; omega))⟩
end Go.Proofs.YtkaboebjdjfahaaDoor
