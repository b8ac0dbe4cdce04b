/- The walk of the laws' own answers, layer 6. Condition: the table of the constants. -/
import Derived.Test.YtkaboebjdjfahaaDoorSha4
import Derived.Lib.SlBytesConst
namespace Go.Proofs.YtkaboebjdjfahaaDoor
open Go.RowKit
theorem Rd.lit (w : World) (l : List UInt8) (cs : Array Value) (hcs : cs = (l.map B8).toArray) (n : Nat) (hn : n = l.length) (z : Nat × Nat) : Rd (w.alloc (.cells cs 5 z)) (w.heap.size + 1) (some ⟨w.heap.size, 0, none⟩) n l := by
  subst hcs; subst hn
  refine ⟨by simp, fun _ => ⟨_, rfl, by simp, fun j u hu => ?_⟩⟩
  have ha : (⟨w.heap.size, 0, none⟩ : Addr).add j = ⟨w.heap.size, j, none⟩ := by unfold Addr.add; split <;> simp_all
  rw [ha, cell_of_row _ _ _ _ _ _ (heap_alloc_new w _)]
  simpa using hu
set_option maxRecDepth 100000 in
theorem answers06_any (w : World) (hk : Consts w) : Calls Tryd.prog 10 #[] w fun e w' => e = .returned (.bool true) ∧ Below w.heap.size w w' := by
  have hB0 : 0 < w.heap.size := by have := World.block_lt_of_cell? w _ (hk 0 (by omega)); omega
  have hl1 := sha_len []
  have hl2 := sha_len [97, 98, 99]
  have h1 := sha_nil
  have h2 := sha_abc
  generalize hs1 : sha [] = s1 at hl1 h1
  generalize hs2 : sha [97, 98, 99] = s2 at hl2 h2
  have HS1 := Lib.hid hs1; have HS2 := Lib.hid hs2; have HL1 := Lib.hid hl1; have HL2 := Lib.hid hl2
  have e10 : s1.getD 0 0 = 0xe3 := by have := congrArg (fun l => l.getD 0 0) h1; simpa using this
  have e11 : s1.getD 1 0 = 0xb0 := by have := congrArg (fun l => l.getD 1 0) h1; simpa using this
  have e20 : s2.getD 0 0 = 0xba := by have := congrArg (fun l => l.getD 0 0) h2; simpa using this
  have e21 : s2.getD 1 0 = 0x78 := by have := congrArg (fun l => l.getD 1 0) h2; simpa using this
  have E10 := Lib.hid e10; have E11 := Lib.hid e11; have E20 := Lib.hid e20; have E21 := Lib.hid e21
  clear hl1 hl2 h1 h2 e10 e11 e20 e21 hs1 hs2
  go_enter Tryd.func10, Tryd.ntmps10
  go_wp2_with fail
  refine (Sum_any none 0 0 w [] hk (by omega) Rd.nil_).mono ?_
  rintro e w1 ⟨v1, rfl, ho1, hb1⟩
  rw [HS1.out] at ho1
  obtain ⟨g1, c1, cur1, rfl, hg1, hcur1, hc1, hcell1⟩ := ho1.blk (by rw [HL1.out]; omega)
  rw [HL1.out]
  have hk1 := hk.below hb1 hB0
  have hs1 := hb1.size
  have kc := fun (w : World) (C : Array Value) (n c : Nat) => Lib.run_convert_bytes_const (P := Tryd.prog) w 22 5 C n c Tryd.underlying22 Tryd.underlying5
  go_wp2_with fail
  have hbA := hb1.alloc hs1 (.cells #[.int .u8 97, .int .u8 98, .int .u8 99] 5 (3, 4))
  refine (Sum_any _ 3 3 (w1.alloc (.cells #[.int .u8 97, .int .u8 98, .int .u8 99] 5 (3, 4))) [97, 98, 99] (hk.below hbA hB0) (by omega) ((Rd.lit w1 [97, 98, 99] #[.int .u8 97, .int .u8 98, .int .u8 99] rfl 3 rfl (3, 4)).more (by simp))).mono ?_
  rintro e w2 ⟨v2, rfl, ho2, hb2⟩
  rw [HS2.out] at ho2
  obtain ⟨g2, c2, cur2, rfl, hg2, hcur2, hc2, hcell2⟩ := ho2.blk (by rw [HL2.out]; omega)
  rw [HL2.out]
  have hb3 := hbA.trans (hb2.mono hbA.size)
  have hcur1' := (hcur1.alloc (.cells #[.int .u8 97, .int .u8 98, .int .u8 99] 5 (3, 4))).below hb2 (by have := hcur1.lt; simp; omega)
  have hc10 : w2.cell? ⟨g1, 0, none⟩ = some (.int .u8 227) := (hcur1'.cell 0).trans ((hcell1 0 (by rw [HL1.out]; omega)).trans (by rw [E10.out]; rfl))
  have hc11 : w2.cell? ⟨g1, 1, none⟩ = some (.int .u8 176) := (hcur1'.cell 1).trans ((hcell1 1 (by rw [HL1.out]; omega)).trans (by rw [E11.out]; rfl))
  have hc20 : w2.cell? ⟨g2, 0, none⟩ = some (.int .u8 186) := (hcur2.cell 0).trans ((hcell2 0 (by rw [HL2.out]; omega)).trans (by rw [E20.out]; rfl))
  have hc21 : w2.cell? ⟨g2, 1, none⟩ = some (.int .u8 120) := (hcur2.cell 1).trans ((hcell2 1 (by rw [HL2.out]; omega)).trans (by rw [E21.out]; rfl))
  clear hcell1 hcell2 hcur1 hcur1' hcur2 ho1 ho2
  go_wp2
  go_ret
  exact ⟨rfl, hb3⟩
end Go.Proofs.YtkaboebjdjfahaaDoor
