/- The walks of the eye's count and lists of objects: what any bytes are read as. Condition: a list has no great number of parts. -/
import Derived.Test.YtinkclcdpcjnfaaDoorRec3
import Derived.Test.YtinkclcdpcjnfaaDoorWord2
import Derived.Test.YtinkclcdpcjnfaaDoorStr
import Derived.Test.YtinkclcdpcjnfaaDoorAny
namespace Go.Proofs.YtinkclcdpcjnfaaDoor
open Go.RowKit
/-! A region that draws its order, where two operations may come up. -/
section
variable {P : Program} {ops : Array Oper} {md : Region.Mode} {Q : Exit → Act → World → Prop} {C : World → Prop}
theorem wpOp_of_list {i : Nat} {o : Oper} {K : Act → World → Prop} {a : Act} {w : World} (hi : ops[i]? = some o) (h : wpList P ops (Exit.then K Q) [o] a w) : wpOp P ops Q i K a w := by
  unfold wpOp
  simp only [hi]
  unfold wpList at h
  have e : (wpList P ops (Exit.then K Q) []) = K := by funext a w; rfl
  split
  · rename_i hw
    rw [if_pos hw] at h
    rcases h with h | ⟨h1, h2⟩
    · left
      rw [e] at h
      unfold Oper.wp at h ⊢
      generalize (execOp a.eval o).run P w = r at *
      cases r with
      | ok n w' =>
        cases n <;> simp only [Oper.upon] at h ⊢ <;> try exact h
      | halt x w' =>
        cases x <;> simp only [Oper.upon] at h ⊢
        case panic u => exact h
    · exact Or.inr ⟨h1, h2⟩
  · rename_i hw
    rw [if_neg hw] at h
    exact h
theorem anyC_both {i j : Nat} {oi oj : Oper} {f : Nat} {listed : Array Bool} {a : Act} {w : World} (hi : ops[i]? = some oi) (hj : ops[j]? = some oj) (hr : Region.ready md ops listed = [i, j]) (hC : C w)
    (h1 : wpList P ops (Exit.then (anyC P md ops C Q f (listed.setIfInBounds i true)) Q) [oi] a w) (h2 : wpList P ops (Exit.then (anyC P md ops C Q f (listed.setIfInBounds j true)) Q) [oj] a w) : anyC P md ops C Q (f + 1) listed a w := by
  refine ⟨hC, fun h0 => (by rw [hr] at h0; cases h0), fun k hk => ?_⟩
  rw [hr] at hk
  rcases (by simpa using hk : k = i ∨ k = j) with rfl | rfl
  · exact wpOp_of_list hi h1
  · exact wpOp_of_list hj h2
end
def RS.count (s : RS) (most : Nat) : Nat := if s.int.1 > (most : Int) then 0 else (max s.int.1 0).toNat
def RS.objT (s : RS) : ObjV × RS := (⟨s.bytes.1, s.bytes.2.int.1, s.bytes.2.int.2.bytes.1, s.bytes.2.int.2.bytes.2.bytes.1⟩, s.bytes.2.int.2.bytes.2.bytes.2)
def RS.objsN (s : RS) : Nat → List ObjV × RS
  | 0 => ([], s)
  | k + 1 => ((s.objsN k).1 ++ [(s.objsN k).2.objT.1], (s.objsN k).2.objT.2)
def RS.objs (s : RS) (most : Nat) : List ObjV × RS := s.int.2.objsN (s.count most)
theorem objsN_length (s : RS) (k : Nat) : (s.objsN k).1.length = k := by
  induction k with
  | zero => rfl
  | succ k ih => simp [RS.objsN, ih]
attribute [irreducible] RS.objsN
theorem ReIs.tight {w : World} {F : Nat → Prop} {D : Nat} {s : RS} (h : ReIs w F D s) : ReIs w (fun k => F k ∧ k < w.heap.size) D s := by
  obtain ⟨A, c, h1, h2, h3⟩ := h
  exact ⟨A, c, h1, ⟨h2, h1.cells.lt⟩, fun ad e => ⟨h3 ad e, h1.blk ad e⟩⟩
theorem count_le (s : RS) (most : Nat) : s.count most ≤ most := by
  unfold RS.count
  split
  · omega
  · omega
set_option maxRecDepth 100000 in
theorem EyeCount_any (w : World) (F : Nat → Prop) (D : Nat) (s : RS) (most : Nat) (hF : ∀ k, F k → k < w.heap.size) (h : ReIs w F D s) (hm : most ≤ 67108864) :
    Calls Tryd.prog 36 #[.agg #[.pointer (some ⟨D, 0, none⟩), .int .i64 (most : Int)]] w fun e w' => e = .returned (.int .i64 (s.count most : Int)) ∧ ReIs w' F D s.int.2 ∧ Keeps F w w' := by
  have hb1 : Below w.heap.size w (w.alloc (.cells #[.pointer (some ⟨D, 0, none⟩), .int .i64 (most : Int)] 67)) := (Below.refl _ _).alloc (Nat.le_refl _) _
  have h1 := h.below hb1
  have hbx := Blk.new w 67 #[.pointer (some ⟨D, 0, none⟩), .int .i64 (most : Int)]
  have hFb : ¬ F w.heap.size := fun e => Nat.lt_irrefl _ (hF _ e)
  have H1 := Lib.hid h1; have HBX := Lib.hid hbx; have HFB := Lib.hid hFb; have HB1 := Lib.hid hb1
  clear h1 hbx hFb hb1 h hF
  go_enter Tryd.func36, Tryd.ntmps36
  go_wp2_with fail
  refine (RInt_any _ F D s H1.out).mono ?_
  rintro e w2 ⟨rfl, h2, hk2⟩
  have p1 : w2.cell? ⟨w.heap.size, 1, none⟩ = some (.int .i64 (most : Int)) := ((HBX.out.keeps hk2 HFB.out).cell 1).trans rfl
  have H2 := Lib.hid h2; have HK2 := Lib.hid ((Keeps.of_below (F := F) HB1.out).trans hk2 (fun _ _ e => e))
  clear h2 hk2
  have hcnt : s.count most = if s.int.1 > (most : Int) then 0 else (max s.int.1 0).toNat := rfl
  generalize s.int.1 = z at hcnt ⊢
  have HC := Lib.hid hcnt
  clear hcnt
  by_cases hbig : z > (most : Int)
  · have HE := Lib.hid (show ((s.count most : Nat) : Int) = 0 by rw [HC.out, if_pos hbig]; rfl)
    go_wp2
    go_ret
    rw [HE.out]
    exact ⟨rfl, H2.out, HK2.out⟩
  · have hbig' : (z > (most : Int)) = False := eq_false hbig
    by_cases hz : z < 0
    · have HE := Lib.hid (show ((s.count most : Nat) : Int) = 0 by rw [HC.out, if_neg hbig]; omega)
      clear hbig
      go_wp2
      go_ret
      rw [HE.out]
      exact ⟨rfl, H2.out, HK2.out⟩
    · have HE := Lib.hid (show ((s.count most : Nat) : Int) = z by rw [HC.out, if_neg hbig]; omega)
      have hz' : 0 ≤ z := by omega
      clear hbig
      go_wp2
      go_ret
      rw [HE.out]
      exact ⟨rfl, H2.out, HK2.out⟩
end Go.Proofs.YtinkclcdpcjnfaaDoor
