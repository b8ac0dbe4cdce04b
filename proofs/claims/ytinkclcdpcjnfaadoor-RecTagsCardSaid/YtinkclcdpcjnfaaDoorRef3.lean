/- The walk of the reference's Sum. Condition: the slice takes at most the form's own reach. -/
import Derived.Test.YtinkclcdpcjnfaaDoorRefL5
namespace Go.Proofs.YtinkclcdpcjnfaaDoor
open Go.RowKit
set_option maxRecDepth 100000 in
set_option maxHeartbeats 4000000 in
theorem RefSum_any (A : Option Addr) (n c : Nat) (w : World) (l : List UInt8) (hn : n ≤ 140737488355000) (hr : Rd w w.heap.size A n l) :
    Calls Tryd.prog 50 #[.slice A n c] w fun e w' => ∃ v, e = .returned v ∧ Own w' w.heap.size v (sha l) ∧ Below w.heap.size w w' := by
  obtain rfl := hr.len
  go_enter Tryd.func50, Tryd.ntmps50
  go_wp2_with (first
    | (at_builtin; refine app_bytes rfl (.tmp 22) (.tmp 23) rfl w.heap.size (.slice (some ⟨w.heap.size, 0, none⟩) 0 0) [] rfl (Own.new_ w w.heap.size (Nat.le_refl _) [] (by simp) _ rfl) w.heap.size A l.length c l rfl (hr.alloc (Nat.le_refl _) _) (by simp; omega) (by simp) ?_; intro v1 w1 hown1 hg1 hat1)
    | (at_builtin; refine app_bytes rfl (.tmp 24) (.tmp 25) rfl w.heap.size v1 _ rfl (hown1.alloc _) (w1.heap.size + 1) _ 1 1 [128] rfl (Rd.new_ w1 [128] _ rfl 1 rfl) (by simp; omega) (by have := hg1.size; simp at this ⊢; omega) ?_; intro v2 w2 hown2 hg2 hat2))
  have hb1 := below_app ((Below.refl w.heap.size w).alloc (Nat.le_refl _) _) (Own.new_ w w.heap.size (Nat.le_refl _) [] (by simp) _ rfl) (by simp) hg1
  have hb2 := below_app (hb1.alloc hb1.size (.cells #[.int .u8 128] 5)) (hown1.alloc _) (by have := hb1.size; simp; omega) hg2
  obtain ⟨A2, c2, rfl⟩ := hown2.shape
  clear hown1 hg1 hat1 hb1 hg2 hat2
  simp only [List.nil_append, List.length_append, List.length_cons, List.length_nil, Nat.zero_add] at hown2 ⊢
  go_loopw [3] (fun v wr => ∃ (j : Nat) (A' : Option Addr) (c' : Nat), j ≤ noughts l.length ∧ v = .slice A' (l.length + 1 + j) c' ∧ Own wr w.heap.size (.slice A' (l.length + 1 + j) c') (l ++ [128] ++ List.replicate j 0) ∧ Below w.heap.size w wr)
    (fun v _ => noughts l.length + l.length + 1 - (match v with | .slice _ n _ => n | _ => 0))
  case atStart => exact ⟨0, A2, c2, by omega, by simp, by simpa using hown2, hb2⟩
  case round =>
    obtain ⟨j, A', c', hj, rfl, hown, hb⟩ := hrel
    have hnn : noughts l.length < 64 := by unfold noughts; omega
    by_cases hlt : j < noughts l.length
    · have h56 : ¬ ((l.length : Int) + 1 + (j : Int)) % 64 = 56 := by unfold noughts at hlt hj; omega
      go_wp2_with (at_builtin; refine app_bytes rfl (.tmp 31) (.tmp 32) rfl w.heap.size (.slice A' (l.length + 1 + j) c') _ rfl (hown.alloc _) (wr.heap.size + 1) _ 1 1 [0] rfl (Rd.new_ wr [0] _ rfl 1 rfl) (by simp; omega) (by have := hb.size; simp; omega) ?_; intro v' w' hown' hg' hat')
      have hb' := below_app (hb.alloc hb.size (.cells #[.int .u8 0] 5)) (hown.alloc _) (by have := hb.size; simp; omega) hg'
      obtain ⟨A3, c3, rfl⟩ := hown'.shape
      have he : l ++ [128] ++ List.replicate j 0 ++ [0] = l ++ [128] ++ List.replicate (j + 1) 0 := by rw [List.append_assoc, ← List.replicate_succ']
      have hn2 : (l ++ [128] ++ List.replicate j 0 ++ [(0 : UInt8)]).length = l.length + 1 + (j + 1) := by simp; omega
      rw [hn2, he] at hown'
      rw [hn2]
      clear he hn2 hg' hat'
      go_roundw
      case rel => exact ⟨j + 1, A3, c3, by omega, rfl, hown', hb'⟩
      case measure => simp; omega
    · have h56 : ((l.length : Int) + 1 + (j : Int)) % 64 = 56 := by unfold noughts at hlt hj; omega
      go_wp2
      obtain rfl : j = noughts l.length := by omega
      obtain ⟨wo, rfl⟩ : ∃ wo : World, wo = wr := ⟨_, rfl⟩
      clear h56
      generalize hP : l ++ [128] ++ List.replicate (noughts l.length) 0 = P at hown
      generalize hM : l.length + 1 + noughts l.length = M at hown ⊢
      have hPM : P.length = M := by rw [← hP, ← hM]; simp; omega
      have hMle : M ≤ l.length + 64 := by omega
      have HP := Lib.hid hP; have HM := Lib.hid hM; have HPM := Lib.hid hPM; clear hP hM hPM
      go_loopw [3, 4] (fun v s wr => ∃ (i : Nat) (A' : Option Addr) (c' : Nat), i ≤ 8 ∧ s = .int .i64 (7 - (i : Int)) ∧ v = .slice A' (M + i) c' ∧ Own wr w.heap.size (.slice A' (M + i) c') (P ++ be64 (l.length * 8) i) ∧ Below w.heap.size w wr)
        (fun _ s _ => (intOf s + 8).toNat)
      case atStart => exact ⟨0, A', c', by omega, rfl, rfl, by simpa [be64] using hown, hb⟩
      case round =>
        obtain ⟨i, A', c', hi, rfl, rfl, hown, hb⟩ := hrel
        by_cases hlt : i < 8
        · have hge : (0 : Int) ≤ 7 - (i : Int) := by omega
          have hby : #[Value.int .u8 ((l.length : Int) * 8 / 2 ^ (8 * (7 - i)) % 256)] = ([UInt8.ofNat (l.length * 8 / 2 ^ (56 - 8 * i))].map B8).toArray := by
            have := be64_byte (l.length * 8) (56 - 8 * i)
            rw [Int.natCast_mul] at this
            simp only [B8, List.map_cons, List.map_nil]
            rw [← this, show 8 * (7 - i) = 56 - 8 * i by omega]
            rfl
          have HBY := Lib.hid hby; clear hby
          have hPl : P.length ≤ l.length + 64 := by rw [HPM.out]; omega
          go_wp2_with (at_builtin; refine app_bytes rfl (.tmp 38) (.tmp 47) rfl w.heap.size (.slice A' (M + i) c') _ rfl (hown.alloc _) (wr.heap.size + 1) _ 1 1 [UInt8.ofNat (l.length * 8 / 2 ^ (56 - 8 * i))] rfl (Rd.new_ wr _ _ HBY.out 1 rfl) (by rw [List.length_append, be64_length]; omega) (by have := hb.size; simp; omega) ?_; intro v' w' hown' hg' hat')
          have hb' := below_app (hb.alloc hb.size _) (hown.alloc _) (by have := hb.size; simp; omega) hg'
          obtain ⟨A3, c3, rfl⟩ := hown'.shape
          have hn2 : (P ++ be64 (l.length * 8) i ++ [UInt8.ofNat (l.length * 8 / 2 ^ (56 - 8 * i))]).length = M + (i + 1) := by simp [be64_length, HPM.out]
          rw [hn2, List.append_assoc, ← be64_succ] at hown'
          rw [hn2]
          clear hn2 hg' hat'
          go_roundw
          case rel => exact ⟨i + 1, A3, c3, by omega, by go_num, rfl, hown', hb'⟩
          case measure => simp [intOf]; omega
        · obtain rfl : i = 8 := by omega
          rw [← HP.out] at hown
          change Own wr w.heap.size _ (pad l) at hown
          obtain ⟨k, hk64, hk0, hple⟩ := pad_length l
          have hsha := sha_eq l k hk64
          have hM8 : M + 8 = (pad l).length := by have := hown.shape; obtain ⟨_, _, h⟩ := this; injection h
          generalize pad l = PP at hown hk64 hple hsha hM8
          obtain ⟨g, cc, cur, hsl, hg, hcur, hcc, hcell⟩ := hown.blk (by omega)
          injection hsl with hsl1 hsl2 hsl3
          subst hsl1 hsl3
          rw [hk64] at hM8 hcc
          have HM8 := Lib.hid hM8; have HPL := Lib.hid hk64; have HSHA := Lib.hid hsha
          have hPm : 64 * k ≤ l.length + 72 := by omega
          clear hM8 hk64 hsha hsl2 hown HP HM HPM hr hb2 hown2 hj
          obtain ⟨wo2, rfl⟩ : ∃ wo2 : World, wo2 = wr := ⟨_, rfl⟩
          have hbs := hb.size
          rw [HM8.out]
          go_wp2_with (go_at_call 55; refine (constants_any _).mono ?_; rintro e w5 ⟨rfl, rfl⟩)
          have hH : Blk _ wo2.heap.size 3 st0V.ints := (Blk.new wo2 3 st0V.ints).alloc (.cells kcells 3)
          have hK : Blk _ (wo2.heap.size + 1) 3 kcells := Blk.new' (w := wo2.alloc (.cells st0V.ints 3)) (t := 3) (cs := kcells) (by simp)
          have hB' := (hb.alloc hbs (.cells st0V.ints 3)).alloc (by simp; omega) (.cells kcells 3)
          have hcur' := ((hcur.alloc (.cells st0V.ints 3)).alloc (.cells kcells 3))
          have hgB := hcur.lt
          rw [st0_ints]
          generalize World.alloc (World.alloc wo2 _) _ = w6 at hcur' hH hK hB' ⊢
          have hgl := hcur'.lt
          generalize hHH : wo2.heap.size = H at hH hK hbs hgB ⊢
          clear hHH hcur hb
          have hby : ∀ j, j < 64 * k → w6.cell? ⟨g, j, none⟩ = some (.int .u8 ((PP.getD j 0).toNat)) := fun j hj => (hcur'.cell _).trans (hcell _ (by rw [HPL.out]; exact hj))
          refine outerLoop _ _ _ _ _ _ _ _ _ _ _ _ _ _ _ _ _ _ _ _ _ _ _ _ _ _ _ _ _ _ _ _ _ _ _ _ _ _ _ _ _ _ _ _ _ _ _ _ _ _ _ _ _ _ _ _ _ _ _ _ _ _ _ _ _ _ _ _ _ _ _ _ _ _ _ _ _ _ _ _ _ _ _ _ _ _ _ _ _ _ _ _ _ _ _ _ _ _ _ _ _ _ _ _ _ _ _ _ _ _ _ _ _ _ _ _ _ _ _ _ _ _ _ _ _ _ _ _ _ _ _ _ _ _ _ _ _ _ _ _ _ _ _ _ _ _ _ _ _ _ _ _ _ _ _ _ _ _ _ _ _ _ _ _ _ _ _ _ _ _ _ _ _ _ _ _ _ _ _ _ _ _ _ _ _ _ _ _ _ _ _ _ _ _ _ _ _ _ _ _ _ _ _ _ _ _ _ _ _ _ _ _ _ _ _ _ _ _ _ _ _ _ _ _ _ _ _ _ _ _ _ _ _ _ _ _ _ _ _ _ _ _ _ _ _ _ _ _ _ _ _ _ _ _ _ _ _ _ _ _ _ _ _ _ _ _ _ _ _ _ _ _ _ _ _ g _ k H (H + 1) _ _ PP w6 _ (by omega) (by omega) (by omega) hgl hH hK hby ?_
          intro z0 z1 z2 z3 z4 z5 z6 z7 z8 z9 z10 z11 z12 z13 z14 z15 z16 z17 z18 z19 z20 z21 z22 z23 z24 z25 z26 z27 z28 z29 z30 z31 z32 z33 z34 z35 z36 z37 z38 z39 z40 z41 z42 z43 z44 z45 z46 z47 z48 z49 z50 z51 z52 z53 z54 z55 z56 z57 z58 z59 z60 z61 z62 z63 z64 z65 z66 z67 z68 z69 z70 z71 z72 z73 z74 z75 z76 z77 z78 z79 z80 z81 z82 z83 z84 z85 z86 z87 z88 z89 z90 z91 z92 z93 z94 z95 z96 z97 z98 z99 z100 z101 z102 z103 z104 z105 z106 z107 z108 z109 z110 z111 z112 z113 z114 z115 z116 z117 z118 z119 z120 z121 z122 z123 z124 z125 z126 z127 z128 z129 z130 z131 z132 z133 z134 z135 z136 z137 z138 z139 z140 z141 z142 z143 z144 z145 z146 z147 z148 z149 z150 z151 z152 z153 z154 z155 z156 z157 z158 z159 z160 z161 z162 z163 z164 z165 z166 z167 z168 z169 z170 z171 z172 z173 z174 z175 z176 z177 z178 z179 z180 z181 z182 z183 z184 z185 z186 z187 z188 z189 z190 z191 z192 z193 z194 z195 z196 z197 z198 z199 z200 z201 z202 z203 z204 z205 z206 z207 z208 z209 w7 hH7 hb7
          have hb8 : Below w.heap.size w w7 := hB'.grown hb7 (by have := hK.lt; omega) (fun q e => by injection e; omega)
          clear hb7 hby hcell hK hB' hcur' hH
          obtain ⟨V, hV⟩ : ∃ V, V = steps st0V PP k := ⟨_, rfl⟩
          rw [← hV] at hH7
          have HV := Lib.hid hV; clear hV
          go_wp2_with fail
          refine outLoop _ _ _ _ _ _ _ _ _ _ _ _ _ _ _ _ _ _ _ _ _ _ _ _ _ _ _ _ _ _ _ _ _ _ _ _ _ _ _ _ _ _ _ _ _ _ _ _ _ _ _ _ _ _ _ _ _ _ _ _ _ _ _ _ _ _ _ _ _ _ _ _ _ _ _ _ _ _ _ _ _ _ _ _ _ _ _ _ _ _ _ _ _ _ _ _ _ _ _ _ _ _ _ _ _ _ _ _ _ _ _ _ _ _ _ _ _ _ _ _ _ _ _ _ _ _ _ _ _ _ _ _ _ _ _ _ _ _ _ _ _ _ _ _ _ _ _ _ _ _ _ _ _ _ _ _ _ _ _ _ _ _ _ _ _ _ _ _ _ _ _ _ _ _ _ _ _ _ _ _ _ _ _ _ _ _ _ _ _ _ _ _ _ _ _ _ _ _ _ _ _ _ _ _ _ _ _ _ _ _ _ _ _ _ _ _ _ _ _ _ _ _ _ _ _ _ _ _ _ _ _ _ _ _ _ _ _ _ _ _ _ _ _ _ _ _ _ _ _ _ _ _ _ _ _ _ _ _ _ _ _ _ _ _ _ _ _ _ _ _ _ _ _ _ _ _ H V w7 _ hH7 ?_
          intro y0 y1 y2 y3 y4 y5 y6 y7 y8 y9 y10 y11 y12 y13 y14 y15 y16 y17 y18 y19 y20 y21 y22 y23 y24 y25 y26 y27 y28 y29 y30 v w9 hown9 hb9
          go_wp2
          go_ret
          refine ⟨_, rfl, ?_, hb8.trans (hb9.mono hb8.size)⟩
          rw [HSHA.out, ← HV.out]
          exact hown9.mono hb8.size
end Go.Proofs.YtinkclcdpcjnfaaDoor
