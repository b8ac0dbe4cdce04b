/- A round of layer 17's law NetPlays: cases. No conditions but the sizes. Printed by mknetplays.py. -/
import Derived.Test.YtoekmgpnmhknoaaNet7
namespace Go.Proofs.Ytoekmgpnmhknoaa
open Go.RowKit
set_option maxRecDepth 100000 in
set_option maxHeartbeats 4000000 in
theorem np4t (c1 c2 c6 c7 c8 c9 c10 c11 c12 c13 c14 c15 c16 c17 c18 c19 c20 c21 c22 c23 c24 c25 c26 c27 c28 c29 c30 c31 c32 c33 c34 c35 c36 c37 c38 c39 c40 c41 c42 c43 c44 c45 c46 c47 c48 c49 c50 c51 c52 c53 c54 c55 c56 c57 c58 c59 c60 c61 c62 c63 c64 c65 c66 c67 c68 c69 c70 c71 c72 c73 c74 c75 c76 c77 c78 c79 c80 c81 c82 c83 c84 c85 c86 c87 c88 c89 c90 c91 c92 c93 c94 c95 c96 c97 c98 c99 c100 c101 c102 c103 c104 c105 c106 c107 c108 c109 c110 c111 c112 c113 c114 c115 c116 c117 c118 c119 c120 c121 c122 c123 c124 c125 c126 c127 c128 c129 c130 c131 c132 c133 c134 c135 c136 c137 c138 c139 c140 c141 c142 c143 c144 c145 c146 c147 c148 c149 c150 c151 c152 c153 c154 c155 c156 c157 c158 c159 c160 c161 c162 c163 c164 c165 c166 c167 c168 c169 c170 c171 c172 c173 c174 c175 c176 c177 c178 c179 c180 c181 c182 c183 c184 c185 c186 : Value) (A : Option Addr) (c : Nat) (w wr : World) (os : List OpN) (B D i : Nat) (qs : List MsgP) (As : Option Addr) (cs : Nat) (o : OpN) (Pst : Act → World → Prop) (Q0 : Exit → Act → World → Prop)
    (hin : NPIn w wr B D A os qs (.slice As qs.length cs)) (ho : os[i]? = some o) (hk : o.k = 4) (hth : 0 ≤ o.n ∧ o.n < (qs.length : Int)) (hful : ¬ 4096 ≤ qs.length)
    (hP : ∀ (u2 u6 u7 u8 u9 u10 u11 u12 u14 u15 u16 u17 u18 u19 u20 u21 u22 u23 u24 u25 u26 u27 u28 u29 u30 u31 u32 u33 u34 u35 u36 u37 u38 u39 u40 u41 u42 u43 u44 u45 u46 u47 u48 u49 u50 u51 u52 u53 u54 u55 u56 u57 u58 u59 u60 u61 u62 u63 u64 u65 u66 u67 u68 u69 u70 u71 u72 u73 u74 u75 u76 u77 u78 u79 u80 u81 u82 u83 u84 u85 u86 u87 u88 u89 u90 u91 u92 u93 u94 u95 u96 u97 u98 u99 u100 u101 u102 u103 u104 u105 u106 u107 u108 u109 u110 u111 u112 u113 u114 u115 u116 u117 u118 u119 u120 u121 u122 u123 u124 u125 u126 u127 u128 u129 u130 u131 u132 u133 u134 u135 u136 u137 u138 u139 u140 u141 u142 u143 u144 u145 u146 u147 u148 u149 u150 u151 u152 u153 u154 u155 u156 u157 u158 u159 u160 u161 u162 u163 u164 u165 u166 u167 u168 u169 u170 u171 u172 u173 u174 u175 u176 u177 u178 v' q' : Value) (qs' : List MsgP) (w' : World), q' = .int .i64 ((i + 1 : Nat) : Int) → qs'.length ≤ 4096 → (∀ p ∈ qs', (∃ o ∈ os, o.p = p) ∧ (WS.msg ⟨[], false⟩ p.m).bad = false) → w'.ownsRow B 31 16 v' qs'.length (msgsC qs') → NetX w' B D (fun k => v'.ownBlock = some k) (qs'.map MsgP.out) → Below B w w' → Pst ⟨List.toArray (.slice A os.length c :: c1 :: u2 :: .pointer (some ⟨D, 0, none⟩) :: v' :: q' :: u6 :: u7 :: u8 :: u9 :: u10 :: u11 :: u12 :: c13 :: u14 :: u15 :: u16 :: u17 :: u18 :: u19 :: u20 :: u21 :: u22 :: u23 :: u24 :: u25 :: u26 :: u27 :: u28 :: u29 :: u30 :: u31 :: u32 :: u33 :: u34 :: u35 :: u36 :: u37 :: u38 :: u39 :: u40 :: u41 :: u42 :: u43 :: u44 :: u45 :: u46 :: u47 :: u48 :: u49 :: u50 :: u51 :: u52 :: u53 :: u54 :: u55 :: u56 :: u57 :: u58 :: u59 :: u60 :: u61 :: u62 :: u63 :: u64 :: u65 :: u66 :: u67 :: u68 :: u69 :: u70 :: u71 :: u72 :: u73 :: u74 :: u75 :: u76 :: u77 :: u78 :: u79 :: u80 :: u81 :: u82 :: u83 :: u84 :: u85 :: u86 :: u87 :: u88 :: u89 :: u90 :: u91 :: u92 :: u93 :: u94 :: u95 :: u96 :: u97 :: u98 :: u99 :: u100 :: u101 :: u102 :: u103 :: u104 :: u105 :: u106 :: u107 :: u108 :: u109 :: u110 :: u111 :: u112 :: u113 :: u114 :: u115 :: u116 :: u117 :: u118 :: u119 :: u120 :: u121 :: u122 :: u123 :: u124 :: u125 :: u126 :: u127 :: u128 :: u129 :: u130 :: u131 :: u132 :: u133 :: u134 :: u135 :: u136 :: u137 :: u138 :: u139 :: u140 :: u141 :: u142 :: u143 :: u144 :: u145 :: u146 :: u147 :: u148 :: u149 :: u150 :: u151 :: u152 :: u153 :: u154 :: u155 :: u156 :: u157 :: u158 :: u159 :: u160 :: u161 :: u162 :: u163 :: u164 :: u165 :: u166 :: u167 :: u168 :: u169 :: u170 :: u171 :: u172 :: u173 :: u174 :: u175 :: u176 :: u177 :: u178 :: c179 :: c180 :: c181 :: c182 :: c183 :: c184 :: c185 :: c186 :: List.nil), []⟩ w') :
    Code.wp Try.prog npBody (Exit.then Pst Q0) ⟨List.toArray (.slice A os.length c :: c1 :: c2 :: .pointer (some ⟨D, 0, none⟩) :: .slice As qs.length cs :: .int .i64 (i : Int) :: c6 :: c7 :: c8 :: c9 :: c10 :: c11 :: c12 :: c13 :: c14 :: c15 :: c16 :: c17 :: c18 :: c19 :: c20 :: c21 :: c22 :: c23 :: c24 :: c25 :: c26 :: c27 :: c28 :: c29 :: c30 :: c31 :: c32 :: c33 :: c34 :: c35 :: c36 :: c37 :: c38 :: c39 :: c40 :: c41 :: c42 :: c43 :: c44 :: c45 :: c46 :: c47 :: c48 :: c49 :: c50 :: c51 :: c52 :: c53 :: c54 :: c55 :: c56 :: c57 :: c58 :: c59 :: c60 :: c61 :: c62 :: c63 :: c64 :: c65 :: c66 :: c67 :: c68 :: c69 :: c70 :: c71 :: c72 :: c73 :: c74 :: c75 :: c76 :: c77 :: c78 :: c79 :: c80 :: c81 :: c82 :: c83 :: c84 :: c85 :: c86 :: c87 :: c88 :: c89 :: c90 :: c91 :: c92 :: c93 :: c94 :: c95 :: c96 :: c97 :: c98 :: c99 :: c100 :: c101 :: c102 :: c103 :: c104 :: c105 :: c106 :: c107 :: c108 :: c109 :: c110 :: c111 :: c112 :: c113 :: c114 :: c115 :: c116 :: c117 :: c118 :: c119 :: c120 :: c121 :: c122 :: c123 :: c124 :: c125 :: c126 :: c127 :: c128 :: c129 :: c130 :: c131 :: c132 :: c133 :: c134 :: c135 :: c136 :: c137 :: c138 :: c139 :: c140 :: c141 :: c142 :: c143 :: c144 :: c145 :: c146 :: c147 :: c148 :: c149 :: c150 :: c151 :: c152 :: c153 :: c154 :: c155 :: c156 :: c157 :: c158 :: c159 :: c160 :: c161 :: c162 :: c163 :: c164 :: c165 :: c166 :: c167 :: c168 :: c169 :: c170 :: c171 :: c172 :: c173 :: c174 :: c175 :: c176 :: c177 :: c178 :: c179 :: c180 :: c181 :: c182 :: c183 :: c184 :: c185 :: c186 :: List.nil), []⟩ wr := by
  conv => arg 2; whnf
  have H_hk := Lib.hid hk; clear hk
  have H_hth := Lib.hid hth; clear hth
  have H_hful := Lib.hid hful; clear hful
  obtain ⟨im, hi0, hz0, hz1, hz2⟩ := info_parts msg_info
  have HIM := Lib.hid (And.intro hi0 (And.intro hz0 (And.intro hz1 hz2)))
  clear hi0 hz0 hz1 hz2
  obtain ⟨hL, hS, hlen, hql, hqs, hv, hN, hB, hBwr⟩ := hin
  have hil : i < os.length := (List.getElem?_eq_some_iff.1 ho).1
  have HV := Lib.hid hv; have HN := Lib.hid hN; have HB := Lib.hid hB; have HQS := Lib.hid hqs; have HS := Lib.hid hS; have HP := Lib.hid hP
  have HQL := Lib.hid hql
  have HL := Lib.hid hL
  have HBwr := Lib.hid hBwr
  have HG := Lib.hid (show Good qs from fun p hp => (hqs p hp).2)
  have HBL := Lib.hid (show ∀ b ∈ qs.map MsgP.out, b.length ≤ 67108864 from fun b hb => by
    obtain ⟨x, hx, rfl⟩ := List.mem_map.1 hb
    obtain ⟨⟨o, ho, rfl⟩, h8⟩ := hqs x hx
    exact out_len _ h8 (hS o ho))
  have HLM := Lib.hid (show (qs.map MsgP.out).length = qs.length from List.length_map ..)
  clear hv hN hB hqs hL hS hBwr hP
  have hil1' : (i : Int) < (os.length : Int) := by omega
  obtain ⟨ad, rfl, had, hcell⟩ := HL.out.cells (by omega)
  have hom := List.mem_of_getElem? ho
  have HCE := Lib.hid (hcell i o ho); have HOM := Lib.hid hom; have HAD := Lib.hid had
  have HPC := Lib.hid (HS.out o hom)
  have HPR := Lib.hid (show o.p.Rd wr B from HL.out.each o hom)
  clear hcell hom ho had
  go_upto_region 7 with (refine wpList_load_at rfl 33 (.tmp 22) rfl (ad.add (i * 18)) rfl o.arr _ HCE.out Try.underlying33 rfl (by kernel_rfl) ?_)
  have hb2 : Below wr.heap.size wr (wr.alloc (.cells o.arr 33)) := (Below.refl _ _).alloc (Nat.le_refl _) _
  have HO2 := Lib.hid (Blk.new wr 33 o.arr); have HN2 := Lib.hid ((HN.out.more (Y := fun k => (Value.slice As qs.length cs).ownBlock = some k ∨ k = wr.heap.size) (fun k e => e.elim Or.inl (fun e => Or.inr (Nat.le_of_eq e.symm)))).below hb2); have HV2 := Lib.hid (World.ownsRow.alloc HV.out (.cells o.arr 33))
  have HB2 := Lib.hid (HB.out.trans (hb2.mono HBwr.out)); have HPR2 := Lib.hid (HPR.out.below (hb2.mono HBwr.out) HBwr.out); have HBw2 := Lib.hid (Nat.le_trans HBwr.out hb2.size); have HL2 := Lib.hid (HL.out.below (hb2.mono HBwr.out) HBwr.out)
  have HOV := Lib.hid (show ∀ k, (Value.slice As qs.length cs).ownBlock = some k → k < wr.heap.size from fun k e => (World.ownsRow.lt HV.out k e).2)
  have HOB := Lib.hid (show B ≤ wr.heap.size from HBwr.out)
  clear hb2 HN HV HB HBwr HPR HL HCE
  generalize hOe : wr.heap.size = O at HO2 HOV HOB HN2
  obtain ⟨w2, hw2⟩ : ∃ w2, w2 = wr.alloc (.cells o.arr 33) := ⟨_, rfl⟩
  rw [show wr.alloc (.cells #[.int .i64 o.k, .int .i64 o.n, .int .i64 o.p.m.kind, .int .i64 o.p.m.from_, .int .i64 o.p.m.to_, .int .i64 o.p.m.session, .int .i64 o.p.m.decided, .int .i64 o.p.m.commit, .int .i64 o.p.m.epoch, .slice o.p.Ah o.p.m.heads.length o.p.ch, .string ⟨o.p.m.id.toArray⟩, .int .i64 o.p.m.size, .int .i64 o.p.m.sort, .int .i64 o.p.m.target, .slice o.p.Ad o.p.m.dealers.length o.p.cd, .slice o.p.Ap o.p.m.parts.length o.p.cp, .int .i64 o.p.m.code, .slice o.p.Ax o.p.m.data.length o.p.cx] 33) = w2 from hw2.symm]
  rw [← hw2] at HO2 HN2 HV2 HB2 HPR2 HBw2 HL2
  have HOL := Lib.hid (show O < w2.heap.size from HO2.out.lt)
  clear hw2 hOe
  have p1 : w2.cell? ⟨O, 1, none⟩ = some (.int .i64 o.n) := (HO2.out.cell 1).trans rfl
  go_cut [7] from 24 to 33 (fun s7 wx => s7 = .bool (decide (0 ≤ o.n ∧ o.n < (qs.length : Int))) ∧ wx = w2)
  case first =>
    by_cases h1 : 0 ≤ o.n
    · by_cases h2 : o.n < (qs.length : Int)
      · have HPP := Lib.hid (show 0 ≤ o.n ∧ o.n < (qs.length : Int) from ⟨h1, h2⟩)
        go_wp2_with fail
        go_meet
        exact ⟨by rw [decide_eq_true HPP.out], rfl⟩
      · have HPP := Lib.hid (show ¬ (0 ≤ o.n ∧ o.n < (qs.length : Int)) from fun h => h2 h.2)
        go_wp2_with fail
        go_meet
        exact ⟨by rw [decide_eq_false HPP.out], rfl⟩
    · have HPP := Lib.hid (show ¬ (0 ≤ o.n ∧ o.n < (qs.length : Int)) from fun h => h1 h.1)
      go_wp2_with fail
      go_meet
      exact ⟨by rw [decide_eq_false HPP.out], rfl⟩
  case rest =>
    obtain ⟨rfl, rfl⟩ := hcut
    clear p1
    have hb3 : Below wc.heap.size wc (wc.alloc (.cells zeroMsg 31)) := (Below.refl _ _).alloc (Nat.le_refl _) _
    have HO3 := Lib.hid (HO2.out.below hb3 HOL.out); have HZ3 := Lib.hid (Blk.new wc 31 zeroMsg); have HV3 := Lib.hid (World.ownsRow.alloc HV2.out (.cells zeroMsg 31))
    have HN3 := Lib.hid ((HN2.out.more (Y := fun k => ((Value.slice As qs.length cs).ownBlock = some k ∨ k = O) ∨ k = wc.heap.size) (fun k e => e.elim Or.inl (fun e => Or.inr (Nat.le_of_eq e.symm)))).below hb3)
    have HB3 := Lib.hid (HB2.out.trans (hb3.mono HBw2.out)); have HPR3 := Lib.hid (HPR2.out.below (hb3.mono HBw2.out) HBw2.out); have HBw3 := Lib.hid (Nat.le_trans HBw2.out hb3.size); have HL3 := Lib.hid (HL2.out.below (hb3.mono HBw2.out) HBw2.out)
    have HZL := Lib.hid (show wc.heap.size < (wc.alloc (.cells zeroMsg 31)).heap.size by simp); have HZB := Lib.hid (show B ≤ wc.heap.size from HBw2.out)
    clear hb3 HO2 HV2 HN2 HB2 HPR2 HBw2 HL2
    go_upto_region 10 with (fail)
    generalize hZe : wc.heap.size = Z at HZ3 HN3 HZL HZB HOL ⊢
    obtain ⟨w3, hw3⟩ : ∃ w3, w3 = wc.alloc (.cells zeroMsg 31) := ⟨_, rfl⟩
    rw [← hw3] at HO3 HZ3 HV3 HN3 HB3 HPR3 HBw3 HZL HL3 ⊢
    clear hw3 hZe
    obtain ⟨X, hX⟩ : ∃ X : Nat → Prop, X = fun k => ((Value.slice As qs.length cs).ownBlock = some k ∨ k = O) ∨ k = Z := ⟨_, rfl⟩
    rw [← hX] at HN3
    have HXL := Lib.hid (show ∀ k, X k → k < w3.heap.size from fun k e => by
      rw [hX] at e
      have h1 := HOL.out; have h2 := HZL.out
      rcases e with (e | e) | e
      · have := HOV.out k e; omega
      · omega
      · omega)
    have HXV := Lib.hid (show ∀ k, (Value.slice As qs.length cs).ownBlock = some k → X k from fun k e => by rw [hX]; exact Or.inl (Or.inl e))
    have HXO := Lib.hid (show X O by rw [hX]; exact Or.inl (Or.inr rfl)); have HXZ := Lib.hid (show X Z by rw [hX]; exact Or.inr rfl)
    have HVZ := Lib.hid (show ∀ k, (Value.slice As qs.length cs).ownBlock = some k → k ≠ Z from fun k e => by have h1 := HOV.out k e; have h2 := HOL.out; omega)
    have HOZ := Lib.hid (show O ≠ Z from by have := HOL.out; omega)
    clear hX
    have hk := H_hk.out
    have hth := H_hth.out
    have hful := H_hful.out
    have k0 : w3.cell? ⟨O, 0, none⟩ = some (.int .i64 o.k) := (HO3.out.cell 0).trans rfl
    have p1 : w3.cell? ⟨O, 1, none⟩ = some (.int .i64 o.n) := (HO3.out.cell 1).trans rfl
    have HK := Lib.hid hk
    rw [decide_eq_true hth]
    rw [hk] at k0
    obtain ⟨kn, hkn⟩ : ∃ kn : Nat, o.n = kn := ⟨o.n.toNat, by omega⟩
    rw [hkn] at p1 hth
    have hknl : kn < qs.length := by omega
    obtain ⟨p, hp⟩ : ∃ p, qs[kn]? = some p := ⟨_, List.getElem?_eq_getElem hknl⟩
    have HGET := Lib.hid hp; have HPM := Lib.hid (HQS.out p (List.mem_of_getElem? hp)); have HKN := Lib.hid hknl
    have HAT := Lib.hid (at_in HG.out hp); have HTK := Lib.hid (take_in HG.out hp)
    have HPC2 := Lib.hid (show p.m.cost ≤ 67108864 from by obtain ⟨⟨o2, ho2, e2⟩, _⟩ := HPM.out; rw [← e2]; exact HS.out o2 ho2)
    obtain ⟨ad2, rfl⟩ : ∃ ad2, As = some ad2 := by
      rcases HV3.out.2 with ⟨_, e⟩ | ⟨g, cap, cur, e, _⟩
      · omega
      · injection e with e1; exact ⟨_, e1⟩
    have HNK := Lib.hid hkn
    clear hp hth hkn

    go_wp2_with fail
    refine (Twice_X w3 B D X (qs.map MsgP.out) (kn : Int) HN3.out HXL.out HBw3.out HBL.out (by rw [HLM.out]; exact HQL.out)).mono ?_
    rintro e w5 ⟨rfl, hn5, hk5⟩
    have hok := ok_twice HAT.out HPM.out.2 (by rw [HLM.out]; omega)
    rw [hok.1]
    rw [hok.2] at hn5
    have HN5 := Lib.hid (show NetX w5 B D X (qs.map MsgP.out ++ [p].map MsgP.out) from hn5)
    clear hok
    have hful' : (qs.length : Int) < 4096 := by omega
    have HO5 := Lib.hid (HO3.out.keeps hk5 (fun e => e.2 HXO.out)); have HV5 := Lib.hid (row_keeps HV3.out hk5 (fun k e e2 => e2.2 (HXV.out k e)))
    have HB5 := Lib.hid (HB3.out.trans (hk5.below (fun k e => e.1) HBw3.out)); have HBw5 := Lib.hid (Nat.le_trans HBw3.out hk5.size)
    clear hk5 hn5 k0 p1 HO3 HZ3 HV3 HN3 HB3 HPR3 HL3
    have p1 : w5.cell? ⟨O, 1, none⟩ = some (.int .i64 (kn : Int)) := (HO5.out.cell 1).trans (by rw [← HNK.out]; rfl)
    have hrd := Reads.of_own HV5.out
    obtain ⟨ad3, e1, hadl, hcell⟩ := hrd.2 (Nat.zero_lt_of_lt HKN.out)
    obtain rfl := Option.some.inj e1
    have HCELL := Lib.hid (show ∀ (k : Nat) (v : Value), (msgCells p.m p.Ah p.Ad p.Ap p.Ax p.ch p.cd p.cp p.cx).toList[k]? = some v → w5.cell? ((ad2.add (kn * 16)).add k) = some v from fun k v hk => by
      rw [add_of_add]
      exact hcell _ v (msgsC_at qs kn p HGET.out k v hk))
    clear hrd hadl hcell e1
    have hknl := HKN.out
    have HPM2 := Lib.hid HPM.out

    have hbq : Below w5.heap.size w5 (w5.alloc (.cells (msgCells p.m p.Ah p.Ad p.Ap p.Ax p.ch p.cd p.cp p.cx) 31)) := (Below.refl _ _).alloc (Nat.le_refl _) _
    have HOWN := Lib.hid (World.ownsRow.alloc HV5.out (.cells (msgCells p.m p.Ah p.Ad p.Ap p.Ax p.ch p.cd p.cp p.cx) 31)); have HQ := Lib.hid (show Blk (w5.alloc (.cells (msgCells p.m p.Ah p.Ad p.Ap p.Ax p.ch p.cd p.cp p.cx) 31)) w5.heap.size 31 p.cells.toArray from Blk.new w5 31 (msgCells p.m p.Ah p.Ad p.Ap p.Ax p.ch p.cd p.cp p.cx))
    have HN6 := Lib.hid (HN5.out.below hbq)
    have HBw6 := Lib.hid (Nat.le_trans HBw5.out hbq.size); have HB6 := Lib.hid (HB5.out.trans (hbq.mono HBw5.out))
    have hql := HQL.out
    clear hbq
    go_wp2_with (first | (refine wpList_load_at rfl 31 (.tmp 126) rfl (ad2.add (kn * 16)) rfl (msgCells p.m p.Ah p.Ad p.Ap p.Ax p.ch p.cd p.cp p.cx) _ HCELL.out Try.underlying31 rfl (by kernel_rfl) ?_) | (at_builtin; refine wpList_append_any _ rfl (.tmp 122) (.tmp 128) _ rfl B 31 im _ 16 200 Try.underlying25 HIM.out.1 HIM.out.2.1 HIM.out.2.2.1 HIM.out.2.2.2 rfl (by omega) _ qs.length _ rfl HOWN.out _ (some ⟨w5.heap.size, 0, none⟩) 1 1 p.cells rfl (reads_row HQ.out rfl) (MsgP.one p) (by simp only [maxLen]; omega) (by omega) HBw6.out ?_; intro v' wA hown' hg' hat'; obtain ⟨A1, c1, rfl⟩ := row_shape hown'))
    have hnA : NetX wA B D (fun k => (Value.slice A1 (qs.length + 1) c1).ownBlock = some k) ((qs ++ [p]).map MsgP.out) := by
      obtain ⟨F, g1, g2, g3⟩ := HN6.out
      have hk : Keeps (fun k => (Value.slice (some ad2) qs.length cs).ownBlock = some k) (w5.alloc (.cells (msgCells p.m p.Ah p.Ad p.Ap p.Ax p.ch p.cd p.cp p.cx) 31)) wA := (Keeps.refl _ _).grown hg' (fun k e => Or.inr e)
      rw [List.map_append]
      refine ⟨F, g1.keeps hk (fun k e e2 => g3 k (HXV.out k e2) e), fun k e => ⟨(g2 k e).1, Nat.lt_of_lt_of_le (g2 k e).2 hk.size⟩, fun k e e2 => ?_⟩
      rcases hat' with e3 | e3
      · exact g3 k (HXV.out k (e3 ▸ e)) e2
      · have e4 := Option.some.inj (e3.symm.trans e)
        rw [← e4] at e2
        exact absurd (g2 _ e2).2 (Nat.lt_irrefl _)
    have hbA : Below B w wA := below_app2 HB6.out HOWN.out HBw6.out hg'
    have hgA : ∀ x ∈ qs ++ [p], (∃ o ∈ os, o.p = x) ∧ (WS.msg ⟨[], false⟩ x.m).bad = false := fun x hx => by
      rcases List.mem_append.1 hx with hx | hx
      · exact HQS.out x hx
      · rw [List.mem_singleton.1 hx]; exact ⟨HPM.out.1, HPM.out.2⟩
    have hoA : wA.ownsRow B 31 16 (.slice A1 (qs.length + 1) c1) (qs ++ [p]).length (msgsC (qs ++ [p])) := by
      rw [List.length_append, msgsC, List.flatMap_append]
      exact (by simpa using hown' : wA.ownsRow B 31 16 (.slice A1 (qs.length + 1) c1) (qs.length + 1) (qs.flatMap MsgP.cells ++ [p].flatMap MsgP.cells))
    exact HP.out _ _ _ _ _ _ _ _ _ _ _ _ _ _ _ _ _ _ _ _ _ _ _ _ _ _ _ _ _ _ _ _ _ _ _ _ _ _ _ _ _ _ _ _ _ _ _ _ _ _ _ _ _ _ _ _ _ _ _ _ _ _ _ _ _ _ _ _ _ _ _ _ _ _ _ _ _ _ _ _ _ _ _ _ _ _ _ _ _ _ _ _ _ _ _ _ _ _ _ _ _ _ _ _ _ _ _ _ _ _ _ _ _ _ _ _ _ _ _ _ _ _ _ _ _ _ _ _ _ _ _ _ _ _ _ _ _ _ _ _ _ _ _ _ _ _ _ _ _ _ _ _ _ _ _ _ _ _ _ _ _ _ _ _ _ _ _ _ _ _ _ _ _ _ _ (qs ++ [p]) _ (by go_num) (by rw [List.length_append]; simp only [List.length_singleton]; omega) hgA hoA hnA hbA
end Go.Proofs.Ytoekmgpnmhknoaa
