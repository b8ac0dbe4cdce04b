/- The loop of the reference's Sum that does the 64 rounds. No conditions. -/
import Derived.Test.YtinkclcdpcjnfaaDoorRefL0
namespace Go.Proofs.YtinkclcdpcjnfaaDoor
open Go.RowKit
set_option maxRecDepth 100000 in
set_option maxHeartbeats 1000000 in
theorem rndLoop (c0 c1 c2 c3 c4 c5 c7 c9 c10 c11 c12 c15 c16 c17 c18 c19 c20 c21 c22 c23 c24 c25 c26 c27 c28 c29 c30 c31 c32 c33 c34 c35 c36 c37 c38 c39 c40 c41 c42 c43 c44 c45 c46 c47 c48 c49 c50 c51 c52 c53 c54 c55 c56 c57 c58 c59 c60 c61 c62 c63 c64 c65 c66 c67 c68 c69 c70 c71 c72 c73 c74 c75 c76 c77 c78 c79 c80 c81 c82 c83 c84 c85 c86 c87 c88 c89 c90 c91 c92 c93 c94 c95 c96 c97 c98 c99 c100 c101 c102 c103 c104 c105 c106 c107 c108 c109 c110 c111 c112 c113 c114 c115 c116 c117 c118 c119 c120 c121 c122 c123 c124 c125 c126 c127 c128 c129 c130 c131 c132 c133 c134 c135 c136 c137 c138 c139 c140 c141 c142 c143 c144 c145 c146 c147 c148 c149 c150 c151 c152 c153 c154 c155 c156 c157 c158 c159 c160 c161 c162 c163 c164 c165 c166 c167 c168 c169 c170 c171 c172 c173 c174 c175 c176 c177 c178 c179 c180 c181 c182 c183 c184 c185 c186 c187 c188 c189 c190 c191 c192 c193 c194 c195 c196 c197 c198 c199 c200 c201 c202 c203 c204 c205 c206 c207 c208 c209 c210 c211 c212 c213 c214 c215 c216 c217 c218 c219 c220 c221 c222 c223 c224 c225 c226 c227 c228 c229 c230 c231 c232 c233 c234 c235 c236 c237 c238 c239 c240 c241 c242 c243 c244 c245 c246 c247 c248 c249 c250 c251 c252 c253 c254 c255 c256 c257 c258 c259 c260 c261 c262 c263 c264 c265 c266 c267 c268 c269 c270 c271 c272 c273 c274 c275 c276 c277 c278 : Value) (K G gv0 c6' c8' cv0 : Nat) (L : List UInt8) (V : V8) (wo : World) (Q0 : Exit → Act → World → Prop) (hK : Blk wo K 3 kcells) (hG : Blk wo G 3 (arrI L 64)) (hgG0 : G < gv0) (hcv0 : ∀ j, j < 8 → wo.cell? ⟨gv0, j, none⟩ = some (.int .i64 (n32 (V.list.getD j 0))))
    (hexit : ∀ (u14 u15 u16 u17 u18 u133 u134 u135 u136 u137 u138 u139 u140 u141 u142 u143 u144 u145 u146 u147 u148 u149 u150 u151 u152 u153 u154 u155 u156 u157 u158 u159 u160 u161 u162 u163 u164 u165 u166 u167 u168 u169 u170 u171 u172 u173 u174 u175 u176 u177 u178 u179 u180 u181 u182 u183 u184 u185 u186 u187 u188 u189 u190 u191 u192 u193 u194 u195 u196 u197 u198 u199 u200 u201 u202 u203 u204 u205 u206 u207 u208 u209 u210 u211 u212 u213 u214 u215 u216 u217 u218 u219 u220 u221 u222 u223 u224 u225 u226 u227 u228 u229 u230 : Value) (gv cv : Nat) (w' : World), G < gv → Below wo.heap.size wo w' → (∀ j, j < 8 → w'.cell? ⟨gv, j, none⟩ = some (.int .i64 (n32 ((rnds ks (spreadTo L 64) V 64).list.getD j 0)))) → Q0 (.exit 10) ⟨List.toArray (c0 :: c1 :: c2 :: c3 :: c4 :: c5 :: .slice (some ⟨K, 0, none⟩) 64 c6' :: c7 :: .slice (some ⟨G, 0, none⟩) 64 c8' :: c9 :: c10 :: c11 :: c12 :: .slice (some ⟨gv, 0, none⟩) 8 cv :: u14 :: u15 :: u16 :: u17 :: u18 :: c19 :: c20 :: c21 :: c22 :: c23 :: c24 :: c25 :: c26 :: c27 :: c28 :: c29 :: c30 :: c31 :: c32 :: c33 :: c34 :: c35 :: c36 :: c37 :: c38 :: c39 :: c40 :: c41 :: c42 :: c43 :: c44 :: c45 :: c46 :: c47 :: c48 :: c49 :: c50 :: c51 :: c52 :: c53 :: c54 :: c55 :: c56 :: c57 :: c58 :: c59 :: c60 :: c61 :: c62 :: c63 :: c64 :: c65 :: c66 :: c67 :: c68 :: c69 :: c70 :: c71 :: c72 :: c73 :: c74 :: c75 :: c76 :: c77 :: c78 :: c79 :: c80 :: c81 :: c82 :: c83 :: c84 :: c85 :: c86 :: c87 :: c88 :: c89 :: c90 :: c91 :: c92 :: c93 :: c94 :: c95 :: c96 :: c97 :: c98 :: c99 :: c100 :: c101 :: c102 :: c103 :: c104 :: c105 :: c106 :: c107 :: c108 :: c109 :: c110 :: c111 :: c112 :: c113 :: c114 :: c115 :: c116 :: c117 :: c118 :: c119 :: c120 :: c121 :: c122 :: c123 :: c124 :: c125 :: c126 :: c127 :: c128 :: c129 :: c130 :: c131 :: c132 :: u133 :: u134 :: u135 :: u136 :: u137 :: u138 :: u139 :: u140 :: u141 :: u142 :: u143 :: u144 :: u145 :: u146 :: u147 :: u148 :: u149 :: u150 :: u151 :: u152 :: u153 :: u154 :: u155 :: u156 :: u157 :: u158 :: u159 :: u160 :: u161 :: u162 :: u163 :: u164 :: u165 :: u166 :: u167 :: u168 :: u169 :: u170 :: u171 :: u172 :: u173 :: u174 :: u175 :: u176 :: u177 :: u178 :: u179 :: u180 :: u181 :: u182 :: u183 :: u184 :: u185 :: u186 :: u187 :: u188 :: u189 :: u190 :: u191 :: u192 :: u193 :: u194 :: u195 :: u196 :: u197 :: u198 :: u199 :: u200 :: u201 :: u202 :: u203 :: u204 :: u205 :: u206 :: u207 :: u208 :: u209 :: u210 :: u211 :: u212 :: u213 :: u214 :: u215 :: u216 :: u217 :: u218 :: u219 :: u220 :: u221 :: u222 :: u223 :: u224 :: u225 :: u226 :: u227 :: u228 :: u229 :: u230 :: c231 :: c232 :: c233 :: c234 :: c235 :: c236 :: c237 :: c238 :: c239 :: c240 :: c241 :: c242 :: c243 :: c244 :: c245 :: c246 :: c247 :: c248 :: c249 :: c250 :: c251 :: c252 :: c253 :: c254 :: c255 :: c256 :: c257 :: c258 :: c259 :: c260 :: c261 :: c262 :: c263 :: c264 :: c265 :: c266 :: c267 :: c268 :: c269 :: c270 :: c271 :: c272 :: c273 :: c274 :: c275 :: c276 :: c277 :: c278 :: List.nil), []⟩ w') :
    Code.wp Tryd.prog (Code.loop (refLoop 5)) Q0 ⟨List.toArray (c0 :: c1 :: c2 :: c3 :: c4 :: c5 :: .slice (some ⟨K, 0, none⟩) 64 c6' :: c7 :: .slice (some ⟨G, 0, none⟩) 64 c8' :: c9 :: c10 :: c11 :: c12 :: .slice (some ⟨gv0, 0, none⟩) 8 cv0 :: .int .i64 0 :: c15 :: c16 :: c17 :: c18 :: c19 :: c20 :: c21 :: c22 :: c23 :: c24 :: c25 :: c26 :: c27 :: c28 :: c29 :: c30 :: c31 :: c32 :: c33 :: c34 :: c35 :: c36 :: c37 :: c38 :: c39 :: c40 :: c41 :: c42 :: c43 :: c44 :: c45 :: c46 :: c47 :: c48 :: c49 :: c50 :: c51 :: c52 :: c53 :: c54 :: c55 :: c56 :: c57 :: c58 :: c59 :: c60 :: c61 :: c62 :: c63 :: c64 :: c65 :: c66 :: c67 :: c68 :: c69 :: c70 :: c71 :: c72 :: c73 :: c74 :: c75 :: c76 :: c77 :: c78 :: c79 :: c80 :: c81 :: c82 :: c83 :: c84 :: c85 :: c86 :: c87 :: c88 :: c89 :: c90 :: c91 :: c92 :: c93 :: c94 :: c95 :: c96 :: c97 :: c98 :: c99 :: c100 :: c101 :: c102 :: c103 :: c104 :: c105 :: c106 :: c107 :: c108 :: c109 :: c110 :: c111 :: c112 :: c113 :: c114 :: c115 :: c116 :: c117 :: c118 :: c119 :: c120 :: c121 :: c122 :: c123 :: c124 :: c125 :: c126 :: c127 :: c128 :: c129 :: c130 :: c131 :: c132 :: c133 :: c134 :: c135 :: c136 :: c137 :: c138 :: c139 :: c140 :: c141 :: c142 :: c143 :: c144 :: c145 :: c146 :: c147 :: c148 :: c149 :: c150 :: c151 :: c152 :: c153 :: c154 :: c155 :: c156 :: c157 :: c158 :: c159 :: c160 :: c161 :: c162 :: c163 :: c164 :: c165 :: c166 :: c167 :: c168 :: c169 :: c170 :: c171 :: c172 :: c173 :: c174 :: c175 :: c176 :: c177 :: c178 :: c179 :: c180 :: c181 :: c182 :: c183 :: c184 :: c185 :: c186 :: c187 :: c188 :: c189 :: c190 :: c191 :: c192 :: c193 :: c194 :: c195 :: c196 :: c197 :: c198 :: c199 :: c200 :: c201 :: c202 :: c203 :: c204 :: c205 :: c206 :: c207 :: c208 :: c209 :: c210 :: c211 :: c212 :: c213 :: c214 :: c215 :: c216 :: c217 :: c218 :: c219 :: c220 :: c221 :: c222 :: c223 :: c224 :: c225 :: c226 :: c227 :: c228 :: c229 :: c230 :: c231 :: c232 :: c233 :: c234 :: c235 :: c236 :: c237 :: c238 :: c239 :: c240 :: c241 :: c242 :: c243 :: c244 :: c245 :: c246 :: c247 :: c248 :: c249 :: c250 :: c251 :: c252 :: c253 :: c254 :: c255 :: c256 :: c257 :: c258 :: c259 :: c260 :: c261 :: c262 :: c263 :: c264 :: c265 :: c266 :: c267 :: c268 :: c269 :: c270 :: c271 :: c272 :: c273 :: c274 :: c275 :: c276 :: c277 :: c278 :: List.nil), []⟩ wo := by
  conv => arg 2; arg 1; whnf
  have hKl := hK.lt
  have hGl := hG.lt
  go_loopw [14, 13, 15, 16, 17, 18] (fun q v _ _ _ _ wq => ∃ (t gv cv : Nat), t ≤ 64 ∧ q = .int .i64 (t : Int) ∧ v = .slice (some ⟨gv, 0, none⟩) 8 cv ∧ G < gv ∧ Below wo.heap.size wo wq ∧ ∀ j, j < 8 → wq.cell? ⟨gv, j, none⟩ = some (.int .i64 (n32 ((rnds ks (spreadTo L 64) V t).list.getD j 0)))) (fun q _ _ _ _ _ _ => 64 - (intOf q).toNat)
  case atStart => exact ⟨0, gv0, cv0, by omega, rfl, rfl, hgG0, Below.refl _ _, by rw [rnds_zero]; exact hcv0⟩
  case round =>
    clear hcv0
    obtain ⟨t, gv, cv, ht, rfl, rfl, hgG, hb, hcv⟩ := hrel
    by_cases h64 : t < 64
    · have hkt : wr.cell? ⟨K, t, none⟩ = some (.int .i64 (n32 (ks.getD t 0))) := ((hK.below hb hKl).cell t).trans (kcells_get t h64)
      have hwt : wr.cell? ⟨G, t, none⟩ = some (.int .i64 (n32 ((spreadTo L 64).getD t 0))) := ((hG.below hb hGl).cell t).trans (arrI_get L 64 t h64)
      have hnext := rnds_succ ks (spreadTo L 64) V t
      generalize ks.getD t 0 = kt at hkt hnext
      generalize (spreadTo L 64).getD t 0 = wt at hwt hnext
      generalize rnds ks (spreadTo L 64) V t = U at hcv hnext
      have HN := Lib.hid hnext; clear hnext hexit hK hG
      obtain ⟨va, vb, vc, vd, ve, vf, vg, vh⟩ := U
      have q0 : wr.cell? ⟨gv, 0, none⟩ = some (.int .i64 (n32 va)) := hcv 0 (by omega)
      have q1 : wr.cell? ⟨gv, 1, none⟩ = some (.int .i64 (n32 vb)) := hcv 1 (by omega)
      have q2 : wr.cell? ⟨gv, 2, none⟩ = some (.int .i64 (n32 vc)) := hcv 2 (by omega)
      have q3 : wr.cell? ⟨gv, 3, none⟩ = some (.int .i64 (n32 vd)) := hcv 3 (by omega)
      have q4 : wr.cell? ⟨gv, 4, none⟩ = some (.int .i64 (n32 ve)) := hcv 4 (by omega)
      have q5 : wr.cell? ⟨gv, 5, none⟩ = some (.int .i64 (n32 vf)) := hcv 5 (by omega)
      have q6 : wr.cell? ⟨gv, 6, none⟩ = some (.int .i64 (n32 vg)) := hcv 6 (by omega)
      have q7 : wr.cell? ⟨gv, 7, none⟩ = some (.int .i64 (n32 vh)) := hcv 7 (by omega)
      clear hcv
      go_wp2_with fail
      refine wp_region_q (by kernel_rfl) (by kernel_rfl) ?_
      repeat (first | go_big_quiet_skip | (go_big_quiet_want; go_big_quiet_op; first | go_big_quiet_on))
      refine wpQuiet_nil ?_
      go_wp2_with fail
      refine wp_region_q (by kernel_rfl) (by kernel_rfl) ?_
      repeat (first | go_big_quiet_skip | (go_big_quiet_want; go_big_quiet_op; first | go_big_quiet_on | (apply Exists.intro; refine ⟨?_, ?_⟩; (with_reducible first | exact turn_6 _ _ | exact turn_11 _ _ | exact turn_25 _ _); go_big_quiet_on)))
      refine wpQuiet_nil ?_
      go_wp2_with fail
      refine wp_region_q (by kernel_rfl) (by kernel_rfl) ?_
      repeat (first | go_big_quiet_skip | (go_big_quiet_want; go_big_quiet_op; first | go_big_quiet_on | (apply Exists.intro; refine ⟨?_, ?_⟩; (with_reducible first | exact turn_2 _ _ | exact turn_13 _ _ | exact turn_22 _ _); go_big_quiet_on)))
      refine wpQuiet_nil ?_
      go_wp2_with fail
      refine wp_region_qt 24 (by kernel_rfl) (by kernel_rfl) ?_
      simp only [List.take_succ_cons, List.take_zero, List.drop_succ_cons, List.drop_zero]
      repeat (first | go_big_quiet_skip | (go_big_quiet_want; go_big_quiet_op; first | go_big_quiet_on))
      refine wpQuiet_nil ?_
      go_wp2
      go_roundw
      case rel =>
        have hnew := Blk.new wr.drew.drew.drew.drew 3 (rnd ⟨va, vb, vc, vd, ve, vf, vg, vh⟩ kt wt).ints
        refine ⟨t + 1, wr.heap.size, 8, by omega, by go_num, rfl, by have := hb.size; omega, hb.drew.drew.drew.drew.alloc hb.size _, fun j hj => ?_⟩
        rw [HN.out]
        exact (hnew.cell j).trans (ints_get _ j hj)
      case measure => simp [intOf]; omega
    · obtain rfl : t = 64 := by omega
      go_wp2_with fail
      exact hexit _ _ _ _ _ _ _ _ _ _ _ _ _ _ _ _ _ _ _ _ _ _ _ _ _ _ _ _ _ _ _ _ _ _ _ _ _ _ _ _ _ _ _ _ _ _ _ _ _ _ _ _ _ _ _ _ _ _ _ _ _ _ _ _ _ _ _ _ _ _ _ _ _ _ _ _ _ _ _ _ _ _ _ _ _ _ _ _ _ _ _ _ _ _ _ _ _ _ _ _ _ _ _ _ _ _ hgG hb hcv
end Go.Proofs.YtinkclcdpcjnfaaDoor
