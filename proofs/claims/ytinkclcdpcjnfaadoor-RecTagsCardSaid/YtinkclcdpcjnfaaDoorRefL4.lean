/- The loop of the reference's Sum that spreads a block. No conditions. -/
import Derived.Test.YtinkclcdpcjnfaaDoorRefL3
namespace Go.Proofs.YtinkclcdpcjnfaaDoor
open Go.RowKit
set_option maxRecDepth 100000 in
set_option maxHeartbeats 2000000 in
theorem spreadLoop (c0 c1 c2 c4 c5 c6 c10 c11 c12 c13 c14 c15 c16 c17 c18 c19 c20 c21 c22 c23 c24 c25 c26 c27 c28 c29 c30 c31 c32 c33 c34 c35 c36 c37 c38 c39 c40 c41 c42 c43 c44 c45 c46 c47 c48 c49 c50 c51 c52 c53 c54 c55 c56 c57 c58 c59 c60 c61 c62 c63 c64 c65 c66 c67 c68 c69 c70 c71 c72 c73 c74 c75 c76 c77 c78 c79 c80 c81 c82 c83 c84 c85 c86 c87 c88 c89 c90 c91 c92 c93 c94 c95 c96 c97 c98 c99 c100 c101 c102 c103 c104 c105 c106 c107 c108 c109 c110 c111 c112 c113 c114 c115 c116 c117 c118 c119 c120 c121 c122 c123 c124 c125 c126 c127 c128 c129 c130 c131 c132 c133 c134 c135 c136 c137 c138 c139 c140 c141 c142 c143 c144 c145 c146 c147 c148 c149 c150 c151 c152 c153 c154 c155 c156 c157 c158 c159 c160 c161 c162 c163 c164 c165 c166 c167 c168 c169 c170 c171 c172 c173 c174 c175 c176 c177 c178 c179 c180 c181 c182 c183 c184 c185 c186 c187 c188 c189 c190 c191 c192 c193 c194 c195 c196 c197 c198 c199 c200 c201 c202 c203 c204 c205 c206 c207 c208 c209 c210 c211 c212 c213 c214 c215 c216 c217 c218 c219 c220 c221 c222 c223 c224 c225 c226 c227 c228 c229 c230 c231 c232 c233 c234 c235 c236 c237 c238 c239 c240 c241 c242 c243 c244 c245 c246 c247 c248 c249 c250 c251 c252 c253 c254 c255 c256 c257 c258 c259 c260 c261 c262 c263 c264 c265 c266 c267 c268 c269 c270 c271 c272 c273 c274 c275 c276 c277 c278 : Value) (g cb k i G c8' : Nat) (L : List UInt8) (wo : World) (Q0 : Exit → Act → World → Prop) (hik : i < k) (hk : 64 * k ≤ 140737488355328) (hgG : g ≠ G) (hgl : g < wo.heap.size) (hG0 : Blk wo G 3 (arrI L 0)) (hby : ∀ j, j < 64 → wo.cell? ⟨g, 64 * i + j, none⟩ = some (.int .u8 ((L.getD j 0).toNat)))
    (hexit : ∀ (u9 u10 u11 u12 u58 u59 u60 u61 u62 u63 u64 u65 u66 u67 u68 u69 u70 u71 u72 u73 u74 u75 u76 u77 u78 u79 u80 u81 u82 u83 u84 u85 u86 u87 u88 u89 u90 u91 u92 u93 u94 u95 u96 u97 u98 u99 u100 u101 u102 u103 u104 u105 u106 u107 u108 u109 u110 u111 u112 u113 u114 u115 u116 u117 u118 u119 u120 u121 u122 u123 u124 u125 u126 u127 u128 u129 : Value) (w' : World), Blk w' G 3 (arrI L 64) → wo.grownBy w' (some G) → Q0 (.exit 6) ⟨List.toArray (c0 :: c1 :: c2 :: .slice (some ⟨g, 0, none⟩) (64 * k) cb :: c4 :: c5 :: c6 :: .int .i64 (64 * (i : Int)) :: .slice (some ⟨G, 0, none⟩) 64 c8' :: u9 :: u10 :: u11 :: u12 :: c13 :: c14 :: c15 :: c16 :: c17 :: c18 :: c19 :: c20 :: c21 :: c22 :: c23 :: c24 :: c25 :: c26 :: c27 :: c28 :: c29 :: c30 :: c31 :: c32 :: c33 :: c34 :: c35 :: c36 :: c37 :: c38 :: c39 :: c40 :: c41 :: c42 :: c43 :: c44 :: c45 :: c46 :: c47 :: c48 :: c49 :: c50 :: c51 :: c52 :: c53 :: c54 :: c55 :: c56 :: c57 :: u58 :: u59 :: u60 :: u61 :: u62 :: u63 :: u64 :: u65 :: u66 :: u67 :: u68 :: u69 :: u70 :: u71 :: u72 :: u73 :: u74 :: u75 :: u76 :: u77 :: u78 :: u79 :: u80 :: u81 :: u82 :: u83 :: u84 :: u85 :: u86 :: u87 :: u88 :: u89 :: u90 :: u91 :: u92 :: u93 :: u94 :: u95 :: u96 :: u97 :: u98 :: u99 :: u100 :: u101 :: u102 :: u103 :: u104 :: u105 :: u106 :: u107 :: u108 :: u109 :: u110 :: u111 :: u112 :: u113 :: u114 :: u115 :: u116 :: u117 :: u118 :: u119 :: u120 :: u121 :: u122 :: u123 :: u124 :: u125 :: u126 :: u127 :: u128 :: u129 :: c130 :: c131 :: c132 :: c133 :: c134 :: c135 :: c136 :: c137 :: c138 :: c139 :: c140 :: c141 :: c142 :: c143 :: c144 :: c145 :: c146 :: c147 :: c148 :: c149 :: c150 :: c151 :: c152 :: c153 :: c154 :: c155 :: c156 :: c157 :: c158 :: c159 :: c160 :: c161 :: c162 :: c163 :: c164 :: c165 :: c166 :: c167 :: c168 :: c169 :: c170 :: c171 :: c172 :: c173 :: c174 :: c175 :: c176 :: c177 :: c178 :: c179 :: c180 :: c181 :: c182 :: c183 :: c184 :: c185 :: c186 :: c187 :: c188 :: c189 :: c190 :: c191 :: c192 :: c193 :: c194 :: c195 :: c196 :: c197 :: c198 :: c199 :: c200 :: c201 :: c202 :: c203 :: c204 :: c205 :: c206 :: c207 :: c208 :: c209 :: c210 :: c211 :: c212 :: c213 :: c214 :: c215 :: c216 :: c217 :: c218 :: c219 :: c220 :: c221 :: c222 :: c223 :: c224 :: c225 :: c226 :: c227 :: c228 :: c229 :: c230 :: c231 :: c232 :: c233 :: c234 :: c235 :: c236 :: c237 :: c238 :: c239 :: c240 :: c241 :: c242 :: c243 :: c244 :: c245 :: c246 :: c247 :: c248 :: c249 :: c250 :: c251 :: c252 :: c253 :: c254 :: c255 :: c256 :: c257 :: c258 :: c259 :: c260 :: c261 :: c262 :: c263 :: c264 :: c265 :: c266 :: c267 :: c268 :: c269 :: c270 :: c271 :: c272 :: c273 :: c274 :: c275 :: c276 :: c277 :: c278 :: List.nil), []⟩ w') :
    Code.wp Tryd.prog (Code.loop (refLoop 3)) Q0 ⟨List.toArray (c0 :: c1 :: c2 :: .slice (some ⟨g, 0, none⟩) (64 * k) cb :: c4 :: c5 :: c6 :: .int .i64 (64 * (i : Int)) :: .slice (some ⟨G, 0, none⟩) 64 c8' :: .int .i64 0 :: c10 :: c11 :: c12 :: c13 :: c14 :: c15 :: c16 :: c17 :: c18 :: c19 :: c20 :: c21 :: c22 :: c23 :: c24 :: c25 :: c26 :: c27 :: c28 :: c29 :: c30 :: c31 :: c32 :: c33 :: c34 :: c35 :: c36 :: c37 :: c38 :: c39 :: c40 :: c41 :: c42 :: c43 :: c44 :: c45 :: c46 :: c47 :: c48 :: c49 :: c50 :: c51 :: c52 :: c53 :: c54 :: c55 :: c56 :: c57 :: c58 :: c59 :: c60 :: c61 :: c62 :: c63 :: c64 :: c65 :: c66 :: c67 :: c68 :: c69 :: c70 :: c71 :: c72 :: c73 :: c74 :: c75 :: c76 :: c77 :: c78 :: c79 :: c80 :: c81 :: c82 :: c83 :: c84 :: c85 :: c86 :: c87 :: c88 :: c89 :: c90 :: c91 :: c92 :: c93 :: c94 :: c95 :: c96 :: c97 :: c98 :: c99 :: c100 :: c101 :: c102 :: c103 :: c104 :: c105 :: c106 :: c107 :: c108 :: c109 :: c110 :: c111 :: c112 :: c113 :: c114 :: c115 :: c116 :: c117 :: c118 :: c119 :: c120 :: c121 :: c122 :: c123 :: c124 :: c125 :: c126 :: c127 :: c128 :: c129 :: c130 :: c131 :: c132 :: c133 :: c134 :: c135 :: c136 :: c137 :: c138 :: c139 :: c140 :: c141 :: c142 :: c143 :: c144 :: c145 :: c146 :: c147 :: c148 :: c149 :: c150 :: c151 :: c152 :: c153 :: c154 :: c155 :: c156 :: c157 :: c158 :: c159 :: c160 :: c161 :: c162 :: c163 :: c164 :: c165 :: c166 :: c167 :: c168 :: c169 :: c170 :: c171 :: c172 :: c173 :: c174 :: c175 :: c176 :: c177 :: c178 :: c179 :: c180 :: c181 :: c182 :: c183 :: c184 :: c185 :: c186 :: c187 :: c188 :: c189 :: c190 :: c191 :: c192 :: c193 :: c194 :: c195 :: c196 :: c197 :: c198 :: c199 :: c200 :: c201 :: c202 :: c203 :: c204 :: c205 :: c206 :: c207 :: c208 :: c209 :: c210 :: c211 :: c212 :: c213 :: c214 :: c215 :: c216 :: c217 :: c218 :: c219 :: c220 :: c221 :: c222 :: c223 :: c224 :: c225 :: c226 :: c227 :: c228 :: c229 :: c230 :: c231 :: c232 :: c233 :: c234 :: c235 :: c236 :: c237 :: c238 :: c239 :: c240 :: c241 :: c242 :: c243 :: c244 :: c245 :: c246 :: c247 :: c248 :: c249 :: c250 :: c251 :: c252 :: c253 :: c254 :: c255 :: c256 :: c257 :: c258 :: c259 :: c260 :: c261 :: c262 :: c263 :: c264 :: c265 :: c266 :: c267 :: c268 :: c269 :: c270 :: c271 :: c272 :: c273 :: c274 :: c275 :: c276 :: c277 :: c278 :: List.nil), []⟩ wo := by
  conv => arg 2; arg 1; whnf
  have HBY := Lib.hid hby; clear hby
  go_loopw [9, 10, 11, 12] (fun q _ _ _ wq => ∃ t : Nat, t ≤ 64 ∧ q = .int .i64 (t : Int) ∧ wo.grownBy wq (some G) ∧ Blk wq G 3 (arrI L t)) (fun q _ _ _ _ => 64 - (intOf q).toNat)
  case atStart => exact ⟨0, by omega, rfl, ⟨rfl, rfl, rfl, Nat.le_refl _, fun _ _ _ => rfl⟩, hG0⟩
  case round =>
    obtain ⟨t, ht, rfl, hb, hG⟩ := hrel
    by_cases h64 : t < 64
    · by_cases h16 : t < 16
      · go_wp2_with fail
        obtain ⟨wq, rfl⟩ : ∃ wq : World, wq = wr := ⟨_, rfl⟩
        refine copyLoop _ _ _ _ _ _ _ _ _ _ _ _ _ _ _ _ _ _ _ _ _ _ _ _ _ _ _ _ _ _ _ _ _ _ _ _ _ _ _ _ _ _ _ _ _ _ _ _ _ _ _ _ _ _ _ _ _ _ _ _ _ _ _ _ _ _ _ _ _ _ _ _ _ _ _ _ _ _ _ _ _ _ _ _ _ _ _ _ _ _ _ _ _ _ _ _ _ _ _ _ _ _ _ _ _ _ _ _ _ _ _ _ _ _ _ _ _ _ _ _ _ _ _ _ _ _ _ _ _ _ _ _ _ _ _ _ _ _ _ _ _ _ _ _ _ _ _ _ _ _ _ _ _ _ _ _ _ _ _ _ _ _ _ _ _ _ _ _ _ _ _ _ _ _ _ _ _ _ _ _ _ _ _ _ _ _ _ _ _ _ _ _ _ _ _ _ _ _ _ _ _ _ _ _ _ _ _ _ _ _ _ _ _ _ _ _ _ _ _ _ _ _ _ _ _ _ _ _ _ _ _ _ _ _ _ _ _ _ _ _ _ _ _ _ _ _ _ _ _ _ _ _ _ _ _ _ _ _ _ _ _ _ _ _ _ _ _ _ _ _ _ _ _ _ g cb k i t G c8' L wq _ hik h16 hk hgG (Nat.lt_of_lt_of_le hgl hb.size) hG (fun j hj => by rw [cell_grown hb hgl hgG]; exact HBY.out j hj) ?_
        intro z0 z1 z2 z3 z4 z5 z6 z7 z8 z9 z10 z11 z12 z13 z14 z15 z16 z17 z18 z19 z20 z21 z22 z23 w' hG' hb'
        have hbb : wo.grownBy w' (some G) := ⟨hb'.os.trans hb.os, hb'.tape.trans hb.tape, hb'.output.trans hb.output, Nat.le_trans hb.size hb'.size, fun q hq hne => (hb'.block q (Nat.lt_of_lt_of_le hq hb.size) hne).trans (hb.block q hq hne)⟩
        clear hb hb' hexit hG
        go_wp2
        go_roundw
        case rel => exact ⟨t + 1, by omega, by go_num, hbb, hG'⟩
        case measure => simp [intOf]; omega
      · have m16 : ¬ (t : Int) < 16 := by omega
        have d2 : wr.cell? ⟨G, t - 2, none⟩ = some (.int .i64 (n32 ((spreadTo L t).getD (t - 2) 0))) := (hG.cell _).trans (arrI_get L t _ (by omega))
        have d7 : wr.cell? ⟨G, t - 7, none⟩ = some (.int .i64 (n32 ((spreadTo L t).getD (t - 7) 0))) := (hG.cell _).trans (arrI_get L t _ (by omega))
        have d15 : wr.cell? ⟨G, t - 15, none⟩ = some (.int .i64 (n32 ((spreadTo L t).getD (t - 15) 0))) := (hG.cell _).trans (arrI_get L t _ (by omega))
        have d16 : wr.cell? ⟨G, t - 16, none⟩ = some (.int .i64 (n32 ((spreadTo L t).getD (t - 16) 0))) := (hG.cell _).trans (arrI_get L t _ (by omega))
        have hw : nextW (spreadTo L t) t = nextOf ((spreadTo L t).getD (t - 2) 0) ((spreadTo L t).getD (t - 7) 0) ((spreadTo L t).getD (t - 15) 0) ((spreadTo L t).getD (t - 16) 0) := rfl
        generalize (spreadTo L t).getD (t - 2) 0 = x2 at d2 hw
        generalize (spreadTo L t).getD (t - 7) 0 = x7 at d7 hw
        generalize (spreadTo L t).getD (t - 15) 0 = x15 at d15 hw
        generalize (spreadTo L t).getD (t - 16) 0 = x16 at d16 hw
        have HW := Lib.hid hw; clear hw hexit
        have f1 : wr.frozen? ⟨G, t, none⟩ = false := hG.frozen t
        have c1 : wr.cell? ⟨G, t, none⟩ = some (.int .i64 0) := (hG.cell t).trans (arrI_here L t h64)
        go_wp2_with fail
        refine wp_region_q (by kernel_rfl) (by kernel_rfl) ?_
        repeat (first | go_big_quiet_skip | (go_big_quiet_want; go_big_quiet_op; first | go_big_quiet_on))
        refine wpQuiet_nil ?_
        go_wp2_with fail
        refine wp_region_qt 33 (by kernel_rfl) (by kernel_rfl) ?_
        simp only [List.take_succ_cons, List.take_zero, List.drop_succ_cons, List.drop_zero]
        repeat (first | go_big_quiet_skip | (go_big_quiet_want; go_big_quiet_op; first | go_big_quiet_on | (apply Exists.intro; refine ⟨?_, ?_⟩; (with_reducible first | exact turn_17 _ _ | exact turn_19 _ _ | exact turn_7 _ _ | exact turn_18 _ _); go_big_quiet_on)))
        refine wpQuiet_nil ?_
        go_wp2
        go_roundw
        case rel =>
          refine ⟨t + 1, by omega, by go_num, grownBy_drew (grownBy_drew (grownBy_set hb t _)), ?_⟩
          have h2 := (hG.set_ t (.int .i64 (n32 (nextW (spreadTo L t) t)))).drew.drew
          rw [arrI_step L t h64 _ (by rw [if_neg h16])] at h2
          rw [HW.out] at h2
          exact h2
        case measure => simp [intOf]; omega
    · obtain rfl : t = 64 := by omega
      go_wp2_with fail
      exact hexit _ _ _ _ _ _ _ _ _ _ _ _ _ _ _ _ _ _ _ _ _ _ _ _ _ _ _ _ _ _ _ _ _ _ _ _ _ _ _ _ _ _ _ _ _ _ _ _ _ _ _ _ _ _ _ _ _ _ _ _ _ _ _ _ _ _ _ _ _ _ _ _ _ _ _ _ _ hG hb
end Go.Proofs.YtinkclcdpcjnfaaDoor
