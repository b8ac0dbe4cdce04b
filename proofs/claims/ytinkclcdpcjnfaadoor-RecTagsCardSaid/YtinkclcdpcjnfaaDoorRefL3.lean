/- The loop of the reference's Sum that spreads a block, with its copy of four bytes. No conditions. -/
import Derived.Test.YtinkclcdpcjnfaaDoorRefL0
namespace Go.Proofs.YtinkclcdpcjnfaaDoor
open Go.RowKit
/-- The bytes of another block stay. -/
theorem cell_grown {w w' : World} {g G i : Nat} (h : w.grownBy w' (some G)) (hg : g < w.heap.size) (hne : g ≠ G) : w'.cell? ⟨g, i, none⟩ = w.cell? ⟨g, i, none⟩ := by
  have hb := h.block g hg (fun e => hne (by injection e))
  unfold World.cell? at *
  simp only [hb]
set_option maxRecDepth 100000 in
set_option maxHeartbeats 2000000 in
theorem copyLoop (c0 c1 c2 c4 c5 c6 c11 c12 c13 c14 c15 c16 c17 c18 c19 c20 c21 c22 c23 c24 c25 c26 c27 c28 c29 c30 c31 c32 c33 c34 c35 c36 c37 c38 c39 c40 c41 c42 c43 c44 c45 c46 c47 c48 c49 c50 c51 c52 c53 c54 c55 c56 c57 c58 c59 c60 c61 c62 c63 c64 c65 c66 c67 c68 c69 c70 c71 c72 c73 c74 c75 c76 c77 c78 c79 c80 c81 c82 c83 c84 c85 c86 c87 c88 c89 c90 c91 c92 c93 c94 c95 c96 c97 c98 c99 c100 c101 c102 c103 c104 c105 c106 c107 c108 c109 c110 c111 c112 c113 c114 c115 c116 c117 c118 c119 c120 c121 c122 c123 c124 c125 c126 c127 c128 c129 c130 c131 c132 c133 c134 c135 c136 c137 c138 c139 c140 c141 c142 c143 c144 c145 c146 c147 c148 c149 c150 c151 c152 c153 c154 c155 c156 c157 c158 c159 c160 c161 c162 c163 c164 c165 c166 c167 c168 c169 c170 c171 c172 c173 c174 c175 c176 c177 c178 c179 c180 c181 c182 c183 c184 c185 c186 c187 c188 c189 c190 c191 c192 c193 c194 c195 c196 c197 c198 c199 c200 c201 c202 c203 c204 c205 c206 c207 c208 c209 c210 c211 c212 c213 c214 c215 c216 c217 c218 c219 c220 c221 c222 c223 c224 c225 c226 c227 c228 c229 c230 c231 c232 c233 c234 c235 c236 c237 c238 c239 c240 c241 c242 c243 c244 c245 c246 c247 c248 c249 c250 c251 c252 c253 c254 c255 c256 c257 c258 c259 c260 c261 c262 c263 c264 c265 c266 c267 c268 c269 c270 c271 c272 c273 c274 c275 c276 c277 c278 : Value) (g cb k i t G c8' : Nat) (L : List UInt8) (wo : World) (Q0 : Exit → Act → World → Prop) (hik : i < k) (h16 : t < 16) (hk : 64 * k ≤ 140737488355328) (hgG : g ≠ G) (hgl : g < wo.heap.size) (hG0 : Blk wo G 3 (arrI L t)) (hby : ∀ j, j < 64 → wo.cell? ⟨g, 64 * i + j, none⟩ = some (.int .u8 ((L.getD j 0).toNat)))
    (hexit : ∀ (u10 u64 u65 u66 u67 u68 u69 u70 u71 u72 u73 u74 u75 u76 u77 u78 u79 u80 u81 u82 u83 u84 u85 u86 : Value) (w' : World), Blk w' G 3 (arrI L (t + 1)) → wo.grownBy w' (some G) → Q0 (.exit 8) ⟨List.toArray (c0 :: c1 :: c2 :: .slice (some ⟨g, 0, none⟩) (64 * k) cb :: c4 :: c5 :: c6 :: .int .i64 (64 * (i : Int)) :: .slice (some ⟨G, 0, none⟩) 64 c8' :: .int .i64 (t : Int) :: u10 :: c11 :: c12 :: c13 :: c14 :: c15 :: c16 :: c17 :: c18 :: c19 :: c20 :: c21 :: c22 :: c23 :: c24 :: c25 :: c26 :: c27 :: c28 :: c29 :: c30 :: c31 :: c32 :: c33 :: c34 :: c35 :: c36 :: c37 :: c38 :: c39 :: c40 :: c41 :: c42 :: c43 :: c44 :: c45 :: c46 :: c47 :: c48 :: c49 :: c50 :: c51 :: c52 :: c53 :: c54 :: c55 :: c56 :: c57 :: c58 :: c59 :: c60 :: c61 :: c62 :: c63 :: u64 :: u65 :: u66 :: u67 :: u68 :: u69 :: u70 :: u71 :: u72 :: u73 :: u74 :: u75 :: u76 :: u77 :: u78 :: u79 :: u80 :: u81 :: u82 :: u83 :: u84 :: u85 :: u86 :: c87 :: c88 :: c89 :: c90 :: c91 :: c92 :: c93 :: c94 :: c95 :: c96 :: c97 :: c98 :: c99 :: c100 :: c101 :: c102 :: c103 :: c104 :: c105 :: c106 :: c107 :: c108 :: c109 :: c110 :: c111 :: c112 :: c113 :: c114 :: c115 :: c116 :: c117 :: c118 :: c119 :: c120 :: c121 :: c122 :: c123 :: c124 :: c125 :: c126 :: c127 :: c128 :: c129 :: c130 :: c131 :: c132 :: c133 :: c134 :: c135 :: c136 :: c137 :: c138 :: c139 :: c140 :: c141 :: c142 :: c143 :: c144 :: c145 :: c146 :: c147 :: c148 :: c149 :: c150 :: c151 :: c152 :: c153 :: c154 :: c155 :: c156 :: c157 :: c158 :: c159 :: c160 :: c161 :: c162 :: c163 :: c164 :: c165 :: c166 :: c167 :: c168 :: c169 :: c170 :: c171 :: c172 :: c173 :: c174 :: c175 :: c176 :: c177 :: c178 :: c179 :: c180 :: c181 :: c182 :: c183 :: c184 :: c185 :: c186 :: c187 :: c188 :: c189 :: c190 :: c191 :: c192 :: c193 :: c194 :: c195 :: c196 :: c197 :: c198 :: c199 :: c200 :: c201 :: c202 :: c203 :: c204 :: c205 :: c206 :: c207 :: c208 :: c209 :: c210 :: c211 :: c212 :: c213 :: c214 :: c215 :: c216 :: c217 :: c218 :: c219 :: c220 :: c221 :: c222 :: c223 :: c224 :: c225 :: c226 :: c227 :: c228 :: c229 :: c230 :: c231 :: c232 :: c233 :: c234 :: c235 :: c236 :: c237 :: c238 :: c239 :: c240 :: c241 :: c242 :: c243 :: c244 :: c245 :: c246 :: c247 :: c248 :: c249 :: c250 :: c251 :: c252 :: c253 :: c254 :: c255 :: c256 :: c257 :: c258 :: c259 :: c260 :: c261 :: c262 :: c263 :: c264 :: c265 :: c266 :: c267 :: c268 :: c269 :: c270 :: c271 :: c272 :: c273 :: c274 :: c275 :: c276 :: c277 :: c278 :: List.nil), []⟩ w') :
    Code.wp Tryd.prog (Code.loop (refLoop 4)) Q0 ⟨List.toArray (c0 :: c1 :: c2 :: .slice (some ⟨g, 0, none⟩) (64 * k) cb :: c4 :: c5 :: c6 :: .int .i64 (64 * (i : Int)) :: .slice (some ⟨G, 0, none⟩) 64 c8' :: .int .i64 (t : Int) :: .int .i64 0 :: c11 :: c12 :: c13 :: c14 :: c15 :: c16 :: c17 :: c18 :: c19 :: c20 :: c21 :: c22 :: c23 :: c24 :: c25 :: c26 :: c27 :: c28 :: c29 :: c30 :: c31 :: c32 :: c33 :: c34 :: c35 :: c36 :: c37 :: c38 :: c39 :: c40 :: c41 :: c42 :: c43 :: c44 :: c45 :: c46 :: c47 :: c48 :: c49 :: c50 :: c51 :: c52 :: c53 :: c54 :: c55 :: c56 :: c57 :: c58 :: c59 :: c60 :: c61 :: c62 :: c63 :: c64 :: c65 :: c66 :: c67 :: c68 :: c69 :: c70 :: c71 :: c72 :: c73 :: c74 :: c75 :: c76 :: c77 :: c78 :: c79 :: c80 :: c81 :: c82 :: c83 :: c84 :: c85 :: c86 :: c87 :: c88 :: c89 :: c90 :: c91 :: c92 :: c93 :: c94 :: c95 :: c96 :: c97 :: c98 :: c99 :: c100 :: c101 :: c102 :: c103 :: c104 :: c105 :: c106 :: c107 :: c108 :: c109 :: c110 :: c111 :: c112 :: c113 :: c114 :: c115 :: c116 :: c117 :: c118 :: c119 :: c120 :: c121 :: c122 :: c123 :: c124 :: c125 :: c126 :: c127 :: c128 :: c129 :: c130 :: c131 :: c132 :: c133 :: c134 :: c135 :: c136 :: c137 :: c138 :: c139 :: c140 :: c141 :: c142 :: c143 :: c144 :: c145 :: c146 :: c147 :: c148 :: c149 :: c150 :: c151 :: c152 :: c153 :: c154 :: c155 :: c156 :: c157 :: c158 :: c159 :: c160 :: c161 :: c162 :: c163 :: c164 :: c165 :: c166 :: c167 :: c168 :: c169 :: c170 :: c171 :: c172 :: c173 :: c174 :: c175 :: c176 :: c177 :: c178 :: c179 :: c180 :: c181 :: c182 :: c183 :: c184 :: c185 :: c186 :: c187 :: c188 :: c189 :: c190 :: c191 :: c192 :: c193 :: c194 :: c195 :: c196 :: c197 :: c198 :: c199 :: c200 :: c201 :: c202 :: c203 :: c204 :: c205 :: c206 :: c207 :: c208 :: c209 :: c210 :: c211 :: c212 :: c213 :: c214 :: c215 :: c216 :: c217 :: c218 :: c219 :: c220 :: c221 :: c222 :: c223 :: c224 :: c225 :: c226 :: c227 :: c228 :: c229 :: c230 :: c231 :: c232 :: c233 :: c234 :: c235 :: c236 :: c237 :: c238 :: c239 :: c240 :: c241 :: c242 :: c243 :: c244 :: c245 :: c246 :: c247 :: c248 :: c249 :: c250 :: c251 :: c252 :: c253 :: c254 :: c255 :: c256 :: c257 :: c258 :: c259 :: c260 :: c261 :: c262 :: c263 :: c264 :: c265 :: c266 :: c267 :: c268 :: c269 :: c270 :: c271 :: c272 :: c273 :: c274 :: c275 :: c276 :: c277 :: c278 :: List.nil), []⟩ wo := by
  conv => arg 2; arg 1; whnf
  have h64 : t < 64 := by omega
  have hx0 := arrI_set0 L t h64
  have hx4 := arrI_set4 L t h16
  have hsz : t < (arrI L t).size := by rw [arrI_size L t (by omega)]; exact h64
  have HX0 := Lib.hid hx0; have HX4 := Lib.hid hx4; have HBY := Lib.hid hby; clear hx0 hx4 hby
  go_loopw [10] (fun q wq => ∃ j : Nat, j ≤ 4 ∧ q = .int .i64 (j : Int) ∧ wo.grownBy wq (some G) ∧ Blk wq G 3 ((arrI L t).setIfInBounds t (.int .i64 ((pw L t j : Nat) : Int)))) (fun q _ => 4 - (intOf q).toNat)
  case atStart => exact ⟨0, by omega, rfl, ⟨rfl, rfl, rfl, Nat.le_refl _, fun _ _ _ => rfl⟩, by rw [HX0.out]; exact hG0⟩
  case round =>
    obtain ⟨j, hj, rfl, hb, hG⟩ := hrel
    by_cases hj4 : j < 4
    · have hpl := pw_le L t j hj
      have hps := pw_succ L t j
      have hbyte : wr.cell? ⟨g, 64 * i + 4 * t + j, none⟩ = some (.int .u8 ((L.getD (4 * t + j) 0).toNat)) := by
        rw [cell_grown hb hgl hgG, Nat.add_assoc]
        exact HBY.out _ (by omega)
      have c1 : wr.cell? ⟨G, t, none⟩ = some (.int .i64 ((pw L t j : Nat) : Int)) := (hG.cell t).trans (set_here _ _ _ hsz)
      have f1 : wr.frozen? ⟨G, t, none⟩ = false := hG.frozen t
      generalize L.getD (4 * t + j) 0 = bt at hbyte hps
      have hbt := bt.toNat_lt
      have HPS := Lib.hid hps; clear hps hexit
      have hin : 64 * (i : Int) + 4 * (t : Int) + (j : Int) < 64 * (k : Int) := by omega
      go_wp2_with fail
      refine wp_region_qt 19 (by kernel_rfl) (by kernel_rfl) ?_
      simp only [List.take_succ_cons, List.take_zero, List.drop_succ_cons, List.drop_zero]
      repeat (first | go_big_quiet_skip | (go_big_quiet_want; go_big_quiet_op; first | go_big_quiet_on))
      refine wpQuiet_nil ?_
      go_wp2
      go_roundw
      case rel =>
        refine ⟨j + 1, by omega, by go_num, grownBy_drew (grownBy_set hb t _), ?_⟩
        have h2 := (hG.set_ t (.int .i64 ((pw L t (j + 1) : Nat) : Int))).drew
        rw [set_set, HPS.out] at h2
        rw [HPS.out]
        exact h2
      case measure => simp [intOf]; omega
    · obtain rfl : j = 4 := by omega
      rw [HX4.out] at hG
      go_wp2_with fail
      exact hexit _ _ _ _ _ _ _ _ _ _ _ _ _ _ _ _ _ _ _ _ _ _ _ _ _ hG hb
end Go.Proofs.YtinkclcdpcjnfaaDoor
