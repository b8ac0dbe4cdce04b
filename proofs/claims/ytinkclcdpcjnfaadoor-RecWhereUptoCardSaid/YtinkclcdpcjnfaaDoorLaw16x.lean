/- The walk of layer 16's law RecWhere. Condition: the state is no great one. -/
import Derived.Test.YtinkclcdpcjnfaaDoorRecW3
namespace Go.Proofs.YtinkclcdpcjnfaaDoor
open Go.RowKit
theorem whereS_none {x : StateV} {id : List UInt8} {p : Int} (h : (WS.state ⟨[], false⟩ x).bad = true ∨ idx id x.objs = x.objs.length ∨ p < 0 ∨ ∀ o, x.objs[idx id x.objs]? = some o → (o.share.length : Int) ≤ p) : whereS x id p = (0, false) := by
  unfold whereS
  split
  · rfl
  · next hb =>
    rw [whereV_eq]
    rcases h with h | h | h | h
    · exact absurd h hb
    · rw [h, List.getElem?_eq_none (Nat.le_refl _)]
    · split
      · rfl
      · rw [if_pos (Or.inl h)]
    · split
      · rfl
      · next o ho => rw [if_pos (Or.inr (h o ho))]
theorem whereS_some {x : StateV} {id : List UInt8} {pn : Nat} (hb : (WS.state ⟨[], false⟩ x).bad = false) (hk : idx id x.objs < x.objs.length) (hp : pn < x.objs[idx id x.objs].share.length) :
    whereS x id (pn : Int) = (((16 + costO (x.objs.take (idx id x.objs)) + (8 + x.objs[idx id x.objs].id.length) + pn : Nat) : Int), true) := by
  unfold whereS
  rw [hb, whereV_eq, List.getElem?_eq_getElem hk]
  simp only [Bool.false_eq_true, if_false]
  rw [if_neg (by omega)]
  simp only [Prod.mk.injEq, and_true]
  omega
theorem add0 (g n : Nat) : (⟨g, 0, none⟩ : Addr).add n = ⟨g, n, none⟩ := by unfold Addr.add; split <;> simp_all
theorem row_some {w : World} {B size n : Nat} {e : TypeId} {v : Value} {xs : List Value} (h : w.ownsRow B e size v n xs) (hn : 0 < n) : ∃ g c, v = .slice (some ⟨g, 0, none⟩) n c := by
  rcases h.2 with ⟨rfl, e⟩ | ⟨g, cap, cur, rfl, _⟩
  · omega
  · exact ⟨_, _, rfl⟩
theorem idx_get {id : List UInt8} {l : List ObjV} {o : ObjV} (h : l[idx id l]? = some o) : o.id = id := by
  obtain ⟨hl, e⟩ := List.getElem?_eq_some_iff.1 h
  rw [← e]
  exact idx_id id l hl
set_option maxRecDepth 100000 in
set_option maxHeartbeats 8000000 in
theorem RecWhere_any (x : StateV) (Ao Ap : Option Addr) (co cp : Nat) (id : List UInt8) (p : Int) (by_ : UInt8) (w : World) (hk : Consts w) (hs : x.cost ≤ 67108864) (wp : (Lit.int .i64 p).wf = true) (hr : StateRd w (fun k => k < w.heap.size) x Ao Ap) :
    Calls Tryd.prog 8 #[.agg (stateCells x Ao Ap co cp), .string ⟨id.toArray⟩, .int .i64 p, .int .u8 (by_.toNat : Int)] w fun e w' => e = .returned (.bool true) ∧ Below w.heap.size w w' := by
  have hB0 : 0 < w.heap.size := by have := World.block_lt_of_cell? w _ (hk 0 (by omega)); omega
  have hp : -9223372036854775808 ≤ p ∧ p ≤ 9223372036854775807 := by
    rw [Lit.wf_int_iff] at wp
    exact wp
  have hM := Blk.new w 26 (stateCells x Ao Ap co cp)
  have hb1 : Below w.heap.size w (w.alloc (.cells (stateCells x Ao Ap co cp) 26)) := (Below.refl _ _).alloc (Nat.le_refl _) _
  have hr1 := hr.below hb1
  have HM := Lib.hid hM; have HB1 := Lib.hid hb1; have HR1 := Lib.hid hr1; have HK := Lib.hid hk
  clear hM hb1 hr1 hr hk wp
  go_enter Tryd.func8, Tryd.ntmps8
  go_wp2_with (refine wpList_load_row rfl 26 (.tmp 4) rfl w.heap.size rfl _ _ _ _ HM.out Tryd.underlying26 rfl (by kernel_rfl) ?_)
  refine (EncodeState_any _ _ x Ao Ap co cp HR1.out (fun k e => Nat.lt_of_lt_of_le e HB1.out.size) (by omega)).mono ?_
  rintro e w2 ⟨v9, rfl, hf9, hb2, hwb⟩
  have HM2 := Lib.hid (HM.out.below hb2 HM.out.lt); have HR2 := Lib.hid (HR1.out.below hb2); have HB2 := Lib.hid (HB1.out.trans (hb2.mono HB1.out.size))
  have HF9 := Lib.hid hf9; have HWB := Lib.hid hwb; have HG9 := Lib.hid HB1.out.size
  clear hb2 hf9 hwb HM HR1
  obtain ⟨bd, hbd⟩ : ∃ b, b = (WS.state ⟨[], false⟩ x).bad := ⟨_, rfl⟩
  rw [← hbd] at HF9 ⊢
  obtain ⟨L9, hL9⟩ : ∃ L, L = (if bd = true then [] else (WS.state ⟨[], false⟩ x).out) := ⟨_, rfl⟩
  rw [← hL9] at HF9
  have HBD := Lib.hid hbd; have HL9 := Lib.hid hL9; clear hbd hL9
  go_wp2_with (refine wpList_load_row rfl 26 (.tmp 4) rfl w.heap.size rfl _ _ _ _ HM2.out Tryd.underlying26 rfl (by kernel_rfl) ?_)
  refine (Where_any w2 _ x Ao Ap co cp id p HR2.out (fun k e => Nat.lt_of_lt_of_le e HB2.out.size) hs hp).mono ?_
  rintro e w4 ⟨rfl, hb4⟩
  obtain ⟨A9, c9, rfl, hr9, ha9⟩ := HF9.out
  obtain ⟨rr, hrr⟩ : ∃ rr, rr = whereS x id p := ⟨_, rfl⟩
  rw [← hrr]
  have HRR := Lib.hid hrr
  have HM4 := Lib.hid (HM2.out.below hb4 HM2.out.lt); have HR4 := Lib.hid (HR2.out.below hb4); have HB4 := Lib.hid (HB2.out.trans (hb4.mono HB2.out.size)); have HR9 := Lib.hid ((hr9.below hb4).more hb4.size)
  have HW4 := Lib.hid (show ∀ ad, A9 = some ad → ∃ g cur, ad = ⟨g, 0, none⟩ ∧ Blk w4 g 5 cur from fun ad e => by
    obtain ⟨_, _, h3⟩ := HWB.out _ _ _ rfl
    obtain ⟨g, cur, e1, e2, _⟩ := h3 ad e
    exact ⟨g, cur, e1, e2.below hb4 e2.lt⟩)
  have HMs := Lib.hid (show w.heap.size < w4.heap.size from (HM2.out.below hb4 HM2.out.lt).lt)
  have HA9 := Lib.hid (show ∀ ad, A9 = some ad → w.heap.size < ad.block from fun ad e => by have h1 := ha9 ad e; simp at h1; omega)
  clear hb4 hrr hr9 ha9 HM2 HR2 HF9 HWB HB2
  obtain ⟨M, hMe⟩ : ∃ M, M = w.heap.size := ⟨_, rfl⟩
  rw [← hMe] at HM4 HMs HA9 ⊢
  have HME := Lib.hid hMe; clear hMe
  have p3 : w4.cell? ⟨M, 3, none⟩ = some (.slice Ao x.objs.length co) := (HM4.out.cell 3).trans rfl
  have hol : x.objs.length ≤ 67108864 := by have h1 := costO_ge x.objs; unfold StateV.cost at hs; omega
  obtain ⟨K, hK⟩ : ∃ K, K = idx id x.objs := ⟨_, rfl⟩
  have hKl : K ≤ x.objs.length := by rw [hK]; exact idx_le _ _
  have HKE := Lib.hid hK; clear hK
  have hHCK := Lib.hid (HK.out.below HB4.out hB0)
  go_wp2_with fail
  go_loopw [13] (fun q wr => ∃ j : Nat, j ≤ K ∧ q = .int .i64 (j : Int) ∧ wr = w4) (fun q _ => x.objs.length - (intOf q).toNat)
  case atStart => exact ⟨0, by omega, rfl, rfl⟩
  case round =>
    obtain ⟨j, hj, rfl, rfl⟩ := hrel
    by_cases hjn : j < x.objs.length
    · have hjn' : (j : Int) < (x.objs.length : Int) := by omega
      obtain ⟨ad, rfl, _, _, hc⟩ := HR4.out.objs (by omega)
      obtain ⟨As, At, cs, ct, c0, c1, c2, c3, hor⟩ := hc j _ (List.getElem?_eq_getElem hjn)
      by_cases hjK : j < K
      · have hne : x.objs[j].id ≠ id := idx_not id x.objs j (by rw [← HKE.out]; exact hjK) hjn
        generalize x.objs[j] = o at c0 c1 c2 c3 hne
        have hde : decide (o.id = id) = false := decide_eq_false hne
        clear hc hne hor c1 c2 c3
        go_wp2_with (refine wpList_neq rfl _ _ _ _ rfl o.id id rfl rfl ?_; rw [hde])
        go_roundw
        case rel => exact ⟨j + 1, by omega, by go_num, trivial⟩
        case measure => simp [intOf]; omega
      · obtain rfl : j = K := by omega
        obtain ⟨o, ho⟩ : ∃ o, o = x.objs[j] := ⟨_, rfl⟩
        rw [← ho] at c0 c1 c2 c3 hor
        have hxo : x.objs[j]? = some o := by rw [ho]; exact List.getElem?_eq_getElem hjn
        have hidd : o.id = id := idx_get (l := x.objs) (by rw [← HKE.out]; exact hxo)
        subst hidd
        have hde : decide (o.id = o.id) = true := by simp
        have hnone : (bd = true ∨ p < 0 ∨ (o.share.length : Int) ≤ p) → rr = (0, false) := fun h => by
          rw [HRR.out]
          refine whereS_none ?_
          rcases h with h | h | h
          · exact Or.inl (by rw [← HBD.out]; exact h)
          · exact Or.inr (Or.inr (Or.inl h))
          · refine Or.inr (Or.inr (Or.inr fun o' ho' => ?_))
            rw [← HKE.out, hxo] at ho'
            injection ho' with ho'
            rw [← ho']; exact h
        have HC := Lib.hid hc; have HXO := Lib.hid hxo; have HO := Lib.hid ho; have HOR := Lib.hid hor; have HNONE := Lib.hid hnone
        clear hc hxo ho hor hnone c1 c3
        cases hbd : bd
        · by_cases hlo : p < 0
          · obtain rfl := HNONE.out (Or.inr (Or.inl hlo))
            subst hbd
            go_wp2_with (refine wpList_neq rfl _ _ _ _ rfl o.id o.id rfl rfl ?_; rw [hde])
            refine (answers16_any _ hHCK.out).mono ?_
            rintro e w5 ⟨rfl, hb5⟩
            have HB5 := Lib.hid (HB4.out.trans (hb5.mono HB4.out.size))
            clear hb5
            go_wp2
            go_ret
            exact ⟨rfl, HB5.out⟩
          · by_cases hhi : (o.share.length : Int) ≤ p
            · obtain rfl := HNONE.out (Or.inr (Or.inr hhi))
              subst hbd
              go_wp2_with (refine wpList_neq rfl _ _ _ _ rfl o.id o.id rfl rfl ?_; rw [hde])
              refine (answers16_any _ hHCK.out).mono ?_
              rintro e w5 ⟨rfl, hb5⟩
              have HB5 := Lib.hid (HB4.out.trans (hb5.mono HB4.out.size))
              clear hb5
              go_wp2
              go_ret
              exact ⟨rfl, HB5.out⟩
            · obtain ⟨pn, rfl⟩ : ∃ pn : Nat, p = pn := ⟨p.toNat, by omega⟩
              have hpn : pn < o.share.length := by omega
              have hxj : x.objs[j] = o := HO.out.symm
              have hbad : (WS.state ⟨[], false⟩ x).bad = false := by rw [← HBD.out]; exact hbd
              have hrr : rr = (((16 + costO (x.objs.take j) + (8 + o.id.length) + pn : Nat) : Int), true) := by
                have hj2 : idx o.id x.objs < x.objs.length := by rw [← HKE.out]; exact hjn
                have hsm := whereS_some (x := x) (id := o.id) (pn := pn) hbad hj2 (by simp only [← HKE.out, hxj]; exact hpn)
                simp only [← HKE.out, hxj] at hsm
                rw [HRR.out, hsm]
              obtain ⟨hok, hen⟩ := state_enc hbad
              have hturn := fun v => enc_turn x j pn v hjn (by rw [hxj]; exact hpn)
              rw [hxj] at hturn
              have hdec := fun v => decS_turn hbad j pn v hjn (by rw [hxj]; exact hpn)
              rw [hxj] at hdec
              have hl9 : L9 = (WS.state ⟨[], false⟩ x).out := by rw [HL9.out, hbd]; rfl
              rw [← hl9] at hdec hen
              obtain ⟨nn, hnn⟩ : ∃ nn, nn = 16 + costO (x.objs.take j) + (8 + o.id.length) + pn := ⟨_, rfl⟩
              rw [← hnn] at hrr hturn hdec
              have hnl : nn < L9.length := by rw [hen]; exact (hturn 0).1
              have hb0 : L9.getD nn 0 = o.share.getD pn 0 := by rw [hen]; exact (hturn 0).2.1
              have hl9l : L9.length ≤ 67108864 := by rw [hen, encS_cost]; exact hs
              have HDEC := Lib.hid hdec
              obtain ⟨ad9, e9, _, hc9⟩ := HR9.out.2 (by omega)
              obtain ⟨g9, cur9, e9', hblk9⟩ := HW4.out ad9 e9
              subst e9'
              subst e9
              have q9 : wr.cell? ⟨g9, nn, none⟩ = some (B8 (o.share.getD pn 0)) := by
                have h1 := hc9 nn (B8 L9[nn]) (by rw [List.getElem?_map, List.getElem?_eq_getElem hnl]; rfl)
                rw [add0] at h1
                rw [h1, ← hb0, List.getD_eq_getElem?_getD, List.getElem?_eq_getElem hnl]; rfl
              have f9 : wr.frozen? ⟨g9, nn, none⟩ = false := hblk9.frozen nn
              have HBLK9 := Lib.hid hblk9
              unfold B8 at q9
              generalize hb0e : o.share.getD pn 0 = b0 at q9 hb0
              have HB0E := Lib.hid hb0e
              clear hc9 hturn hdec hen hok hbad hl9 hnn HNONE hb0 hblk9 hb0e
              subst hrr
              subst hbd
              go_upto_region 11 with (refine wpList_neq rfl _ _ _ _ rfl o.id o.id rfl rfl ?_; rw [hde])
              have hxor : (Value.int .u8 ((b0.toNat ^^^ by_.toNat : Nat) : Int)) = B8 (b0 ^^^ by_) := by unfold B8; rw [UInt8.toNat_xor]
              rw [hxor]
              have HXOR := Lib.hid hxor
              clear hxor
              have hr5 := rd_set HR9.out HBLK9.out hnl (b0 ^^^ by_)
              have hk5 : Keeps (fun k => k = g9) wr (wr.setCell ⟨g9, nn, none⟩ (B8 (b0 ^^^ by_))) := (Keeps.refl (fun k => k = g9) wr).setCell (p := ⟨g9, nn, none⟩) rfl _
              have hg9 : M < g9 := HA9.out _ rfl
              have hM5 := HM4.out.keeps hk5 (fun e => by omega)
              have hx5 := HR4.out.off hk5 (fun k e e2 => by have := HME.out; omega)
              have hb5 := HB4.out.trans (hk5.below (B := w.heap.size) (fun k e => by have := HME.out; omega) HB4.out.size)
              obtain ⟨W5, hW5⟩ : ∃ W5, W5 = wr.setCell ⟨g9, nn, none⟩ (B8 (b0 ^^^ by_)) := ⟨_, rfl⟩
              rw [← hW5] at hr5 hk5 hM5 hx5 hb5 ⊢
              have HR5 := Lib.hid (hr5.more hk5.size); have HM5 := Lib.hid hM5; have HX5 := Lib.hid hx5; have HB5 := Lib.hid hb5
              clear hr5 hM5 hx5 hb5 hW5 hk5 q9 f9 p3 c0 c2
              go_wp2_with fail
              refine (DecodeState_any W5 _ _ c9 (L9.set nn (b0 ^^^ by_)) hl9l HR5.out).mono ?_
              rintro e w6 ⟨Bo, Bp, eo, ep, rfl, hm6, hb6⟩
              rw [HDEC.out] at hm6 ⊢
              dsimp only at hm6 ⊢
              have hyc := turn_cost x j pn (b0 ^^^ by_) hjn (by rw [hxj]; exact hpn)
              have hye : x.turn j pn (b0 ^^^ by_) hjn = { x with objs := x.objs.set j { o with share := o.share.set pn (b0 ^^^ by_) } } := by unfold StateV.turn; rw [hxj]
              generalize x.turn j pn (b0 ^^^ by_) hjn = y at hm6 hyc hye ⊢
              have HYE := Lib.hid hye; have HYC := Lib.hid (hyc ▸ hs)
              have HM6 := Lib.hid (HM5.out.below hb6 HM5.out.lt); have HX6 := Lib.hid (HX5.out.below hb6); have HB6 := Lib.hid (HB5.out.trans (hb6.mono HB5.out.size)); have HY6 := Lib.hid hm6
              clear hm6 hb6 hyc hye HDEC HM5 HX5 HB5 HR5
              go_upto_region 12 with (fail)
              have hbq : Below w6.heap.size w6 (w6.alloc (.cells (stateCells y Bo Bp eo ep) 26)) := (Below.refl _ _).alloc (Nat.le_refl _) _
              have HQ7 := Lib.hid (Blk.new w6 26 (stateCells y Bo Bp eo ep)); have HM7 := Lib.hid (HM6.out.below hbq HM6.out.lt); have HX7 := Lib.hid (HX6.out.below hbq); have HB7 := Lib.hid (HB6.out.trans (hbq.mono HB6.out.size)); have HY7 := Lib.hid ((HY6.out.below hbq).weaken (S' := fun k => k < w6.heap.size) (fun k e => e.2))
              have HL7 := Lib.hid hbq.size
              generalize hQe : w6.heap.size = Q at HQ7 HY7 HL7 ⊢
              obtain ⟨w7, hw7⟩ : ∃ w7, w7 = w6.alloc (.cells (stateCells y Bo Bp eo ep) 26) := ⟨_, rfl⟩
              rw [← hw7] at HQ7 HM7 HX7 HB7 HY7 HL7 ⊢
              clear hbq hQe hw7 HM6 HX6 HB6 HY6
              go_upto_region 13 with (refine wpList_load_row rfl 26 (.tmp 4) rfl M rfl _ _ _ _ HM7.out Tryd.underlying26 rfl (by kernel_rfl) ?_)
              have hbq : Below w7.heap.size w7 (w7.alloc (.cells (stateCells x (some ad) Ap co cp) 26)) := (Below.refl _ _).alloc (Nat.le_refl _) _
              have HN8 := Lib.hid (Blk.new w7 26 (stateCells x (some ad) Ap co cp)); have HQ8 := Lib.hid (HQ7.out.below hbq HQ7.out.lt); have HM8 := Lib.hid (HM7.out.below hbq HM7.out.lt); have HX8 := Lib.hid (HX7.out.below hbq); have HB8 := Lib.hid (HB7.out.trans (hbq.mono HB7.out.size)); have HY8 := Lib.hid (HY7.out.below hbq)
              have HNQ := Lib.hid (And.intro HQ7.out.lt HM7.out.lt)
              generalize hNe : w7.heap.size = N at HN8 HNQ ⊢
              obtain ⟨w8, hw8⟩ : ∃ w8, w8 = w7.alloc (.cells (stateCells x (some ad) Ap co cp) 26) := ⟨_, rfl⟩
              rw [← hw8] at HN8 HQ8 HM8 HX8 HB8 HY8 ⊢
              have HN8l := Lib.hid HN8.out.lt
              clear hbq hNe hw8 HM7 HX7 HB7 HY7 HQ7
              -- the row of objects, copied
              have hb9 : Below w8.heap.size w8 (w8.alloc (.cells #[] 47)) := (Below.refl _ _).alloc (Nat.le_refl _) _
              obtain ⟨ps, hps, hrow, hpo⟩ := objs_row (HX8.out.objs.off (Keeps.of_below (F := fun _ => False) hb9) (fun _ _ e => e))
              have hown9 : (w8.alloc (.cells #[] 47)).ownsRow w8.heap.size 47 4 (.slice (some ⟨w8.heap.size, 0, none⟩) 0 0) 0 [] := World.ownsRow_lit w8 #[] 0 (Nat.le_refl _) (by simp [maxLen]) rfl
              have m3 : (w8.alloc (.cells #[] 47)).cell? ⟨M, 3, none⟩ = some (.slice (some ad) x.objs.length co) := ((HM8.out.below hb9 HM8.out.lt).cell 3).trans rfl
              obtain ⟨i0, hi0, hz0, hz1, hz2⟩ := info_parts obj_info
              have HI0 := Lib.hid (And.intro hi0 (And.intro hz0 (And.intro hz1 hz2)))
              have HOWN9 := Lib.hid hown9; have HROW := Lib.hid hrow; have HB89 := Lib.hid hb9; have HPS := Lib.hid hps; have HPO := Lib.hid hpo
              clear hi0 hz0 hz1 hz2 hown9 hrow hb9 hps hpo
              go_upto_region 14 with (at_builtin; refine wpList_append_any _ rfl (.tmp 111) (.tmp 113) _ rfl w8.heap.size 47 i0 _ 4 72 Tryd.underlying22 HI0.out.1 HI0.out.2.1 HI0.out.2.2.1 HI0.out.2.2.2 rfl (by omega) _ 0 _ rfl HOWN9.out _ (some ad) x.objs.length co (ps.flatMap objC) rfl HROW.out (by intro u hu; obtain ⟨pp, _, hu⟩ := List.mem_flatMap.1 hu; unfold objC at hu; simp only [List.mem_cons, List.not_mem_nil, or_false] at hu; rcases hu with rfl | rfl | rfl | rfl <;> rfl) (by simp only [maxLen]; omega) (by omega) (HB89.out.size) ?_; intro v' w' hown' hg' hat'; simp only [Nat.zero_add, List.nil_append] at hown'; obtain ⟨gR, cR, rfl⟩ := row_some hown' (by omega); have hk9 := ((Keeps.refl (fun _ => False) w8).alloc (.cells #[] 47)).grown hg' (fun kk e => Or.inl (HOWN9.out.lt kk e).1); have q3 : w'.cell? ⟨N, 3, none⟩ = some (.slice (some ad) x.objs.length co) := ((HN8.out.keeps hk9 id).cell 3).trans rfl; have f3 : w'.frozen? ⟨N, 3, none⟩ = false := (HN8.out.keeps hk9 id).frozen 3)
              have hgR := (hown'.lt gR rfl)
              have hfinN := HN8.out.keeps hk9 id
              have hNs : Blk (w'.setCell ⟨N, 3, none⟩ (.slice (some ⟨gR, 0, none⟩) x.objs.length cR)) N 26 #[.int .i64 x.epoch, .int .i64 x.decided, .int .i64 x.dealt, .slice (some ⟨gR, 0, none⟩) x.objs.length cR, .int .i64 x.psession, .int .i64 x.pkind, .int .i64 x.pepoch, .slice Ap x.pobjs.length cp] := hfinN.set_ 3 _
              have hNl : N < w8.heap.size := HN8.out.lt
              have hks : Keeps (fun k => k = N) w8 (w'.setCell ⟨N, 3, none⟩ (.slice (some ⟨gR, 0, none⟩) x.objs.length cR)) := (hk9.weaken (F' := fun k => k = N) (fun _ _ e => e.elim)).setCell (p := ⟨N, 3, none⟩) rfl _
              have hrs := row_keeps hown' ((Keeps.refl (fun k => k = N) w').setCell (p := ⟨N, 3, none⟩) rfl (.slice (some ⟨gR, 0, none⟩) x.objs.length cR)) (fun kk e e2 => by have h1 := (hown'.lt kk e).1; omega)
              obtain ⟨w9, hw9⟩ : ∃ w9, w9 = w'.setCell ⟨N, 3, none⟩ (.slice (some ⟨gR, 0, none⟩) x.objs.length cR) := ⟨_, rfl⟩
              rw [← hw9] at hNs hks hrs ⊢
              have HN9 := Lib.hid hNs; have HR9R := Lib.hid hrs
              have HM9 := Lib.hid (HM8.out.keeps hks (fun e => by have := HNQ.out.2; omega)); have HQ9 := Lib.hid (HQ8.out.keeps hks (fun e => by have := HNQ.out.1; omega))
              have hSN : ∀ k, k < w.heap.size → ¬ k = N := fun k e e2 => by have h1 := HNQ.out.2; have h2 := HME.out; omega
              have HX9 := Lib.hid (HX8.out.off hks hSN)
              have HY9 := Lib.hid (HY8.out.off hks (fun k e e2 => by have h1 := HNQ.out.1; omega))
              have HPO9 := Lib.hid (show ∀ pp ∈ ps, ObjRd w9 (fun k => k < w.heap.size) pp.As pp.At pp.o from fun pp hpp => by
                have h1 := HPO.out pp hpp
                have h2 := h1.off (w' := w') (F := fun k => w8.heap.size ≤ k) ((Keeps.refl _ _).grown hg' (fun kk e => Or.inr (HOWN9.out.lt kk e).1)) (fun k e e2 => by have h3 := HB8.out.size; omega)
                rw [hw9]
                exact h2.off ((Keeps.refl (fun k => k = N) w').setCell (p := ⟨N, 3, none⟩) rfl _) hSN)
              have HB9 := Lib.hid (HB8.out.trans (hks.below (B := w.heap.size) (fun k e => by have h1 := HNQ.out.2; have h2 := HME.out; omega) HB8.out.size))
              have HG9R := Lib.hid (show w8.heap.size ≤ gR ∧ gR < w9.heap.size ∧ w8.heap.size ≤ w9.heap.size ∧ N < w8.heap.size from ⟨hgR.1, (hrs.lt gR rfl).2, hks.size, hNl⟩)
              clear hown' hg' hat' hk9 q3 f3 hgR hfinN hNs hNl hks hrs hw9 HM8 HQ8 HX8 HY8 HPO HB8 HN8 HN8l m3 HOWN9 HROW HB89 HI0
              -- the share, copied
              have hbA : Below w9.heap.size w9 (w9.alloc (.cells #[] 5)) := (Below.refl _ _).alloc (Nat.le_refl _) _
              have hxA := HX9.out.below hbA
              obtain ⟨ad', ead, _, _, hcA⟩ := hxA.objs (by omega)
              injection ead with ead
              subst ead
              obtain ⟨As2, At2, cs2, ct2, _, _, c2A, _, _, _, rA, _⟩ := hcA j o HXO.out
              have m3 : (w9.alloc (.cells #[] 5)).cell? ⟨M, 3, none⟩ = some (.slice (some ad) x.objs.length co) := ((HM9.out.below hbA HM9.out.lt).cell 3).trans rfl
              have HOWNB := Lib.hid (Own.new_ w9 w9.heap.size (Nat.le_refl _) [] (by simp) #[] rfl)
              have hshl : o.share.length ≤ 67108864 := by
                have h1 := costO_mem x.objs j hjn
                have h2 := HO.out
                rw [← h2] at h1
                unfold StateV.cost at hs
                omega
              have HRS := Lib.hid rA; have HBA := Lib.hid hbA
              clear hxA hcA rA hbA
              go_upto_region 15 with (at_builtin; refine app_bytes rfl (.tmp 116) (.tmp 122) rfl w9.heap.size (.slice (some ⟨w9.heap.size, 0, none⟩) 0 0) [] rfl HOWNB.out _ As2 o.share.length cs2 o.share rfl HRS.out (by simp; omega) (HBA.out.size) ?_; intro v' w' hown' hg' hat'; simp only [List.nil_append] at hown'; obtain ⟨gS, cS, rfl⟩ := row_some hown' (by omega))
              have hgS := hown'.lt gS rfl
              have hkA : Keeps (fun _ => False) w9 w' := ((Keeps.refl (fun _ => False) w9).alloc (.cells #[] 5)).grown hg' (fun kk e => Or.inl (HOWNB.out.lt kk e).1)
              have q17 : w'.cell? ⟨gS, pn, none⟩ = some (.int .u8 (b0.toNat : Int)) := by
                have h1 := World.ownsRow.cellAt (hown' : w'.ownsRow _ _ 1 _ _ _) pn (by omega)
                rw [h1, List.getElem?_map, List.getElem?_eq_getElem hpn]
                have h2 := HB0E.out
                rw [List.getD_eq_getElem?_getD, List.getElem?_eq_getElem hpn] at h2
                simp only [Option.getD_some] at h2
                rw [h2]; rfl
              have f17 : w'.frozen? ⟨gS, pn, none⟩ = false := World.ownsRow.frozenAt (hown' : w'.ownsRow _ _ 1 _ _ _) pn
              have HOWNS := Lib.hid hown'; have HKA := Lib.hid hkA; have HGS := Lib.hid hgS
              clear hown' hg' hat' hkA hgS c2A m3 HOWNB HRS HBA
              go_upto_region 16 with (fail)
              rw [HXOR.out]
              have hownT := HOWNS.out.set_ rfl pn (b0 ^^^ by_)
              have hkB : Keeps (fun _ => False) w9 (w'.setCell ⟨gS, pn, none⟩ (B8 (b0 ^^^ by_))) := HKA.out.setNew (p := ⟨gS, pn, none⟩) HGS.out.1 _
              obtain ⟨w11, hw11⟩ : ∃ w11, w11 = w'.setCell ⟨gS, pn, none⟩ (B8 (b0 ^^^ by_)) := ⟨_, rfl⟩
              rw [← hw11] at hownT hkB ⊢
              have hrow11 := row_keeps HR9R.out hkB (fun _ _ e => e)
              have n3 : w11.cell? ⟨N, 3, none⟩ = some (.slice (some ⟨gR, 0, none⟩) x.objs.length cR) := ((HN9.out.keeps hkB id).cell 3).trans rfl
              obtain ⟨pj, hpj, hpjo⟩ : ∃ pj, ps[j]? = some pj ∧ pj.o = o := by
                have h1 := HXO.out
                rw [← HPS.out, List.getElem?_map] at h1
                cases hq : ps[j]? with
                | none => rw [hq] at h1; cases h1
                | some pj => rw [hq] at h1; injection h1 with h1; exact ⟨pj, rfl, h1⟩
              have hjp : j < ps.length := (List.getElem?_eq_some_iff.1 hpj).1
              have hpje : ps[j] = pj := (List.getElem?_eq_some_iff.1 hpj).2
              have qR : w11.cell? ⟨gR, j * 4 + 2, none⟩ = some (.slice pj.As pj.o.share.length pj.cs) := (World.ownsRow.cellAt hrow11 (j * 4 + 2) (by omega)).trans (objC_at ps j pj hpj).2.2.1
              have fR : w11.frozen? ⟨gR, j * 4 + 2, none⟩ = false := World.ownsRow.frozenAt hrow11 (j * 4 + 2)
              have HROW11 := Lib.hid hrow11; have HOWNT := Lib.hid hownT; have HKB := Lib.hid hkB; have HPJ := Lib.hid (And.intro hpje hpjo)
              clear hrow11 hownT hkB hw11 q17 f17 hpj hpje hpjo
              go_upto_region 17 with (fail)
              have hgg : gR < gS := Nat.lt_of_lt_of_le HG9R.out.2.1 HGS.out.1
              have hk12 : Keeps (fun k => k = gR) w9 (w11.setCell ⟨gR, j * 4 + 2, none⟩ (.slice (some ⟨gS, 0, none⟩) o.share.length cS)) := (HKB.out.weaken (F' := fun k => k = gR) (fun _ _ e => e.elim)).setCell (p := ⟨gR, j * 4 + 2, none⟩) rfl _
              have hset := (World.ownsRow.stored HROW11.out (j * 4 + 2) (.slice (some ⟨gS, 0, none⟩) o.share.length cS)).1
              have hownU := row_keeps HOWNT.out ((Keeps.refl (fun k => k = gR) w11).setCell (p := ⟨gR, j * 4 + 2, none⟩) rfl (.slice (some ⟨gS, 0, none⟩) o.share.length cS)) (fun kk e e2 => by have h1 : gS = kk := Option.some.inj e; omega)
              obtain ⟨w12, hw12⟩ : ∃ w12, w12 = w11.setCell ⟨gR, j * 4 + 2, none⟩ (.slice (some ⟨gS, 0, none⟩) o.share.length cS) := ⟨_, rfl⟩
              rw [← hw12] at hk12 hset hownU ⊢
              have hshe : (o.share.set pn (b0 ^^^ by_)).length = o.share.length := List.length_set ..
              have hfs := flat_set ps j hjp (some ⟨gS, 0, none⟩) cS (o.share.set pn (b0 ^^^ by_)) (by rw [hshe, HPJ.out.1, HPJ.out.2])
              rw [hshe, HPJ.out.1, HPJ.out.2] at hfs
              rw [hfs] at hset
              have hSR : ∀ k, k < w.heap.size → ¬ k = gR := fun k e e2 => by have h1 := HG9R.out.1; have h2 := HG9R.out.2.2.2; have h3 := HNQ.out.2; have h4 := HME.out; omega
              have hlen : ps.length = x.objs.length := by rw [← HPS.out, List.length_map]
              have hobjs : ∀ pp ∈ ps.set j ⟨{ o with share := o.share.set pn (b0 ^^^ by_) }, some ⟨gS, 0, none⟩, pj.At, cS, pj.ct⟩, ObjRd w12 (fun _ => True) pp.As pp.At pp.o := by
                intro pp hpp
                rcases List.mem_or_eq_of_mem_set hpp with hpp | rfl
                · exact ((HPO9.out pp hpp).off hk12 hSR).weaken (fun _ _ => trivial)
                · have hj0 := (HPO9.out pj (by rw [← HPJ.out.1]; exact List.getElem_mem hjp)).off hk12 hSR
                  refine ⟨fun _ _ _ => trivial, fun _ _ _ => trivial, ?_, ?_⟩
                  · exact (show Own w12 w9.heap.size (.slice (some ⟨gS, 0, none⟩) (o.share.set pn (b0 ^^^ by_)).length cS) (o.share.set pn (b0 ^^^ by_)) by rw [hshe]; exact hownU).rd
                  · have h2 := hj0.2.2.2
                    rw [HPJ.out.2] at h2
                    exact h2
              have hset' : w12.ownsRow w8.heap.size 47 4 (.slice (some ⟨gR, 0, none⟩) x.objs.length cR) (ps.set j ⟨{ o with share := o.share.set pn (b0 ^^^ by_) }, some ⟨gS, 0, none⟩, pj.At, cS, pj.ct⟩).length ((ps.set j ⟨{ o with share := o.share.set pn (b0 ^^^ by_) }, some ⟨gS, 0, none⟩, pj.At, cS, pj.ct⟩).flatMap objC) := by
                rw [List.length_set, hlen]; exact hset
              obtain ⟨A', c', e1, hord⟩ := objsRd_of (S := fun _ => True) hset' (fun _ _ => trivial) hobjs
              obtain ⟨rfl, rfl⟩ : some ⟨gR, 0, none⟩ = A' ∧ cR = c' := by injection e1 with q1 q2 q3; exact ⟨q1, q3⟩
              have hyo : (ps.set j (⟨{ o with share := o.share.set pn (b0 ^^^ by_) }, some ⟨gS, 0, none⟩, pj.At, cS, pj.ct⟩ : ObjP)).map (·.o) = y.objs := by
                rw [List.map_set, HPS.out, HYE.out]
              rw [hyo] at hord
              have hcells : stateCells y (some ⟨gR, 0, none⟩) Ap cR cp = #[.int .i64 x.epoch, .int .i64 x.decided, .int .i64 x.dealt, .slice (some ⟨gR, 0, none⟩) x.objs.length cR, .int .i64 x.psession, .int .i64 x.pkind, .int .i64 x.pepoch, .slice Ap x.pobjs.length cp] := by
                rw [HYE.out]; simp [stateCells]
              have HW := Lib.hid (show StateRd w12 (fun k => k < w12.heap.size) y (some ⟨gR, 0, none⟩) Ap from ⟨hord.tight.weaken (fun k e => e.2), by rw [HYE.out]; exact ((HX9.out.pobjs.off hk12 hSR).tight).weaken (fun k e => e.2)⟩)
              have HQ12 := Lib.hid (HQ9.out.keeps hk12 (fun e => by have h1 := HG9R.out.1; have h2 := HG9R.out.2.2.2; have h3 := HNQ.out.1; omega))
              have HN12 := Lib.hid (HN9.out.keeps hk12 (fun e => by have h1 := HG9R.out.1; have h2 := HG9R.out.2.2.2; omega))
              have HY12 := Lib.hid (HY9.out.off hk12 (fun k e e2 => by have h1 := HG9R.out.1; have h2 := HG9R.out.2.2.2; have h3 := HNQ.out.1; omega))
              have HB12 := Lib.hid (HB9.out.trans (hk12.below (B := w.heap.size) (fun k e => by have h1 := HG9R.out.1; have h2 := HG9R.out.2.2.2; have h3 := HNQ.out.2; have h4 := HME.out; omega) HB9.out.size))
              have HCE := Lib.hid hcells; have HQL := Lib.hid (show Q < w12.heap.size from Nat.lt_of_lt_of_le HQ9.out.lt hk12.size)
              have hcy : y.cost ≤ 67108864 := HYC.out
              clear hset hownU hw12 hk12 hfs hobjs hset' hord hyo hcells hshe hlen e1 n3 qR fR HX9 HY9 HQ9 HN9 HPO9 HR9R HM9 HB9 HOWNS HOWNT HROW11 HKA HKB HYE HPS HPJ HXO HO HC HOR
              go_wp2_with (refine wpList_load_row rfl 26 (.tmp 14) rfl Q rfl _ _ _ _ HQ12.out Tryd.underlying26 rfl (by kernel_rfl) ?_)
              refine (RefState_any w12 _ y Bo Bp eo ep HY12.out (fun k e => Nat.lt_trans e HQL.out) (by omega)).mono ?_
              rintro e w13 ⟨v13, rfl, ⟨A13, c13, rfl, hr13, _⟩, hb13⟩
              have HR13 := Lib.hid hr13; have HN13 := Lib.hid (HN12.out.below hb13 HN12.out.lt); have HW13 := Lib.hid (HW.out.below hb13); have HB13 := Lib.hid (HB12.out.trans (hb13.mono HB12.out.size)); have HS13 := Lib.hid hb13.size
              clear hr13 hb13 HN12 HW HQ12 HY12
              have href := RefState_any w13 _ y (some ⟨gR, 0, none⟩) Ap cR cp HW13.out (fun k e => Nat.lt_of_lt_of_le e HS13.out) (by omega)
              rw [HCE.out] at href
              have HREF := Lib.hid href; clear href
              generalize (WS.state ⟨[], false⟩ y) = sy at HR13 HREF ⊢
              generalize hout : sy.out = out at HR13 ⊢
              have HOUT := Lib.hid hout; clear hout
              go_wp2_with (refine wpList_load_row rfl 26 (.tmp 16) rfl N rfl _ _ _ _ HN13.out Tryd.underlying26 rfl (by kernel_rfl) ?_)
              refine HREF.out.mono ?_
              rintro e w14 ⟨v14, rfl, ⟨A14, c14, rfl, hr14, _⟩, hb14⟩
              rw [HOUT.out] at hr14 ⊢
              have HR14 := Lib.hid hr14; have HR134 := Lib.hid ((HR13.out.below hb14).more hb14.size); have HB14 := Lib.hid (HB13.out.trans (hb14.mono HB13.out.size))
              clear hr14 hb14 HREF HN13 HW13 HR13
              go_wp2_with fail
              refine (answers16_any w14 (HK.out.below HB14.out hB0)).mono ?_
              rintro e w15 ⟨rfl, hb15⟩
              have H1 := Lib.hid (HR134.out.below hb15); have H2 := Lib.hid (HR14.out.below hb15); have HB15 := Lib.hid (HB14.out.trans (hb15.mono HB14.out.size))
              have hd : decide (out = out) = true := by simp
              clear hb15
              go_wp2_with (first | (refine wpList_str rfl 27 9 5 (.tmp 154) rfl A13 _ c13 out rfl Tryd.underlying27 Tryd.underlying5 Tryd.underlying9 _ H1.out ?_) | (refine wpList_str rfl 27 9 5 (.tmp 156) rfl A14 _ c14 out rfl Tryd.underlying27 Tryd.underlying5 Tryd.underlying9 _ H2.out ?_) | (refine wpList_eql rfl _ _ _ _ rfl out out rfl rfl ?_))
              go_ret
              exact ⟨rfl, HB15.out⟩
        · obtain rfl := HNONE.out (Or.inl hbd)
          subst hbd
          go_wp2_with (refine wpList_neq rfl _ _ _ _ rfl o.id o.id rfl rfl ?_; rw [hde])
          refine (answers16_any _ hHCK.out).mono ?_
          rintro e w5 ⟨rfl, hb5⟩
          have HB5 := Lib.hid (HB4.out.trans (hb5.mono HB4.out.size))
          clear hb5
          go_wp2
          go_ret
          exact ⟨rfl, HB5.out⟩
    · obtain rfl : j = K := by omega
      have hjl : j = x.objs.length := by omega
      have hw := whereS_none (x := x) (id := id) (p := p) (Or.inr (Or.inl (by rw [← HKE.out]; exact hjl)))
      rw [← HRR.out] at hw
      subst hw
      subst hjl
      clear HRR
      cases bd
      · go_wp2_with fail
        refine (answers16_any _ hHCK.out).mono ?_
        rintro e w5 ⟨rfl, hb5⟩
        have HB5 := Lib.hid (HB4.out.trans (hb5.mono HB4.out.size))
        clear hb5
        go_wp2
        go_ret
        exact ⟨rfl, HB5.out⟩
      · go_wp2_with fail
        refine (answers16_any _ hHCK.out).mono ?_
        rintro e w5 ⟨rfl, hb5⟩
        have HB5 := Lib.hid (HB4.out.trans (hb5.mono HB4.out.size))
        clear hb5
        go_wp2
        go_ret
        exact ⟨rfl, HB5.out⟩
end Go.Proofs.YtinkclcdpcjnfaaDoor
