/- The walks of the disk's New and Turn. Conditions: the disk is one. -/
import Derived.Test.YtpdihggdopdolaaDisk2
import Derived.Test.YtpdihggdopdolaaAnyD
namespace Go.Proofs.Ytpdihggdopdolaa
open Go.RowKit
theorem slot_info : (Try.prog.info? 22).map (fun i => (i.zero, i.size, i.bytes)) = some (some (.slice none 0 0), 1, 24) := by kernel_rfl
/-- append(blocks, block). -/
theorem app_slot {ops : Array Oper} {rest : List Oper} {o : Oper} {a : Act} {Q : Exit → Act → World → Prop} {w : World} (hgd : o.guard = none) (s x : Operand) (ho : o.op = .call { callee := .builtin .append, args := #[s, x], argTypes := #[65, 65] })
    (v : Value) (n : Nat) (xs : List Value) (hs : a.eval s = v) (hown : w.ownsRow 0 22 1 v n xs) (q : Nat) (p : Nat × Nat) (hx : a.eval x = .slice (some ⟨q, 0, none⟩) 1 1) (hq : Blk w q 22 #[slotV p]) (hl : n + 1 ≤ 1048576)
    (h : ∀ v' w', w'.ownsRow 0 22 1 v' (n + 1) (xs ++ [slotV p]) → w.grownBy w' v.ownBlock → (v'.ownBlock = v.ownBlock ∨ v'.ownBlock = some w.heap.size) → wpList Try.prog ops Q rest (a.put o.dst v') w') : wpList Try.prog ops Q (o :: rest) a w := by
  obtain ⟨i0, hi0, hz0, hz1, hz2⟩ := info_parts slot_info
  refine wpList_append_any w hgd s x _ ho 0 22 i0 _ 1 24 Try.underlying65 hi0 hz0 hz1 hz2 rfl (by omega) v n xs hs hown w.heap.size _ 1 1 [slotV p] hx ?_ ?_ (by simp only [maxLen]; omega) (by omega) (Nat.zero_le _) h
  · refine ⟨rfl, fun _ => ⟨_, rfl, hq.lt, fun j u hu => ?_⟩⟩
    have ha : (⟨q, 0, none⟩ : Addr).add j = ⟨q, j, none⟩ := by unfold Addr.add; split <;> simp_all
    rw [ha, hq.cell j]
    simpa using hu
  · intro u hu
    simp only [List.mem_singleton] at hu
    subst hu
    rfl
def zero32 : List UInt8 := List.replicate 32 0
theorem new_step {F : Nat → Prop} {W W2 W3 : World} {D g' : Nat} {gs : List (Nat × Nat)} {r v' : Value} {s : DS} (h : DiskAt W D gs r s) (hg' : g' = W.heap.size) (hB : Blk W2 g' 5 ((zero32.map B8).toArray)) (h02 : Below W.heap.size W W2)
    (hown : W3.ownsRow 0 22 1 v' (gs.length + 1) (gs.map slotV ++ [slotV (g', 32)])) (hgr : W2.grownBy W3 r.ownBlock) (hat : v'.ownBlock = r.ownBlock ∨ v'.ownBlock = some W2.heap.size) (hs : s.bl.length + 1 ≤ 2048)
    (hF : ∀ k, Foot D gs r k → F k) :
    DiskIs (W3.setCell ⟨D, 0, none⟩ v') (Grown F W) D { s with bl := s.bl ++ [zero32] } ∧ Keeps F W (W3.setCell ⟨D, 0, none⟩ v') := by
  have hlt := h.foot_lt
  have hap := h.apart
  have h2 := h.below h02
  have hs2 := h02.size
  have hk : Keeps (fun k => r.ownBlock = some k) W2 W3 := (Keeps.refl _ W2).grown hgr (fun k e => Or.inr e)
  have hg2 : g' < W2.heap.size := hB.lt
  have hnr : ∀ p ∈ gs, r.ownBlock ≠ some p.1 := by
    intro p hp e
    obtain ⟨j, hj, rfl⟩ := List.getElem_of_mem hp
    have h1 : gs[j]? = some gs[j] := List.getElem?_eq_getElem hj
    have hx : s.bl[j]? = some (s.bl[j]'(by rw [← h.len]; exact hj)) := List.getElem?_eq_getElem _
    have h3 := h.each j _ _ h1 hx
    obtain ⟨g, c0, cur, e1, _, hBg, _⟩ := h3.2.blk (by omega)
    injection e1 with e1 _ _
    simp only [Option.some.injEq, Addr.mk.injEq, and_true] at e1
    rcases h.row.2 with ⟨hx, _⟩ | ⟨R, c', cur', hx, _, hR, _⟩
    · rw [hx] at e; cases e
    · rw [hx] at e
      simp only [Value.ownBlock, Option.some.injEq] at e
      rw [← e1, ← e] at hBg
      exact Blk.ne_ hBg hR (by decide) rfl
  have hDr : ∀ k, r.ownBlock = some k → k ≠ D := fun k e => hap k (Or.inl e)
  have hvD : ∀ k, v'.ownBlock = some k → k ≠ D := by
    intro k e
    rcases hat with e2 | e2
    · exact hDr k (e2.symm.trans e)
    · have := hlt D (Or.inl rfl)
      rw [e2] at e; injection e with e; omega
  have hg'r : r.ownBlock ≠ some g' := fun e => by have := hlt g' (Or.inr (Or.inl e)); omega
  have hgD : g' ≠ D := by have := hlt D (Or.inl rfl); omega
  have hzo : Own W2 0 (slotV (g', 32)) zero32 := by
    refine ⟨by simp [zero32], Or.inr ⟨g', 32, _, rfl, Nat.zero_le _, hB, by simp [zero32], by simp [maxLen], by simp [zero32], by simp [zero32]⟩⟩
  have hkD : Keeps (fun k => k = D) W3 (W3.setCell ⟨D, 0, none⟩ v') := (Keeps.refl (fun k => k = D) W3).setCell (p := ⟨D, 0, none⟩) rfl _
  have hD3 : Blk W3 D 67 (DCells r s) := h2.cells.keeps hk (fun e => hDr D e rfl)
  refine ⟨⟨gs ++ [(g', 32)], v', ⟨?_, ?_, by simp [h.len], ?_, ?_, by simpa using hs, h.fuseLe, h.fuseGe⟩, ?_⟩, ?_⟩
  · exact hD3.set_ 0 v'
  · rw [List.length_append, List.map_append]
    exact row_keeps hown hkD (fun k e => hvD k e)
  · intro i j p q hp hq hpq
    have hgn : ∀ (k : Nat) (x : Nat × Nat), gs[k]? = some x → x.1 ≠ g' := fun k x hx e => by
      have := hlt x.1 (Or.inr (Or.inr ⟨x, List.mem_of_getElem? hx, rfl⟩)); omega
    have hcase : ∀ (k : Nat) (x : Nat × Nat), (gs ++ [(g', 32)])[k]? = some x → (gs[k]? = some x) ∨ (k = gs.length ∧ x = (g', 32)) := by
      intro k x hx
      by_cases hkl : k < gs.length
      · rw [List.getElem?_append_left hkl] at hx; exact Or.inl hx
      · rw [List.getElem?_append_right (by omega)] at hx
        have hk1 : k - gs.length < 1 := by have := (List.getElem?_eq_some_iff.1 hx).1; simpa using this
        have hk0 : k - gs.length = 0 := by omega
        rw [hk0] at hx
        simp at hx
        exact Or.inr ⟨by omega, hx.symm⟩
    rcases hcase i p hp with h1 | ⟨h1, rfl⟩ <;> rcases hcase j q hq with h3 | ⟨h3, rfl⟩
    · exact h.nodup i j p q h1 h3 hpq
    · exact absurd hpq (hgn i p h1)
    · exact absurd hpq.symm (hgn j q h3)
    · omega
  · intro i p l hp hl
    have hlen := h.len
    by_cases hi : i < gs.length
    · rw [List.getElem?_append_left hi] at hp
      have hl' : (s.bl ++ [zero32])[i]? = some l := hl
      rw [List.getElem?_append_left (by omega)] at hl'
      have h3 := h2.each i p l hp hl'
      refine ⟨h3.1, (h3.2.keeps hk (fun k e => ?_)).keeps hkD (fun k e => ?_)⟩
      · simp only [slotV, Value.ownBlock, Option.some.injEq] at e
        rw [← e]
        exact hnr p (List.mem_of_getElem? hp)
      · simp only [slotV, Value.ownBlock, Option.some.injEq] at e
        rw [← e]
        exact hap p.1 (Or.inr ⟨p, List.mem_of_getElem? hp, rfl⟩)
    · rw [List.getElem?_append_right (by omega)] at hp
      have hl' : (s.bl ++ [zero32])[i]? = some l := hl
      rw [List.getElem?_append_right (by omega)] at hl'
      have hk1 : i - gs.length < 1 := by have := (List.getElem?_eq_some_iff.1 hp).1; simpa using this
      have hk0 : i - gs.length = 0 := by omega
      rw [hk0] at hp
      rw [show i - s.bl.length = 0 by omega] at hl'
      simp at hp hl'
      subst hp hl'
      exact ⟨by simp [zero32], (hzo.keeps hk (fun k e => by simp only [slotV, Value.ownBlock, Option.some.injEq] at e; rw [← e]; exact hg'r)).keeps hkD (fun k e => by simp only [slotV, Value.ownBlock, Option.some.injEq] at e; omega)⟩
  · rintro k (rfl | e | ⟨p, hp, rfl⟩)
    · exact Or.inl (hF _ (Or.inl rfl))
    · rcases hat with e2 | e2
      · exact Or.inl (hF _ (Or.inr (Or.inl (e2.symm.trans e))))
      · rw [e2] at e; injection e with e; exact Or.inr (by omega)
    · rcases List.mem_append.1 hp with hp | hp
      · exact Or.inl (hF _ (Or.inr (Or.inr ⟨p, hp, rfl⟩)))
      · simp only [List.mem_singleton] at hp
        subst hp
        exact Or.inr (by show _ ≤ g'; omega)
  · exact ((Keeps.of_below h02).grown hgr (fun k e => Or.inr (hF k (Or.inr (Or.inl e))))).setCell (p := ⟨D, 0, none⟩) (hF D (Or.inl rfl)) _
def DS.new (n : Int) : DS := { bl := List.replicate (min (max n 0) 2048).toNat zero32, fuse := -1, down := false, writes := 0 }
def loopsOf : Code → List Code
  | .loop c => c :: loopsOf c
  | .seq a b => loopsOf a ++ loopsOf b
  | .block _ c => loopsOf c
  | .scope c => loopsOf c
  | .cond _ a b => loopsOf a ++ loopsOf b
  | _ => []
noncomputable def newLoopCode : Code := (((Try.f13.body.map loopsOf).getD [])[0]?).getD .skip
def DS.zeros (j : Nat) : DS := { bl := List.replicate j zero32, fuse := -1, down := false, writes := 0 }
theorem DS.zeros_succ (j : Nat) : ({ DS.zeros j with bl := (DS.zeros j).bl ++ [zero32] } : DS) = DS.zeros (j + 1) := by
  unfold DS.zeros
  simp only [List.replicate_succ']
theorem mk32 (w : World) : (Instr.makeSlice 22 (.int .i64 32) (.int .i64 32)).run Try.prog w = .ok (.slice (some ⟨w.heap.size, 0, none⟩) 32 32) (w.alloc (.cells (zero32.map B8).toArray 5)) := by kernel_rfl
attribute [irreducible] zero32
set_option maxRecDepth 100000 in
theorem newLoop (c0 c1 c2 c4 c5 c6 c7 c10 c11 c12 c13 c14 c15 c16 c17 c18 c19 c20 c21 c22 : Value) (B D m : Nat) (wo : World) (Q0 : Exit → Act → World → Prop) (hm : m ≤ 2048) (h0 : DiskIs wo (fun k => B ≤ k) D (DS.zeros 0)) (hB : B ≤ wo.heap.size)
    (hexit : ∀ (u9 u10 u11 u12 u13 u14 u15 u16 u17 u18 u19 u20 u21 : Value) (w' : World), DiskIs w' (fun k => B ≤ k) D (DS.zeros m) → Keeps (fun k => B ≤ k) wo w' → Q0 (.exit 0) ⟨List.toArray (c0 :: c1 :: c2 :: .pointer (some ⟨D, 0, none⟩) :: c4 :: c5 :: c6 :: c7 :: .int .i64 (m : Int) :: u9 :: u10 :: u11 :: u12 :: u13 :: u14 :: u15 :: u16 :: u17 :: u18 :: u19 :: u20 :: u21 :: c22 :: List.nil), []⟩ w') :
    Code.wp Try.prog (Code.loop newLoopCode) Q0 ⟨List.toArray (c0 :: c1 :: c2 :: .pointer (some ⟨D, 0, none⟩) :: c4 :: c5 :: c6 :: c7 :: .int .i64 (m : Int) :: .int .i64 0 :: c10 :: c11 :: c12 :: c13 :: c14 :: c15 :: c16 :: c17 :: c18 :: c19 :: c20 :: c21 :: c22 :: List.nil), []⟩ wo := by
  conv => arg 2; arg 1; whnf
  go_loopw [9] (fun q wr => ∃ j : Nat, j ≤ m ∧ q = .int .i64 (j : Int) ∧ DiskIs wr (fun k => B ≤ k) D (DS.zeros j) ∧ Keeps (fun k => B ≤ k) wo wr) (fun q _ => m - (intOf q).toNat)
  case atStart => exact ⟨0, by omega, rfl, h0, Keeps.refl _ _⟩
  case round =>
    obtain ⟨j, hj, rfl, hd, hk⟩ := hrel
    by_cases hjm : j < m
    · have hjm' : (j : Int) < (m : Int) := by omega
      obtain ⟨gs, r, hA, hF⟩ := hd
      have hlt := hA.foot_lt
      have hDl : D < wr.heap.size := hlt D (Or.inl rfl)
      have c0 := hA.c0
      have f0 := hA.fz 0
      have hsl : (DS.zeros j).bl.length = j := by simp [DS.zeros]
      have HA := Lib.hid hA; have HK := Lib.hid hk; have HF := Lib.hid hF; have HS := Lib.hid hsl
      clear hA hk hF hsl hexit h0 hlt
      go_wp2_with fail
      refine wp_region_anyDN (fun W => W.cell? ⟨D, 0, none⟩ = some r) 10 (by kernel_rfl) ?_
      refine anyD_takes (by kernel_rfl) (fun _ _ _ _ _ h => h) [0, 1, 2, 3, 4] 6 _ _ (by kernel_rfl) ?_
      simp only [List.filterMap_cons, List.filterMap_nil, List.getElem?_toArray, List.getElem?_cons_succ, List.getElem?_cons_zero]
      show wpQuiet _ _ _ _ (_ :: _ :: _ :: _ :: _ :: List.nil) _
      repeat (first | go_big_quiet_skip | (go_big_quiet_want; first | (refine quiet_load 65 (.tmp 14) rfl ⟨D, 0, none⟩ rfl _ (fun W hW => hW) (fun _ => by kernel_rfl) ?_; simp only [Act.put, List.setIfInBounds_toArray, List.set_cons_succ, List.set_cons_zero]; go_big_quiet_on) | (go_big_quiet_op; first | go_big_quiet_on | (refine ⟨_, fun _ _ => rfl, ?_⟩; go_big_quiet_on))))
      refine wpQuiet_nil ?_
      have hmk := mk32
      have hcb : ∀ W, Below wr.heap.size wr W → W.cell? ⟨D, 0, none⟩ = some r := fun W hW => (hW.cell (p := ⟨D, 0, none⟩) hDl).trans c0
      have HCB := Lib.hid hcb; clear hcb
      refine anyD_only (i := 5) rfl (by kernel_rfl) c0 ?_
      go_wp2_with fail
      clear hmk
      have hb1 : Below wr.heap.size wr (wr.drew.alloc (.cells (zero32.map B8).toArray 5)) := (Below.refl _ _).drew.alloc (Nat.le_refl _) _
      refine anyD_only (i := 6) rfl (by kernel_rfl) (HCB.out _ hb1) ?_
      go_wp2_with fail
      have hb2 := hb1.alloc hb1.size (.cells #[slotV (wr.heap.size, 32)] 22)
      refine anyD_only (i := 7) rfl (by kernel_rfl) (HCB.out _ hb2) ?_
      have hB2 : Blk ((wr.drew.alloc (.cells (zero32.map B8).toArray 5)).alloc (.cells #[slotV (wr.heap.size, 32)] 22)) wr.heap.size 5 (zero32.map B8).toArray := (Blk.new wr.drew _ _).alloc _
      have hQ2 : Blk ((wr.drew.alloc (.cells (zero32.map B8).toArray 5)).alloc (.cells #[slotV (wr.heap.size, 32)] 22)) (wr.heap.size + 1) 22 #[slotV (wr.heap.size, 32)] := Blk.new' (by simp)
      have hrow := (HA.out.below hb2).row
      refine app_slot rfl (.tmp 15) (.tmp 17) rfl r gs.length (gs.map slotV) rfl hrow (wr.heap.size + 1) (wr.heap.size, 32) rfl hQ2 (by have := HA.out.len; have := HS.out; omega) ?_
      intro v' w3 hrow3 hgr hat
      have hDr : ∀ k, r.ownBlock = some k → k ≠ D := fun k e => HA.out.apart k (Or.inl e)
      have hkr : w3.heap[D]? = _ := hgr.block D (Nat.lt_of_lt_of_le hDl hb2.size) (fun e => hDr D e.symm rfl)
      have c03 : w3.cell? ⟨D, 0, none⟩ = some r := (World.cell?_of_block (a := ⟨D, 0, none⟩) hkr).trans (HCB.out _ hb2)
      have f03 : w3.frozen? ⟨D, 0, none⟩ = false := (World.frozen?_of_block (a := ⟨D, 0, none⟩) hkr).trans ((hb2.frozen (p := ⟨D, 0, none⟩) hDl).trans f0)
      have key := new_step HA.out rfl hB2 hb2 hrow3 hgr hat (by have := HS.out; omega) HF.out
      have hsh : ∃ A n c, v' = .slice A n c := by
        rcases hrow3.2 with ⟨e, _⟩ | ⟨g, cap, cur, e, _⟩
        · exact ⟨_, _, _, e⟩
        · exact ⟨_, _, _, e⟩
      obtain ⟨vA, vn, vc, rfl⟩ := hsh
      rw [DS.zeros_succ] at key
      have KEY := Lib.hid key
      clear key hrow3 hgr hat hkr hrow hQ2 hB2 hb2 hb1 hDr
      simp only [List.getElem_toArray, List.getElem_cons_succ, List.getElem_cons_zero, Act.put, List.setIfInBounds_toArray, List.set_cons_succ, List.set_cons_zero]
      go_wp2_with fail
      refine anyD_only (i := 8) rfl (by kernel_rfl) c03 ?_
      go_wp2_with fail
      refine anyD_only (i := 9) rfl (by kernel_rfl) c03 ?_
      go_wp2_with fail
      refine anyD_only (i := 10) rfl (by kernel_rfl) c03 ?_
      go_wp2_with fail
      refine anyD_end (by kernel_rfl) (by kernel_rfl) ?_
      go_wp2
      go_roundw
      case rel =>
        refine ⟨j + 1, by omega, by go_num, KEY.out.1.weaken (fun k e => ?_), HK.out.trans KEY.out.2 (fun _ _ e => e)⟩
        rcases e with e | e
        · exact e
        · exact Nat.le_trans (Nat.le_trans hB HK.out.size) e
      case measure => simp [intOf]; omega
    · obtain rfl : j = m := by omega
      go_wp2_with fail
      exact hexit _ _ _ _ _ _ _ _ _ _ _ _ _ _ hd hk
set_option maxRecDepth 100000 in
theorem New_any (w : World) (n : Int) :
    Calls Try.prog 13 #[.int .i64 n] w fun e w' => ∃ D, e = .returned (.pointer (some ⟨D, 0, none⟩)) ∧ DiskIs w' (fun k => w.heap.size ≤ k) D (DS.new n) ∧ Below w.heap.size w w' := by
  have hnew : DS.new n = DS.zeros (min (max n 0) 2048).toNat := rfl
  obtain ⟨m, hm⟩ : ∃ m : Nat, (m : Int) = min (max n 0) 2048 := ⟨(min (max n 0) 2048).toNat, by omega⟩
  have hm2 : m ≤ 2048 := by omega
  rw [hnew, ← hm, Int.toNat_natCast]
  have h0 : DiskIs (w.alloc (.cells (DCells (.slice none 0 0) (DS.zeros 0)) 67)) (fun k => w.heap.size ≤ k) w.heap.size (DS.zeros 0) := by
    refine ⟨[], .slice none 0 0, ⟨Blk.new w _ _, World.ownsRow_nil _ _ _ _, rfl, by simp, by simp, by simp [DS.zeros], by simp [DS.zeros], by simp [DS.zeros]⟩, ?_⟩
    rintro k (rfl | e | ⟨p, hp, _⟩)
    · exact Nat.le_refl _
    · cases e
    · cases hp
  have hb0 : Below w.heap.size w (w.alloc (.cells (DCells (.slice none 0 0) (DS.zeros 0)) 67)) := (Below.refl _ _).alloc (Nat.le_refl _) _
  obtain ⟨W0, hW0⟩ : ∃ W0, W0 = w.alloc (.cells (DCells (.slice none 0 0) (DS.zeros 0)) 67) := ⟨_, rfl⟩
  rw [← hW0] at h0 hb0
  have H0 := Lib.hid h0; have HB0 := Lib.hid hb0; have HMM := Lib.hid hm; have HW0 := Lib.hid hW0
  clear hm h0 hb0 hnew hW0
  go_enter Try.func13, Try.ntmps13
  by_cases hn0 : n < 0
  · obtain rfl : m = 0 := by have := HMM.out; omega
    go_wp2_with fail
    have e := HW0.out
    subst e
    refine newLoop _ _ _ _ _ _ _ _ _ _ _ _ _ _ _ _ _ _ _ _ w.heap.size w.heap.size 0 _ _ hm2 H0.out HB0.out.size ?_
    intro z0 z1 z2 z3 z4 z5 z6 z7 z8 z9 z10 z11 z12 w' hd hk
    have hb' : Below w.heap.size w w' := HB0.out.trans (hk.below (fun _ e => e) HB0.out.size)
    go_wp2
    go_ret
    exact ⟨_, rfl, hd, hb'⟩
  · by_cases hn1 : n ≤ 2048
    · obtain rfl : n = (m : Int) := by have := HMM.out; omega
      go_wp2_with fail
      have e := HW0.out
      subst e
      refine newLoop _ _ _ _ _ _ _ _ _ _ _ _ _ _ _ _ _ _ _ _ w.heap.size w.heap.size m _ _ hm2 H0.out HB0.out.size ?_
      intro z0 z1 z2 z3 z4 z5 z6 z7 z8 z9 z10 z11 z12 w' hd hk
      have hb' : Below w.heap.size w w' := HB0.out.trans (hk.below (fun _ e => e) HB0.out.size)
      go_wp2
      go_ret
      exact ⟨_, rfl, hd, hb'⟩
    · obtain rfl : m = 2048 := by have := HMM.out; omega
      go_wp2_with fail
      have e := HW0.out
      subst e
      refine newLoop _ _ _ _ _ _ _ _ _ _ _ _ _ _ _ _ _ _ _ _ w.heap.size w.heap.size 2048 _ _ hm2 H0.out HB0.out.size ?_
      intro z0 z1 z2 z3 z4 z5 z6 z7 z8 z9 z10 z11 z12 w' hd hk
      have hb' : Below w.heap.size w w' := HB0.out.trans (hk.below (fun _ e => e) HB0.out.size)
      go_wp2
      go_ret
      exact ⟨_, rfl, hd, hb'⟩
end Go.Proofs.Ytpdihggdopdolaa
