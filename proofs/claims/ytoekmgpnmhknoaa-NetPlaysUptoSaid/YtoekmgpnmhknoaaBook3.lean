/- The walks of the document's Book: Put. Conditions: sizes. -/
import Derived.Test.YtoekmgpnmhknoaaBook2
namespace Go.Proofs.Ytoekmgpnmhknoaa
open Go.RowKit
theorem grown_chain2 {F : Nat → Prop} {w w1 : World} {k : Nat} (h : w.heap.size ≤ w1.heap.size) (e : Grown (Grown F w) w1 k) : Grown F w k := by
  rcases e with e | e
  · exact e
  · exact Or.inr (Nat.le_trans h e)
/-- ref.Int: a number's bytes, if it has some. -/
theorem RefInt_own (w : World) (n : Int) : Calls Try.prog 26 #[.int .i64 n] w fun e w' => ∃ v, e = .returned (.tuple #[v, .bool (decide (-2 ≤ n ∧ n ≤ 2147483645))]) ∧ Own w' w.heap.size v (if -2 ≤ n ∧ n ≤ 2147483645 then b4 (n + 2).toNat else []) ∧ Below w.heap.size w w' := by
  by_cases hlo : n < -2
  · have hd : decide (-2 ≤ n ∧ n ≤ 2147483645) = false := by simp; omega
    rw [hd]
    simp only [if_neg (show ¬ (-2 ≤ n ∧ n ≤ 2147483645) by omega)]
    clear hd
    go_enter Try.func26, Try.ntmps26
    go_wp2
    go_ret2
    exact ⟨_, rfl, Own.nil_ _ _, Below.refl _ _⟩
  · by_cases hhi : n > 2147483645
    · have hd : decide (-2 ≤ n ∧ n ≤ 2147483645) = false := by simp; omega
      rw [hd]
      simp only [if_neg (show ¬ (-2 ≤ n ∧ n ≤ 2147483645) by omega)]
      clear hd
      go_enter Try.func26, Try.ntmps26
      go_wp2
      go_ret2
      exact ⟨_, rfl, Own.nil_ _ _, Below.refl _ _⟩
    · have hd : decide (-2 ≤ n ∧ n ≤ 2147483645) = true := by simp; omega
      rw [hd]
      simp only [if_pos (show (-2 ≤ n ∧ n ≤ 2147483645) by omega)]
      obtain ⟨m, rfl⟩ : ∃ m : Nat, n = (m : Int) - 2 := ⟨(n + 2).toNat, by omega⟩
      have hm : m ≤ 2147483647 := by omega
      have e3 : (m : Int) - 2 + 2 = m := by omega
      have hB4 := Lib.hid (b4_cells m hm)
      have HM := Lib.hid (show ((m : Int) - 2 + 2).toNat = m by omega)
      clear hd
      go_enter Try.func26, Try.ntmps26
      go_wp2
      go_ret2
      refine ⟨_, rfl, ?_, (Below.refl _ _).alloc (Nat.le_refl _) _⟩
      have hl : (b4 m).length = 4 := rfl
      have := Own.new_ w w.heap.size (Nat.le_refl _) (b4 m) (by rw [hl]; omega) _ hB4.out
      first | exact this | (rw [HM.out]; exact this) | (simp only [e3, Int.toNat_natCast]; exact this)
set_option maxRecDepth 100000 in
set_option maxHeartbeats 1000000 in
theorem Put_any (w : World) (F : Nat → Prop) (D : Nat) (s : WS) (A : Option Addr) (n c : Nat) (ns : List Int) (h : BkIs w F D s) (hst : ∀ W, Keeps F w W → Reads W w.heap.size 1 A n (ns.map (Value.int .i64))) (hs : s.out.length + 4 * n ≤ 140737488355000) (hn : n ≤ 9223372036854775807) :
    Calls Try.prog 17 #[.pointer (some ⟨D, 0, none⟩), .slice A n c] w fun e w' => e = .returned (.tuple #[]) ∧ BkIs w' (Grown F w) D (ns.foldl WS.int s) ∧ Keeps F w w' := by
  have hnl : ns.length = n := by have := (hst w (Keeps.refl F w)).1; simpa using this
  have hgrow : ∀ (l : List Int) (x : WS), (l.foldl WS.int x).out.length ≤ x.out.length + 4 * l.length := by
    intro l
    induction l with
    | nil => intro x; simp
    | cons y ys ih =>
      intro x
      rw [List.foldl_cons]
      have h1 := ih (x.int y)
      have h2 : (x.int y).out.length ≤ x.out.length + 4 := by
        unfold WS.int
        split
        · simp only [List.length_append]; have : (b4 (y + 2).toNat).length = 4 := rfl; omega
        · simp
      rw [List.length_cons]
      omega
  have HNL := Lib.hid hnl; have HST := Lib.hid hst; have HGR := Lib.hid hgrow; have HS0 := Lib.hid hs; have H0 := Lib.hid h
  clear hnl hst hgrow hs h
  go_enter Try.func17, Try.ntmps17
  go_wp2_with fail
  go_loopw [4] (fun q wr => ∃ i : Nat, i ≤ n ∧ q = .int .i64 (i : Int) ∧ BkIs wr (Grown F w) D ((ns.take i).foldl WS.int s) ∧ Keeps F w wr) (fun q _ => n - (intOf q).toNat)
  case atStart => exact ⟨0, by omega, rfl, by rw [List.take_zero]; exact H0.out.weaken (fun k e => Or.inl e), Keeps.refl _ _⟩
  case round =>
    obtain ⟨i, hi, rfl, hbk, hkp⟩ := hrel
    by_cases hin : i < n
    · have hin' : (i : Int) < (n : Int) := by omega
      obtain ⟨ad, u, hA, _, hu, hcell⟩ := (HST.out wr hkp).at_ hin
      subst hA
      have hgi : ns[i]? = some (ns[i]'(by rw [HNL.out]; exact hin)) := List.getElem?_eq_getElem _
      rw [List.getElem?_map, hgi] at hu
      injection hu with hu
      subst hu
      have hstep : (ns.take (i + 1)).foldl WS.int s = ((ns.take i).foldl WS.int s).int (ns[i]'(by rw [HNL.out]; exact hin)) := by
        rw [List.take_add_one, hgi, List.foldl_append]
        rfl
      have hlen := HGR.out (ns.take i) s
      have hlen2 : ((ns.take i).foldl WS.int s).out.length + 4 ≤ 140737488355328 := by
        have h1 : (ns.take i).length ≤ i := by rw [List.length_take]; omega
        have := HS0.out
        omega
      generalize (ns.take i).foldl WS.int s = st at hbk hstep hlen hlen2
      generalize ns[i]'(by rw [HNL.out]; exact hin) = m at hcell hstep
      have hint : st.int m = { out := st.out ++ (if -2 ≤ m ∧ m ≤ 2147483645 then b4 (m + 2).toNat else []), bad := st.bad || !(decide (-2 ≤ m ∧ m ≤ 2147483645)) } := by
        unfold WS.int
        by_cases hm : -2 ≤ m ∧ m ≤ 2147483645
        · simp [hm]
        · simp only [if_neg hm, List.append_nil]
          simp [hm]
      have hXl : (if -2 ≤ m ∧ m ≤ 2147483645 then b4 (m + 2).toNat else []).length ≤ 4 := by
        split
        · exact Nat.le_of_eq rfl
        · simp
      have HBY := Lib.hid hint; have HXL := Lib.hid hXl; have HSTEP := Lib.hid hstep; have HL2 := Lib.hid hlen2; have HKP := Lib.hid hkp
      obtain ⟨v, hB, h2, h3⟩ := hbk
      have HB0 := Lib.hid hB
      clear hint hXl hstep hlen hlen2 hkp hB hgi
      go_wp2_with fail
      refine (RefInt_own wr m).mono ?_
      rintro e w1 ⟨v1, rfl, ho1, hb1⟩
      generalize (if -2 ≤ m ∧ m ≤ 2147483645 then b4 (m + 2).toNat else []) = X at ho1 HXL HBY
      generalize decide (-2 ≤ m ∧ m ≤ 2147483645) = ok at HBY ⊢
      obtain ⟨A1, c1, rfl⟩ := ho1.shape
      have hB1 : BkAt w1 D v st := HB0.out.keeps (Keeps.of_below (F := fun _ => False) hb1) id (fun _ _ => id)
      obtain ⟨Av, cv, hv⟩ := hB1.own.shape
      subst hv
      have q0 := hB1.c0
      have f0 := hB1.fz 0
      have q1 := hB1.c1
      have f1 := hB1.fz 1
      have hS : st.out.length + X.length ≤ 140737488355328 := by have := HXL.out; have := HL2.out; omega
      have HB := Lib.hid hB1; have HX := Lib.hid ho1.rd; have HS := Lib.hid hS; have HW := Lib.hid hb1
      clear hB1 ho1 hb1 hS
      cases hbb : st.bad
      · rw [hbb] at q1 HBY
        have HBB := Lib.hid hbb; clear hbb
        cases ok
        · have HEQ := Lib.hid (show st.int m = { out := st.out ++ X, bad := true } from HBY.out)
          go_wp2_with fail
          refine wp_region_anyDN (fun W => W.cell? ⟨D, 1, none⟩ = some (.bool false)) 21 (by kernel_rfl) ?_
          refine anyD_takes (by kernel_rfl) (fun _ _ _ _ _ h => h) [0, 1, 2, 3, 4, 6, 8, 9, 10, 11] 12 _ _ (by kernel_rfl) ?_
          simp only [List.filterMap_cons, List.filterMap_nil, List.getElem?_toArray, List.getElem?_cons_succ, List.getElem?_cons_zero]
          show wpQuiet _ _ _ _ (_ :: _ :: _ :: _ :: _ :: _ :: _ :: _ :: _ :: _ :: List.nil) _
          repeat (first | go_big_quiet_skip | (go_big_quiet_want; first | (refine quiet_load 4 (.tmp 31) rfl ⟨D, 1, none⟩ rfl _ (fun W hW => hW) (fun _ => by kernel_rfl) ?_; simp only [Act.put, List.setIfInBounds_toArray, List.set_cons_succ, List.set_cons_zero]; go_big_quiet_on) | (go_big_quiet_op; first | go_big_quiet_on | (refine ⟨_, fun _ _ => rfl, ?_⟩; go_big_quiet_on))))
          refine wpQuiet_nil ?_
          refine anyD_only (i := 5) rfl (by kernel_rfl) q1 ?_
          go_wp2_with fail
          refine anyD_only (i := 7) rfl (by kernel_rfl) q1 ?_
          refine app_bytes rfl (.tmp 26) (.tmp 27) rfl 0 (.slice Av st.out.length cv) st.out rfl HB.out.own.drew w1.heap.size A1 X.length c1 X rfl HX.out.drew (by have := HS.out; omega) (Nat.zero_le _) ?_
          intro v2 w2 hown2 hg2 hat2
          have hkr := hg2.block D HB.out.cells.lt (fun e => HB.out.apart D e.symm rfl)
          have q02 := (World.cell?_of_block (a := ⟨D, 0, none⟩) hkr).trans q0
          have f02 := (World.frozen?_of_block (a := ⟨D, 0, none⟩) hkr).trans f0
          have q12 := (World.cell?_of_block (a := ⟨D, 1, none⟩) hkr).trans q1
          have f12 := (World.frozen?_of_block (a := ⟨D, 1, none⟩) hkr).trans f1
          obtain ⟨A2, c2, hv2⟩ := hown2.shape
          obtain ⟨n2, hn2⟩ : ∃ n2, n2 = (st.out ++ X).length := ⟨_, rfl⟩
          rw [← hn2] at hv2
          subst hv2
          clear hn2
          have HD := Lib.hid (fun (b : Bool) => HB.out.done2 h2 h3 b ((Below.refl _ _).drew) hown2 hg2 hat2)
          clear hkr hown2 hg2 hat2
          simp only [List.getElem_toArray, List.getElem_cons_succ, List.getElem_cons_zero, Act.put, List.setIfInBounds_toArray, List.set_cons_succ, List.set_cons_zero]
          go_wp2_with fail
          refine anyD_takes (by kernel_rfl) (fun _ _ _ _ _ h => h) [12, 13, 14, 15, 16, 17] 4 _ _ (by kernel_rfl) ?_
          simp only [List.filterMap_cons, List.filterMap_nil, List.getElem?_toArray, List.getElem?_cons_succ, List.getElem?_cons_zero]
          show wpQuiet _ _ _ _ (_ :: _ :: _ :: _ :: _ :: _ :: List.nil) _
          repeat (first | go_big_quiet_skip | (go_big_quiet_want; first | (fail; simp only [Act.put, List.setIfInBounds_toArray, List.set_cons_succ, List.set_cons_zero]; go_big_quiet_on) | (go_big_quiet_op; first | go_big_quiet_on | (refine ⟨_, fun _ _ => rfl, ?_⟩; go_big_quiet_on))))
          refine wpQuiet_nil ?_
          refine anyD_only (i := 18) rfl (by kernel_rfl) q12 ?_
          go_wp2_with fail
          have q13 : (w2.setCell ⟨D, 0, none⟩ (.slice A2 n2 c2)).cell? ⟨D, 1, none⟩ = some (.bool false) := (World.cell?_setCell_other w2 ⟨D, 0, none⟩ ⟨D, 1, none⟩ _ (by intro e; injection e with _ e2 _; cases e2)).trans q12
          refine anyD_only (i := 19) rfl (by kernel_rfl) q13 ?_
          go_wp2_with fail
          refine anyD_only (i := 20) rfl (by kernel_rfl) q13 ?_
          go_wp2_with fail
          refine anyD_only (i := 21) rfl (by kernel_rfl) q13 ?_
          go_wp2_with fail
          refine anyD_end (by kernel_rfl) (by kernel_rfl) ?_
          go_wp2
          go_roundw
          case rel =>
            have hd := HD.out true
            refine ⟨i + 1, by omega, by go_num, ?_, HKP.out.trans ((Keeps.of_below (F := Grown F w) HW.out).trans hd.2 (fun _ _ e => e)) (fun k hk e => by rcases e with e | e; exact e; exact absurd hk (by omega))⟩
            rw [HSTEP.out, HEQ.out]
            exact hd.1.weaken (fun k e => grown_chain2 (Nat.le_trans HKP.out.size HW.out.size) e)
          case measure => simp [intOf]; omega
        · have HEQ := Lib.hid (show st.int m = { out := st.out ++ X, bad := false } from HBY.out)
          go_wp2_with fail
          refine wp_region_anyDN (fun W => W.cell? ⟨D, 1, none⟩ = some (.bool false)) 21 (by kernel_rfl) ?_
          refine anyD_takes (by kernel_rfl) (fun _ _ _ _ _ h => h) [0, 1, 2, 3, 4, 6, 8, 9, 10, 11] 12 _ _ (by kernel_rfl) ?_
          simp only [List.filterMap_cons, List.filterMap_nil, List.getElem?_toArray, List.getElem?_cons_succ, List.getElem?_cons_zero]
          show wpQuiet _ _ _ _ (_ :: _ :: _ :: _ :: _ :: _ :: _ :: _ :: _ :: _ :: List.nil) _
          repeat (first | go_big_quiet_skip | (go_big_quiet_want; first | (refine quiet_load 4 (.tmp 31) rfl ⟨D, 1, none⟩ rfl _ (fun W hW => hW) (fun _ => by kernel_rfl) ?_; simp only [Act.put, List.setIfInBounds_toArray, List.set_cons_succ, List.set_cons_zero]; go_big_quiet_on) | (go_big_quiet_op; first | go_big_quiet_on | (refine ⟨_, fun _ _ => rfl, ?_⟩; go_big_quiet_on))))
          refine wpQuiet_nil ?_
          refine anyD_only (i := 5) rfl (by kernel_rfl) q1 ?_
          go_wp2_with fail
          refine anyD_only (i := 7) rfl (by kernel_rfl) q1 ?_
          refine app_bytes rfl (.tmp 26) (.tmp 27) rfl 0 (.slice Av st.out.length cv) st.out rfl HB.out.own.drew w1.heap.size A1 X.length c1 X rfl HX.out.drew (by have := HS.out; omega) (Nat.zero_le _) ?_
          intro v2 w2 hown2 hg2 hat2
          have hkr := hg2.block D HB.out.cells.lt (fun e => HB.out.apart D e.symm rfl)
          have q02 := (World.cell?_of_block (a := ⟨D, 0, none⟩) hkr).trans q0
          have f02 := (World.frozen?_of_block (a := ⟨D, 0, none⟩) hkr).trans f0
          have q12 := (World.cell?_of_block (a := ⟨D, 1, none⟩) hkr).trans q1
          have f12 := (World.frozen?_of_block (a := ⟨D, 1, none⟩) hkr).trans f1
          obtain ⟨A2, c2, hv2⟩ := hown2.shape
          obtain ⟨n2, hn2⟩ : ∃ n2, n2 = (st.out ++ X).length := ⟨_, rfl⟩
          rw [← hn2] at hv2
          subst hv2
          clear hn2
          have HD := Lib.hid (fun (b : Bool) => HB.out.done2 h2 h3 b ((Below.refl _ _).drew) hown2 hg2 hat2)
          clear hkr hown2 hg2 hat2
          simp only [List.getElem_toArray, List.getElem_cons_succ, List.getElem_cons_zero, Act.put, List.setIfInBounds_toArray, List.set_cons_succ, List.set_cons_zero]
          go_wp2_with fail
          refine anyD_takes (by kernel_rfl) (fun _ _ _ _ _ h => h) [12, 13, 14, 15, 16, 17] 4 _ _ (by kernel_rfl) ?_
          simp only [List.filterMap_cons, List.filterMap_nil, List.getElem?_toArray, List.getElem?_cons_succ, List.getElem?_cons_zero]
          show wpQuiet _ _ _ _ (_ :: _ :: _ :: _ :: _ :: _ :: List.nil) _
          repeat (first | go_big_quiet_skip | (go_big_quiet_want; first | (fail; simp only [Act.put, List.setIfInBounds_toArray, List.set_cons_succ, List.set_cons_zero]; go_big_quiet_on) | (go_big_quiet_op; first | go_big_quiet_on | (refine ⟨_, fun _ _ => rfl, ?_⟩; go_big_quiet_on))))
          refine wpQuiet_nil ?_
          refine anyD_only (i := 18) rfl (by kernel_rfl) q12 ?_
          go_wp2_with fail
          have q13 : (w2.setCell ⟨D, 0, none⟩ (.slice A2 n2 c2)).cell? ⟨D, 1, none⟩ = some (.bool false) := (World.cell?_setCell_other w2 ⟨D, 0, none⟩ ⟨D, 1, none⟩ _ (by intro e; injection e with _ e2 _; cases e2)).trans q12
          refine anyD_only (i := 19) rfl (by kernel_rfl) q13 ?_
          go_wp2_with fail
          refine anyD_only (i := 20) rfl (by kernel_rfl) q13 ?_
          go_wp2_with fail
          refine anyD_only (i := 21) rfl (by kernel_rfl) q13 ?_
          go_wp2_with fail
          refine anyD_end (by kernel_rfl) (by kernel_rfl) ?_
          go_wp2
          go_roundw
          case rel =>
            have hd := HD.out false
            refine ⟨i + 1, by omega, by go_num, ?_, HKP.out.trans ((Keeps.of_below (F := Grown F w) HW.out).trans hd.2 (fun _ _ e => e)) (fun k hk e => by rcases e with e | e; exact e; exact absurd hk (by omega))⟩
            rw [HSTEP.out, HEQ.out]
            exact hd.1.weaken (fun k e => grown_chain2 (Nat.le_trans HKP.out.size HW.out.size) e)
          case measure => simp [intOf]; omega
      · rw [hbb] at q1 HBY
        have HBB := Lib.hid hbb; clear hbb
        have HEQ := Lib.hid (show st.int m = { out := st.out ++ X, bad := true } from by rw [HBY.out]; simp)
        go_wp2_with fail
        refine wp_region_anyDN (fun W => W.cell? ⟨D, 1, none⟩ = some (.bool true)) 21 (by kernel_rfl) ?_
        refine anyD_takes (by kernel_rfl) (fun _ _ _ _ _ h => h) [0, 1, 2, 3, 4, 6, 8, 9, 10, 11] 12 _ _ (by kernel_rfl) ?_
        simp only [List.filterMap_cons, List.filterMap_nil, List.getElem?_toArray, List.getElem?_cons_succ, List.getElem?_cons_zero]
        show wpQuiet _ _ _ _ (_ :: _ :: _ :: _ :: _ :: _ :: _ :: _ :: _ :: _ :: List.nil) _
        repeat (first | go_big_quiet_skip | (go_big_quiet_want; first | (refine quiet_load 4 (.tmp 31) rfl ⟨D, 1, none⟩ rfl _ (fun W hW => hW) (fun _ => by kernel_rfl) ?_; simp only [Act.put, List.setIfInBounds_toArray, List.set_cons_succ, List.set_cons_zero]; go_big_quiet_on) | (go_big_quiet_op; first | go_big_quiet_on | (refine ⟨_, fun _ _ => rfl, ?_⟩; go_big_quiet_on))))
        refine wpQuiet_nil ?_
        refine anyD_only (i := 5) rfl (by kernel_rfl) q1 ?_
        go_wp2_with fail
        refine anyD_only (i := 7) rfl (by kernel_rfl) q1 ?_
        refine app_bytes rfl (.tmp 26) (.tmp 27) rfl 0 (.slice Av st.out.length cv) st.out rfl HB.out.own.drew w1.heap.size A1 X.length c1 X rfl HX.out.drew (by have := HS.out; omega) (Nat.zero_le _) ?_
        intro v2 w2 hown2 hg2 hat2
        have hkr := hg2.block D HB.out.cells.lt (fun e => HB.out.apart D e.symm rfl)
        have q02 := (World.cell?_of_block (a := ⟨D, 0, none⟩) hkr).trans q0
        have f02 := (World.frozen?_of_block (a := ⟨D, 0, none⟩) hkr).trans f0
        have q12 := (World.cell?_of_block (a := ⟨D, 1, none⟩) hkr).trans q1
        have f12 := (World.frozen?_of_block (a := ⟨D, 1, none⟩) hkr).trans f1
        obtain ⟨A2, c2, hv2⟩ := hown2.shape
        obtain ⟨n2, hn2⟩ : ∃ n2, n2 = (st.out ++ X).length := ⟨_, rfl⟩
        rw [← hn2] at hv2
        subst hv2
        clear hn2
        have HD := Lib.hid (fun (b : Bool) => HB.out.done2 h2 h3 b ((Below.refl _ _).drew) hown2 hg2 hat2)
        clear hkr hown2 hg2 hat2
        simp only [List.getElem_toArray, List.getElem_cons_succ, List.getElem_cons_zero, Act.put, List.setIfInBounds_toArray, List.set_cons_succ, List.set_cons_zero]
        go_wp2_with fail
        refine anyD_takes (by kernel_rfl) (fun _ _ _ _ _ h => h) [12, 13, 14, 15, 16, 17] 4 _ _ (by kernel_rfl) ?_
        simp only [List.filterMap_cons, List.filterMap_nil, List.getElem?_toArray, List.getElem?_cons_succ, List.getElem?_cons_zero]
        show wpQuiet _ _ _ _ (_ :: _ :: _ :: _ :: _ :: _ :: List.nil) _
        repeat (first | go_big_quiet_skip | (go_big_quiet_want; first | (fail; simp only [Act.put, List.setIfInBounds_toArray, List.set_cons_succ, List.set_cons_zero]; go_big_quiet_on) | (go_big_quiet_op; first | go_big_quiet_on | (refine ⟨_, fun _ _ => rfl, ?_⟩; go_big_quiet_on))))
        refine wpQuiet_nil ?_
        refine anyD_only (i := 18) rfl (by kernel_rfl) q12 ?_
        go_wp2_with fail
        have q13 : (w2.setCell ⟨D, 0, none⟩ (.slice A2 n2 c2)).cell? ⟨D, 1, none⟩ = some (.bool true) := (World.cell?_setCell_other w2 ⟨D, 0, none⟩ ⟨D, 1, none⟩ _ (by intro e; injection e with _ e2 _; cases e2)).trans q12
        refine anyD_only (i := 19) rfl (by kernel_rfl) q13 ?_
        go_wp2_with fail
        refine anyD_only (i := 20) rfl (by kernel_rfl) q13 ?_
        go_wp2_with fail
        refine anyD_only (i := 21) rfl (by kernel_rfl) q13 ?_
        go_wp2_with fail
        refine anyD_end (by kernel_rfl) (by kernel_rfl) ?_
        go_wp2
        go_roundw
        case rel =>
          have hd := HD.out true
          refine ⟨i + 1, by omega, by go_num, ?_, HKP.out.trans ((Keeps.of_below (F := Grown F w) HW.out).trans hd.2 (fun _ _ e => e)) (fun k hk e => by rcases e with e | e; exact e; exact absurd hk (by omega))⟩
          rw [HSTEP.out, HEQ.out]
          exact hd.1.weaken (fun k e => grown_chain2 (Nat.le_trans HKP.out.size HW.out.size) e)
        case measure => simp [intOf]; omega
    · obtain rfl : i = n := by omega
      have hall : ns.take i = ns := List.take_of_length_le (by rw [HNL.out]; exact Nat.le_refl _)
      rw [hall] at hbk
      clear hall
      go_wp2
      go_end0
      exact ⟨rfl, hbk, hkp⟩
end Go.Proofs.Ytoekmgpnmhknoaa
