/- The walks of the document's Book: Lay. Conditions: sizes. -/
import Derived.Test.YtoekmgpnmhknoaaBook
namespace Go.Proofs.Ytoekmgpnmhknoaa
open Go.RowKit
theorem grown_chain {F : Nat → Prop} {w w1 : World} {k : Nat} (h : w.heap.size ≤ w1.heap.size) (e : Grown F w1 k) : Grown F w k := by
  rcases e with e | e
  · exact Or.inl e
  · exact Or.inr (Nat.le_trans h e)
set_option maxRecDepth 100000 in
set_option maxHeartbeats 1000000 in
theorem Lay_any (w : World) (F : Nat → Prop) (D : Nat) (s : WS) (A : Option Addr) (n c : Nat) (l : List UInt8) (h : BkIs w F D s) (hn : n ≤ 140737488351232) (hr : Rd w w.heap.size A n l) (hs : s.out.length + 65537 ≤ 140737488355328) :
    Calls Try.prog 19 #[.pointer (some ⟨D, 0, none⟩), .slice A n c] w fun e w' => e = .returned (.tuple #[]) ∧ BkIs w' (Grown F w) D (s.bytes l) ∧ Keeps F w w' := by
  obtain ⟨v, hB, h2, h3⟩ := h
  have hbytes : s.bytes l = { out := s.out ++ (if l.length ≤ 65535 then b2 l.length ++ l else []), bad := s.bad || !(decide (l.length ≤ 65535)) } := by
    unfold WS.bytes
    by_cases hl : l.length ≤ 65535
    · simp [hl]
    · simp [hl]
  have hXl : (if l.length ≤ 65535 then b2 l.length ++ l else []).length ≤ 65537 := by
    split
    · simp [b2]; omega
    · simp
  have HBY := Lib.hid hbytes; have HXL := Lib.hid hXl; have HSS := Lib.hid hs
  clear hbytes hXl hs
  go_enter Try.func19, Try.ntmps19
  go_wp2_with fail
  refine (RefBytes_any w A n c l hn hr).mono ?_
  rintro e w1 ⟨v1, rfl, ho1, hb1⟩
  generalize (if l.length ≤ 65535 then b2 l.length ++ l else []) = X at ho1 HXL HBY
  generalize decide (l.length ≤ 65535) = ok at HBY ⊢
  obtain ⟨A1, c1, rfl⟩ := ho1.shape
  have hB1 : BkAt w1 D v s := hB.keeps (Keeps.of_below (F := fun _ => False) hb1) id (fun _ _ => id)
  obtain ⟨Av, cv, hv⟩ := hB1.own.shape
  subst hv
  have q0 := hB1.c0
  have f0 := hB1.fz 0
  have q1 := hB1.c1
  have f1 := hB1.fz 1
  have hS : s.out.length + X.length ≤ 140737488355328 := by have := HXL.out; have := HSS.out; omega
  have HB := Lib.hid hB1; have HX := Lib.hid ho1.rd; have HS := Lib.hid hS; have HW := Lib.hid hb1
  clear hB hB1 ho1 hb1 hS hr
  cases hbb : s.bad
  · rw [hbb] at q1 HBY
    have HBB := Lib.hid hbb; clear hbb
    cases ok
    · have HEQ := Lib.hid (show s.bytes l = { out := s.out ++ X, bad := true } from HBY.out)
      go_wp2_with fail
      refine wp_region_anyDN (fun W => W.cell? ⟨D, 1, none⟩ = some (.bool false)) 21 (by kernel_rfl) ?_
      refine anyD_takes (by kernel_rfl) (fun _ _ _ _ _ h => h) [0, 1, 2, 3, 4, 6, 8, 9, 10, 11] 12 _ _ (by kernel_rfl) ?_
      simp only [List.filterMap_cons, List.filterMap_nil, List.getElem?_toArray, List.getElem?_cons_succ, List.getElem?_cons_zero]
      show wpQuiet _ _ _ _ (_ :: _ :: _ :: _ :: _ :: _ :: _ :: _ :: _ :: _ :: List.nil) _
      repeat (first | go_big_quiet_skip | (go_big_quiet_want; first | (refine quiet_load 4 (.tmp 21) rfl ⟨D, 1, none⟩ rfl _ (fun W hW => hW) (fun _ => by kernel_rfl) ?_; simp only [Act.put, List.setIfInBounds_toArray, List.set_cons_succ, List.set_cons_zero]; go_big_quiet_on) | (go_big_quiet_op; first | go_big_quiet_on | (refine ⟨_, fun _ _ => rfl, ?_⟩; go_big_quiet_on))))
      refine wpQuiet_nil ?_
      refine anyD_only (i := 5) rfl (by kernel_rfl) q1 ?_
      go_wp2_with fail
      refine anyD_only (i := 7) rfl (by kernel_rfl) q1 ?_
      refine app_bytes rfl (.tmp 16) (.tmp 17) rfl 0 (.slice Av s.out.length cv) s.out rfl HB.out.own.drew w1.heap.size A1 X.length c1 X rfl HX.out.drew (by have := HS.out; omega) (Nat.zero_le _) ?_
      intro v2 w2 hown2 hg2 hat2
      have hkr := hg2.block D HB.out.cells.lt (fun e => HB.out.apart D e.symm rfl)
      have q02 := (World.cell?_of_block (a := ⟨D, 0, none⟩) hkr).trans q0
      have f02 := (World.frozen?_of_block (a := ⟨D, 0, none⟩) hkr).trans f0
      have q12 := (World.cell?_of_block (a := ⟨D, 1, none⟩) hkr).trans q1
      have f12 := (World.frozen?_of_block (a := ⟨D, 1, none⟩) hkr).trans f1
      obtain ⟨A2, c2, hv2⟩ := hown2.shape
      obtain ⟨n2, hn2⟩ : ∃ n2, n2 = (s.out ++ X).length := ⟨_, rfl⟩
      rw [← hn2] at hv2
      subst hv2
      clear hn2
      have HD := Lib.hid (fun (b : Bool) => HB.out.done2 h2 h3 b ((Below.refl _ _).drew) hown2 hg2 hat2)
      clear hkr hown2 hg2 hat2
      simp only [List.getElem_toArray, List.getElem_cons_succ, List.getElem_cons_zero, Act.put, List.setIfInBounds_toArray, List.set_cons_succ, List.set_cons_zero]
      go_wp2_with fail
      refine anyD_takes (by kernel_rfl) (fun _ _ _ _ _ h => h) [12, 13, 14, 15, 16, 17] 4 _ _ (by kernel_rfl) ?_
      simp only [List.filterMap_cons, List.filterMap_nil, List.getElem?_toArray, List.getElem?_cons_succ, List.getElem?_cons_zero]
      show wpQuiet _ _ _ _ (_ :: _ :: _ :: _ :: _ :: _ :: List.nil) _
      repeat (first | go_big_quiet_skip | (go_big_quiet_want; first | (fail; simp only [Act.put, List.setIfInBounds_toArray, List.set_cons_succ, List.set_cons_zero]; go_big_quiet_on) | (go_big_quiet_op; first | go_big_quiet_on | (refine ⟨_, fun _ _ => rfl, ?_⟩; go_big_quiet_on))))
      refine wpQuiet_nil ?_
      refine anyD_only (i := 18) rfl (by kernel_rfl) q12 ?_
      go_wp2_with fail
      have q13 : (w2.setCell ⟨D, 0, none⟩ (.slice A2 n2 c2)).cell? ⟨D, 1, none⟩ = some (.bool false) := (World.cell?_setCell_other w2 ⟨D, 0, none⟩ ⟨D, 1, none⟩ _ (by intro e; injection e with _ e2 _; cases e2)).trans q12
      refine anyD_only (i := 19) rfl (by kernel_rfl) q13 ?_
      go_wp2_with fail
      refine anyD_only (i := 20) rfl (by kernel_rfl) q13 ?_
      go_wp2_with fail
      refine anyD_only (i := 21) rfl (by kernel_rfl) q13 ?_
      go_wp2_with fail
      refine anyD_end (by kernel_rfl) (by kernel_rfl) ?_
      go_end0
      have hd := HD.out true
      have hsz := HW.out.size
      rw [HEQ.out]
      exact ⟨rfl, hd.1.weaken (fun k e => grown_chain hsz e), (Keeps.of_below (F := F) HW.out).trans hd.2 (fun _ _ e => e)⟩
    · have HEQ := Lib.hid (show s.bytes l = { out := s.out ++ X, bad := false } from HBY.out)
      go_wp2_with fail
      refine wp_region_anyDN (fun W => W.cell? ⟨D, 1, none⟩ = some (.bool false)) 21 (by kernel_rfl) ?_
      refine anyD_takes (by kernel_rfl) (fun _ _ _ _ _ h => h) [0, 1, 2, 3, 4, 6, 8, 9, 10, 11] 12 _ _ (by kernel_rfl) ?_
      simp only [List.filterMap_cons, List.filterMap_nil, List.getElem?_toArray, List.getElem?_cons_succ, List.getElem?_cons_zero]
      show wpQuiet _ _ _ _ (_ :: _ :: _ :: _ :: _ :: _ :: _ :: _ :: _ :: _ :: List.nil) _
      repeat (first | go_big_quiet_skip | (go_big_quiet_want; first | (refine quiet_load 4 (.tmp 21) rfl ⟨D, 1, none⟩ rfl _ (fun W hW => hW) (fun _ => by kernel_rfl) ?_; simp only [Act.put, List.setIfInBounds_toArray, List.set_cons_succ, List.set_cons_zero]; go_big_quiet_on) | (go_big_quiet_op; first | go_big_quiet_on | (refine ⟨_, fun _ _ => rfl, ?_⟩; go_big_quiet_on))))
      refine wpQuiet_nil ?_
      refine anyD_only (i := 5) rfl (by kernel_rfl) q1 ?_
      go_wp2_with fail
      refine anyD_only (i := 7) rfl (by kernel_rfl) q1 ?_
      refine app_bytes rfl (.tmp 16) (.tmp 17) rfl 0 (.slice Av s.out.length cv) s.out rfl HB.out.own.drew w1.heap.size A1 X.length c1 X rfl HX.out.drew (by have := HS.out; omega) (Nat.zero_le _) ?_
      intro v2 w2 hown2 hg2 hat2
      have hkr := hg2.block D HB.out.cells.lt (fun e => HB.out.apart D e.symm rfl)
      have q02 := (World.cell?_of_block (a := ⟨D, 0, none⟩) hkr).trans q0
      have f02 := (World.frozen?_of_block (a := ⟨D, 0, none⟩) hkr).trans f0
      have q12 := (World.cell?_of_block (a := ⟨D, 1, none⟩) hkr).trans q1
      have f12 := (World.frozen?_of_block (a := ⟨D, 1, none⟩) hkr).trans f1
      obtain ⟨A2, c2, hv2⟩ := hown2.shape
      obtain ⟨n2, hn2⟩ : ∃ n2, n2 = (s.out ++ X).length := ⟨_, rfl⟩
      rw [← hn2] at hv2
      subst hv2
      clear hn2
      have HD := Lib.hid (fun (b : Bool) => HB.out.done2 h2 h3 b ((Below.refl _ _).drew) hown2 hg2 hat2)
      clear hkr hown2 hg2 hat2
      simp only [List.getElem_toArray, List.getElem_cons_succ, List.getElem_cons_zero, Act.put, List.setIfInBounds_toArray, List.set_cons_succ, List.set_cons_zero]
      go_wp2_with fail
      refine anyD_takes (by kernel_rfl) (fun _ _ _ _ _ h => h) [12, 13, 14, 15, 16, 17] 4 _ _ (by kernel_rfl) ?_
      simp only [List.filterMap_cons, List.filterMap_nil, List.getElem?_toArray, List.getElem?_cons_succ, List.getElem?_cons_zero]
      show wpQuiet _ _ _ _ (_ :: _ :: _ :: _ :: _ :: _ :: List.nil) _
      repeat (first | go_big_quiet_skip | (go_big_quiet_want; first | (fail; simp only [Act.put, List.setIfInBounds_toArray, List.set_cons_succ, List.set_cons_zero]; go_big_quiet_on) | (go_big_quiet_op; first | go_big_quiet_on | (refine ⟨_, fun _ _ => rfl, ?_⟩; go_big_quiet_on))))
      refine wpQuiet_nil ?_
      refine anyD_only (i := 18) rfl (by kernel_rfl) q12 ?_
      go_wp2_with fail
      have q13 : (w2.setCell ⟨D, 0, none⟩ (.slice A2 n2 c2)).cell? ⟨D, 1, none⟩ = some (.bool false) := (World.cell?_setCell_other w2 ⟨D, 0, none⟩ ⟨D, 1, none⟩ _ (by intro e; injection e with _ e2 _; cases e2)).trans q12
      refine anyD_only (i := 19) rfl (by kernel_rfl) q13 ?_
      go_wp2_with fail
      refine anyD_only (i := 20) rfl (by kernel_rfl) q13 ?_
      go_wp2_with fail
      refine anyD_only (i := 21) rfl (by kernel_rfl) q13 ?_
      go_wp2_with fail
      refine anyD_end (by kernel_rfl) (by kernel_rfl) ?_
      go_end0
      have hd := HD.out false
      have hsz := HW.out.size
      rw [HEQ.out]
      exact ⟨rfl, hd.1.weaken (fun k e => grown_chain hsz e), (Keeps.of_below (F := F) HW.out).trans hd.2 (fun _ _ e => e)⟩
  · rw [hbb] at q1 HBY
    have HBB := Lib.hid hbb; clear hbb
    have HEQ := Lib.hid (show s.bytes l = { out := s.out ++ X, bad := true } from by rw [HBY.out]; simp)
    go_wp2_with fail
    refine wp_region_anyDN (fun W => W.cell? ⟨D, 1, none⟩ = some (.bool true)) 21 (by kernel_rfl) ?_
    refine anyD_takes (by kernel_rfl) (fun _ _ _ _ _ h => h) [0, 1, 2, 3, 4, 6, 8, 9, 10, 11] 12 _ _ (by kernel_rfl) ?_
    simp only [List.filterMap_cons, List.filterMap_nil, List.getElem?_toArray, List.getElem?_cons_succ, List.getElem?_cons_zero]
    show wpQuiet _ _ _ _ (_ :: _ :: _ :: _ :: _ :: _ :: _ :: _ :: _ :: _ :: List.nil) _
    repeat (first | go_big_quiet_skip | (go_big_quiet_want; first | (refine quiet_load 4 (.tmp 21) rfl ⟨D, 1, none⟩ rfl _ (fun W hW => hW) (fun _ => by kernel_rfl) ?_; simp only [Act.put, List.setIfInBounds_toArray, List.set_cons_succ, List.set_cons_zero]; go_big_quiet_on) | (go_big_quiet_op; first | go_big_quiet_on | (refine ⟨_, fun _ _ => rfl, ?_⟩; go_big_quiet_on))))
    refine wpQuiet_nil ?_
    refine anyD_only (i := 5) rfl (by kernel_rfl) q1 ?_
    go_wp2_with fail
    refine anyD_only (i := 7) rfl (by kernel_rfl) q1 ?_
    refine app_bytes rfl (.tmp 16) (.tmp 17) rfl 0 (.slice Av s.out.length cv) s.out rfl HB.out.own.drew w1.heap.size A1 X.length c1 X rfl HX.out.drew (by have := HS.out; omega) (Nat.zero_le _) ?_
    intro v2 w2 hown2 hg2 hat2
    have hkr := hg2.block D HB.out.cells.lt (fun e => HB.out.apart D e.symm rfl)
    have q02 := (World.cell?_of_block (a := ⟨D, 0, none⟩) hkr).trans q0
    have f02 := (World.frozen?_of_block (a := ⟨D, 0, none⟩) hkr).trans f0
    have q12 := (World.cell?_of_block (a := ⟨D, 1, none⟩) hkr).trans q1
    have f12 := (World.frozen?_of_block (a := ⟨D, 1, none⟩) hkr).trans f1
    obtain ⟨A2, c2, hv2⟩ := hown2.shape
    obtain ⟨n2, hn2⟩ : ∃ n2, n2 = (s.out ++ X).length := ⟨_, rfl⟩
    rw [← hn2] at hv2
    subst hv2
    clear hn2
    have HD := Lib.hid (fun (b : Bool) => HB.out.done2 h2 h3 b ((Below.refl _ _).drew) hown2 hg2 hat2)
    clear hkr hown2 hg2 hat2
    simp only [List.getElem_toArray, List.getElem_cons_succ, List.getElem_cons_zero, Act.put, List.setIfInBounds_toArray, List.set_cons_succ, List.set_cons_zero]
    go_wp2_with fail
    refine anyD_takes (by kernel_rfl) (fun _ _ _ _ _ h => h) [12, 13, 14, 15, 16, 17] 4 _ _ (by kernel_rfl) ?_
    simp only [List.filterMap_cons, List.filterMap_nil, List.getElem?_toArray, List.getElem?_cons_succ, List.getElem?_cons_zero]
    show wpQuiet _ _ _ _ (_ :: _ :: _ :: _ :: _ :: _ :: List.nil) _
    repeat (first | go_big_quiet_skip | (go_big_quiet_want; first | (fail; simp only [Act.put, List.setIfInBounds_toArray, List.set_cons_succ, List.set_cons_zero]; go_big_quiet_on) | (go_big_quiet_op; first | go_big_quiet_on | (refine ⟨_, fun _ _ => rfl, ?_⟩; go_big_quiet_on))))
    refine wpQuiet_nil ?_
    refine anyD_only (i := 18) rfl (by kernel_rfl) q12 ?_
    go_wp2_with fail
    have q13 : (w2.setCell ⟨D, 0, none⟩ (.slice A2 n2 c2)).cell? ⟨D, 1, none⟩ = some (.bool true) := (World.cell?_setCell_other w2 ⟨D, 0, none⟩ ⟨D, 1, none⟩ _ (by intro e; injection e with _ e2 _; cases e2)).trans q12
    refine anyD_only (i := 19) rfl (by kernel_rfl) q13 ?_
    go_wp2_with fail
    refine anyD_only (i := 20) rfl (by kernel_rfl) q13 ?_
    go_wp2_with fail
    refine anyD_only (i := 21) rfl (by kernel_rfl) q13 ?_
    go_wp2_with fail
    refine anyD_end (by kernel_rfl) (by kernel_rfl) ?_
    go_end0
    have hd := HD.out true
    have hsz := HW.out.size
    rw [HEQ.out]
    exact ⟨rfl, hd.1.weaken (fun k e => grown_chain hsz e), (Keeps.of_below (F := F) HW.out).trans hd.2 (fun _ _ e => e)⟩
end Go.Proofs.Ytoekmgpnmhknoaa
