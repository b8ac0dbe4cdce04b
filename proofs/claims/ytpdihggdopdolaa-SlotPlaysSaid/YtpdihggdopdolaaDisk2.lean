/- The walk of the disk's Write. Conditions: the disk is one; the count of its writes is no great one. -/
import Derived.Test.YtpdihggdopdolaaDisk1
namespace Go.Proofs.Ytpdihggdopdolaa
open Go.RowKit
/-- What a Write answers, and what the disk is behind it. -/
def DS.write (s : DS) (n : Int) (l : List UInt8) : Int × DS :=
  if s.has n = true ∧ l.length = 32 then
    if (s.down || decide (s.fuse = 0)) = true then (3, { s with down := true })
    else (0, { bl := s.bl.set n.toNat l, fuse := if 0 < s.fuse then s.fuse - 1 else s.fuse, down := false, writes := s.writes + 1 })
  else (1, s)
/-- A slot is set to a new block. -/
theorem DiskAt.put {w : World} {D R c g' d' : Nat} {gs : List (Nat × Nat)} {s : DS} {l : List UInt8} (h : DiskAt w D gs (.slice (some ⟨R, 0, none⟩) s.bl.length c) s) (i : Nat) (hi : i < s.bl.length) (hl : l.length = 32) (ho : Own w 0 (slotV (g', d')) l) (hR : g' ≠ R) (hgs : ∀ p ∈ gs, p.1 ≠ g') :
    DiskAt (w.setCell ⟨R, i, none⟩ (slotV (g', d'))) D (gs.set i (g', d')) (.slice (some ⟨R, 0, none⟩) s.bl.length c) { s with bl := s.bl.set i l } := by
  have hap := h.apart R (Or.inl rfl)
  have hk : Keeps (fun k => k = R) w (w.setCell ⟨R, i, none⟩ (slotV (g', d'))) := (Keeps.refl (fun k => k = R) w).setCell (p := ⟨R, i, none⟩) rfl _
  have hn := h.len
  have hst := h.row
  rw [hn] at hst
  have hst2 := (hst.stored i (slotV (g', d'))).1
  have hnR : ∀ p ∈ gs, p.1 ≠ R := by
    rintro p hp e
    obtain ⟨j, hj, rfl⟩ := List.getElem_of_mem hp
    have h1 : gs[j]? = some gs[j] := List.getElem?_eq_getElem hj
    have h2 : s.bl[j]? = some (s.bl[j]'(by rw [← h.len]; exact hj)) := List.getElem?_eq_getElem _
    have h3 := h.each j _ _ h1 h2
    obtain ⟨g, c0, cur, e1, _, hB, _⟩ := h3.2.blk (by omega)
    injection e1 with e1 _ _
    simp only [Option.some.injEq, Addr.mk.injEq, and_true] at e1
    rw [← e1, e] at hB
    rcases h.row.2 with ⟨hx, _⟩ | ⟨R', c', cur', hx, _, hR', _⟩
    · cases hx
    · injection hx with hx _ _
      simp only [Option.some.injEq, Addr.mk.injEq, and_true] at hx
      rw [← hx] at hR'
      exact Blk.ne_ hB hR' (by decide) rfl
  refine ⟨h.cells.keeps hk (fun e => hap e.symm), ?_, by simpa using hn, ?_, ?_, by simpa using h.small, h.fuseLe, h.fuseGe⟩
  · rw [List.length_set, hn, List.map_set]
    exact hst2
  · intro a b p q hp hq hpq
    rw [List.getElem?_set] at hp hq
    by_cases ha : i = a <;> by_cases hb : i = b
    · omega
    · rw [if_pos ha, if_pos (by omega)] at hp
      rw [if_neg hb] at hq
      injection hp with hp
      subst hp
      exact absurd hpq.symm (hgs q (List.mem_of_getElem? hq))
    · rw [if_neg ha] at hp
      rw [if_pos hb, if_pos (by omega)] at hq
      injection hq with hq
      subst hq
      exact absurd hpq (hgs p (List.mem_of_getElem? hp))
    · rw [if_neg ha] at hp
      rw [if_neg hb] at hq
      exact h.nodup a b p q hp hq hpq
  · intro a p m hp hm
    rw [List.getElem?_set] at hp
    have hm' : (s.bl.set i l)[a]? = some m := hm
    rw [List.getElem?_set] at hm'
    by_cases ha : i = a
    · rw [if_pos ha, if_pos (by omega)] at hp
      rw [if_pos ha, if_pos (by omega)] at hm'
      injection hp with hp
      injection hm' with hm'
      subst hp hm'
      exact ⟨hl, ho.keeps hk (fun k e => by simp only [slotV, Value.ownBlock, Option.some.injEq] at e; omega)⟩
    · rw [if_neg ha] at hp
      rw [if_neg ha] at hm'
      exact ⟨(h.each a p m hp hm').1, (h.each a p m hp hm').2.keeps hk (fun k e => by simp only [slotV, Value.ownBlock, Option.some.injEq] at e; rw [← e]; exact hnR p (List.mem_of_getElem? hp))⟩
theorem write_done {F : Nat → Prop} {W0 w3 : World} {D R c i : Nat} {gs : List (Nat × Nat)} {s : DS} {v : Value} {l : List UInt8} (h : DiskAt W0 D gs (.slice (some ⟨R, 0, none⟩) s.bl.length c) s) (h2 : ∀ k, Foot D gs (.slice (some ⟨R, 0, none⟩) s.bl.length c) k → F k) (hb : Below W0.heap.size W0 w3) (hv : Own w3 W0.heap.size v l) (hl : l.length = 32) (hi : i < s.bl.length) :
    DiskIs ((w3.setCell ⟨R, i, none⟩ v).setCell ⟨D, 3, none⟩ (.int .i64 ((s.writes : Int) + 1))) (Grown F W0) D { s with bl := s.bl.set i l, writes := s.writes + 1 } ∧ Keeps F W0 ((w3.setCell ⟨R, i, none⟩ v).setCell ⟨D, 3, none⟩ (.int .i64 ((s.writes : Int) + 1))) := by
  obtain ⟨g', d', cur, rfl, hg', hB', _, _⟩ := hv.blk (by omega)
  rw [hl] at hv ⊢
  have hlt := h.foot_lt
  have h3 := h.below hb
  have hRlt := hlt R (Or.inr (Or.inl rfl))
  have h4 := h3.put (g' := g') (d' := d') (l := l) i hi hl (hv.mono (Nat.zero_le _)) (by omega) (fun p hp e => by have := hlt p.1 (Or.inr (Or.inr ⟨p, hp, rfl⟩)); omega)
  have h5 := h4.set_ 3 (.int .i64 ((s.writes : Int) + 1)) (s' := { s with bl := s.bl.set i l, writes := s.writes + 1 }) rfl rfl h4.fuseLe h4.fuseGe h4.apart
  refine ⟨⟨_, _, h5, ?_⟩, ((Keeps.of_below hb).setCell (p := ⟨R, i, none⟩) (h2 R (Or.inr (Or.inl rfl))) _).setCell (p := ⟨D, 3, none⟩) (h2 D (Or.inl rfl)) _⟩
  rintro k (rfl | hk | ⟨p, hp, rfl⟩)
  · exact Or.inl (h2 _ (Or.inl rfl))
  · exact Or.inl (h2 _ (Or.inr (Or.inl hk)))
  · rcases List.mem_or_eq_of_mem_set hp with hp | rfl
    · exact Or.inl (h2 _ (Or.inr (Or.inr ⟨p, hp, rfl⟩)))
    · exact Or.inr hg'
/-- A cell that holds no byte is set: bytes read as they did. -/
theorem rd_cell {w : World} {B n : Nat} {A : Option Addr} {l : List UInt8} (h : Rd w B A n l) (p : Addr) (x : Value) {u : Value} (hp : w.cell? p = some u) (hu : ∀ k : Int, u ≠ .int .u8 k) : Rd (w.setCell p x) B A n l := by
  refine ⟨h.1, fun hn => ?_⟩
  obtain ⟨ad, e, hb, hc⟩ := h.2 hn
  refine ⟨ad, e, hb, fun j y hy => ?_⟩
  have h1 := hc j y hy
  rw [World.cell?_setCell_other w p _ x (fun e => ?_)]
  · exact h1
  · rw [← e, hp] at h1
    rw [List.getElem?_map] at hy
    cases hz : l[j]? with
    | none => rw [hz] at hy; cases hy
    | some z =>
      rw [hz] at hy
      injection hy with hy
      injection h1 with h1
      exact hu z.toNat (by rw [h1, ← hy]; rfl)
set_option maxRecDepth 100000 in
theorem Write_any (w : World) (F : Nat → Prop) (D : Nat) (s : DS) (n : Int) (A : Option Addr) (m c : Nat) (l : List UInt8) (hw : s.writes ≤ 4611686018427387904) (h : DiskIs w F D s) (hr : Rd w w.heap.size A m l) :
    Calls Try.prog 14 #[.pointer (some ⟨D, 0, none⟩), .int .i64 n, .slice A m c] w fun e w' => e = .returned (.int .i64 (s.write n l).1) ∧ DiskIs w' (Grown F w) D (s.write n l).2 ∧ Keeps F w w' := by
  obtain ⟨gs, r, h1, h2⟩ := h
  have hm := hr.len
  by_cases hhas : s.has n = true
  · by_cases h32 : m = 32
    · have hwr : s.write n l = if (s.down || decide (s.fuse = 0)) = true then (3, { s with down := true }) else (0, { bl := s.bl.set n.toNat l, fuse := if 0 < s.fuse then s.fuse - 1 else s.fuse, down := false, writes := s.writes + 1 }) := by
        unfold DS.write
        rw [if_pos ⟨hhas, by omega⟩]
      have HH := Lib.hid hhas
      have H := Lib.hid h1
      obtain ⟨i, rfl⟩ : ∃ i : Nat, n = i := ⟨n.toNat, by simp [DS.has] at hhas; omega⟩
      have hi : i < s.bl.length := by simp [DS.has] at hhas; omega
      subst h32
      by_cases hdn : (s.down || decide (s.fuse = 0)) = true
      · rw [if_pos hdn] at hwr
        rw [hwr]
        have hd : s.down = true ∨ (s.down = false ∧ s.fuse = 0) := by
          cases hs : s.down
          · exact Or.inr ⟨rfl, by simpa [hs] using hdn⟩
          · exact Or.inl rfl
        have c1 := h1.c1
        have c2 := h1.c2
        have f2 := h1.fz 2
        have key := h1.set_is h2 2 (.bool true) (s' := { s with down := true }) rfl rfl h1.fuseLe h1.fuseGe
        have K := Lib.hid key
        have HM := Lib.hid hm
        clear h1 key hwr hhas hdn hm
        rcases hd with hd | ⟨hd, hf⟩
        · rw [hd] at c2
          go_enter Try.func14, Try.ntmps14
          go_wp2_with (go_at_call 36; refine (there_any w i H.out).mono ?_; rintro e w1 ⟨rfl, rfl⟩; rw [HH.out])
          go_ret
          exact ⟨rfl, K.out.1.weaken (fun _ e => Or.inl e), K.out.2⟩
        · rw [hd] at c2
          rw [hf] at c1
          go_enter Try.func14, Try.ntmps14
          go_wp2_with (go_at_call 36; refine (there_any w i H.out).mono ?_; rintro e w1 ⟨rfl, rfl⟩; rw [HH.out])
          go_ret
          exact ⟨rfl, K.out.1.weaken (fun _ e => Or.inl e), K.out.2⟩
      · rw [if_neg hdn] at hwr
        rw [hwr]
        simp only [Bool.or_eq_true, decide_eq_true_eq, not_or, Bool.not_eq_true] at hdn
        obtain ⟨hd, hf0⟩ := hdn
        obtain ⟨R, c', g, d, l0, hrr, hg, hl0, hlen0, hown0, hc, hfz⟩ := h1.slot i hi
        subst hrr
        have c0 := h1.c0
        have c1 := h1.c1
        have c2 := h1.c2
        have c3 := h1.c3
        have f1 := h1.fz 1
        have f2 := h1.fz 2
        have f3 := h1.fz 3
        rw [hd] at c2
        have HM := Lib.hid hm
        have HR := Lib.hid hr
        have hle := h1.fuseLe
        have hge := h1.fuseGe
        have hRD : R ≠ D := h1.apart R (Or.inl rfl)
        clear h1 hwr hhas hm hl0 hown0 hr
        by_cases hfp : 0 < s.fuse
        · rw [if_pos hfp]
          have hAA := H.out.set_ 2 (.bool false) (s' := { s with down := false }) rfl rfl hle hge H.out.apart
          have hAB := hAA.set_ 1 (.int .i64 (s.fuse - 1)) (s' := { s with fuse := s.fuse - 1, down := false }) rfl rfl (by show s.fuse - 1 ≤ _; omega) (by show _ ≤ s.fuse - 1; omega) hAA.apart
          have hKB : Keeps F w ((w.setCell ⟨D, 2, none⟩ (.bool false)).setCell ⟨D, 1, none⟩ (.int .i64 (s.fuse - 1))) := ((Keeps.refl F w).setCell (p := ⟨D, 2, none⟩) (h2 D (Or.inl rfl)) _).setCell (p := ⟨D, 1, none⟩) (h2 D (Or.inl rfl)) _
          have hRB : Rd ((w.setCell ⟨D, 2, none⟩ (.bool false)).setCell ⟨D, 1, none⟩ (.int .i64 (s.fuse - 1))) w.heap.size A 32 l := rd_cell (rd_cell HR.out _ _ c2 (by intro k e; cases e)) _ _ hAA.c1 (by intro k e; cases e)
          have hc0' : True := trivial
          obtain ⟨W0, hW0⟩ : ∃ W0, W0 = (w.setCell ⟨D, 2, none⟩ (.bool false)).setCell ⟨D, 1, none⟩ (.int .i64 (s.fuse - 1)) := ⟨_, rfl⟩
          rw [← hW0] at hAB hKB hRB
          have hsz : W0.heap.size = w.heap.size := by rw [hW0]; simp [World.setCell]
          have hlt := hAB.foot_lt
          have hRl : R < W0.heap.size := hlt R (Or.inr (Or.inl rfl))
          have hDl : D < W0.heap.size := hlt D (Or.inl rfl)
          have c0' := hAB.c0
          have c3' := hAB.c3
          have f3' := hAB.fz 3
          have sl : W0.cell? ⟨R, i, none⟩ = some (.slice (some ⟨g, 0, none⟩) 32 d) ∧ W0.frozen? ⟨R, i, none⟩ = false := by
            obtain ⟨R', c'', g', d', l0', hrr, hgg, _, _, _, hcc, hff⟩ := hAB.slot i hi
            injection hrr with hrr _ _
            simp only [Option.some.injEq, Addr.mk.injEq, and_true] at hrr
            subst hrr
            rw [hg] at hgg
            injection hgg with hgg
            injection hgg with e1 e2
            subst e1 e2
            exact ⟨hcc, hff⟩
          obtain ⟨hcW, hfW⟩ := sl
          rw [hsz] at hRl hDl
          rw [← hsz] at hRB
          have hRH := Lib.hid hRB; have HAB := Lib.hid hAB; have HKB := Lib.hid hKB; have HSZ := Lib.hid hsz
          clear hAB hKB hRB hlt hsz hAA
          go_enter Try.func14, Try.ntmps14
          go_wp2_with (go_at_call 36; refine (there_any w i H.out).mono ?_; rintro e w1 ⟨rfl, rfl⟩; rw [HH.out])
          rw [← hW0]
          clear hW0 c0 c1 c2 c3 f1 f2 f3 hc hfz
          have hCd : W0.drew.cell? ⟨D, 0, none⟩ = some (.slice (some ⟨R, 0, none⟩) s.bl.length c') := c0'
          refine wp_region_anyN (fun W => W.cell? ⟨D, 0, none⟩ = some (.slice (some ⟨R, 0, none⟩) s.bl.length c')) (by kernel_rfl) ?_
          refine anyC_takes (by kernel_rfl) (fun _ _ _ _ _ h => h) [0, 1, 2, 3, 4, 5] 3 _ _ (by kernel_rfl) ?_
          simp only [List.filterMap_cons, List.filterMap_nil, List.getElem?_toArray, List.getElem?_cons_succ, List.getElem?_cons_zero]
          show wpQuiet _ _ _ _ (_ :: _ :: _ :: _ :: _ :: _ :: List.nil) _
          repeat (first | go_big_quiet_skip | (go_big_quiet_want; first | (refine quiet_load 65 (.tmp 48) rfl ⟨D, 0, none⟩ rfl _ (fun W hW => hW) (fun _ => by kernel_rfl) ?_; simp only [Act.put, List.setIfInBounds_toArray, List.set_cons_succ, List.set_cons_zero]; go_big_quiet_on) | (go_big_quiet_op; first | go_big_quiet_on | (refine ⟨_, fun _ _ => rfl, ?_⟩; go_big_quiet_on))))
          refine wpQuiet_nil ?_
          refine anyC_only (i := 6) rfl (by kernel_rfl) hCd ?_
          go_wp2_with fail
          refine (Clone_any A 32 c _ l (by omega) hRH.out.drew).mono ?_
          rintro e w3 ⟨v, rfl, hv, hb⟩
          obtain ⟨Av, cv, rfl⟩ := hv.shape
          have hc3 := (World.cell?_of_block (a := ⟨R, i, none⟩) (hb.block R (by rw [← HSZ.out] at hRl; exact hRl))).trans hcW
          have hfz3 := (World.frozen?_of_block (a := ⟨R, i, none⟩) (hb.block R (by rw [← HSZ.out] at hRl; exact hRl))).trans hfW
          have c33 := (World.cell?_of_block (a := ⟨D, 3, none⟩) (hb.block D (by rw [← HSZ.out] at hDl; exact hDl))).trans c3'
          have f33 := (World.frozen?_of_block (a := ⟨D, 3, none⟩) (hb.block D (by rw [← HSZ.out] at hDl; exact hDl))).trans f3'
          have c30 := (World.cell?_of_block (a := ⟨D, 0, none⟩) (hb.block D (by rw [← HSZ.out] at hDl; exact hDl))).trans c0'
          have HV := Lib.hid hv; have HB := Lib.hid hb; clear hv hb
          go_wp2_with fail
          refine anyC_takes (by kernel_rfl) (fun _ _ _ _ _ h => h) [7] 1 _ _ (by kernel_rfl) ?_
          simp only [List.filterMap_cons, List.filterMap_nil, List.getElem?_toArray, List.getElem?_cons_succ, List.getElem?_cons_zero]
          show wpQuiet _ _ _ _ (_ :: List.nil) _
          repeat (first | go_big_quiet_skip | (go_big_quiet_want; first | (fail; simp only [Act.put, List.setIfInBounds_toArray, List.set_cons_succ, List.set_cons_zero]; go_big_quiet_on) | (go_big_quiet_op; first | go_big_quiet_on | (refine ⟨_, fun _ _ => rfl, ?_⟩; go_big_quiet_on))))
          refine wpQuiet_nil ?_
          refine anyC_only (i := 8) rfl (by kernel_rfl) c30 ?_
          go_wp2_with fail
          refine ⟨by simp [c30, World.cell?_setCell_other], by kernel_rfl, ?_⟩
          go_wp2
          go_ret
          have hbb : Below W0.heap.size W0 _ := ((Below.refl _ W0).drew).trans HB.out
          obtain ⟨k1, k2⟩ := write_done (s := { s with fuse := s.fuse - 1, down := false }) HAB.out h2 hbb HV.out HM.out.symm hi
          refine ⟨rfl, k1.weaken (fun k e => ?_), HKB.out.trans k2 (fun _ _ e => e)⟩
          rcases e with e | e
          · exact Or.inl e
          · exact Or.inr (by rw [HSZ.out] at e; exact e)
        · rw [if_neg hfp]
          have hAB := H.out.set_ 2 (.bool false) (s' := { s with down := false }) rfl rfl hle hge H.out.apart
          have hKB : Keeps F w (w.setCell ⟨D, 2, none⟩ (.bool false)) := (Keeps.refl F w).setCell (p := ⟨D, 2, none⟩) (h2 D (Or.inl rfl)) _
          have hRB : Rd (w.setCell ⟨D, 2, none⟩ (.bool false)) w.heap.size A 32 l := rd_cell HR.out _ _ c2 (by intro k e; cases e)
          have hAA := hAB
          have hc0' : True := trivial
          obtain ⟨W0, hW0⟩ : ∃ W0, W0 = w.setCell ⟨D, 2, none⟩ (.bool false) := ⟨_, rfl⟩
          rw [← hW0] at hAB hKB hRB
          have hsz : W0.heap.size = w.heap.size := by rw [hW0]; simp [World.setCell]
          have hlt := hAB.foot_lt
          have hRl : R < W0.heap.size := hlt R (Or.inr (Or.inl rfl))
          have hDl : D < W0.heap.size := hlt D (Or.inl rfl)
          have c0' := hAB.c0
          have c3' := hAB.c3
          have f3' := hAB.fz 3
          have sl : W0.cell? ⟨R, i, none⟩ = some (.slice (some ⟨g, 0, none⟩) 32 d) ∧ W0.frozen? ⟨R, i, none⟩ = false := by
            obtain ⟨R', c'', g', d', l0', hrr, hgg, _, _, _, hcc, hff⟩ := hAB.slot i hi
            injection hrr with hrr _ _
            simp only [Option.some.injEq, Addr.mk.injEq, and_true] at hrr
            subst hrr
            rw [hg] at hgg
            injection hgg with hgg
            injection hgg with e1 e2
            subst e1 e2
            exact ⟨hcc, hff⟩
          obtain ⟨hcW, hfW⟩ := sl
          rw [hsz] at hRl hDl
          rw [← hsz] at hRB
          have hRH := Lib.hid hRB; have HAB := Lib.hid hAB; have HKB := Lib.hid hKB; have HSZ := Lib.hid hsz
          clear hAB hKB hRB hlt hsz hAA
          go_enter Try.func14, Try.ntmps14
          go_wp2_with (go_at_call 36; refine (there_any w i H.out).mono ?_; rintro e w1 ⟨rfl, rfl⟩; rw [HH.out])
          rw [← hW0]
          clear hW0 c0 c1 c2 c3 f1 f2 f3 hc hfz
          have hCd : W0.drew.cell? ⟨D, 0, none⟩ = some (.slice (some ⟨R, 0, none⟩) s.bl.length c') := c0'
          refine wp_region_anyN (fun W => W.cell? ⟨D, 0, none⟩ = some (.slice (some ⟨R, 0, none⟩) s.bl.length c')) (by kernel_rfl) ?_
          refine anyC_takes (by kernel_rfl) (fun _ _ _ _ _ h => h) [0, 1, 2, 3, 4, 5] 3 _ _ (by kernel_rfl) ?_
          simp only [List.filterMap_cons, List.filterMap_nil, List.getElem?_toArray, List.getElem?_cons_succ, List.getElem?_cons_zero]
          show wpQuiet _ _ _ _ (_ :: _ :: _ :: _ :: _ :: _ :: List.nil) _
          repeat (first | go_big_quiet_skip | (go_big_quiet_want; first | (refine quiet_load 65 (.tmp 48) rfl ⟨D, 0, none⟩ rfl _ (fun W hW => hW) (fun _ => by kernel_rfl) ?_; simp only [Act.put, List.setIfInBounds_toArray, List.set_cons_succ, List.set_cons_zero]; go_big_quiet_on) | (go_big_quiet_op; first | go_big_quiet_on | (refine ⟨_, fun _ _ => rfl, ?_⟩; go_big_quiet_on))))
          refine wpQuiet_nil ?_
          refine anyC_only (i := 6) rfl (by kernel_rfl) hCd ?_
          go_wp2_with fail
          refine (Clone_any A 32 c _ l (by omega) hRH.out.drew).mono ?_
          rintro e w3 ⟨v, rfl, hv, hb⟩
          obtain ⟨Av, cv, rfl⟩ := hv.shape
          have hc3 := (World.cell?_of_block (a := ⟨R, i, none⟩) (hb.block R (by rw [← HSZ.out] at hRl; exact hRl))).trans hcW
          have hfz3 := (World.frozen?_of_block (a := ⟨R, i, none⟩) (hb.block R (by rw [← HSZ.out] at hRl; exact hRl))).trans hfW
          have c33 := (World.cell?_of_block (a := ⟨D, 3, none⟩) (hb.block D (by rw [← HSZ.out] at hDl; exact hDl))).trans c3'
          have f33 := (World.frozen?_of_block (a := ⟨D, 3, none⟩) (hb.block D (by rw [← HSZ.out] at hDl; exact hDl))).trans f3'
          have c30 := (World.cell?_of_block (a := ⟨D, 0, none⟩) (hb.block D (by rw [← HSZ.out] at hDl; exact hDl))).trans c0'
          have HV := Lib.hid hv; have HB := Lib.hid hb; clear hv hb
          go_wp2_with fail
          refine anyC_takes (by kernel_rfl) (fun _ _ _ _ _ h => h) [7] 1 _ _ (by kernel_rfl) ?_
          simp only [List.filterMap_cons, List.filterMap_nil, List.getElem?_toArray, List.getElem?_cons_succ, List.getElem?_cons_zero]
          show wpQuiet _ _ _ _ (_ :: List.nil) _
          repeat (first | go_big_quiet_skip | (go_big_quiet_want; first | (fail; simp only [Act.put, List.setIfInBounds_toArray, List.set_cons_succ, List.set_cons_zero]; go_big_quiet_on) | (go_big_quiet_op; first | go_big_quiet_on | (refine ⟨_, fun _ _ => rfl, ?_⟩; go_big_quiet_on))))
          refine wpQuiet_nil ?_
          refine anyC_only (i := 8) rfl (by kernel_rfl) c30 ?_
          go_wp2_with fail
          refine ⟨by simp [c30, World.cell?_setCell_other], by kernel_rfl, ?_⟩
          go_wp2
          go_ret
          have hbb : Below W0.heap.size W0 _ := ((Below.refl _ W0).drew).trans HB.out
          obtain ⟨k1, k2⟩ := write_done (s := { s with down := false }) HAB.out h2 hbb HV.out HM.out.symm hi
          refine ⟨rfl, k1.weaken (fun k e => ?_), HKB.out.trans k2 (fun _ _ e => e)⟩
          rcases e with e | e
          · exact Or.inl e
          · exact Or.inr (by rw [HSZ.out] at e; exact e)
    · have hwr : s.write n l = (1, s) := by
        unfold DS.write
        rw [if_neg (by rintro ⟨_, h3⟩; omega)]
      have HH := Lib.hid hhas
      have h32' : ¬ (m : Int) = 32 := by omega
      have H := Lib.hid h1
      rw [hwr]
      clear h1 hwr hhas
      go_enter Try.func14, Try.ntmps14
      go_wp2_with (go_at_call 36; refine (there_any w n H.out).mono ?_; rintro e w1 ⟨rfl, rfl⟩; rw [HH.out])
      go_ret
      exact ⟨rfl, ⟨gs, r, H.out, fun k e => Or.inl (h2 k e)⟩, Keeps.refl _ _⟩
  · have hwr : s.write n l = (1, s) := by
      unfold DS.write
      rw [if_neg (by rintro ⟨h3, _⟩; exact hhas h3)]
    have hf : s.has n = false := by simpa using hhas
    have HH := Lib.hid hf
    have H := Lib.hid h1
    rw [hwr]
    clear h1 hwr hhas hf
    go_enter Try.func14, Try.ntmps14
    go_wp2_with (go_at_call 36; refine (there_any w n H.out).mono ?_; rintro e w1 ⟨rfl, rfl⟩; rw [HH.out])
    go_ret
    exact ⟨rfl, ⟨gs, r, H.out, fun k e => Or.inl (h2 k e)⟩, Keeps.refl _ _⟩
end Go.Proofs.Ytpdihggdopdolaa
