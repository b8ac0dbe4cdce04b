/- The walks of the net: Send, At, Take, Twice. Conditions: sizes. -/
import Derived.Test.YtoekmgpnmhknoaaNet2
import Derived.Test.YtoekmgpnmhknoaaWire3
namespace Go.Proofs.Ytoekmgpnmhknoaa
open Go.RowKit
set_option maxRecDepth 100000 in
set_option maxHeartbeats 2000000 in
theorem Send_any (w : World) (F : Nat → Prop) (D : Nat) (its : List (List UInt8)) (m : MsgV) (Ah Ad Ap Ax : Option Addr) (ch cd cp cx : Nat) (h : NetIs w F D its) (hr : MsgRd w w.heap.size m Ah Ad Ap Ax) (hs : m.cost ≤ 140737488200000) (hn : its.length ≤ 4096) :
    Calls Try.prog 10 #[.pointer (some ⟨D, 0, none⟩), .agg (msgCells m Ah Ad Ap Ax ch cd cp cx)] w fun e w' => e = .returned (.int .i64 (sendE its (WS.msg ⟨[], false⟩ m))) ∧ NetIs w' (Grown F w) D (sendN its (WS.msg ⟨[], false⟩ m)) ∧ Keeps F w w' := by
  have hln : m.heads.length ≤ 9223372036854775807 := by have := costH_ge m.heads; unfold MsgV.cost at hs; omega
  have hM := Blk.new w 31 (msgCells m Ah Ad Ap Ax ch cd cp cx)
  have hb1 : Below w.heap.size w (w.alloc (.cells (msgCells m Ah Ad Ap Ax ch cd cp cx) 31)) := (Below.refl _ _).alloc (Nat.le_refl _) _
  have hr1 := (hr.below hb1 (Nat.le_refl _)).more hb1.size
  have HM := Lib.hid hM; have HB1 := Lib.hid hb1; have HR1 := Lib.hid hr1; have H0 := Lib.hid h
  clear hM hb1 hr1 hr h
  generalize hss : WS.msg ⟨[], false⟩ m = s
  have HSS := Lib.hid hss; clear hss
  go_enter Try.func10, Try.ntmps10
  go_wp2_with (refine wpList_load_row rfl 31 (.tmp 3) rfl w.heap.size rfl _ _ _ _ HM.out Try.underlying31 rfl (by kernel_rfl) ?_)
  refine (Encode_any _ m Ah Ad Ap Ax ch cd cp cx HR1.out hs hln).mono ?_
  rintro e w2 ⟨v1, rfl, hf1, hb2, _⟩
  have hb02 := HB1.out.trans (hb2.mono HB1.out.size)
  rw [HSS.out] at hf1 ⊢
  have hsE : sendE its s = if s.bad then 1 else if 4096 ≤ its.length then 8 else 0 := rfl
  have hsN : sendN its s = if s.bad then its else if 4096 ≤ its.length then its else its ++ [s.out] := rfl
  have H2 := Lib.hid (H0.out.below hb02); have HB2 := Lib.hid hb02
  have HF1 := Lib.hid (hf1.mono HB1.out.size); have HSE := Lib.hid hsE; have HSN := Lib.hid hsN
  clear hb2 hb02 hf1 hsE hsN HM HR1
  have hgr : ∀ k, F k → Grown F w k := fun k e => Or.inl e
  cases hbad : s.bad
  · have hFr := HF1.out
    rw [hbad] at hFr
    simp only [Bool.false_eq_true, if_false] at hFr
    have hE := HSE.out
    have hN := HSN.out
    rw [hbad] at hE hN
    simp only [Bool.false_eq_true, if_false] at hE hN
    obtain ⟨A1, c1, rfl, hrd, hnew⟩ := hFr
    obtain ⟨v, gs, h1, h2, h3, h4, h5⟩ := H2.out
    obtain ⟨A0, c0, rfl⟩ := row_shape h1.own
    have p0 := h1.c0
    have hgl : its.length = gs.length := by rw [← h2, List.length_map]
    rw [hgl] at hE hN hn
    by_cases hful : 4096 ≤ gs.length
    · rw [if_pos hful] at hE hN
      have HE := Lib.hid hE; have HN := Lib.hid hN
      have HFIN := Lib.hid (show NetIs w2 (Grown F w) D its from H2.out.weaken hgr)
      have hful' : (4096 : Int) ≤ (gs.length : Int) := by omega
      clear hE hN h1 h2 h3 h4 h5 hrd hnew hgl hbad
      go_wp2
      go_ret
      exact ⟨by rw [HE.out]; rfl, by rw [HN.out]; exact HFIN.out, Keeps.of_below HB2.out⟩
    · rw [if_neg hful] at hE hN
      have HE := Lib.hid hE; have HN := Lib.hid hN
      have hful' : ¬ (4096 : Int) ≤ (gs.length : Int) := by omega
      have hDl : D < w.heap.size := by
        obtain ⟨v0, gs0, g1, _⟩ := H0.out
        exact g1.cells.lt
      have hap : ∀ g ∈ (⟨A1, c1, s.out⟩ : ItV) :: gs, Apart D (.slice A0 gs.length c0) (fun _ => True) g := by
        intro g hg ad e h0
        rcases List.mem_cons.1 hg with rfl | hg
        · have h7 := hnew ad e
          refine ⟨trivial, by omega, fun e2 => ?_⟩
          obtain ⟨v0, gs0, g1, g2, _⟩ := H0.out
          have g3 := g1.keeps (Keeps.of_below (F := fun _ => False) HB2.out) id (fun _ _ => id) (fun _ _ _ _ _ => id)
          have g4 := g3.c0
          rw [p0] at g4
          injection g4 with g4
          rw [g4] at e2
          have := (g1.own.lt _ e2).2
          omega
        · exact ⟨trivial, (h5 g hg ad e h0).2⟩
      have hbd : ∀ g ∈ (⟨A1, c1, s.out⟩ : ItV) :: gs, ∀ ad, g.A = some ad → 0 < g.l.length → ad.block < w2.heap.size := by
        intro g hg ad e h0
        have hrg : Rd w2 w2.heap.size g.A g.l.length g.l := by
          rcases List.mem_cons.1 hg with rfl | hg
          · exact hrd
          · exact h1.items g hg
        obtain ⟨ad', e', hb, _⟩ := hrg.2 h0
        rw [e] at e'; injection e' with e'; rw [e']; exact hb
      have HBD := Lib.hid hbd
      have HCALL := Lib.hid (put_any w2 D _ gs ⟨A1, c1, s.out⟩ h1 hrd hap (by omega))
      have HAP := Lib.hid hap; have H25 := Lib.hid (And.intro h2 (And.intro h3 (And.intro h4 h5))); have HNEW := Lib.hid hnew
      clear hE hN h1 h2 h3 h4 h5 hrd hnew hgl hbad hap hbd
      go_wp2_with fail
      refine HCALL.out.mono ?_
      rintro e w3 ⟨rfl, v', hn3, hat, hk3⟩
      have hkF : Keeps F w w3 := (Keeps.of_below (F := F) HB2.out).trans hk3 (fun i hi e => by
        rcases e with e | e
        · rw [e]; exact H25.out.2.1
        · exact H25.out.2.2.1 i e)
      have hw2 := HB2.out.size
      have hfin : NetIs w3 (Grown F w) D (its ++ [s.out]) := by
        refine ⟨v', _, hn3, by rw [List.map_append, H25.out.1]; rfl, Or.inl H25.out.2.1, fun k e => ?_, fun g hg ad e h0 => ?_⟩
        · rcases hat with h9 | ⟨k', h9, h10⟩
          · exact Or.inl (H25.out.2.2.1 k (h9 ▸ e))
          · rw [h9] at e; injection e with e; exact Or.inr (by omega)
        · have hg2 : g ∈ (⟨A1, c1, s.out⟩ : ItV) :: gs := by
            rcases List.mem_append.1 hg with h9 | h9
            · exact List.mem_cons_of_mem _ h9
            · rw [List.mem_singleton.1 h9]; exact List.mem_cons_self
          have h8 := HAP.out g hg2 ad e h0
          refine ⟨?_, h8.2.1, fun e2 => ?_⟩
          · rcases List.mem_append.1 hg with h9 | h9
            · exact Or.inl (H25.out.2.2.2 g h9 ad e h0).1
            · rw [List.mem_singleton.1 h9] at e
              exact Or.inr (HNEW.out ad e)
          · rcases hat with h9 | ⟨k', h9, h10⟩
            · exact h8.2.2 (h9 ▸ e2)
            · rw [h9] at e2; injection e2 with e2
              have h11 := HBD.out g hg2 ad e h0
              omega
      have HFIN := Lib.hid hfin; have HKF := Lib.hid hkF
      clear hn3 hat hk3 hkF hfin
      go_wp2
      go_ret
      exact ⟨by rw [HE.out]; rfl, by rw [HN.out]; exact HFIN.out, HKF.out⟩
  · have hE := HSE.out
    have hN := HSN.out
    rw [hbad] at hE hN
    simp only [if_true] at hE hN
    have HE := Lib.hid hE; have HN := Lib.hid hN
    have HFIN := Lib.hid (show NetIs w2 (Grown F w) D its from H2.out.weaken hgr)
    clear hE hN hbad
    go_wp2
    go_ret
    exact ⟨by rw [HE.out]; rfl, by rw [HN.out]; exact HFIN.out, Keeps.of_below HB2.out⟩
end Go.Proofs.Ytoekmgpnmhknoaa
