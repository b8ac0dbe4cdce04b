/- The walk of layer 12's law WordWrites. Conditions: sizes. -/
import Derived.Test.YtobponlakldplaaLaw12w
import Derived.Test.YtobponlakldplaaLaw12
import Derived.Test.YtobponlakldplaaBook3
namespace Go.Proofs.Ytobponlakldplaa
open Go.RowKit
theorem quiet_neq_str {P : Program} {C : World → Prop} {o : Oper} {a : Act} {K : Act → Prop} (t t' : TypeId) (x y : Operand) (ho : o.op = .binOp .neq t x y t') (l : List UInt8) (hx : a.eval x = .string ⟨l.toArray⟩) (hy : a.eval y = .string ⟨l.toArray⟩) (hK : K (a.put o.dst (.bool false))) : o.quiet P a C K := by
  refine ⟨_, fun w _ => ?_, hK⟩
  unfold Oper.quietAt execOp
  have h1 : (eqGuard .neq t x y (.string ⟨l.toArray⟩) (.string ⟨l.toArray⟩)) = pure () := rfl
  have h2 : (binOp .neq t (.string ⟨l.toArray⟩) (.string ⟨l.toArray⟩)) = pure (.bool false) := by rw [binOp_string_neq]; simp
  simp only [ho, hx, hy, h1, h2, Sem.run_bind, Sem.run_pure, Result.andThen_ok, Oper.quietUpon, and_self]
/-- A list of parts that is read. -/
def PartsRd (w : World) (B : Nat) (A : Option Addr) (n : Nat) (ps : List PartV) : Prop :=
  ps.length = n ∧ (0 < n → ∃ ad, A = some ad ∧ ∀ i p, ps[i]? = some p → ∃ Ai ci, w.cell? (ad.add (i * 2)) = some (.int .i64 p.1) ∧ w.cell? (ad.add (i * 2 + 1)) = some (.slice Ai p.2.length ci) ∧ Rd w B Ai p.2.length p.2 ∧ p.2.length ≤ 140737488351232)
theorem PartsRd.below {w w' : World} {B n : Nat} {A : Option Addr} {ps : List PartV} (h : PartsRd w B A n ps) (hb : Below B w w') (hlt : 0 < n → ∀ ad, A = some ad → ad.block < B) : PartsRd w' B A n ps := by
  refine ⟨h.1, fun hn => ?_⟩
  obtain ⟨ad, hA, h2⟩ := h.2 hn
  refine ⟨ad, hA, fun i p hp => ?_⟩
  obtain ⟨Ai, ci, h3, h4, h5, h6⟩ := h2 i p hp
  have hl := hlt hn ad hA
  refine ⟨Ai, ci, (hb.cell (by rw [block_of_add]; exact hl)).trans h3, (hb.cell (by rw [block_of_add]; exact hl)).trans h4, h5.below hb, h6⟩
/-- The two, side by side. -/
def Pair (B : Nat) (w : World) (D1 D2 : Nat) (s : WS) : Prop := ∃ F1 F2 : Nat → Prop, WrIs w F1 D1 s ∧ BkIs w F2 D2 s ∧ (∀ k, F1 k → ¬ F2 k) ∧ (∀ k, F1 k → B ≤ k ∧ k < w.heap.size) ∧ (∀ k, F2 k → B ≤ k ∧ k < w.heap.size)
theorem next_cell (ad : Addr) (i : Nat) : ad.add (i * 2 + 1) = ⟨(ad.add (i * 2)).block, (ad.add (i * 2)).off + 1, none⟩ := by
  unfold Addr.add
  by_cases h0 : i = 0
  · subst h0; simp
  · rw [if_neg (by omega), if_neg (by omega)]; simp [Nat.add_assoc]
theorem WrIs.tight {w : World} {F : Nat → Prop} {D : Nat} {s : WS} (h : WrIs w F D s) : WrIs w (fun k => F k ∧ k < w.heap.size) D s := by
  obtain ⟨v, h1, h2, h3⟩ := h
  exact ⟨v, h1, ⟨h2, h1.cells.lt⟩, fun k e => ⟨h3 k e, (h1.own.lt k e).2⟩⟩
theorem BkIs.tight {w : World} {F : Nat → Prop} {D : Nat} {s : WS} (h : BkIs w F D s) : BkIs w (fun k => F k ∧ k < w.heap.size) D s := by
  obtain ⟨v, h1, h2, h3⟩ := h
  exact ⟨v, h1, ⟨h2, h1.cells.lt⟩, fun k e => ⟨h3 k e, (h1.own.lt k e).2⟩⟩
/-- A call of the writer, then one of the book. -/
theorem pair_step {B : Nat} {w w1 w1' w2 : World} {D1 D2 : Nat} {s' : WS} {F1 F2 : Nat → Prop} (hB : B ≤ w.heap.size) (hd : ∀ k, F1 k → ¬ F2 k) (hl1 : ∀ k, F1 k → B ≤ k ∧ k < w.heap.size) (hl2 : ∀ k, F2 k → B ≤ k ∧ k < w.heap.size)
    (h1 : WrIs w1 (Grown F1 w) D1 s') (k1 : Keeps F1 w w1) (hb : Below w1.heap.size w1 w1') (h2 : BkIs w2 (Grown F2 w1') D2 s') (k2 : Keeps F2 w1' w2) : Pair B w2 D1 D2 s' ∧ Below B w w2 := by
  have hs1 := k1.size
  have hs2 := hb.size
  have hs3 := k2.size
  have h1' := ((h1.tight).below hb).keeps k2 (fun k e e2 => by
    rcases e.1 with e3 | e3
    · exact hd k e3 e2
    · have := (hl2 k e2).2; omega)
  refine ⟨⟨_, _, h1', h2.tight, fun k e1 e2 => ?_, fun k e => ?_, fun k e => ?_⟩, ?_⟩
  · rcases e1.1 with e3 | e3 <;> rcases e2.1 with e4 | e4
    · exact hd k e3 e4
    · have := (hl1 k e3).2; omega
    · have := (hl2 k e4).2; omega
    · have := e1.2; omega
  · refine ⟨?_, by have := e.2; omega⟩
    rcases e.1 with e3 | e3
    · exact (hl1 k e3).1
    · omega
  · refine ⟨?_, e.2⟩
    rcases e.1 with e3 | e3
    · exact (hl2 k e3).1
    · omega
  · exact ((k1.below (fun k e => (hl1 k e).1) hB).trans (hb.mono (by omega))).trans (k2.below (fun k e => (hl2 k e).1) (by omega))
set_option maxRecDepth 100000 in
set_option maxHeartbeats 4000000 in
theorem WordWrites_any (A : Option Addr) (n c : Nat) (w : World) (ps : List PartV) (hn : n ≤ 9223372036854775807) (hlt : 0 < n → ∀ ad, A = some ad → ad.block < w.heap.size) (hr : PartsRd w w.heap.size A n ps) (hsum : ∀ i, i ≤ n → ((ps.take i).foldl putP ⟨[], false⟩).out.length ≤ 140737488280000) :
    Calls Try.prog 3 #[.slice A n c] w fun e w' => e = .returned (.bool true) ∧ Below w.heap.size w w' := by
  have HR := Lib.hid hr; have HLT := Lib.hid hlt; have HSUM := Lib.hid hsum
  clear hr hlt hsum
  go_enter Try.func3, Try.ntmps3
  go_wp2_with fail
  refine (WNew_any w).mono ?_
  rintro e w1 ⟨D1, rfl, hw1, hb1⟩
  go_wp2_with fail
  have hbk : BkIs (w1.alloc (.cells #[.slice none 0 0, .bool false] 28)) (fun k => k = w1.heap.size) w1.heap.size ⟨[], false⟩ := ⟨.slice none 0 0, ⟨Blk.new w1 _ _, Own.nil_ _ _, fun k e => by cases e⟩, rfl, fun k e => by cases e⟩
  have hpair : Pair w.heap.size (w1.alloc (.cells #[.slice none 0 0, .bool false] 28)) D1 w1.heap.size ⟨[], false⟩ := by
    refine ⟨_, _, (hw1.tight).below ((Below.refl _ _).alloc (Nat.le_refl _) _), hbk, fun k e e2 => by have := e.2; omega, fun k e => ⟨e.1, by have := e.2; simp; omega⟩, fun k e => by subst e; exact ⟨hb1.size, by simp⟩⟩
  have hb2 : Below w.heap.size w (w1.alloc (.cells #[.slice none 0 0, .bool false] 28)) := hb1.alloc hb1.size _
  obtain ⟨D2, hD2⟩ : ∃ D2, D2 = w1.heap.size := ⟨_, rfl⟩
  rw [← hD2] at hpair ⊢
  generalize w1.alloc (.cells #[.slice none 0 0, .bool false] 28) = w2 at hpair hb2 ⊢
  clear hbk hw1 hb1 hD2
  go_loopw [5] (fun q wr => ∃ i : Nat, i ≤ n ∧ q = .int .i64 (i : Int) ∧ Pair w.heap.size wr D1 D2 ((ps.take i).foldl putP ⟨[], false⟩) ∧ Below w.heap.size w wr) (fun q _ => n - (intOf q).toNat)
  case atStart => exact ⟨0, by omega, rfl, by rw [List.take_zero]; exact hpair, hb2⟩
  case round =>
    obtain ⟨i, hi, rfl, hp, hb⟩ := hrel
    by_cases hin : i < n
    · have hin' : (i : Int) < (n : Int) := by omega
      have hrw := HR.out.below hb HLT.out
      obtain ⟨ad, hA, hall⟩ := hrw.2 (by omega)
      subst hA
      have hgi : ps[i]? = some (ps[i]'(by rw [hrw.1]; exact hin)) := List.getElem?_eq_getElem _
      obtain ⟨Ai, ci, hc0, hc1, hrd, hle⟩ := hall i _ hgi
      have hstep : (ps.take (i + 1)).foldl putP ⟨[], false⟩ = putP ((ps.take i).foldl putP ⟨[], false⟩) (ps[i]'(by rw [hrw.1]; exact hin)) := by
        rw [List.take_add_one, hgi, List.foldl_append]
        rfl
      have hlen := HSUM.out i hi
      generalize (ps.take i).foldl putP ⟨[], false⟩ = s at hp hstep hlen
      generalize ps[i]'(by rw [hrw.1]; exact hin) = p at hc0 hc1 hrd hstep hle
      obtain ⟨pn, pb⟩ := p
      simp only at hc0 hc1 hrd hle
      have HP := Lib.hid hp; have HB := Lib.hid hb; have HST := Lib.hid hstep; have HLEN := Lib.hid hlen; have HRD := Lib.hid hrd
      clear hall hgi hrw hp hb hstep hlen hrd hpair hb2
      rw [next_cell] at hc1
      have hPb := HLT.out (by omega) ad rfl
      have hcb : ∀ W, Below w.heap.size wr W → W.cell? (ad.add (i * 2)) = some (.int .i64 pn) ∧ W.cell? ⟨(ad.add (i * 2)).block, (ad.add (i * 2)).off + 1, none⟩ = some (.slice Ai pb.length ci) := fun W hW =>
        ⟨(hW.cell (by rw [block_of_add]; exact hPb)).trans hc0, (hW.cell (by show (ad.add (i * 2)).block < _; rw [block_of_add]; exact hPb)).trans hc1⟩
      have HCB := Lib.hid hcb
      clear hcb
      obtain ⟨F1, F2, hW, hBk, hd, hl1, hl2⟩ := HP.out
      have HW := Lib.hid hW; have HBK := Lib.hid hBk; have HD := Lib.hid hd; have HL1 := Lib.hid hl1; have HL2 := Lib.hid hl2
      clear hW hBk hd hl1 hl2
      by_cases hpos : 0 < pb.length
      · have hput : putP s (pn, pb) = s.bytes pb := by unfold putP; rw [if_pos hpos]
        have HPUT := Lib.hid hput
        have hpos' : (pb.length : Int) > 0 := by omega
        clear hput
        obtain ⟨m, hm⟩ : ∃ m, m = pb.length := ⟨_, rfl⟩
        rw [← hm] at hpos hpos' hc1 hle HRD HCB
        have HM := Lib.hid hm; clear hm
        go_wp2_with fail
        refine (WBytes_any wr F1 D1 s Ai m ci pb HW.out (fun W hW' => (HRD.out.below (hW'.below (fun k e => (HL1.out k e).1) HB.out.size)).more HB.out.size) (by have := HLEN.out; omega)).mono ?_
        rintro e w3 ⟨rfl, hw3, hk3⟩
        have hb3 : Below w.heap.size wr w3 := hk3.below (fun k e => (HL1.out k e).1) HB.out.size
        obtain ⟨hc03, hc13⟩ := HCB.out w3 hb3
        have hbk3 := HBK.out.keeps hk3 (fun k e e2 => HD.out k e2 e)
        have hrd3 : Rd w3 w3.heap.size Ai m pb := (HRD.out.below hb3).more (HB.out.trans hb3).size
        have HW3 := Lib.hid hw3; have HK3 := Lib.hid hk3; have HB3 := Lib.hid hb3; have HBK3 := Lib.hid hbk3; have HRD3 := Lib.hid hrd3
        clear hw3 hk3 hb3 hbk3 hrd3 hc0 hc1
        go_wp2_with fail
        refine (Lay_any w3 F2 D2 s Ai m ci pb HBK3.out hle HRD3.out (by have := HLEN.out; omega)).mono ?_
        rintro e w4 ⟨rfl, hb4, hk4⟩
        have key := pair_step HB.out.size HD.out HL1.out HL2.out HW3.out HK3.out (Below.refl _ w3) hb4 hk4
        have KEY := Lib.hid key
        clear key hb4 hk4
        go_wp2
        go_roundw
        case rel => exact ⟨i + 1, by omega, by go_num, by rw [HST.out, HPUT.out]; exact KEY.out.1, HB.out.trans KEY.out.2⟩
        case measure => simp [intOf]; omega
      · have hput : putP s (pn, pb) = s.int pn := by unfold putP; rw [if_neg hpos]
        have HPUT := Lib.hid hput
        obtain hz : pb.length = 0 := by omega
        rw [hz] at hc1 HCB
        clear hput hz hpos hle
        go_wp2_with fail
        refine (WInt_any wr F1 D1 s pn HW.out (by have := HLEN.out; omega)).mono ?_
        rintro e w3 ⟨rfl, hw3, hk3⟩
        have hb3 : Below w.heap.size wr w3 := hk3.below (fun k e => (HL1.out k e).1) HB.out.size
        obtain ⟨hc03, hc13⟩ := HCB.out w3 hb3
        have hbk3 := HBK.out.keeps hk3 (fun k e e2 => HD.out k e2 e)
        have hs3 := hk3.size
        have HW3 := Lib.hid hw3; have HK3 := Lib.hid hk3; have HB3 := Lib.hid hb3; have HBK3 := Lib.hid hbk3
        clear hw3 hk3 hb3 hbk3 hc0 hc1
        go_wp2_with fail
        have hba : Below w3.heap.size w3 (w3.alloc (.cells #[.int .i64 pn] 3)) := (Below.refl _ _).alloc (Nat.le_refl _) _
        have hq : Blk (w3.alloc (.cells #[.int .i64 pn] 3)) w3.heap.size 3 #[.int .i64 pn] := Blk.new w3 _ _
        refine (Put_any _ F2 D2 s _ 1 1 [pn] (HBK3.out.below hba) (fun W hW' => ⟨rfl, fun _ => ⟨_, rfl, by simp, fun j u hu => ?_⟩⟩) (by have := HLEN.out; omega) (by decide)).mono ?_
        · have hqW := hq.keeps hW' (fun e => by have := (HL2.out _ e).2; omega)
          have ha : (⟨w3.heap.size, 0, none⟩ : Addr).add j = ⟨w3.heap.size, j, none⟩ := by unfold Addr.add; split <;> simp_all
          rw [ha, hqW.cell j]
          simpa using hu
        rintro e w4 ⟨rfl, hb4, hk4⟩
        have key := pair_step HB.out.size HD.out HL1.out HL2.out HW3.out HK3.out hba hb4 hk4
        have KEY := Lib.hid key
        clear key hb4 hk4 hba hq
        go_wp2
        go_roundw
        case rel => exact ⟨i + 1, by omega, by go_num, by rw [HST.out, HPUT.out]; exact KEY.out.1, HB.out.trans KEY.out.2⟩
        case measure => simp [intOf]; omega
    · obtain rfl : i = n := by omega
      have hall : ps.take i = ps := List.take_of_length_le (by rw [HR.out.1]; exact Nat.le_refl _)
      have hlen := HSUM.out i hi
      rw [hall] at hp hlen
      have hfold := fold_ok ps ⟨[], false⟩
      generalize ps.foldl putP ⟨[], false⟩ = st at hp hlen hfold
      obtain ⟨F1, F2, ⟨v1, hWa, _, _⟩, hBk, _, _, _⟩ := hp
      have HB := Lib.hid hb; have HLEN := Lib.hid hlen; have HWA := Lib.hid hWa; have HBK := Lib.hid hBk; have HF := Lib.hid hfold
      clear hb hlen hWa hBk hfold hall hpair hb2
      go_wp2_with fail
      refine (WOut_any wr D1 v1 st HWA.out (by have := HLEN.out; omega)).mono ?_
      rintro e w3 ⟨v3, rfl, ⟨A3, c3, rfl, hr3, _⟩, hb3⟩
      obtain ⟨v2, hBa, _, _⟩ := HBK.out.below hb3
      obtain ⟨Av, cv, hv⟩ := hBa.own.shape
      subst hv
      have q0 := hBa.c0
      have q1 := hBa.c1
      have hrv := hBa.own.rd
      have hb03 : Below w.heap.size w w3 := HB.out.trans (hb3.mono HB.out.size)
      have HR3 := Lib.hid hr3; have HRV := Lib.hid hrv; have HB03 := Lib.hid hb03
      clear hBa hr3 hrv hb3 hb03
      obtain ⟨out, bad⟩ := st
      cases bad
      · simp only [Bool.false_eq_true, if_false, Bool.not_false] at HR3 q0 q1 HRV ⊢
        obtain ⟨_, hok, hout⟩ := HF.out rfl
        simp only [List.nil_append] at hout
        have HOK := Lib.hid hok; have HOUT := Lib.hid hout
        have K3 := Lib.hid (fun W (hW : Below w3.heap.size w3 W) => HR3.out.below hW)
        have KV := Lib.hid (fun W (hW : Below w3.heap.size w3 W) => HRV.out.below hW)
        have hC0 : Below w3.heap.size w3 w3.drew := (Below.refl _ _).drew
        have hcl : out.length ≤ 140737488355328 := by have := HLEN.out; simp only at this; omega
        clear hok hout
        have KQ := Lib.hid (fun W (hW : Below w3.heap.size w3 W) => (show W.cell? ⟨D2, 0, none⟩ = some (.slice Av out.length cv) from (hW.cell (p := ⟨D2, 0, none⟩) (World.block_lt_of_cell? w3 _ q0)).trans q0))
        go_wp2_with fail
        refine wp_region_anyN (Below w3.heap.size w3) (by kernel_rfl) ?_
        refine anyC_takes (by kernel_rfl) (fun _ _ _ _ _ h => h) [0, 1, 2, 3, 4, 5, 6, 7, 8, 9, 10, 11] 0 _ _ (by kernel_rfl) ?_
        simp only [List.filterMap_cons, List.filterMap_nil, List.getElem?_toArray, List.getElem?_cons_succ, List.getElem?_cons_zero]
        show wpQuiet _ _ _ _ (_ :: _ :: _ :: _ :: _ :: _ :: _ :: _ :: _ :: _ :: _ :: _ :: List.nil) _
        repeat (first | go_big_quiet_skip | (go_big_quiet_want; first | (refine quiet_str 26 9 5 (.tmp 77) rfl A3 _ c3 out rfl Try.underlying26 Try.underlying5 Try.underlying9 _ (K3.out) ?_; simp only [Act.put, List.setIfInBounds_toArray, List.set_cons_succ, List.set_cons_zero]; go_big_quiet_on) | (refine quiet_str 26 9 5 (.tmp 82) rfl Av _ cv out rfl Try.underlying26 Try.underlying5 Try.underlying9 _ (KV.out) ?_; simp only [Act.put, List.setIfInBounds_toArray, List.set_cons_succ, List.set_cons_zero]; go_big_quiet_on) | (refine quiet_load 26 (.tmp 81) rfl ⟨D2, 0, none⟩ rfl _ (fun W hW => KQ.out W hW) (fun _ => by kernel_rfl) ?_; simp only [Act.put, List.setIfInBounds_toArray, List.set_cons_succ, List.set_cons_zero]; go_big_quiet_on) | (refine quiet_neq_str _ _ _ _ rfl _ rfl rfl ?_; simp only [Act.put, List.setIfInBounds_toArray, List.set_cons_succ, List.set_cons_zero]; go_big_quiet_on) | (go_big_quiet_op; first | go_big_quiet_on | (refine ⟨_, fun _ _ => rfl, ?_⟩; go_big_quiet_on))))
        refine wpQuiet_nil ?_
        refine ⟨hC0, by kernel_rfl, ?_⟩
        go_wp2_with fail
        refine (Read_any A3 _ c3 w3.drew out hcl HR3.out.drew).mono ?_
        rintro e w4 ⟨R, rfl, hi4, hb4⟩
        have HI4 := Lib.hid hi4; have HB4 := Lib.hid (HB03.out.drew.trans (hb4.mono HB03.out.size))
        clear hi4 hb4 q0 q1
        go_wp2_with fail
        obtain ⟨B0, hB0⟩ : ∃ B0, B0 = w3.drew.heap.size := ⟨_, rfl⟩
        have hBle : w.heap.size ≤ B0 := by rw [hB0]; exact HB03.out.size
        rw [← hB0] at HI4
        clear hB0 hC0 K3 KV KQ
        rw [HOUT.out] at HI4
        go_loopw [9] (fun q wr => ∃ j : Nat, j ≤ i ∧ q = .int .i64 (j : Int) ∧ ReIs wr (fun k => B0 ≤ k) R ⟨(ps.drop j).flatMap encP, false⟩ ∧ Below w.heap.size w wr) (fun q _ => i - (intOf q).toNat)
        case atStart => exact ⟨0, by omega, rfl, by rw [List.drop_zero]; exact HI4.out, HB4.out⟩
        case round =>
          obtain ⟨j, hj, rfl, hre, hb⟩ := hrel
          by_cases hjn : j < i
          · have hjn' : (j : Int) < (i : Int) := by omega
            have hrw := HR.out.below hb HLT.out
            obtain ⟨ad, hA, hall⟩ := hrw.2 (by omega)
            subst hA
            have hlj : j < ps.length := by rw [hrw.1]; exact hjn
            have hgi : ps[j]? = some ps[j] := List.getElem?_eq_getElem hlj
            obtain ⟨Ai, ci, hc0, hc1, hrd, hle⟩ := hall j _ hgi
            have hdr : (ps.drop j).flatMap encP = encP ps[j] ++ (ps.drop (j + 1)).flatMap encP := by rw [List.drop_eq_getElem_cons hlj, List.flatMap_cons]
            have hokp := HOK.out ps[j] (List.getElem_mem hlj)
            rw [hdr] at hre
            generalize (ps.drop (j + 1)).flatMap encP = rest at hre hdr
            obtain ⟨RS2, hRS2⟩ : ∃ RS2, RS2 = (ps.drop (j + 1)).flatMap encP := ⟨_, rfl⟩
            have hrest : rest = RS2 := by
              rw [List.drop_eq_getElem_cons hlj, List.flatMap_cons] at hdr
              rw [hRS2]
              exact (List.append_cancel_left hdr).symm
            subst hrest
            generalize ps[j] = p at hc0 hc1 hrd hle hre hokp
            have hdone : (!({ left := encP p ++ rest, bad := false } : RS).bad && decide (({ left := encP p ++ rest, bad := false } : RS).left.length = 0)) = false := by
              have := encP_pos p
              show (true && decide ((encP p ++ rest).length = 0)) = false
              rw [List.length_append, decide_eq_false (by omega)]
              rfl
            rw [next_cell] at hc1
            have hPb := HLT.out (by omega) ad rfl
            obtain ⟨pn, pb⟩ := p
            simp only at hc0 hc1 hrd hle
            have hcb : ∀ W, Below w.heap.size wr W → W.cell? (ad.add (j * 2)) = some (.int .i64 pn) ∧ W.cell? ⟨(ad.add (j * 2)).block, (ad.add (j * 2)).off + 1, none⟩ = some (.slice Ai pb.length ci) := fun W hW =>
              ⟨(hW.cell (by rw [block_of_add]; exact hPb)).trans hc0, (hW.cell (by show (ad.add (j * 2)).block < _; rw [block_of_add]; exact hPb)).trans hc1⟩
            have HCB := Lib.hid hcb; have HRE := Lib.hid hre; have HB := Lib.hid hb; have HRD := Lib.hid hrd; have HOKP := Lib.hid hokp; have HDN := Lib.hid hdone; have HRS2 := Lib.hid hRS2
            clear hall hrw hgi hre hb hrd hokp hdone hcb hRS2 hdr hlj
            go_wp2_with fail
            refine (Done_any wr _ R _ HRE.out).mono ?_
            rw [HDN.out]
            rintro e w5 ⟨rfl, rfl⟩
            by_cases hpos : 0 < pb.length
            · have hpos' : (pb.length : Int) > 0 := by omega
              have hby := bytes_enc (pn, pb) rest hpos HOKP.out
              have HBY := Lib.hid hby
              have hbase : w.heap.size ≤ w5.heap.size := HB.out.size
              have hC0 : Below w.heap.size w5 w5.drew := (Below.refl _ _).drew
              have KL := Lib.hid (fun W (hW : Below w.heap.size w5 W) => (HCB.out W hW).2)
              have KS := Lib.hid (fun W (hW : Below w.heap.size w5 W) => HRD.out.below hW)
              clear hby
              obtain ⟨m, hm⟩ : ∃ m, m = pb.length := ⟨_, rfl⟩
              rw [← hm] at hpos hpos' hc1 hle HRD HCB KL KS
              have HM := Lib.hid hm; clear hm
              go_wp2_with fail
              refine wp_region_anyN (Below w.heap.size w5) (by kernel_rfl) ?_
              refine anyC_takes (by kernel_rfl) (fun _ _ _ _ _ h => h) [0, 3, 4, 5, 6, 7, 8] 3 _ _ (by kernel_rfl) ?_
              simp only [List.filterMap_cons, List.filterMap_nil, List.getElem?_toArray, List.getElem?_cons_succ, List.getElem?_cons_zero]
              show wpQuiet _ _ _ _ (_ :: _ :: _ :: _ :: _ :: _ :: _ :: List.nil) _
              repeat (first | go_big_quiet_skip | (go_big_quiet_want; first | (refine quiet_load 26 (.tmp 109) rfl ⟨(ad.add (j * 2)).block, (ad.add (j * 2)).off + 1, none⟩ rfl _ (fun W hW => KL.out W hW) (fun _ => by kernel_rfl) ?_; simp only [Act.put, List.setIfInBounds_toArray, List.set_cons_succ, List.set_cons_zero]; go_big_quiet_on) | (refine quiet_str 26 9 5 (.tmp 110) rfl Ai m ci pb rfl Try.underlying26 Try.underlying5 Try.underlying9 _ (KS.out) ?_; simp only [Act.put, List.setIfInBounds_toArray, List.set_cons_succ, List.set_cons_zero]; go_big_quiet_on) | (go_big_quiet_op; first | go_big_quiet_on | (refine ⟨_, fun _ _ => rfl, ?_⟩; go_big_quiet_on))))
              refine wpQuiet_nil ?_
              refine anyC_only (i := 1) rfl (by kernel_rfl) hC0 ?_
              go_wp2_with fail
              refine (RBytes_any w5.drew _ R _ (HRE.out.below ((Below.refl _ _).drew))).mono ?_
              rw [HBY.out]
              rintro e w6 ⟨v6, rfl, ⟨A6, c6, rfl, hr6, _⟩, hre6, hk6⟩
              have hb6 : Below w.heap.size w5 w6 := hC0.trans (hk6.below (fun k e => Nat.le_trans hBle e) hbase)
              have K6 := Lib.hid (fun W (hW : Below w6.heap.size w6 W) => hr6.below hW)
              have hN6 : ∀ W, Below w6.heap.size w6 W → Below w.heap.size w5 W := fun W hW => hb6.trans (hW.mono (Nat.le_trans hbase hb6.size))
              have HRE6 := Lib.hid hre6; have HB6 := Lib.hid (HB.out.trans hb6)
              clear hr6 hre6 hk6
              go_wp2_with fail
              refine anyC_narrow (C' := Below w6.heap.size w6) hN6 _ _ _ _ ?_
              refine anyC_takes (by kernel_rfl) (fun _ _ _ _ _ h => h) [2, 9] 0 _ _ (by kernel_rfl) ?_
              simp only [List.filterMap_cons, List.filterMap_nil, List.getElem?_toArray, List.getElem?_cons_succ, List.getElem?_cons_zero]
              show wpQuiet _ _ _ _ (_ :: _ :: List.nil) _
              repeat (first | go_big_quiet_skip | (go_big_quiet_want; first | (refine quiet_str 26 9 5 (.tmp 104) rfl A6 _ c6 pb rfl Try.underlying26 Try.underlying5 Try.underlying9 _ (K6.out) ?_; simp only [Act.put, List.setIfInBounds_toArray, List.set_cons_succ, List.set_cons_zero]; go_big_quiet_on) | (refine quiet_neq_str _ _ _ _ rfl pb rfl rfl ?_; simp only [Act.put, List.setIfInBounds_toArray, List.set_cons_succ, List.set_cons_zero]; go_big_quiet_on) | (go_big_quiet_op; first | go_big_quiet_on | (refine ⟨_, fun _ _ => rfl, ?_⟩; go_big_quiet_on))))
              refine wpQuiet_nil ?_
              refine ⟨Below.refl _ _, by kernel_rfl, ?_⟩
              clear hb6 hN6
              go_wp2
              go_roundw
              case rel => exact ⟨j + 1, by omega, by go_num, by rw [← HRS2.out]; exact HRE6.out, HB6.out⟩
              case measure => simp [intOf]; omega
            · have hby := int_enc (pn, pb) rest hpos HOKP.out
              have HBY := Lib.hid hby
              have hbase : w.heap.size ≤ w5.heap.size := HB.out.size
              have hC0 : Below w.heap.size w5 w5.drew := (Below.refl _ _).drew
              have KL := Lib.hid (fun W (hW : Below w.heap.size w5 W) => (HCB.out W hW).1)
              obtain hz : pb.length = 0 := by omega
              rw [hz] at hc1 HCB
              clear hby hz hpos hle
              go_wp2_with fail
              refine wp_region_anyN (Below w.heap.size w5) (by kernel_rfl) ?_
              refine anyC_takes (by kernel_rfl) (fun _ _ _ _ _ h => h) [0, 2, 3, 4, 5, 6] 2 _ _ (by kernel_rfl) ?_
              simp only [List.filterMap_cons, List.filterMap_nil, List.getElem?_toArray, List.getElem?_cons_succ, List.getElem?_cons_zero]
              show wpQuiet _ _ _ _ (_ :: _ :: _ :: _ :: _ :: _ :: List.nil) _
              repeat (first | go_big_quiet_skip | (go_big_quiet_want; first | (refine quiet_load 3 (.tmp 118) rfl (ad.add (j * 2)) rfl _ (fun W hW => KL.out W hW) (fun _ => by kernel_rfl) ?_; simp only [Act.put, List.setIfInBounds_toArray, List.set_cons_succ, List.set_cons_zero]; go_big_quiet_on) | (go_big_quiet_op; first | go_big_quiet_on | (refine ⟨_, fun _ _ => rfl, ?_⟩; go_big_quiet_on))))
              refine wpQuiet_nil ?_
              refine anyC_only (i := 1) rfl (by kernel_rfl) hC0 ?_
              go_wp2_with fail
              refine (RInt_any w5.drew _ R _ (HRE.out.below ((Below.refl _ _).drew))).mono ?_
              rw [HBY.out]
              rintro e w6 ⟨rfl, hre6, hk6⟩
              have hb6 : Below w.heap.size w5 w6 := hC0.trans (hk6.below (fun k e => Nat.le_trans hBle e) hbase)
              have HRE6 := Lib.hid hre6; have HB6 := Lib.hid (HB.out.trans hb6)
              clear hre6 hk6
              go_wp2_with fail
              refine anyC_takes (by kernel_rfl) (fun _ _ _ _ _ h => h) [7] 0 _ _ (by kernel_rfl) ?_
              simp only [List.filterMap_cons, List.filterMap_nil, List.getElem?_toArray, List.getElem?_cons_succ, List.getElem?_cons_zero]
              show wpQuiet _ _ _ _ (_ :: List.nil) _
              repeat (first | go_big_quiet_skip | (go_big_quiet_want; first | (fail; simp only [Act.put, List.setIfInBounds_toArray, List.set_cons_succ, List.set_cons_zero]; go_big_quiet_on) | (go_big_quiet_op; first | go_big_quiet_on | (refine ⟨_, fun _ _ => rfl, ?_⟩; go_big_quiet_on))))
              refine wpQuiet_nil ?_
              refine ⟨hb6, by kernel_rfl, ?_⟩
              clear hb6
              go_wp2
              go_roundw
              case rel => exact ⟨j + 1, by omega, by go_num, by rw [← HRS2.out]; exact HRE6.out, HB6.out⟩
              case measure => simp [intOf]; omega
          · obtain rfl : j = i := by omega
            have hdl : (ps.drop j).flatMap encP = [] := by rw [List.drop_eq_nil_of_le (by rw [HR.out.1]; exact Nat.le_refl _)]; rfl
            rw [hdl] at hre
            have HRE := Lib.hid hre; have HB := Lib.hid hb
            clear hre hb hdl
            go_wp2_with fail
            refine (answers12_any wr).mono ?_
            rintro e w5 ⟨rfl, hb5⟩
            have hre5 := HRE.out.below hb5
            have HRE5 := Lib.hid hre5; have HB5 := Lib.hid (HB.out.trans (hb5.mono HB.out.size))
            clear hre5 hb5
            go_wp2_with (go_at_call 20; refine (Done_any w5 _ R _ HRE5.out).mono ?_; rintro e w6 ⟨rfl, rfl⟩)
            go_ret
            exact ⟨rfl, HB5.out⟩
      · simp only [if_true, Bool.not_true] at HR3 q0 q1 ⊢
        go_wp2_with fail
        refine (answers12_any w3).mono ?_
        rintro e w5 ⟨rfl, hb5⟩
        have HB5 := Lib.hid (HB03.out.trans (hb5.mono HB03.out.size))
        clear hb5
        go_wp2
        go_ret
        exact ⟨rfl, HB5.out⟩
end Go.Proofs.Ytobponlakldplaa
