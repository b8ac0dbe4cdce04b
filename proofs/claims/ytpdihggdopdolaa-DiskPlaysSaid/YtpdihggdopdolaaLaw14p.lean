/- The walk of layer 14's law DiskPlays. Condition: the slice of calls is read, as its bytes are. -/
import Derived.Test.YtpdihggdopdolaaLaw14
import Derived.Test.YtpdihggdopdolaaRefO
namespace Go.Proofs.Ytpdihggdopdolaa
open Go.RowKit
theorem quiet_neq_same {P : Program} {C : World → Prop} {o : Oper} {a : Act} {K : Act → Prop} (t t' : TypeId) (x y : Operand) (ho : o.op = .binOp .neq t x y t') (l : List UInt8) (hx : a.eval x = .string ⟨l.toArray⟩) (hy : a.eval y = .string ⟨l.toArray⟩) (hK : K (a.put o.dst (.bool false))) : o.quiet P a C K := by
  refine ⟨_, fun w _ => ?_, hK⟩
  unfold Oper.quietAt execOp
  have h1 : (eqGuard .neq t x y (.string ⟨l.toArray⟩) (.string ⟨l.toArray⟩)) = pure () := rfl
  have h2 : (binOp .neq t (.string ⟨l.toArray⟩) (.string ⟨l.toArray⟩)) = pure (.bool false) := by rw [binOp_string_neq]; simp
  simp only [ho, hx, hy, h1, h2, Sem.run_bind, Sem.run_pure, Result.andThen_ok, Oper.quietUpon, and_self]
/-- A call of the disk, as data. -/
structure OpV where
  k : Int
  n : Int
  at_ : Int
  x : UInt8
  b : List UInt8
def OpsRd (w : World) (B : Nat) (A : Option Addr) (n : Nat) (os : List OpV) : Prop :=
  os.length = n ∧ (0 < n → ∃ ad, A = some ad ∧ ad.block < B ∧ ∀ (i : Nat) (o : OpV), os[i]? = some o → o.n ≤ 9223372036854775807 ∧ ∃ (Ai : Option Addr) (ci : Nat),
    w.cell? (ad.add (i * 5)) = some (.int .i64 o.k) ∧ w.cell? (ad.add (i * 5 + 1)) = some (.int .i64 o.n) ∧ w.cell? (ad.add (i * 5 + 2)) = some (.int .i64 o.at_) ∧ w.cell? (ad.add (i * 5 + 3)) = some (.int .u8 (o.x.toNat : Int)) ∧ w.cell? (ad.add (i * 5 + 4)) = some (.slice Ai o.b.length ci) ∧
    Rd w B Ai o.b.length o.b)
theorem OpsRd.below {w w' : World} {B n : Nat} {A : Option Addr} {os : List OpV} (h : OpsRd w B A n os) (hb : Below B w w') : OpsRd w' B A n os := by
  refine ⟨h.1, fun hn => ?_⟩
  obtain ⟨ad, hA, hB, hi⟩ := h.2 hn
  refine ⟨ad, hA, hB, fun i o ho => ?_⟩
  obtain ⟨h1, Ai, ci, c0, c1, c2, c3, c4, hr⟩ := hi i o ho
  have hc : ∀ j v, w.cell? (ad.add j) = some v → w'.cell? (ad.add j) = some v := fun j v hv => (hb.cell (by rw [block_of_add]; exact hB)).trans hv
  exact ⟨h1, Ai, ci, hc _ _ c0, hc _ _ c1, hc _ _ c2, hc _ _ c3, hc _ _ c4, hr.below hb⟩
/-- The next cells of a struct. -/
theorem cell_add (ad : Addr) (i j : Nat) (hj : 0 < j) : ad.add (i + j) = ⟨(ad.add i).block, (ad.add i).off + j, none⟩ := by
  unfold Addr.add
  rw [if_neg (by omega)]
  split
  · next h => subst h; simp
  · simp [Nat.add_assoc]
theorem DiskAt.drew {w : World} {D : Nat} {gs : List (Nat × Nat)} {r : Value} {s : DS} (h : DiskAt w D gs r s) : DiskAt w.drew D gs r s := h.below ((Below.refl _ _).drew)
theorem DiskIs.drew {w : World} {F : Nat → Prop} {D : Nat} {s : DS} (h : DiskIs w F D s) : DiskIs w.drew F D s := h.below ((Below.refl _ _).drew)
theorem do_keeps (s : DS) (k n at_ : Int) (x : UInt8) (l : List UInt8) : (s.do_ k n at_ x l).2.bl.length = s.bl.length ∧ (s.do_ k n at_ x l).2.writes ≤ s.writes + 1 := by
  unfold DS.do_ DS.write DS.turn
  repeat' (first | split | exact ⟨by simp, by simp⟩)
  all_goals simp
set_option maxRecDepth 100000 in
set_option maxHeartbeats 4000000 in
theorem DiskPlays_any (n0 : Int) (A : Option Addr) (m c : Nat) (w : World) (os : List OpV) (_h0 : -9223372036854775808 ≤ n0) (_h1 : n0 ≤ 9223372036854775807) (hm : m ≤ 9223372036854775807) (hr : OpsRd w w.heap.size A m os) :
    Calls Try.prog 5 #[.int .i64 n0, .slice A m c] w fun e w' => e = .returned (.bool true) ∧ Below w.heap.size w w' := by
  have HR := Lib.hid hr
  clear hr
  go_enter Try.func5, Try.ntmps5
  go_wp2_with fail
  refine (New_any w n0).mono ?_
  rintro e w1 ⟨D, rfl, hd1, hb1⟩
  go_wp2_with fail
  refine (RefNew_any w1 n0).mono ?_
  rintro e w2 ⟨E, G, rfl, hr2, hE, hG, hb2⟩
  have hsm : (DS.new n0).bl.length ≤ 2048 := hr2.small
  have hw0 : (DS.new n0).writes = 0 := rfl
  generalize DS.new n0 = s0 at *
  have HW0 := Lib.hid hw0; clear hw0
  obtain ⟨gs, r, hA, hF⟩ := hd1
  have hlt := hA.foot_lt
  have hd2 : DiskIs w2 (fun k => w.heap.size ≤ k ∧ k ≠ E ∧ k ≠ G) D s0 := ⟨gs, r, hA.below hb2, fun k hk => ⟨hF k hk, by have := hlt k hk; omega, by have := hlt k hk; omega⟩⟩
  have hb : Below w.heap.size w w2 := hb1.trans (hb2.mono hb1.size)
  have hBE : w.heap.size ≤ E := Nat.le_trans hb1.size hE
  have hBG : w.heap.size ≤ G := Nat.le_trans hb1.size hG
  have hA2 := hA.below hb2
  have e0 := hr2.e0
  have hquo := quo32 s0.bl.length hsm
  have HA2 := Lib.hid hA2; have HR2 := Lib.hid hr2; have HD2 := Lib.hid hd2; have HB := Lib.hid hb
  obtain ⟨L, hL⟩ : ∃ L, L = s0.bl.length := ⟨_, rfl⟩
  rw [← hL] at e0 hquo hsm
  obtain ⟨N, hN⟩ : ∃ N, N = 32 * L := ⟨_, rfl⟩
  rw [← hN] at e0 hquo
  have hNl : N ≤ 65536 := by omega
  have HL := Lib.hid hL; have HN := Lib.hid hN
  have hneq : ((L : Int) != (L : Int)) = false := by simp
  clear hA2 hr2 hd2 hb hlt hF hA hb1 hb2 hL hN
  go_wp2_with fail
  by_cases h300 : m > 300
  · have h300' : (m : Int) > 300 := by omega
    have hlen := Len_any w2.drew HA2.out.drew
    rw [← HL.out] at hlen
    have HLEN := Lib.hid hlen
    clear hlen
    refine wp_region_q (by kernel_rfl) (by kernel_rfl) ?_
    repeat (first | go_big_quiet_skip | (go_big_quiet_want; go_big_quiet_op; first | go_big_quiet_on | (apply Exists.intro; refine ⟨?_, ?_⟩; (exact HLEN.out); go_big_quiet_on)))
    refine wpQuiet_nil ?_
    go_wp2_with fail
    refine (answers14_any _).mono ?_
    rintro e w3 ⟨rfl, hb3⟩
    have HB3 := Lib.hid (HB.out.trans ((Below.refl w2.heap.size w2).drew.trans hb3 |>.mono HB.out.size))
    clear hb3
    go_wp2
    go_ret
    exact ⟨rfl, HB3.out⟩
  · have h300' : ((m : Int) > 300) = False := eq_false (by omega)
    have hm3 : m ≤ 300 := by omega
    clear h300
    have hlen := Len_any w2.drew HA2.out.drew
    rw [← HL.out] at hlen
    have HLEN := Lib.hid hlen
    clear hlen
    refine wp_region_q (by kernel_rfl) (by kernel_rfl) ?_
    repeat (first | go_big_quiet_skip | (go_big_quiet_want; go_big_quiet_op; first | go_big_quiet_on | (apply Exists.intro; refine ⟨?_, ?_⟩; (exact HLEN.out); go_big_quiet_on)))
    refine wpQuiet_nil ?_
    have hd2' := HD2.out.drew
    have hr2' := HR2.out.drew
    have hb2' : Below w.heap.size w w2.drew := HB.out.drew
    have hEs : E < w2.drew.heap.size := hr2'.cells.lt
    have hGs : G < w2.drew.heap.size := hr2'.row.lt
    have HD := Lib.hid hd2'; have HRR := Lib.hid hr2'; have HBB := Lib.hid hb2'; have HES := Lib.hid hEs; have HGS := Lib.hid hGs
    clear hd2' hr2' hb2' hEs hGs e0
    go_wp2_with fail
    obtain ⟨F, hF⟩ : ∃ F : Nat → Prop, F = fun k => w.heap.size ≤ k ∧ k ≠ E ∧ k ≠ G := ⟨_, rfl⟩
    rw [← hF] at HD
    have HFB : Hid (∀ k, F k → w.heap.size ≤ k) := Lib.hid (fun k hk => by rw [hF] at hk; exact hk.1)
    have HFE : Hid (¬ F E) := Lib.hid (fun hk => by rw [hF] at hk; exact hk.2.1 rfl)
    have HFG : Hid (¬ F G) := Lib.hid (fun hk => by rw [hF] at hk; exact hk.2.2 rfl)
    have HGR : Hid (∀ (W : World) k, w.heap.size ≤ W.heap.size → E < W.heap.size → G < W.heap.size → Grown F W k → F k) := Lib.hid (fun W k h1 h2 h3 hk => by
      rcases hk with hk | hk
      · exact hk
      · rw [hF]; exact ⟨by omega, by omega, by omega⟩)
    have HF := Lib.hid hF; clear hF
    go_loopw [7] (fun q wr => ∃ (j : Nat) (s : DS), j ≤ m ∧ q = .int .i64 (j : Int) ∧ s.bl.length = L ∧ s.writes ≤ j ∧ DiskIs wr F D s ∧ RefAt wr E G s ∧ Below w.heap.size w wr) (fun q _ => m - (intOf q).toNat)
    case atStart => exact ⟨0, s0, by omega, rfl, HL.out.symm, by rw [HW0.out]; omega, HD.out, HRR.out, HBB.out⟩
    case round =>
      obtain ⟨j, s, hj, rfl, hsl, hsw, hd, hr, hb⟩ := hrel
      have HSL := Lib.hid hsl; have HDS := Lib.hid hd; have HRS := Lib.hid hr; have HBS := Lib.hid hb
      clear hsl hd hr hb
      by_cases hjm : j < m
      · have hjm' : (j : Int) < (m : Int) := by omega
        have hops := HR.out.below HBS.out
        obtain ⟨ad, rfl, hadB, hall⟩ := hops.2 (by omega)
        obtain ⟨o, ho⟩ : ∃ o, os[j]? = some o := ⟨_, List.getElem?_eq_getElem (by rw [hops.1]; exact hjm)⟩
        obtain ⟨hon, Ai, ci, c0, c1, c2, c3, c4, hrd⟩ := hall j o ho
        rw [cell_add _ _ _ (by omega)] at c1 c2 c3 c4
        have HRD := Lib.hid hrd
        clear hops hall ho hrd
        go_wp2_with fail
        have hbx := Blk.new wr 40 #[.int .i64 o.k, .int .i64 o.n, .int .i64 o.at_, .int .u8 (o.x.toNat : Int), .slice Ai o.b.length ci]
        have hb1 : Below wr.heap.size wr (wr.alloc (.cells #[.int .i64 o.k, .int .i64 o.n, .int .i64 o.at_, .int .u8 (o.x.toNat : Int), .slice Ai o.b.length ci] 40)) := (Below.refl _ _).alloc (Nat.le_refl _) _
        have hbw1 := HBS.out.trans (hb1.mono HBS.out.size)
        have hr1 := HRS.out.below hb1
        have hd1 := HDS.out.below hb1
        have hrd1 := (HRD.out.below (hb1.mono HBS.out.size)).more hbw1.size
        have hEl := HRS.out.cells.lt
        have hGl := HRS.out.row.lt
        obtain ⟨q, hq⟩ : ∃ q, q = wr.heap.size := ⟨_, rfl⟩
        rw [← hq] at hbx ⊢
        generalize wr.alloc (.cells #[.int .i64 o.k, .int .i64 o.n, .int .i64 o.at_, .int .u8 (o.x.toNat : Int), .slice Ai o.b.length ci] 40) = w4 at *
        have hqE : q ≠ E := by omega
        have hqG : q ≠ G := by omega
        have HBX := Lib.hid hbx; have HBW1 := Lib.hid hbw1; have HR1 := Lib.hid hr1; have HD1 := Lib.hid hd1; have HRD1 := Lib.hid hrd1
        have hq4 : q < w4.heap.size := hbx.lt
        clear hbx hbw1 hr1 hd1 hrd1 hq c0 c1 c2 c3 c4
        refine (Do_any w4 E G s o.k o.n o.at_ o.x Ai o.b.length ci o.b hon HR1.out HRD1.out (by omega)).mono ?_
        obtain ⟨res, hres⟩ : ∃ res, res = s.do_ o.k o.n o.at_ o.x o.b := ⟨_, rfl⟩
        rw [← hres]
        obtain ⟨⟨ec, str, ok⟩, s'⟩ := res
        rintro e w5 ⟨rfl, hr5, hk5⟩
        dsimp only at hr5 ⊢
        have hd5 := HD1.out.keeps hk5 (fun k hk => by rw [HF.out] at hk; omega)
        have hb5 : Below w.heap.size w w5 := HBW1.out.trans (hk5.below (fun k e => by rcases e with rfl | rfl <;> assumption) HBW1.out.size)
        have hx5 := HBX.out.keeps hk5 (by omega)
        have hrd5 := (HRD.out.below (hb1.mono HBS.out.size)).below (hk5.below (F := fun k => k = E ∨ k = G) (B := w.heap.size) (fun k e => by rcases e with rfl | rfl <;> assumption) HBW1.out.size)
        have HRD5 := Lib.hid hrd5
        have HRES := Lib.hid hres; have HR5 := Lib.hid hr5; have HD5 := Lib.hid hd5; have HB5 := Lib.hid hb5
        have q0 : w5.cell? ⟨q, 0, none⟩ = some (.int .i64 o.k) := (hx5.cell 0).trans rfl
        have q1 : w5.cell? ⟨q, 1, none⟩ = some (.int .i64 o.n) := (hx5.cell 1).trans rfl
        have q2 : w5.cell? ⟨q, 2, none⟩ = some (.int .i64 o.at_) := (hx5.cell 2).trans rfl
        have q3 : w5.cell? ⟨q, 3, none⟩ = some (.int .u8 (o.x.toNat : Int)) := (hx5.cell 3).trans rfl
        have q4 : w5.cell? ⟨q, 4, none⟩ = some (.slice Ai o.b.length ci) := (hx5.cell 4).trans rfl
        clear hres hr5 hk5 hd5 hb5 hx5 hrd5 hb1
        go_upto_block 2 with (fail)
        go_cut [] (fun wx => DiskIs wx F D s' ∧ RefAt wx E G s' ∧ Below w.heap.size w wx)
        case first =>
          have hne : (ec != ec) = false := by simp
          have hneb : (ok != ok) = false := by simp
          by_cases k1 : o.k = 1
          · have hh := HRES.out
            unfold DS.do_ at hh
            rw [if_pos k1] at hh
            simp only [Prod.mk.injEq] at hh
            obtain ⟨⟨hec, hst, hok⟩, hs'⟩ := hh
            have hw := Write_any w5 F D s o.n Ai o.b.length ci o.b (by omega) HD5.out (HRD5.out.more HB5.out.size)
            rw [← hec, ← hs'] at hw
            have HW := Lib.hid hw
            have k1' : (o.k == 1) = true := by simpa using k1
            clear hw hec hs' hst hok k1
            go_wp2_with fail
            refine HW.out.mono ?_
            rintro e w6 ⟨rfl, hd6, hk6⟩
            have hkb := hk6.below HFB.out HB5.out.size
            have H6 := Lib.hid (And.intro (hd6.weaken (fun k e => HGR.out w5 k HB5.out.size HR5.out.cells.lt HR5.out.row.lt e)) (And.intro (HR5.out.keeps hk6 HFE.out HFG.out) (HB5.out.trans hkb)))
            clear hd6 hk6 hkb
            go_wp2_with fail
            go_meet
            exact H6.out
          · have k1' : (o.k == 1) = false := by simpa using k1
            by_cases k2 : o.k = 2
            · have hh := HRES.out
              unfold DS.do_ at hh
              rw [if_neg k1, if_pos k2] at hh
              simp only [Prod.mk.injEq] at hh
              obtain ⟨⟨hec, hst, hok⟩, hs'⟩ := hh
              obtain ⟨gs5, r5, hA5, hF5⟩ := HD5.out
              have hrd := Read_any w5 D gs5 r5 s o.n hA5
              rw [← hok] at hrd hst
              rw [← hst] at hrd
              have HRD7 := Lib.hid hrd
              have k2' : (o.k == 2) = true := by simpa using k2
              rw [← hs'] at HD5
              clear hrd hec hst hok hs' hA5 hF5 k1 k2
              go_wp2_with fail
              refine HRD7.out.mono ?_
              rintro e w6 ⟨v6, rfl, hv6, hb6⟩
              obtain ⟨A6, c6, rfl⟩ := hv6.shape
              have hr6 := hv6.rd
              have H6 := Lib.hid (And.intro (HD5.out.below hb6) (And.intro (HR5.out.below hb6) (HB5.out.trans (hb6.mono HB5.out.size))))
              have HR6 := Lib.hid hr6
              clear hv6 hb6 hr6
              go_wp2_with (first | refine wpList_str rfl 22 9 5 (.tmp 83) rfl A6 _ c6 str rfl Try.underlying22 Try.underlying5 Try.underlying9 _ HR6.out ?_ | refine wpList_neq rfl _ _ _ _ rfl str str rfl rfl ?_)
              go_meet
              exact H6.out
            · have k2' : (o.k == 2) = false := by simpa using k2
              by_cases k3 : o.k = 3
              · have hh := HRES.out
                unfold DS.do_ at hh
                rw [if_neg k1, if_neg k2, if_pos k3] at hh
                simp only [Prod.mk.injEq] at hh
                obtain ⟨⟨hec, hst, hok⟩, hs'⟩ := hh
                have hw := Turn_any w5 F D s o.n o.at_ o.x HD5.out
                rw [← hok, ← hs'] at hw
                have HW := Lib.hid hw
                have k3' : (o.k == 3) = true := by simpa using k3
                clear hw hec hst hok hs' k1 k2 k3
                go_wp2_with fail
                refine HW.out.mono ?_
                rintro e w6 ⟨rfl, hd6, hk6⟩
                have hkb := hk6.below HFB.out HB5.out.size
                have H6 := Lib.hid (And.intro hd6 (And.intro (HR5.out.keeps hk6 HFE.out HFG.out) (HB5.out.trans hkb)))
                clear hd6 hk6 hkb
                go_wp2_with fail
                go_meet
                exact H6.out
              · have k3' : (o.k == 3) = false := by simpa using k3
                by_cases k4 : o.k = 4
                · have hh := HRES.out
                  unfold DS.do_ at hh
                  rw [if_neg k1, if_neg k2, if_neg k3, if_pos k4] at hh
                  simp only [Prod.mk.injEq] at hh
                  obtain ⟨⟨hec, hst, hok⟩, hs'⟩ := hh
                  have hw := Fuse_any w5 F D s o.n hon HD5.out
                  rw [← hs'] at hw
                  have HW := Lib.hid hw
                  have k4' : (o.k == 4) = true := by simpa using k4
                  clear hw hec hst hok hs' k1 k2 k3 k4
                  go_wp2_with fail
                  refine HW.out.mono ?_
                  rintro e w6 ⟨rfl, hd6, hk6⟩
                  have hkb := hk6.below HFB.out HB5.out.size
                  have H6 := Lib.hid (And.intro hd6 (And.intro (HR5.out.keeps hk6 HFE.out HFG.out) (HB5.out.trans hkb)))
                  clear hd6 hk6 hkb
                  go_wp2_with fail
                  go_meet
                  exact H6.out
                · have k4' : (o.k == 4) = false := by simpa using k4
                  by_cases k5 : o.k = 5
                  · have hh := HRES.out
                    unfold DS.do_ at hh
                    rw [if_neg k1, if_neg k2, if_neg k3, if_neg k4, if_pos k5] at hh
                    simp only [Prod.mk.injEq] at hh
                    obtain ⟨⟨hec, hst, hok⟩, hs'⟩ := hh
                    have hw := On_any w5 F D s HD5.out
                    rw [← hs'] at hw
                    have HW := Lib.hid hw
                    have k5' : (o.k == 5) = true := by simpa using k5
                    clear hw hec hst hok hs' k1 k2 k3 k4 k5
                    go_wp2_with fail
                    refine HW.out.mono ?_
                    rintro e w6 ⟨rfl, hd6, hk6⟩
                    have hkb := hk6.below HFB.out HB5.out.size
                    have H6 := Lib.hid (And.intro hd6 (And.intro (HR5.out.keeps hk6 HFE.out HFG.out) (HB5.out.trans hkb)))
                    clear hd6 hk6 hkb
                    go_wp2_with fail
                    go_meet
                    exact H6.out
                  · have k5' : (o.k == 5) = false := by simpa using k5
                    have hh := HRES.out
                    unfold DS.do_ at hh
                    rw [if_neg k1, if_neg k2, if_neg k3, if_neg k4, if_neg k5] at hh
                    simp only [Prod.mk.injEq] at hh
                    obtain ⟨⟨hec, hst, hok⟩, hs'⟩ := hh
                    have H6 := Lib.hid (And.intro HD5.out (And.intro HR5.out HB5.out))
                    rw [← hs'] at H6
                    clear hec hst hok hs' k1 k2 k3 k4 k5
                    go_wp2_with fail
                    go_meet
                    exact H6.out
        case rest =>
          obtain ⟨hd7, hr7, hb7⟩ := hcut
          have hkk := do_keeps s o.k o.n o.at_ o.x o.b
          rw [← HRES.out] at hkk
          dsimp only at hkk
          have HKK := Lib.hid hkk
          obtain ⟨gs7, r7, hA7, hF7⟩ := hd7
          have hdn := Down_any wc.drew hA7.drew
          have hwr := Writes_any wc.drew hA7.drew
          have g2 := hr7.e2
          have g3 := hr7.e3
          have H7 := Lib.hid (show DiskIs wc.drew F D s' ∧ RefAt wc.drew E G s' ∧ Below w.heap.size w wc.drew from ⟨DiskIs.drew ⟨gs7, r7, hA7, hF7⟩, hr7.drew, hb7.drew⟩)
          have hn1 : (s'.down != s'.down) = false := by simp
          have hn2 : ((s'.writes : Int) != (s'.writes : Int)) = false := by simp
          have HDN := Lib.hid hdn; have HWR := Lib.hid hwr
          clear hkk hA7 hF7 hdn hwr hr7 hb7 q0 q1 q2 q3 q4
          go_wp2_with fail
          refine wp_region_q (by kernel_rfl) (by kernel_rfl) ?_
          repeat (first | go_big_quiet_skip | (go_big_quiet_want; go_big_quiet_op; first | go_big_quiet_on | (apply Exists.intro; refine ⟨?_, ?_⟩; (with_reducible first | exact HDN.out | exact HWR.out); go_big_quiet_on)))
          refine wpQuiet_nil ?_
          go_wp2_with fail
          go_roundw
          case rel => exact ⟨j + 1, s', by omega, by go_num, by rw [HKK.out.1]; exact HSL.out, by have := HKK.out.2; omega, H7.out.1, H7.out.2.1, H7.out.2.2⟩
          case measure => simp [intOf]; omega
      · obtain rfl : j = m := by omega
        go_wp2_with fail
        go_loopw [14] (fun q wr => ∃ (i : Nat), i ≤ L ∧ q = .int .i64 (i : Int) ∧ DiskIs wr F D s ∧ RefAt wr E G s ∧ Below w.heap.size w wr) (fun q _ => L - (intOf q).toNat)
        case atStart => exact ⟨0, by omega, rfl, HDS.out, HRS.out, HBS.out⟩
        case round =>
          obtain ⟨i, hi, rfl, hd, hr, hb⟩ := hrel
          obtain ⟨gs7, r7, hA7, hF7⟩ := hd
          have hlen := Len_any wr hA7
          rw [HSL.out] at hlen
          have HLN := Lib.hid hlen; have HA7 := Lib.hid hA7; have HR7 := Lib.hid hr; have HB7 := Lib.hid hb; have HF7 := Lib.hid hF7
          clear hlen hA7 hr hb hF7
          by_cases hiL : i < L
          · have hil : i < s.bl.length := by rw [HSL.out]; exact hiL
            have hl0 : s.bl[i]? = some s.bl[i] := List.getElem?_eq_getElem hil
            have hrd := Read_any wr D gs7 r7 s i HA7.out
            have hhas : s.has (i : Int) = true := by simp [DS.has, hil]
            rw [hhas, if_pos rfl, Int.toNat_natCast, List.getD_eq_getElem?_getD, hl0] at hrd
            simp only [Option.getD_some] at hrd
            have hrf := HR7.out.rd i _ hl0
            have h32 := HR7.out.l32 _ (List.getElem_mem hil)
            generalize s.bl[i] = b at hrd hrf h32
            have HRD := Lib.hid hrd; have HRF := Lib.hid hrf; have H32 := Lib.hid h32
            have HSLI := Lib.hid (slice32 G i N (by have := HN.out; omega))
            have hiL' : (i : Int) < (L : Int) := by omega
            clear hl0 hrd hhas hrf h32 hil
            go_wp2_with fail
            refine HLN.out.mono ?_
            rintro e w3 ⟨rfl, rfl⟩
            go_wp2_with fail
            refine HRD.out.mono ?_
            rintro e w6 ⟨v6, rfl, hv6, hb6⟩
            obtain ⟨A6, c6, rfl⟩ := hv6.shape
            have hr6 := hv6.rd
            have hr8 := HR7.out.below hb6
            have g0 := hr8.e0
            rw [HSL.out, ← HN.out] at g0
            have KV := Lib.hid (fun W (e : W = w6.drew) => (show Rd W w6.heap.size A6 b.length b by rw [e]; exact hr6.drew))
            have KG := Lib.hid (fun W (e : W = w6.drew) => (show Rd W w3.heap.size (some ⟨G, 32 * i, none⟩) 32 b by rw [e]; exact (HRF.out.below hb6).drew))
            have H6 := Lib.hid (show DiskIs w6.drew F D s ∧ RefAt w6.drew E G s ∧ Below w.heap.size w w6.drew from ⟨DiskIs.drew (DiskIs.below ⟨gs7, r7, HA7.out, HF7.out⟩ hb6), hr8.drew, (HB7.out.trans (hb6.mono HB7.out.size)).drew⟩)
            clear hv6 hr6 hr8 hb6
            go_wp2_with fail
            refine wp_region_q (by kernel_rfl) (by kernel_rfl) ?_
            repeat (first | go_big_quiet_skip | (go_big_quiet_want; first | (refine quiet_slice_lh 22 (.tmp 143) (.tmp 145) (.tmp 148) rfl _ _ _ _ rfl rfl rfl HSLI.out ?_; simp only [Act.put, List.setIfInBounds_toArray, List.set_cons_succ, List.set_cons_zero]; go_big_quiet_on) | (refine quiet_str 22 9 5 (.tmp 138) rfl A6 _ c6 b rfl Try.underlying22 Try.underlying5 Try.underlying9 _ (KV.out) ?_; simp only [Act.put, List.setIfInBounds_toArray, List.set_cons_succ, List.set_cons_zero]; go_big_quiet_on) | (refine quiet_str 22 9 5 (.tmp 149) rfl (some ⟨G, 32 * i, none⟩) 32 (N - 32 * i) b rfl Try.underlying22 Try.underlying5 Try.underlying9 _ (KG.out) ?_; simp only [Act.put, List.setIfInBounds_toArray, List.set_cons_succ, List.set_cons_zero]; go_big_quiet_on) | (refine quiet_neq_same _ _ _ _ rfl b rfl rfl ?_; simp only [Act.put, List.setIfInBounds_toArray, List.set_cons_succ, List.set_cons_zero]; go_big_quiet_on) | (go_big_quiet_op; first | go_big_quiet_on | (refine ⟨_, fun _ _ => rfl, ?_⟩; go_big_quiet_on))))
            refine wpQuiet_nil ?_
            go_wp2_with fail
            go_roundw
            case rel => exact ⟨i + 1, by omega, by go_num, H6.out.1, H6.out.2.1, H6.out.2.2⟩
            case measure => simp [intOf]; omega
          · obtain rfl : i = L := by omega
            go_wp2_with fail
            refine HLN.out.mono ?_
            rintro e w3 ⟨rfl, rfl⟩
            go_wp2_with fail
            refine (answers14_any _).mono ?_
            rintro e w4 ⟨rfl, hb4⟩
            have HB4 := Lib.hid (HB7.out.trans (hb4.mono HB7.out.size))
            clear hb4
            go_wp2
            go_ret
            exact ⟨rfl, HB4.out⟩
end Go.Proofs.Ytpdihggdopdolaa
