/- The walk of layer 15's law SlotPlays. Conditions: the calls' bytes are no greater than a row's own reach. -/
import Derived.Test.YtpdihggdopdolaaLaw15p
namespace Go.Proofs.Ytpdihggdopdolaa
open Go.RowKit
theorem quiet_neq_same {P : Program} {C : World → Prop} {o : Oper} {a : Act} {K : Act → Prop} (t t' : TypeId) (x y : Operand) (ho : o.op = .binOp .neq t x y t') (l : List UInt8) (hx : a.eval x = .string ⟨l.toArray⟩) (hy : a.eval y = .string ⟨l.toArray⟩) (hK : K (a.put o.dst (.bool false))) : o.quiet P a C K := by
  refine ⟨_, fun w _ => ?_, hK⟩
  unfold Oper.quietAt execOp
  have h1 : (eqGuard .neq t x y (.string ⟨l.toArray⟩) (.string ⟨l.toArray⟩)) = pure () := rfl
  have h2 : (binOp .neq t (.string ⟨l.toArray⟩) (.string ⟨l.toArray⟩)) = pure (.bool false) := by rw [binOp_string_neq]; simp
  simp only [ho, hx, hy, h1, h2, Sem.run_bind, Sem.run_pure, Result.andThen_ok, Oper.quietUpon, and_self]
/-- A slice of calls, read. -/
def SOpsRd (w : World) (B : Nat) (A : Option Addr) (n : Nat) (os : List SOp) : Prop :=
  os.length = n ∧ (0 < n → ∃ ad, A = some ad ∧ ad.block < B ∧ ∀ (i : Nat) (o : SOp), os[i]? = some o → (o.n ≤ 9223372036854775807 ∧ o.b.length ≤ 140737488351232) ∧ ∃ (Ai : Option Addr) (ci : Nat), o.b.length ≤ ci ∧
    w.cell? (ad.add (i * 4)) = some (.int .i64 o.k) ∧ w.cell? (ad.add (i * 4 + 1)) = some (.int .i64 o.n) ∧ w.cell? (ad.add (i * 4 + 2)) = some (.int .u8 (o.x.toNat : Int)) ∧ w.cell? (ad.add (i * 4 + 3)) = some (.slice Ai o.b.length ci) ∧ Rd w B Ai o.b.length o.b)
theorem SOpsRd.below {w w' : World} {B n : Nat} {A : Option Addr} {os : List SOp} (h : SOpsRd w B A n os) (hb : Below B w w') : SOpsRd w' B A n os := by
  refine ⟨h.1, fun hn => ?_⟩
  obtain ⟨ad, hA, hB, hi⟩ := h.2 hn
  refine ⟨ad, hA, hB, fun i o ho => ?_⟩
  obtain ⟨h1, Ai, ci, hci, c0, c1, c2, c3, hr⟩ := hi i o ho
  have hc : ∀ j v, w.cell? (ad.add j) = some v → w'.cell? (ad.add j) = some v := fun j v hv => (hb.cell (by rw [block_of_add]; exact hB)).trans hv
  exact ⟨h1, Ai, ci, hci, hc _ _ c0, hc _ _ c1, hc _ _ c2, hc _ _ c3, hr.below hb⟩
theorem cell_add (ad : Addr) (i j : Nat) (hj : 0 < j) : ad.add (i + j) = ⟨(ad.add i).block, (ad.add i).off + j, none⟩ := by
  unfold Addr.add
  rw [if_neg (by omega)]
  split
  · next h => subst h; simp
  · simp [Nat.add_assoc]
/-- What a round is given. -/
structure SPIn (w wr : World) (B S R room j : Nat) (s : DS) (side : Nat) (p : PW) (kept : List UInt8) : Prop where
  duo : Duo wr B S R room s p kept
  ok : SOk s room side kept
  like : Like s.pw p
  sw : s.writes ≤ 2000 * j
  pw : p.writes ≤ 2000 * j
  lo : -1 ≤ p.left
  hi : p.left ≤ 9223372036854775807
  below : Below B w wr
/-- Behind the switch. -/
def Mid (w wx : World) (B S R O room : Nat) (m : Nat) (p : PW) (kept : List UInt8) : Prop :=
  ∃ s' side', DuoO wx B S R O room s' p kept ∧ SOk s' room side' kept ∧ Like s'.pw p ∧ s'.writes ≤ m ∧ Below B w wx
set_option maxRecDepth 100000 in
set_option maxHeartbeats 4000000 in
theorem SlotPlays_any (n0 : Int) (A : Option Addr) (m c : Nat) (w : World) (os : List SOp) (h0 : -9223372036854775808 ≤ n0) (h1 : n0 ≤ 9223372036854775807) (hm : m ≤ 9223372036854775807) (hr : SOpsRd w w.heap.size A m os) :
    Calls Try.prog 10 #[.int .i64 n0, .slice A m c] w fun e w' => e = .returned (.bool true) ∧ Below w.heap.size w w' := by
  have HR := Lib.hid hr; have HN := Lib.hid h1; have HN0 := Lib.hid h0
  clear hr h0 h1
  go_enter Try.func10, Try.ntmps10
  go_wp2_with fail
  refine (SNew_any w n0 HN.out).mono ?_
  rintro e w1 ⟨S, rfl, hs1, hb1⟩
  have HS1 := Lib.hid hs1; have HB1 := Lib.hid hb1
  clear hs1 hb1
  go_wp2_with fail
  refine (rnew_any w1 n0 HN.out HN0.out).mono ?_
  rintro e w2 ⟨rfl, hw2⟩
  obtain ⟨room, hroom⟩ : ∃ room : Nat, (room : Int) = min (max n0 0) 512 := ⟨(min (max n0 0) 512).toNat, by omega⟩
  have hrm : room ≤ 512 := by omega
  have hs1 := HS1.out
  rw [← hroom, Int.toNat_natCast] at hs1 hw2
  obtain ⟨hok1, _⟩ := SOk.new room hrm
  have hp1 : (DS.new (1 + 2 * (room : Int))).pw = ⟨-1, false, 0⟩ := rfl
  have hduo := Duo.new hs1 HB1.out.size
  rw [← hw2] at hduo
  have hb2 : Below w.heap.size w w2 := by rw [hw2]; exact HB1.out.alloc HB1.out.size _
  clear hw2 hroom hs1 HS1
  generalize w1.heap.size = R at hduo ⊢
  generalize hs1e : DS.new (1 + 2 * (room : Int)) = s1 at hok1 hp1 hduo
  clear hs1e
  have hlk : Like s1.pw ⟨-1, false, 0⟩ := by rw [hp1]; exact ⟨rfl, rfl⟩
  have hsw : s1.writes = 0 := congrArg PW.writes hp1
  generalize hBe : w.heap.size = B at HB1 hduo hb2 HR
  have HIN := Lib.hid (SPIn.mk hduo hok1 hlk (by rw [hsw]; omega) (by show 0 ≤ _; omega) (by show (-1 : Int) ≤ -1; omega) (by show (-1 : Int) ≤ _; omega) hb2 : SPIn w w2 B S R room 0 s1 0 ⟨-1, false, 0⟩ [])
  have HRM := Lib.hid hrm; have HBE := Lib.hid hBe; have HB2 := Lib.hid hb2; have HSZ := Lib.hid hduo.size
  clear hduo hok1 hlk hsw hp1 hb2 hrm hBe
  by_cases h100 : m > 100
  · have h100' : (m : Int) > 100 := by omega
    go_wp2_with fail
    refine (answers15_any _).mono ?_
    rintro e w3 ⟨rfl, hb3⟩
    have HB3 := Lib.hid (HB2.out.trans (hb3.mono HSZ.out))
    clear hb3
    go_wp2
    go_ret
    exact ⟨rfl, by rw [HBE.out]; exact HB3.out⟩
  · have h100' : ((m : Int) > 100) = False := eq_false (by omega)
    have hm1 : m ≤ 100 := by omega
    clear h100
    go_wp2_with fail
    go_loopw [7] (fun q wr => ∃ (j : Nat) (s : DS) (side : Nat) (p : PW) (kept : List UInt8), j ≤ m ∧ q = .int .i64 (j : Int) ∧ SPIn w wr B S R room j s side p kept) (fun q _ => m - (intOf q).toNat)
    case atStart => exact ⟨0, s1, 0, _, [], by omega, rfl, HIN.out⟩
    case round =>
      obtain ⟨j, s, side, p, kept, hj, rfl, hin⟩ := hrel
      have HI := Lib.hid hin
      clear hin
      by_cases hjm : j < m
      · have hjm' : (j : Int) < (m : Int) := by omega
        have hops := HR.out.below HI.out.below
        obtain ⟨ad, rfl, hadB, hall⟩ := hops.2 (by omega)
        obtain ⟨o, ho⟩ : ∃ o, os[j]? = some o := ⟨_, List.getElem?_eq_getElem (by rw [hops.1]; exact hjm)⟩
        obtain ⟨hon, Ai, ci, hci, c0, c1, c2, c3, hrd⟩ := hall j o ho
        rw [cell_add _ _ _ (by omega)] at c1 c2 c3
        have HRD := Lib.hid hrd; have HON := Lib.hid hon; have HCI := Lib.hid hci
        clear hops hall ho hrd hon hci
        go_upto_region 8 with (fail)
        have hx := Blk.new wr 55 #[.int .i64 o.k, .int .i64 o.n, .int .u8 (o.x.toNat : Int), .slice Ai o.b.length ci]
        have hb1 : Below wr.heap.size wr (wr.alloc (.cells #[.int .i64 o.k, .int .i64 o.n, .int .u8 (o.x.toNat : Int), .slice Ai o.b.length ci] 55)) := (Below.refl _ _).alloc (Nat.le_refl _) _
        have hd4 := HI.out.duo.opened (.cells #[.int .i64 o.k, .int .i64 o.n, .int .u8 (o.x.toNat : Int), .slice Ai o.b.length ci] 55)
        have hbw4 := HI.out.below.trans (hb1.mono HI.out.duo.size)
        have hrd4 := HRD.out.below (hb1.mono HI.out.duo.size)
        generalize wr.alloc (.cells #[.int .i64 o.k, .int .i64 o.n, .int .u8 (o.x.toNat : Int), .slice Ai o.b.length ci] 55) = w4 at *
        generalize wr.heap.size = O at *
        have p1 : w4.cell? ⟨O, 1, none⟩ = some (.int .i64 o.n) := (hx.cell 1).trans rfl
        obtain ⟨_, _, KA, Kc, hkc, _⟩ := hd4.duo.cells
        have HX := Lib.hid hx; have HD4 := Lib.hid hd4; have HBW4 := Lib.hid hbw4; have HRD4 := Lib.hid hrd4
        clear hx hd4 hbw4 hrd4 hb1 c0 c1 c2 c3
        obtain ⟨th, hth⟩ : ∃ th, th = decide (0 ≤ o.n ∧ o.n < (kept.length : Int)) := ⟨_, rfl⟩
        have HTH := Lib.hid hth
        clear hth
        go_cut [9] from 29 to 41 (fun s9 wx => s9 = .bool th ∧ wx = w4.drew)
        case first =>
          by_cases g1 : 0 ≤ o.n
          · by_cases g2 : o.n < (kept.length : Int)
            · have HPP := Lib.hid (show 0 ≤ o.n ∧ o.n < (kept.length : Int) from ⟨g1, g2⟩)
              refine wp_region_q (by kernel_rfl) (by kernel_rfl) ?_
              repeat (first | go_big_quiet_skip | (go_big_quiet_want; go_big_quiet_op; first | go_big_quiet_on))
              refine wpQuiet_nil ?_
              go_wp2_with fail
              go_meet
              exact ⟨by rw [HTH.out, decide_eq_true HPP.out], rfl⟩
            · have HPP := Lib.hid (show ¬ (0 ≤ o.n ∧ o.n < (kept.length : Int)) from fun h => g2 h.2)
              have g3 : decide (o.n < (kept.length : Int)) = false := decide_eq_false g2
              refine wp_region_q (by kernel_rfl) (by kernel_rfl) ?_
              repeat (first | go_big_quiet_skip | (go_big_quiet_want; go_big_quiet_op; first | go_big_quiet_on))
              refine wpQuiet_nil ?_
              go_wp2_with fail
              go_meet
              exact ⟨by rw [HTH.out, decide_eq_false HPP.out], rfl⟩
          · have HPP := Lib.hid (show ¬ (0 ≤ o.n ∧ o.n < (kept.length : Int)) from fun h => g1 h.1)
            have g3 : decide (0 ≤ o.n) = false := decide_eq_false g1
            refine wp_region_q (by kernel_rfl) (by kernel_rfl) ?_
            repeat (first | go_big_quiet_skip | (go_big_quiet_want; go_big_quiet_op; first | go_big_quiet_on))
            refine wpQuiet_nil ?_
            go_wp2_with fail
            go_meet
            exact ⟨by rw [HTH.out, decide_eq_false HPP.out], rfl⟩
        case rest =>
          obtain ⟨rfl, rfl⟩ := hcut
          clear p1 hkc
          have hb5 : Below w4.heap.size w4 w4.drew := (Below.refl _ _).drew
          have HX5 := Lib.hid (HX.out.below hb5 HX.out.lt); have HD5 := Lib.hid (HD4.out.below hb5); have HBW5 := Lib.hid HBW4.out.drew; have HRD5 := Lib.hid (HRD4.out.below (hb5.mono HD4.out.size))
          clear hb5 HX HD4 HBW4 HRD4
          generalize w4.drew = w5 at *
          have q0 : w5.cell? ⟨O, 0, none⟩ = some (.int .i64 o.k) := (HX5.out.cell 0).trans rfl
          have q1 : w5.cell? ⟨O, 1, none⟩ = some (.int .i64 o.n) := (HX5.out.cell 1).trans rfl
          have q2 : w5.cell? ⟨O, 2, none⟩ = some (.int .u8 (o.x.toNat : Int)) := (HX5.out.cell 2).trans rfl
          have q3 : w5.cell? ⟨O, 3, none⟩ = some (.slice Ai o.b.length ci) := (HX5.out.cell 3).trans rfl
          go_wp2_with fail
          refine (DuoO.do_ o Ai ci HD5.out HRD5.out HON.out.2 HRM.out HI.out.ok.takes HI.out.lo HI.out.hi (by have := HI.out.pw; omega)).mono ?_
          rintro e w6 ⟨rfl, hd6, hk6⟩
          have HD6 := Lib.hid hd6; have HX6 := Lib.hid (HX5.out.keeps hk6 (fun e => e.2 rfl)); have hbk := hk6.below (fun k e => e.1) HD5.out.size; have HBW6 := Lib.hid (HBW5.out.trans hbk); have HRD6 := Lib.hid (HRD5.out.below hbk)
          have hgood := stP_good (o := o) HRM.out HI.out.ok.takes HI.out.lo HI.out.hi HON.out.1
          have HGD := Lib.hid hgood
          clear hd6 hk6 hbk q0 q1 q2 q3 hgood HX5 HD5 HBW5 HRD5
          have q0 : w6.cell? ⟨O, 0, none⟩ = some (.int .i64 o.k) := (HX6.out.cell 0).trans rfl
          have q1 : w6.cell? ⟨O, 1, none⟩ = some (.int .i64 o.n) := (HX6.out.cell 1).trans rfl
          have q2 : w6.cell? ⟨O, 2, none⟩ = some (.int .u8 (o.x.toNat : Int)) := (HX6.out.cell 2).trans rfl
          have q3 : w6.cell? ⟨O, 3, none⟩ = some (.slice Ai o.b.length ci) := (HX6.out.cell 3).trans rfl
          go_upto_block 2 with (fail)
          go_cut [] (fun wx => Mid w wx B S R O room (s.writes + 2000) (stP p room kept o) (stK p room kept o))
          case first =>
            by_cases k1 : o.k = 1
            · have hs := save_ref (b := o.b) HI.out.ok
              have hE : (s.save room side kept o.b).1 = stE p room kept o := by unfold stE; rw [if_pos k1, hs.1]; exact HI.out.like.rsE ..
              have hL : Like (s.save room side kept o.b).2.pw (stP p room kept o) := by unfold stP; rw [if_pos k1, hs.2.1]; exact HI.out.like.rsP ..
              have hK : ∃ side', SOk (s.save room side kept o.b).2 room side' (stK p room kept o) := by
                obtain ⟨side', h9⟩ := hs.2.2
                refine ⟨side', ?_⟩
                unfold stK
                rw [if_pos k1, ← HI.out.like.rsK]
                exact h9
              have hW : (s.save room side kept o.b).2.writes ≤ s.writes + 2000 := by
                have h9 := congrArg PW.writes hs.2.1
                have h10 : (s.save room side kept o.b).2.writes = (rsP s.pw room (takesOf o.b.length) (takesOf kept.length)).writes := h9
                rw [h10]
                unfold rsP
                by_cases hc : room < takesOf o.b.length
                · rw [if_pos hc]; exact Nat.le_add_right _ _
                · rw [if_neg hc]
                  have h11 := run_writes (takesOf o.b.length + 1 + takesOf kept.length) s.pw
                  have h12 : s.pw.writes = s.writes := rfl
                  have := HI.out.ok.takes; have := HRM.out
                  omega
              have hsv := DuoO.save side kept o.b Ai ci HD6.out HI.out.ok HRD6.out HCI.out (by have := HI.out.sw; omega) HON.out.2
              rw [hE] at hsv
              have hne : (stE p room kept o != stE p room kept o) = false := by simp
              have HSV := Lib.hid hsv; have HL := Lib.hid hL; have HK := Lib.hid hK; have HW := Lib.hid hW
              have k1' : (o.k == 1) = true := by simpa using k1
              clear hs hE hL hK hW hsv k1
              go_wp2_with fail
              refine HSV.out.mono ?_
              rintro e w7 ⟨rfl, hd7, hk7⟩
              have H7 := Lib.hid (show Mid w w7 B S R O room (s.writes + 2000) (stP p room kept o) (stK p room kept o) from by
                obtain ⟨side', h9⟩ := HK.out
                exact ⟨_, side', hd7, h9, HL.out, HW.out, HBW6.out.trans (hk7.below (fun k e => e.1) HD6.out.size)⟩)
              clear hd7 hk7
              go_wp2_with fail
              go_meet
              exact H7.out
            · have k1' : (o.k == 1) = false := by simpa using k1
              by_cases k2 : o.k = 2
              · have hst := DuoO.start side kept HD6.out HI.out.ok (by have := HI.out.sw; omega)
                have hP : stP p room kept o = ⟨-1, false, p.writes⟩ := by unfold stP; rw [if_neg k1, if_pos k2]
                have hK : stK p room kept o = kept := by unfold stK; rw [if_neg k1, if_neg (by omega)]
                have HST := Lib.hid hst; have HP := Lib.hid hP; have HK := Lib.hid hK
                have k2' : (o.k == 2) = true := by simpa using k2
                clear hst hP hK k1 k2
                go_wp2_with fail
                refine HST.out.mono ?_
                rintro e w7 ⟨rfl, ⟨s7, hd7, hc7⟩, hk7⟩
                have H7 := Lib.hid (show Mid w w7 B S R O room (s.writes + 2000) (stP p room kept o) (stK p room kept o) from
                  ⟨s7, side, hd7, by rw [HK.out]; exact (started HI.out.ok hc7).1, by rw [HP.out]; exact ⟨hc7.fuse, hc7.down⟩, by have := hc7.writes; have := HRM.out; omega, HBW6.out.trans (hk7.below (fun k e => e.1) HD6.out.size)⟩)
                clear hd7 hk7 hc7
                go_wp2_with fail
                go_meet
                exact H7.out
              · have k2' : (o.k == 2) = false := by simpa using k2
                by_cases k3 : o.k = 3
                · have hst := DuoO.fuse o.n HON.out.1 HD6.out
                  have hP : stP p room kept o = ⟨max o.n 0, p.gone, p.writes⟩ := by unfold stP; rw [if_neg k1, if_neg k2, if_pos k3]
                  have hK : stK p room kept o = kept := by unfold stK; rw [if_neg k1, if_neg (by omega)]
                  have HST := Lib.hid hst; have HP := Lib.hid hP; have HK := Lib.hid hK
                  have k3' : (o.k == 3) = true := by simpa using k3
                  clear hst hP hK k1 k2 k3
                  go_wp2_with fail
                  refine HST.out.mono ?_
                  rintro e w7 ⟨rfl, hd7, hk7⟩
                  have H7 := Lib.hid (show Mid w w7 B S R O room (s.writes + 2000) (stP p room kept o) (stK p room kept o) from
                    ⟨_, side, hd7, by rw [HK.out]; exact HI.out.ok.bl rfl, by rw [HP.out]; exact ⟨rfl, HI.out.like.2⟩, Nat.le_add_right _ _, HBW6.out.trans (hk7.below (fun k e => e.1) HD6.out.size)⟩)
                  clear hd7 hk7
                  go_wp2_with fail
                  go_meet
                  exact H7.out
                · have k3' : (o.k == 3) = false := by simpa using k3
                  have hP : stP p room kept o = p := by unfold stP; rw [if_neg k1, if_neg k2, if_neg k3]
                  have HP := Lib.hid hP
                  clear hP
                  by_cases k4 : o.k = 4
                  · have hst := DuoO.turn side kept o.n o.x HD6.out HI.out.ok
                    have hK : stK p room kept o = if 0 ≤ o.n ∧ o.n < (kept.length : Int) then turned kept o.n.toNat o.x else kept := by unfold stK; rw [if_neg k1, if_pos k4]
                    have HST := Lib.hid hst; have HK := Lib.hid hK
                    have k4' : (o.k == 4) = true := by simpa using k4
                    clear hst hK k1 k2 k3 k4
                    rw [← HTH.out] at HST
                    have hne : (th != th) = false := by simp
                    go_wp2_with fail
                    refine HST.out.mono ?_
                    rintro e w7 ⟨rfl, ⟨s7, hd7, ho7, hp7⟩, hk7⟩
                    have H7 := Lib.hid (show Mid w w7 B S R O room (s.writes + 2000) (stP p room kept o) (stK p room kept o) from
                      ⟨s7, side, hd7, by rw [HK.out]; exact ho7, by rw [HP.out, hp7]; exact HI.out.like, by have h9 : s7.writes = s.writes := congrArg PW.writes hp7; omega, HBW6.out.trans (hk7.below (fun k e => e.1) HD6.out.size)⟩)
                    clear hd7 hk7 ho7 hp7
                    go_wp2_with fail
                    go_meet
                    exact H7.out
                  · have k4' : (o.k == 4) = false := by simpa using k4
                    have hK : stK p room kept o = kept := by unfold stK; rw [if_neg k1, if_neg k4]
                    have H7 := Lib.hid (show Mid w w6 B S R O room (s.writes + 2000) (stP p room kept o) (stK p room kept o) from
                      ⟨s, side, HD6.out, by rw [hK]; exact HI.out.ok, by rw [HP.out]; exact HI.out.like, Nat.le_add_right _ _, HBW6.out⟩)
                    clear hK k1 k2 k3 k4
                    go_wp2_with fail
                    go_meet
                    exact H7.out
          case rest =>
            obtain ⟨s', side', hd7, ho7, hl7, hw7, hb7⟩ := hcut
            generalize hpe : stP p room kept o = p' at hd7 hl7 HGD
            generalize hke : stK p room kept o = k' at hd7 ho7
            have HD7 := Lib.hid hd7; have HO7 := Lib.hid ho7; have HL7 := Lib.hid hl7; have HW7 := Lib.hid hw7; have HB7 := Lib.hid hb7
            obtain ⟨_, hgo, KA, Kc, hkc, hkr⟩ := hd7.duo.cells
            have HR7 := Lib.hid hd7.duo.rlt
            have HGO := Lib.hid (fun W (hW : Below wc.heap.size wc W) => (hW.cell (p := ⟨R, 3, none⟩) HR7.out).trans hgo : ∀ W, Below wc.heap.size wc W → W.cell? ⟨R, 3, none⟩ = some (.bool p'.gone))
            have HKC := Lib.hid (fun W (hW : Below wc.heap.size wc W) => (hW.cell (p := ⟨R, 5, none⟩) HR7.out).trans hkc : ∀ W, Below wc.heap.size wc W → W.cell? ⟨R, 5, none⟩ = some (.slice KA k'.length Kc))
            have HKR := Lib.hid (fun W (hW : Below wc.heap.size wc W) => hkr.below hW)
            have HDN := Lib.hid (show s'.down = p'.gone from hl7.2)
            clear q0 q1 q2 q3 hd7 ho7 hl7 hw7 hb7 hgo hkc hkr hpe hke HD6 HX6 HBW6 HRD6
            have hC0 : Below wc.heap.size wc wc.drew := (Below.refl _ _).drew
            go_upto_region 21 with (fail)
            refine wp_region_anyN (Below wc.heap.size wc) (by kernel_rfl) ?_
            refine anyC_takes (by kernel_rfl) (fun _ _ _ _ _ h => h) [0, 3, 4, 5, 6, 7] 12 _ _ (by kernel_rfl) ?_
            simp only [List.filterMap_cons, List.filterMap_nil, List.getElem?_toArray, List.getElem?_cons_succ, List.getElem?_cons_zero]
            show wpQuiet _ _ _ _ (_ :: _ :: _ :: _ :: _ :: _ :: List.nil) _
            repeat (first | go_big_quiet_skip | (go_big_quiet_want; first | (refine quiet_load _ _ rfl ⟨R, 5, none⟩ rfl _ HKC.out (fun _ => by kernel_rfl) ?_; simp only [Act.put, List.setIfInBounds_toArray, List.set_cons_succ, List.set_cons_zero]; go_big_quiet_on) | (refine quiet_str 22 9 5 (.tmp 81) rfl KA _ Kc k' rfl Try.underlying22 Try.underlying5 Try.underlying9 _ HKR.out ?_; simp only [Act.put, List.setIfInBounds_toArray, List.set_cons_succ, List.set_cons_zero]; go_big_quiet_on) | (go_big_quiet_op; first | go_big_quiet_on | (refine ⟨_, fun _ _ => rfl, ?_⟩; go_big_quiet_on))))
            refine wpQuiet_nil ?_
            refine anyC_only (i := 1) rfl (by kernel_rfl) hC0 ?_
            go_wp2_with fail
            refine (Load_any wc.drew _ S room s' side' k' (HD7.out.below hC0).duo.slot HO7.out).mono ?_
            rintro e w8 ⟨A8, c8, rfl, hr8, hb8⟩
            have HB8 := Lib.hid (hC0.trans hb8)
            have HR8 := Lib.hid (fun W (hW : Below w8.heap.size w8 W) => hr8.below hW)
            have HC8 := Lib.hid (fun W (hW : Below w8.heap.size w8 W) => HB8.out.trans (hW.mono HB8.out.size) : ∀ W, Below w8.heap.size w8 W → Below wc.heap.size wc W)
            have HGO8 := Lib.hid (fun W (hW : Below w8.heap.size w8 W) => HGO.out W (HC8.out W hW))
            clear hr8 hb8
            go_wp2_with fail
            refine anyC_narrow (C' := Below w8.heap.size w8) HC8.out _ _ _ _ ?_
            refine anyC_takes (by kernel_rfl) (fun _ _ _ _ _ h => h) [2, 8, 9, 10, 12, 13, 14, 15] 3 _ _ (by kernel_rfl) ?_
            simp only [List.filterMap_cons, List.filterMap_nil, List.getElem?_toArray, List.getElem?_cons_succ, List.getElem?_cons_zero]
            show wpQuiet _ _ _ _ (_ :: _ :: _ :: _ :: _ :: _ :: _ :: _ :: List.nil) _
            repeat (first | go_big_quiet_skip | (go_big_quiet_want; first | (refine quiet_str 22 9 5 (.tmp 76) rfl A8 _ c8 k' rfl Try.underlying22 Try.underlying5 Try.underlying9 _ HR8.out ?_; simp only [Act.put, List.setIfInBounds_toArray, List.set_cons_succ, List.set_cons_zero]; go_big_quiet_on) | (refine quiet_neq_same _ _ _ _ rfl k' rfl rfl ?_; simp only [Act.put, List.setIfInBounds_toArray, List.set_cons_succ, List.set_cons_zero]; go_big_quiet_on) | (refine quiet_load _ _ rfl ⟨R, 3, none⟩ rfl _ HGO8.out (fun _ => by kernel_rfl) ?_; simp only [Act.put, List.setIfInBounds_toArray, List.set_cons_succ, List.set_cons_zero]; go_big_quiet_on) | (go_big_quiet_op; first | go_big_quiet_on | (refine ⟨_, fun _ _ => rfl, ?_⟩; go_big_quiet_on))))
            refine wpQuiet_nil ?_
            refine anyC_only (i := 11) rfl (by kernel_rfl) (Below.refl _ _) ?_
            go_wp2_with fail
            have hd8 := HD7.out.below HB8.out
            refine (SDown_any w8 _ S room s' hd8.duo.slot).mono ?_
            rintro e w9 ⟨rfl, hw9⟩
            rw [hw9, HDN.out]
            have hne9 : (p'.gone != p'.gone) = false := by simp
            have HD8 := Lib.hid hd8
            clear hd8 hw9
            go_wp2_with fail
            refine anyC_takes (by kernel_rfl) (fun _ _ _ _ _ h => h) [16, 17] 0 _ _ (by kernel_rfl) ?_
            simp only [List.filterMap_cons, List.filterMap_nil, List.getElem?_toArray, List.getElem?_cons_succ, List.getElem?_cons_zero]
            show wpQuiet _ _ _ _ (_ :: _ :: List.nil) _
            repeat (first | go_big_quiet_skip | (go_big_quiet_want; first | (refine pick_false _ _ _ rfl rfl (.bool false) rfl ?_; simp only [Act.put, List.setIfInBounds_toArray, List.set_cons_succ, List.set_cons_zero]; go_big_quiet_on) | (go_big_quiet_op; first | go_big_quiet_on | (refine ⟨_, fun _ _ => rfl, ?_⟩; go_big_quiet_on))))
            refine wpQuiet_nil ?_
            refine ⟨Below.refl _ _, by kernel_rfl, ?_⟩
            go_wp2_with fail
            go_roundw
            case rel => exact ⟨j + 1, s', side', p', k', by omega, by go_num, HD8.out.duo, HO7.out, HL7.out, by have := HW7.out; have := HI.out.sw; omega, by have := HGD.out.2.2; have := HI.out.pw; omega, HGD.out.1, HGD.out.2.1, HB7.out.trans (HB8.out.mono HD7.out.size)⟩
            case measure => simp [intOf]; omega
      · obtain rfl : j = m := by omega
        have hb := HI.out.below; have hsz := HI.out.duo.size
        have HBS := Lib.hid hb; have HSS := Lib.hid hsz
        clear hb hsz
        go_wp2_with fail
        refine (answers15_any wr).mono ?_
        rintro e w4 ⟨rfl, hb4⟩
        have HB4 := Lib.hid (HBS.out.trans (hb4.mono HSS.out))
        clear hb4
        go_wp2
        go_ret
        exact ⟨rfl, by rw [HBE.out]; exact HB4.out⟩
end Go.Proofs.Ytpdihggdopdolaa
