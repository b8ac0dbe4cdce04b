/- The walk of layer 19's law BookSorted. No conditions. -/
import Derived.Test.YtlabebapjhhkaaaBkL
namespace Go.Proofs.Ytlabebapjhhkaaa
open Go.RowKit Go.Shelf
theorem quiet_geq_str2 {P : Program} {C : World → Prop} {o : Oper} {a : Act} {K : Act → Prop} (t t' : TypeId) (x y : Operand) (ho : o.op = .binOp .geq t x y t') (s u : List UInt8) (hx : a.eval x = .string ⟨s.toArray⟩) (hy : a.eval y = .string ⟨u.toArray⟩) (hl : ltB s u) (hK : K (a.put o.dst (.bool false))) : o.quiet P a C K := by
  refine quiet_geq_str t t' x y ho s u hx hy ?_
  rw [decide_eq_true (show Lib.compareBytes s u < 0 from hl)]
  exact hK
set_option maxRecDepth 100000 in
set_option maxHeartbeats 4000000 in
theorem BookSorted_law (q0 : PrmI) (A : Option Addr) (n c : Nat) (w : World) (qs : List OpP) (hn : n ≤ 9223372036854775807) (hp : q0.Ok) (hl : OpsK w w.heap.size A n qs) :
    Calls Try.prog 8 #[.agg q0.arr, .slice A n c] w fun e w' => e = .returned (.bool true) ∧ Below w.heap.size w w' := by
  have HL := Lib.hid hl; have HLN := Lib.hid hl.len
  have HGOOD := Lib.hid (fun w => Good_any w q0)
  clear hl hp
  obtain ⟨N, T, Kk, E, Room⟩ := q0
  dsimp only [PrmI.arr] at HGOOD ⊢
  go_enter Try.func8, Try.ntmps8
  go_upto_region 1 with (fail)
  have hb := below1 w (.cells #[.int .i64 N, .int .i64 T, .int .i64 Kk, .int .i64 E, .int .i64 Room] 23)
  have hB := Blk.new w 23 #[.int .i64 N, .int .i64 T, .int .i64 Kk, .int .i64 E, .int .i64 Room]
  obtain ⟨b, hbe⟩ : ∃ b, b = w.heap.size := ⟨_, rfl⟩
  rw [← hbe] at hB ⊢
  generalize w.alloc (.cells #[.int .i64 N, .int .i64 T, .int .i64 Kk, .int .i64 E, .int .i64 Room] 23) = w1 at hb hB ⊢
  have HB := Lib.hid hb; have HBB := Lib.hid hB
  clear hb hB hbe
  go_wp2_with (refine wpList_load_row rfl 23 (.tmp 2) rfl b rfl _ _ _ _ HBB.out Try.underlying23 rfl (by kernel_rfl) ?_)
  refine (HGOOD.out w1).mono ?_
  rintro e w2 ⟨gd, rfl, hg, hb2⟩
  have HB2 := Lib.hid (HB.out.trans (hb2.mono HB.out.size)); have HBB2 := Lib.hid (HBB.out.below hb2 HBB.out.lt); have HG := Lib.hid hg
  clear hb2 hg HB HBB HGOOD
  have hans := fun w => answers19_any w
  cases gd with
  | false =>
    go_wp2_with fail
    refine (answers19_any w2).mono ?_
    rintro e w3 ⟨rfl, hb3⟩
    go_wp2
    go_ret
    exact ⟨rfl, HB2.out.trans (hb3.mono HB2.out.size)⟩
  | true =>
  by_cases hn2 : (200 : Int) < (n : Int)
  · go_wp2_with fail
    refine (answers19_any w2).mono ?_
    rintro e w3 ⟨rfl, hb3⟩
    go_wp2
    go_ret
    exact ⟨rfl, HB2.out.trans (hb3.mono HB2.out.size)⟩
  obtain ⟨hN0, hN1⟩ := HG.out rfl
  obtain ⟨N, rfl⟩ : ∃ N' : Nat, N = N' := ⟨N.toNat, by omega⟩
  have HNEW := Lib.hid (BNew_any w2 ⟨N, T, Kk, E, Room⟩ (by show N ≤ 255; omega))
  dsimp only [prmC] at HNEW
  clear hN0 hN1 HG hans
  go_upto_region 4 with (first | refine wpList_load_row rfl 23 (.tmp 2) rfl b rfl _ _ _ _ HBB2.out Try.underlying23 rfl (by kernel_rfl) ?_ | (go_at_call 11; refine HNEW.out.mono ?_; rintro e w3 ⟨K, rfl, hk3, hb3⟩))
  have HK3 := Lib.hid (hk3.weaken (G := fun k => w.heap.size ≤ k) (fun k e => Nat.le_trans HB2.out.size e)); have HB3 := Lib.hid (HB2.out.trans (hb3.mono HB2.out.size))
  clear hk3 hb3 HNEW HBB2 HB2
  have hn200 : n ≤ 200 := by omega
  go_wp2_with fail
  go_loopw [6, 7, 8, 20, 21, 22, 23, 24, 25, 26, 27, 28, 29, 30, 31, 32, 33, 34, 35, 36, 37, 38, 39, 40, 41, 42, 43, 44, 45, 46, 47, 48, 49, 50, 51, 52, 53, 54, 55] (fun q _ _ _ _ _ _ _ _ _ _ _ _ _ _ _ _ _ _ _ _ _ _ _ _ _ _ _ _ _ _ _ _ _ _ _ _ _ _ wr => ∃ (j : Nat) (m : BM), j ≤ n ∧ q = .int .i64 (j : Int) ∧ KbIs wr (fun k => w.heap.size ≤ k) K ⟨N, T, Kk, E, Room⟩ m ∧ m.pw.writes ≤ 2000 * j ∧ Below w.heap.size w wr) (fun q _ _ _ _ _ _ _ _ _ _ _ _ _ _ _ _ _ _ _ _ _ _ _ _ _ _ _ _ _ _ _ _ _ _ _ _ _ _ _ => n - (intOf q).toNat)
  case atStart => exact ⟨0, BM.new N, by omega, rfl, HK3.out, Nat.zero_le _, HB3.out⟩
  case round =>
    obtain ⟨j, m, hj, rfl, hk, hw, hb⟩ := hrel
    have HK := Lib.hid hk; have HW := Lib.hid hw; have HBW := Lib.hid hb
    clear hk hw hb
    by_cases hjn : j < n
    · have hjn' : (j : Int) < (n : Int) := by omega
      have hlk := HL.out.below HBW.out
      obtain ⟨ad, rfl, had, hall⟩ := hlk.at_ (by omega)
      obtain ⟨q, hq⟩ : ∃ q, qs[j]? = some q := ⟨_, List.getElem?_eq_getElem (by have := HLN.out; omega)⟩
      obtain ⟨hcell, hqo⟩ := hall j q hq
      have HCE := Lib.hid hcell
      have HDO := Lib.hid (do_any wr (fun k => w.heap.size ≤ k) K ⟨N, T, Kk, E, Room⟩ m q.o q.A q.c HK.out (by have := HW.out; omega) (hqo.rd.more HBW.out.size) hqo.len hqo.n1)
      clear hlk hall hq hcell hqo
      go_upto_region 8 with (first | refine wpList_load_at rfl 38 (.tmp 29) rfl (ad.add (j * 5)) rfl q.arr _ HCE.out Try.underlying38 rfl (by kernel_rfl) ?_ | (go_at_call 13; refine HDO.out.mono ?_; rintro e w4 ⟨rr, M, hdo, rfl, hk4, hkp4⟩))
      obtain ⟨hk4', hb4⟩ := kb_next HBW.out hk4 hkp4 HBW.out.size
      have hrose := dor_rose HK.out.good hdo
      have hok := hk4'.good
      have HK4 := Lib.hid hk4'; have HB4 := Lib.hid hb4; have HW4 := Lib.hid (show M.pw.writes ≤ 2000 * (j + 1) by have := hrose.writes; have := HW.out; omega)
      have HOK := Lib.hid hok
      clear hk4 hkp4 hk4' hb4 hrose hok hdo HCE HDO
      go_wp2_with fail
      refine (View_any w4 _ K _ M HK4.out).mono ?_
      rintro e w5 ⟨Ad, Au, Ac, cd, cu, cc, rfl, ho, hb5⟩
      have hrd := ho.rd.dir
      have HRD := Lib.hid hrd; have HB5 := Lib.hid (HB4.out.trans (hb5.mono HB4.out.size)); have HK5 := Lib.hid (HK4.out.below hb5)
      have hd8 := HOK.out.kv.good.dl
      have HSRT := Lib.hid HOK.out.kv.good.srt
      clear ho hb5 hrd
      obtain ⟨l, hle⟩ : ∃ l, l = M.v.dir := ⟨_, rfl⟩
      dsimp only [bookCells]
      rw [← hle] at HRD hd8 HSRT ⊢
      clear hle
      have HD8 := Lib.hid hd8
      have hfl : ∀ W, (Instr.field 44 (.agg #[.int .i64 M.v.session, .int .i64 M.v.decided, .int .i64 M.v.epoch, .slice Ad l.length cd, .slice Au M.v.up.length cu, .slice Ac M.v.commit.length cc]) 3).run Try.prog W = .ok (.slice Ad l.length cd) W := fun W => by rfl
      go_wp2_with fail
      clear hfl
      go_loopw [8, 35, 36, 37, 38, 39, 40, 41, 42, 43, 44, 45, 46, 47, 48, 49, 50, 51, 52] (fun q _ _ _ _ _ _ _ _ _ _ _ _ _ _ _ _ _ _ wi => ∃ i : Nat, 1 ≤ i ∧ (i ≤ l.length ∨ i = 1) ∧ q = .int .i64 (i : Int) ∧ Below w5.heap.size w5 wi) (fun q _ _ _ _ _ _ _ _ _ _ _ _ _ _ _ _ _ _ _ => l.length - (intOf q).toNat)
      case atStart => exact ⟨1, by omega, Or.inr rfl, rfl, Below.refl _ _⟩
      case' round =>
        obtain ⟨i, hi1, hil, rfl, hbi⟩ := hrel
        have HBI := Lib.hid hbi
        have hrdi := HRD.out.off (Keeps.of_below (F := fun _ => False) hbi) (Nat.le_refl _) (fun _ _ _ e => e)
        clear hbi
        by_cases hin : i < l.length
        · have hin' : (i : Int) < (l.length : Int) := by omega
          obtain ⟨dd, rfl, _, hc⟩ := hrdi (by omega)
          have hx := List.getElem?_eq_getElem hin
          have hy := List.getElem?_eq_getElem (show i - 1 < l.length by omega)
          obtain ⟨c0, _⟩ := hc i _ hx
          obtain ⟨d0, _⟩ := hc (i - 1) _ hy
          have hlt := rising_at HSRT.out hy hx (by omega)
          generalize l[i] = x at c0 hlt
          generalize l[i - 1] = y at d0 hlt
          have HLT := Lib.hid hlt
          have hi2 : (i : Int) - 1 = ((i - 1 : Nat) : Int) := by omega
          have hi3 : ((i - 1 : Nat) : Int) < (l.length : Int) := by omega
          clear hx hy hc hlt hrdi
          go_wp2_with fail
          refine wp_region_q (by kernel_rfl) (by kernel_rfl) ?_
          repeat (first | go_big_quiet_skip | (go_big_quiet_want; first | (refine quiet_geq_str2 9 9 (.tmp 46) (.tmp 51) rfl y.id x.id rfl rfl HLT.out ?_; simp only [Act.put, List.setIfInBounds_toArray, List.set_cons_succ, List.set_cons_zero]; go_big_quiet_on) | (go_big_quiet_op; first | go_big_quiet_on | (refine ⟨_, fun _ _ => rfl, ?_⟩; go_big_quiet_on))))
          refine wpQuiet_nil ?_
          go_wp2_with fail
          go_roundw
          case rel => exact ⟨i + 1, by omega, Or.inl (by omega), by go_num, HBI.out.drew⟩
          case measure => simp [intOf]; omega
        · have hin' : ¬ (i : Int) < (l.length : Int) := by omega
          have h8 : ¬ (8 : Int) < (l.length : Int) := by have := HD8.out; omega
          go_wp2_with fail
          go_roundw
          case rel => exact ⟨j + 1, M, by omega, by go_num, HK5.out.below HBI.out, HW4.out, HB5.out.trans (HBI.out.mono HB5.out.size)⟩
          case measure => simp [intOf]; omega
    · obtain rfl : j = n := by omega
      go_wp2_with fail
      refine (answers19_any wr).mono ?_
      rintro e w3 ⟨rfl, hb3⟩
      go_wp2
      go_ret
      exact ⟨rfl, HBW.out.trans (hb3.mono HBW.out.size)⟩
end Go.Proofs.Ytlabebapjhhkaaa
