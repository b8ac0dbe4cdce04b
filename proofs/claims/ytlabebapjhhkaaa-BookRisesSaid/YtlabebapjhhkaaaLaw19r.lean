/- The walk of layer 19's law BookRises. No conditions. -/
import Derived.Test.YtlabebapjhhkaaaBkL
namespace Go.Proofs.Ytlabebapjhhkaaa
open Go.RowKit Go.Shelf
theorem add_zero' (a : Addr) : a.add 0 = a := by unfold Addr.add; rw [if_pos rfl]
/-- A book, behind so many calls; a block G is no part of it. -/
theorem kb_nextG {w wr w' : World} {B K G : Nat} {p : PrmV} {M : BM} (hb : Below B w wr) (h : KbIs w' (Grown (fun k => B ≤ k ∧ k ≠ G) wr) K p M) (hk : Keeps (fun k => B ≤ k ∧ k ≠ G) wr w') (hB : B ≤ wr.heap.size) (hG : G < wr.heap.size) : KbIs w' (fun k => B ≤ k ∧ k ≠ G) K p M ∧ Below B w w' :=
  ⟨h.weaken (fun k e => by rcases e with e | e; exact e; exact ⟨by omega, by omega⟩), hb.trans (hk.below (fun _ e => e.1) hB)⟩
set_option maxRecDepth 100000 in
set_option maxHeartbeats 4000000 in
theorem BookRises_law (q0 : PrmI) (A : Option Addr) (n c : Nat) (w : World) (qs : List OpP) (hn : n ≤ 9223372036854775807) (hp : q0.Ok) (hl : OpsK w w.heap.size A n qs) :
    Calls Try.prog 5 #[.agg q0.arr, .slice A n c] w fun e w' => e = .returned (.bool true) ∧ Below w.heap.size w w' := by
  have HL := Lib.hid hl; have HLN := Lib.hid hl.len
  have HGOOD := Lib.hid (fun w => Good_any w q0)
  clear hl hp
  obtain ⟨N, T, Kk, E, Room⟩ := q0
  dsimp only [PrmI.arr] at HGOOD ⊢
  go_enter Try.func5, Try.ntmps5
  go_upto_region 1 with (fail)
  have hb := below1 w (.cells #[.int .i64 N, .int .i64 T, .int .i64 Kk, .int .i64 E, .int .i64 Room] 23)
  have hB := Blk.new w 23 #[.int .i64 N, .int .i64 T, .int .i64 Kk, .int .i64 E, .int .i64 Room]
  obtain ⟨b, hbe⟩ : ∃ b, b = w.heap.size := ⟨_, rfl⟩
  rw [← hbe] at hB ⊢
  generalize w.alloc (.cells #[.int .i64 N, .int .i64 T, .int .i64 Kk, .int .i64 E, .int .i64 Room] 23) = w1 at hb hB ⊢
  have HB := Lib.hid hb; have HBB := Lib.hid hB
  clear hb hB hbe
  go_wp2_with (refine wpList_load_row rfl 23 (.tmp 2) rfl b rfl _ _ _ _ HBB.out Try.underlying23 rfl (by kernel_rfl) ?_)
  refine (HGOOD.out w1).mono ?_
  rintro e w2 ⟨gd, rfl, hg, hb2⟩
  have HB2 := Lib.hid (HB.out.trans (hb2.mono HB.out.size)); have HBB2 := Lib.hid (HBB.out.below hb2 HBB.out.lt); have HG := Lib.hid hg
  clear hb2 hg HB HBB HGOOD
  have hans := fun w => answers19_any w
  cases gd with
  | false =>
    go_wp2_with fail
    refine (answers19_any w2).mono ?_
    rintro e w3 ⟨rfl, hb3⟩
    go_wp2
    go_ret
    exact ⟨rfl, HB2.out.trans (hb3.mono HB2.out.size)⟩
  | true =>
  by_cases hn2 : (200 : Int) < (n : Int)
  · go_wp2_with fail
    refine (answers19_any w2).mono ?_
    rintro e w3 ⟨rfl, hb3⟩
    go_wp2
    go_ret
    exact ⟨rfl, HB2.out.trans (hb3.mono HB2.out.size)⟩
  obtain ⟨hN0, hN1⟩ := HG.out rfl
  obtain ⟨N, rfl⟩ : ∃ N' : Nat, N = N' := ⟨N.toNat, by omega⟩
  have HNEW := Lib.hid (BNew_any w2 ⟨N, T, Kk, E, Room⟩ (by show N ≤ 255; omega))
  dsimp only [prmC] at HNEW
  clear hN0 hN1 HG hans
  go_upto_region 4 with (first | refine wpList_load_row rfl 23 (.tmp 2) rfl b rfl _ _ _ _ HBB2.out Try.underlying23 rfl (by kernel_rfl) ?_ | (go_at_call 11; refine HNEW.out.mono ?_; rintro e w3 ⟨K, rfl, hk3, hb3⟩))
  have HK3 := Lib.hid (hk3.weaken (G := fun k => w.heap.size ≤ k) (fun k e => Nat.le_trans HB2.out.size e)); have HB3 := Lib.hid (HB2.out.trans (hb3.mono HB2.out.size))
  clear hk3 hb3 HNEW HBB2 HB2
  have hn200 : n ≤ 200 := by omega
  go_wp2_with fail
  refine (View_any w3 _ K _ _ HK3.out).mono ?_
  rintro e w4 ⟨Ad, Au, Ac, cd, cu, cc, rfl, ho, hb4⟩
  have HK4 := Lib.hid (HK3.out.tight.below hb4); have HB4 := Lib.hid (HB3.out.trans (hb4.mono HB3.out.size)); have HS34 := Lib.hid hb4.size
  clear ho hb4
  obtain ⟨G, hGe⟩ : ∃ G, G = w4.heap.size := ⟨_, rfl⟩
  have hV0 := Blk.new w4 44 (bookCells (BM.new N).v Ad Au Ac cd cu cc)
  have hal0 := below1 w4 (.cells (bookCells (BM.new N).v Ad Au Ac cd cu cc) 44)
  obtain ⟨w5, hw5⟩ : ∃ w5, w5 = w4.alloc (.cells (bookCells (BM.new N).v Ad Au Ac cd cu cc) 44) := ⟨_, rfl⟩
  rw [← hw5] at hV0 hal0
  rw [← hGe] at hV0
  have HK5 := Lib.hid ((HK4.out.below hal0).weaken (G := fun k => w.heap.size ≤ k ∧ k ≠ G) (fun k e => ⟨e.1, by have := HS34.out; have := e.2; omega⟩))
  have HB5 := Lib.hid (HB4.out.trans (hal0.mono HB4.out.size)); have HG5 := Lib.hid hV0; have HGB := Lib.hid (show w.heap.size ≤ G by rw [hGe]; exact HB4.out.size)
  have hw5' : w4.alloc (.cells #[.int .i64 (BM.new N).v.session, .int .i64 (BM.new N).v.decided, .int .i64 (BM.new N).v.epoch, .slice Ad (BM.new N).v.dir.length cd, .slice Au (BM.new N).v.up.length cu, .slice Ac (BM.new N).v.commit.length cc] 44) = w5 := hw5.symm
  have HW5 := Lib.hid hw5'; have HGE := Lib.hid hGe
  clear hV0 hal0 hw5 hw5' hGe
  go_upto_region 5 with (fail)
  rw [HW5.out, ← HGE.out]
  clear HK3 HB3 HK4 HB4 HS34 HW5 HGE
  go_wp2_with fail
  go_loopw [6, 8, 9, 10, 11, 25, 26, 27, 28, 29, 30, 31, 32, 33, 34, 35, 36, 37, 38, 39, 40, 41, 42, 43, 44, 45, 46, 47, 48, 49, 50, 51, 52, 53, 54, 55, 56, 57, 58, 59, 60, 61, 62, 63, 64, 65, 66, 67, 68, 69, 70, 71, 72, 73, 74, 75, 76, 77, 78, 79, 80, 81, 82, 83, 84, 85, 86, 87, 88, 89, 90, 91, 92, 93, 94, 95, 96] (fun la q _ _ _ _ _ _ _ _ _ _ _ _ _ _ _ _ _ _ _ _ _ _ _ _ _ _ _ _ _ _ _ _ _ _ _ _ _ _ _ _ _ _ _ _ _ _ _ _ _ _ _ _ _ _ _ _ _ _ _ _ _ _ _ _ _ _ _ _ _ _ _ _ _ _ _ wr => ∃ (j : Nat) (m : BM) (last : Int) (Ad Au Ac : Option Addr) (cd cu cc : Nat), j ≤ n ∧ la = .int .i64 last ∧ q = .int .i64 (j : Int) ∧ last ≤ m.v.session ∧ KbIs wr (fun k => w.heap.size ≤ k ∧ k ≠ G) K ⟨N, T, Kk, E, Room⟩ m ∧ m.pw.writes ≤ 2000 * j ∧ Below w.heap.size w wr ∧ Blk wr G 44 (bookCells m.v Ad Au Ac cd cu cc)) (fun _ q _ _ _ _ _ _ _ _ _ _ _ _ _ _ _ _ _ _ _ _ _ _ _ _ _ _ _ _ _ _ _ _ _ _ _ _ _ _ _ _ _ _ _ _ _ _ _ _ _ _ _ _ _ _ _ _ _ _ _ _ _ _ _ _ _ _ _ _ _ _ _ _ _ _ _ _ => n - (intOf q).toNat)
  case atStart => exact ⟨0, BM.new N, 0, Ad, Au, Ac, cd, cu, cc, by omega, rfl, rfl, Int.le_refl _, HK5.out, Nat.zero_le _, HB5.out, HG5.out⟩
  case round =>
    obtain ⟨j, m, last, Ad, Au, Ac, cd, cu, cc, hj, rfl, rfl, hla, hk, hw, hb, hG⟩ := hrel
    have HK := Lib.hid hk; have HW := Lib.hid hw; have HBW := Lib.hid hb; have HG := Lib.hid hG; have HLA := Lib.hid hla
    clear hk hw hb hG hla
    by_cases hjn : j < n
    · have hjn' : (j : Int) < (n : Int) := by omega
      have hlk := HL.out.below HBW.out
      obtain ⟨ad, rfl, had, hall⟩ := hlk.at_ (by omega)
      obtain ⟨q, hq⟩ : ∃ q, qs[j]? = some q := ⟨_, List.getElem?_eq_getElem (by have := HLN.out; omega)⟩
      obtain ⟨hcell, hqo⟩ := hall j q hq
      have HCE := Lib.hid hcell; have HQJ := Lib.hid hq
      have HDO := Lib.hid (do_any wr (fun k => w.heap.size ≤ k ∧ k ≠ G) K ⟨N, T, Kk, E, Room⟩ m q.o q.A q.c HK.out (by have := HW.out; omega) (hqo.rd.more HBW.out.size) hqo.len hqo.n1)
      clear hlk hall hq hcell hqo
      go_upto_region 9 with (first | refine wpList_load_at rfl 38 (.tmp 35) rfl (ad.add (j * 5)) rfl q.arr _ HCE.out Try.underlying38 rfl (by kernel_rfl) ?_ | (go_at_call 13; refine HDO.out.mono ?_; rintro e w4 ⟨rr, M, hdo, rfl, hk4, hkp4⟩))
      have hG4 := HG.out.keeps hkp4 (fun e => e.2 rfl)
      obtain ⟨hk4', hb4⟩ := kb_nextG HBW.out hk4 hkp4 HBW.out.size HG.out.lt
      have hrose := dor_rose HK.out.good hdo
      have hok := hk4'.good
      have HK4 := Lib.hid hk4'; have HB4 := Lib.hid hb4; have HW4 := Lib.hid (show M.pw.writes ≤ 2000 * (j + 1) by have := hrose.writes; have := HW.out; omega)
      have HDR := Lib.hid (show q.o.k = 1 → rr.2 = 0 → rr.1 = m.v.session + 1 ∧ M.v.session = m.v.session + 1 from fun h1 h0 => dor_begin hdo h1 h0)
      have HROSE := Lib.hid hrose; have HGV := Lib.hid hok.kv.good; have HG4 := Lib.hid hG4
      clear hk4 hkp4 hk4' hb4 hrose hok hdo HDO hG4 HK HW HBW HG
      go_wp2_with fail
      refine (View_any w4 _ K _ M HK4.out).mono ?_
      rintro e w5 ⟨Bd, Bu, Bc, dd, du, dc, rfl, ho, hb5⟩
      clear ho
      obtain ⟨G2, hG2e⟩ : ∃ G2, G2 = w5.heap.size := ⟨_, rfl⟩
      have hV2 := Blk.new w5 44 (bookCells M.v Bd Bu Bc dd du dc)
      have hal2 := below1 w5 (.cells (bookCells M.v Bd Bu Bc dd du dc) 44)
      obtain ⟨w6, hw6⟩ : ∃ w6, w6 = w5.alloc (.cells (bookCells M.v Bd Bu Bc dd du dc) 44) := ⟨_, rfl⟩
      rw [← hw6] at hV2 hal2
      rw [← hG2e] at hV2
      have HB6 := Lib.hid ((HB4.out.trans (hb5.mono HB4.out.size)).trans (hal2.mono (Nat.le_trans HB4.out.size hb5.size)))
      have HK6 := Lib.hid ((HK4.out.below hb5).below hal2); have hg6 := (HG4.out.below hb5 HG4.out.lt).below hal2 (HG4.out.below hb5 HG4.out.lt).lt
      have HG6 := Lib.hid hg6; have HG2 := Lib.hid hV2
      have hw6' : w5.alloc (.cells #[.int .i64 M.v.session, .int .i64 M.v.decided, .int .i64 M.v.epoch, .slice Bd M.v.dir.length dd, .slice Bu M.v.up.length du, .slice Bc M.v.commit.length dc] 44) = w6 := hw6.symm
      have HW6 := Lib.hid hw6'; have HGE2 := Lib.hid hG2e
      clear hb5 hal2 hV2 hg6 hw6 hw6' hG2e
      go_upto_region 10 with (fail)
      rw [HW6.out, ← HGE2.out]
      clear HW6 HGE2 HG4 HK4 HB4
      have a0 : w6.cell? ⟨G, 0, none⟩ = some (.int .i64 m.v.session) := (HG6.out.cell 0).trans rfl
      have a1 : w6.cell? ⟨G, 1, none⟩ = some (.int .i64 m.v.decided) := (HG6.out.cell 1).trans rfl
      have a2 : w6.cell? ⟨G, 2, none⟩ = some (.int .i64 m.v.epoch) := (HG6.out.cell 2).trans rfl
      have b0 : w6.cell? ⟨G2, 0, none⟩ = some (.int .i64 M.v.session) := (HG2.out.cell 0).trans rfl
      have b1 : w6.cell? ⟨G2, 1, none⟩ = some (.int .i64 M.v.decided) := (HG2.out.cell 1).trans rfl
      have b2 : w6.cell? ⟨G2, 2, none⟩ = some (.int .i64 M.v.epoch) := (HG2.out.cell 2).trans rfl
      have kc : w6.cell? (ad.add (j * 5)) = some (.int .i64 q.o.k) := by
        have h := HL.out.below HB6.out
        obtain ⟨ad', e', _, hall⟩ := h.at_ (by omega)
        injection e' with e'
        subst e'
        have hc0 := (hall j q HQJ.out).1 0 (.int .i64 q.o.k) rfl
        rw [add_zero'] at hc0
        exact hc0
      have s1 := HROSE.out.session
      have s2 := HROSE.out.decided
      have s3 := HROSE.out.epoch
      have s4 := HGV.out.d1
      have s1' : ¬ M.v.session < m.v.session := by omega
      have s2' : ¬ M.v.decided < m.v.decided := by omega
      have s3' : ¬ M.v.epoch < m.v.epoch := by omega
      have s4' : ¬ M.v.session < M.v.decided := by omega
      have hla := HLA.out
      obtain ⟨r1, r2⟩ := rr
      simp only at HDR ⊢
      obtain ⟨qk, hqk⟩ : ∃ qk, qk = q.o.k := ⟨_, rfl⟩
      rw [← hqk] at HDR kc
      clear hqk
      by_cases h1 : qk = 1
      · by_cases h0 : r2 = 0
        · obtain ⟨d1, d2⟩ := HDR.out h1 h0
          have d3 : ¬ r1 ≤ last := by omega
          subst h0
          subst h1
          clear s1 s2 s3 s4 hla
          have HD := Lib.hid (And.intro d1 d2)
          clear d1 d2
          go_wp2_with (first | refine wpList_load_row rfl 44 (.tmp 11) rfl G2 rfl _ _ _ _ HG2.out Try.underlying44 rfl (by kernel_rfl) ?_ | refine wpList_store_row rfl 44 (.tmp 7) (.tmp 96) rfl G _ (by rfl) (by rfl) _ _ HG6.out (by kernel_rfl) (by rfl) (by simp [Value.oneCell']) ?_)
          go_roundw
          case rel => exact ⟨j + 1, M, r1, Bd, Bu, Bc, dd, du, dc, by omega, rfl, by go_num, by rw [HD.out.1, HD.out.2]; exact Int.le_refl _, HK6.out.keeps (keeps_setRow _ _ _) (fun k e e2 => e.2 e2), HW4.out, below_setRow HB6.out HGB.out _, HG6.out.setRow _⟩
          case measure => simp [intOf]; omega
        · subst h1
          clear s1 s2 s3 s4
          go_wp2_with (first | refine wpList_load_row rfl 44 (.tmp 11) rfl G2 rfl _ _ _ _ HG2.out Try.underlying44 rfl (by kernel_rfl) ?_ | refine wpList_store_row rfl 44 (.tmp 7) (.tmp 96) rfl G _ (by rfl) (by rfl) _ _ HG6.out (by kernel_rfl) (by rfl) (by simp [Value.oneCell']) ?_)
          go_roundw
          case rel => exact ⟨j + 1, M, last, Bd, Bu, Bc, dd, du, dc, by omega, rfl, by go_num, Int.le_trans HLA.out HROSE.out.session, HK6.out.keeps (keeps_setRow _ _ _) (fun k e e2 => e.2 e2), HW4.out, below_setRow HB6.out HGB.out _, HG6.out.setRow _⟩
          case measure => simp [intOf]; omega
      · clear s1 s2 s3 s4
        go_wp2_with (first | refine wpList_load_row rfl 44 (.tmp 11) rfl G2 rfl _ _ _ _ HG2.out Try.underlying44 rfl (by kernel_rfl) ?_ | refine wpList_store_row rfl 44 (.tmp 7) (.tmp 96) rfl G _ (by rfl) (by rfl) _ _ HG6.out (by kernel_rfl) (by rfl) (by simp [Value.oneCell']) ?_)
        go_roundw
        case rel => exact ⟨j + 1, M, last, Bd, Bu, Bc, dd, du, dc, by omega, rfl, by go_num, Int.le_trans HLA.out HROSE.out.session, HK6.out.keeps (keeps_setRow _ _ _) (fun k e e2 => e.2 e2), HW4.out, below_setRow HB6.out HGB.out _, HG6.out.setRow _⟩
        case measure => simp [intOf]; omega
    · obtain rfl : j = n := by omega
      go_wp2_with fail
      refine (answers19_any wr).mono ?_
      rintro e w3 ⟨rfl, hb3⟩
      go_wp2
      go_ret
      exact ⟨rfl, HBW.out.trans (hb3.mono HBW.out.size)⟩
end Go.Proofs.Ytlabebapjhhkaaa
