/- The walk of layer 19's law BookCuts. No conditions. Printed by mkcuts.py. -/
import Derived.Test.YtlabebapjhhkaaaBkD
namespace Go.Proofs.Ytlabebapjhhkaaa
open Go.RowKit Go.Shelf
theorem dor_act {N : Nat} {o : OpV} {m M : BM} {r : Int × Int} (h : DoR N o m r M) (hk : o.k < 7) : (r, M) = m.act N o := by
  unfold DoR at h
  rw [if_neg (by omega)] at h
  exact h
set_option maxRecDepth 100000 in
set_option maxHeartbeats 8000000 in
theorem BookCuts_law (q0 : PrmI) (A : Option Addr) (n c : Nat) (o0 : OpP) (fz : UInt8) (w : World) (qs : List OpP) (hn : n ≤ 9223372036854775807) (_hp : q0.Ok) (hl : OpsK w w.heap.size A n qs) (ho : o0.Ok w w.heap.size) :
    Calls Try.prog 4 #[.agg q0.arr, .slice A n c, .agg o0.arr, .int .u8 (fz.toNat : Int)] w fun e w' => e = .returned (.bool true) ∧ Below w.heap.size w w' := by
  have HL := Lib.hid hl; have HLN := Lib.hid hl.len; have HO := Lib.hid ho
  have HGOOD := Lib.hid (fun w => Good_any w q0)
  clear hl _hp ho
  obtain ⟨N, T, Kk, E, Room⟩ := q0
  obtain ⟨o, oA, oc⟩ := o0
  dsimp only [PrmI.arr, OpP.arr, opC] at HGOOD ⊢
  go_enter Try.func4, Try.ntmps4
  go_upto_region 1 with (fail)
  have hb := ((Below.refl w.heap.size w).alloc (Nat.le_refl _) (.cells #[.int .i64 N, .int .i64 T, .int .i64 Kk, .int .i64 E, .int .i64 Room] 23)).alloc (by simp) (.cells #[.int .i64 o.k, .int .i64 o.n, .string ⟨o.h.id.toArray⟩, .int .i64 o.h.size, .slice oA o.parts.length oc] 38)
  have hB : Blk ((w.alloc (.cells #[.int .i64 N, .int .i64 T, .int .i64 Kk, .int .i64 E, .int .i64 Room] 23)).alloc (.cells #[.int .i64 o.k, .int .i64 o.n, .string ⟨o.h.id.toArray⟩, .int .i64 o.h.size, .slice oA o.parts.length oc] 38)) w.heap.size 23 #[.int .i64 N, .int .i64 T, .int .i64 Kk, .int .i64 E, .int .i64 Room] := (Blk.new _ _ _).alloc _
  have hO : Blk ((w.alloc (.cells #[.int .i64 N, .int .i64 T, .int .i64 Kk, .int .i64 E, .int .i64 Room] 23)).alloc (.cells #[.int .i64 o.k, .int .i64 o.n, .string ⟨o.h.id.toArray⟩, .int .i64 o.h.size, .slice oA o.parts.length oc] 38)) (w.heap.size + 1) 38 #[.int .i64 o.k, .int .i64 o.n, .string ⟨o.h.id.toArray⟩, .int .i64 o.h.size, .slice oA o.parts.length oc] := Blk.new' (by simp)
  obtain ⟨b, hbe⟩ : ∃ b, b = w.heap.size := ⟨_, rfl⟩
  rw [← hbe] at hB hb hO HL HO ⊢
  generalize ((w.alloc (.cells #[.int .i64 N, .int .i64 T, .int .i64 Kk, .int .i64 E, .int .i64 Room] 23)).alloc (.cells #[.int .i64 o.k, .int .i64 o.n, .string ⟨o.h.id.toArray⟩, .int .i64 o.h.size, .slice oA o.parts.length oc] 38)) = w1 at hb hB hO ⊢
  have HB := Lib.hid hb; have HBB := Lib.hid hB; have HBO := Lib.hid hO
  have HBE := Lib.hid hbe
  clear hb hB hbe hO
  go_wp2_with (refine wpList_load_row rfl 23 (.tmp 4) rfl b rfl _ _ _ _ HBB.out Try.underlying23 rfl (by kernel_rfl) ?_)
  refine (HGOOD.out w1).mono ?_
  rintro e w2 ⟨gd, rfl, hg, hb2⟩
  have hBle : b ≤ w1.heap.size := Nat.le_of_lt HBB.out.lt
  have HB2 := Lib.hid (HB.out.trans (hb2.mono hBle)); have HBB2 := Lib.hid (HBB.out.below hb2 HBB.out.lt); have HBO2 := Lib.hid (HBO.out.below hb2 HBO.out.lt); have HG := Lib.hid hg
  clear hb2 hg HB HBB HGOOD hBle HBO
  cases gd with
  | false =>
    go_wp2_with fail
    refine (answers19_any w2).mono ?_
    rintro e w3 ⟨rfl, hb3⟩
    go_wp2
    go_ret
    rw [← HBE.out]
    exact ⟨rfl, HB2.out.trans (hb3.mono (Nat.le_of_lt HBB2.out.lt))⟩
  | true =>
  by_cases hn60 : (60 : Int) < (n : Int)
  · go_wp2_with fail
    refine (answers19_any w2).mono ?_
    rintro e w3 ⟨rfl, hb3⟩
    go_wp2
    go_ret
    rw [← HBE.out]
    exact ⟨rfl, HB2.out.trans (hb3.mono (Nat.le_of_lt HBB2.out.lt))⟩
  obtain ⟨hN0, hN1⟩ := HG.out rfl
  obtain ⟨N, rfl⟩ : ∃ N' : Nat, N = N' := ⟨N.toNat, by omega⟩
  have hN255 : N ≤ 255 := by omega
  have HNN := Lib.hid hN255
  have HNEW := Lib.hid (fun W => BNew_any W ⟨N, T, Kk, E, Room⟩ hN255)
  dsimp only [prmC] at HNEW
  clear hN0 hN1 HG hN255
  have hn60' : n ≤ 60 := by omega
  clear hn60
  go_upto_region 3 with (fail)
  refine wp_region_anyN (Below w2.heap.size w2) (by kernel_rfl) ?_
  refine anyC_takes (by kernel_rfl) (fun _ _ _ _ _ h => h) [0, 2] 4 _ _ (by kernel_rfl) ?_
  simp only [List.filterMap_cons, List.filterMap_nil, List.getElem?_toArray, List.getElem?_cons_succ, List.getElem?_cons_zero]
  show wpQuiet _ _ _ _ (_ :: _ :: List.nil) _
  repeat (first | go_big_quiet_skip | (go_big_quiet_want; first | (refine quiet_load_row 23 (.tmp 4) rfl b rfl _ _ _ (fun W hW => HBB2.out.below hW HBB2.out.lt) Try.underlying23 rfl (by kernel_rfl) ?_; simp only [Act.put, List.setIfInBounds_toArray, List.set_cons_succ, List.set_cons_zero]; go_big_quiet_on) | (go_big_quiet_op; first | go_big_quiet_on | (refine ⟨_, fun _ _ => rfl, ?_⟩; go_big_quiet_on))))
  refine wpQuiet_nil ?_
  refine anyC_only (i := 1) rfl (by kernel_rfl) ((Below.refl _ _).drew) ?_
  go_wp2_with fail
  refine (HNEW.out w2.drew).mono ?_
  rintro e w3 ⟨K1, rfl, hk3, hb3⟩
  have hb3' : Below w2.heap.size w2 w3 := (Below.refl w2.heap.size w2).drew.trans hb3
  have HK3 := Lib.hid hk3; have HB3 := Lib.hid hb3'
  clear hk3 hb3 hb3'
  go_wp2_with fail
  refine anyC_only (i := 3) rfl (by kernel_rfl) HB3.out ?_
  go_wp2_with fail
  refine (HNEW.out w3).mono ?_
  rintro e w4 ⟨K2, rfl, hk4, hb4⟩
  have HK4 := Lib.hid hk4; have HB4' := Lib.hid hb4
  clear hk4 hb4
  go_wp2_with fail
  refine anyC_takes (by kernel_rfl) (fun _ _ _ _ _ h => h) [4, 5] 0 _ _ (by kernel_rfl) ?_
  simp only [List.filterMap_cons, List.filterMap_nil, List.getElem?_toArray, List.getElem?_cons_succ, List.getElem?_cons_zero]
  show wpQuiet _ _ _ _ (_ :: _ :: List.nil) _
  repeat (first | go_big_quiet_skip | (go_big_quiet_want; first | (fail; simp only [Act.put, List.setIfInBounds_toArray, List.set_cons_succ, List.set_cons_zero]; go_big_quiet_on) | (go_big_quiet_op; first | go_big_quiet_on | (refine ⟨_, fun _ _ => rfl, ?_⟩; go_big_quiet_on))))
  refine wpQuiet_nil ?_
  have hb4 := HB3.out.trans (HB4'.out.mono HB3.out.size)
  have hd4 : Duo2 w4 (fun k => k < w2.heap.size) K1 K2 ⟨N, T, Kk, E, Room⟩ (BM.new N) (BM.new N) := Duo2.make (Nat.le_refl _) HB3.out HK3.out HB4'.out HK4.out
  refine ⟨hb4, by kernel_rfl, ?_⟩
  obtain ⟨L, hLe⟩ : ∃ L, L = w2.heap.size := ⟨_, rfl⟩
  have hbL : b + 1 < L := by rw [hLe]; exact HBO2.out.lt
  have HD4 := Lib.hid hd4; have HB4 := Lib.hid (HB2.out.trans (hb4.mono (Nat.le_of_lt HBB2.out.lt))); have HO4 := Lib.hid (HBO2.out.below hb4 HBO2.out.lt)
  rw [← hLe] at HD4
  have HBL := Lib.hid hbL
  clear hd4 hb4 hLe hbL HNEW HBB2 HBO2 HB2 HK3 HB3 HK4 HB4'
  go_upto_region 4 with (fail)
  go_wp2_with fail
  go_loopw [11, 31, 32, 33, 34, 35, 36, 37, 38, 39, 40, 41, 42, 43, 44, 45, 46, 47, 48, 49, 50, 51, 52, 53, 54] (fun q _ _ _ _ _ _ _ _ _ _ _ _ _ _ _ _ _ _ _ _ _ _ _ _ wr => ∃ (j : Nat) (m : BM), j ≤ n ∧ q = .int .i64 (j : Int) ∧ Duo2 wr (fun k => k < L) K1 K2 ⟨N, T, Kk, E, Room⟩ m m ∧ m.free ∧ m.pw.writes ≤ 2000 * j ∧ Below b w wr ∧ Blk wr (b + 1) 38 #[.int .i64 o.k, .int .i64 o.n, .string ⟨o.h.id.toArray⟩, .int .i64 o.h.size, .slice oA o.parts.length oc]) (fun q _ _ _ _ _ _ _ _ _ _ _ _ _ _ _ _ _ _ _ _ _ _ _ _ _ => n - (intOf q).toNat)
  case atStart => exact ⟨0, BM.new N, by omega, rfl, HD4.out, BM.new_free N, Nat.zero_le _, HB4.out, HO4.out⟩
  case round =>
    obtain ⟨j, m, hj, rfl, hd, hf, hw, hb, hob⟩ := hrel
    have HD := Lib.hid hd; have HW := Lib.hid hw; have HF := Lib.hid hf; have HBW := Lib.hid hb; have HOB := Lib.hid hob
    clear hd hw hf hb hob
    by_cases hjn : j < n
    · have hjn' : (j : Int) < (n : Int) := by omega
      have hlk := HL.out.below HBW.out
      obtain ⟨ad, rfl, had, hall⟩ := hlk.at_ (by omega)
      obtain ⟨q, hq⟩ : ∃ q, qs[j]? = some q := ⟨_, List.getElem?_eq_getElem (by have := HLN.out; omega)⟩
      obtain ⟨hcell, hqo⟩ := hall j q hq
      have hbr : b ≤ wr.heap.size := by have := HOB.out.lt; omega
      have HCE := Lib.hid hcell; have HQO := Lib.hid hqo; have HBR := Lib.hid hbr
      have HDO := Lib.hid (HD.out.doL q.o q.A q.c (by have := HW.out; omega) (hqo.rd.more hbr) hqo.len hqo.n1)
      have kc : wr.cell? (ad.add (j * 5)) = some (.int .i64 q.o.k) := by
        have hc0 := hcell 0 (.int .i64 q.o.k) rfl
        rw [Addr.add_zero'] at hc0
        exact hc0
      have HAD := Lib.hid had
      clear hlk hall hq hcell hqo hbr had
      obtain ⟨qk, hqk⟩ : ∃ qk, qk = q.o.k := ⟨_, rfl⟩
      rw [← hqk] at kc
      have HQK := Lib.hid hqk
      clear hqk
      by_cases hk7 : qk < 7
      · go_upto_region 8 with (fail)
        clear kc
        go_upto_region 9 with (first | (refine wpList_load_at rfl 38 (.tmp 46) rfl (ad.add (j * 5)) rfl q.arr _ HCE.out Try.underlying38 rfl (by kernel_rfl) ?_) | (go_at_call 13; refine HDO.out.mono ?_; rintro e w5 ⟨rr, M, hdo, rfl, hd5, hkp5⟩))
        have hb5 : Below b w w5 := HBW.out.trans (hkp5.below (fun k e => by have := HBL.out; have : ¬ k < L := e; omega) HBR.out)
        have hce5 : ∀ k v, q.arr.toList[k]? = some v → w5.cell? ((ad.add (j * 5)).add k) = some v := fun k v hv => (hkp5.cell (p := (ad.add (j * 5)).add k) (cell_lt (HCE.out k v hv)) (fun e => e (by show Addr.block _ < L; rw [block_of_add, block_of_add]; have := HAD.out; have := HBL.out; omega))).trans (HCE.out k v hv)
        have hqo5 := (HQO.out.below (hkp5.below (fun k e => by have := HBL.out; have : ¬ k < L := e; omega) HBR.out))
        have hbr5 : b ≤ w5.heap.size := Nat.le_trans HBR.out hkp5.size
        have HDO2 := Lib.hid (hd5.doR q.o q.A q.c (by have := HW.out; omega) (hqo5.rd.more hbr5) hqo5.len hqo5.n1)
        have HB5 := Lib.hid hb5; have HCE5 := Lib.hid hce5; have HOB5 := Lib.hid (HOB.out.keeps hkp5 (fun e => e (by have := HBL.out; show b + 1 < L; omega))); have HDO1 := Lib.hid hdo; have HBR5 := Lib.hid hbr5
        clear hb5 hce5 hqo5 hbr5 hdo hd5 hkp5 HDO
        go_wp2_with (refine wpList_load_at rfl 38 (.tmp 52) rfl (ad.add (j * 5)) rfl q.arr _ HCE5.out Try.underlying38 rfl (by kernel_rfl) ?_)
        refine HDO2.out.mono ?_
        rintro e w6 ⟨rr2, M2, hdo2, rfl, hd6, hkp6⟩
        have hk7' : q.o.k < 7 := by rw [← HQK.out]; exact hk7
        obtain rfl := dor_same HDO1.out hdo2 hk7'
        have hrose := dor_rose HD.out.goodL HDO1.out
        obtain ⟨hf6, _⟩ := dor_free HF.out HDO1.out hk7'
        have HD6 := Lib.hid hd6; have HF6 := Lib.hid hf6; have HW6 := Lib.hid (show M2.pw.writes ≤ 2000 * (j + 1) by have := hrose.writes; have := HW.out; omega)
        have HB6 := Lib.hid (HB5.out.trans (hkp6.below (fun k e => by have := HBL.out; have : ¬ k < L := e; omega) HBR5.out)); have HOB6 := Lib.hid (HOB5.out.keeps hkp6 (fun e => e (by have := HBL.out; show b + 1 < L; omega)))
        clear hdo2 hd6 hkp6 hk7' hrose hf6 HDO2 HDO1
        go_wp2_with fail
        go_roundw
        case rel => exact ⟨j + 1, _, by omega, by go_num, HD6.out, HF6.out, HW6.out, HB6.out, HOB6.out⟩
        case measure => simp [intOf]; omega
      · go_wp2_with fail
        go_roundw
        case rel => exact ⟨j + 1, m, by omega, by go_num, HD.out, HF.out, by have := HW.out; omega, HBW.out, HOB.out⟩
        case measure => simp [intOf]; omega
    · obtain rfl : j = n := by omega
      have HW1 := Lib.hid (show m.pw.writes ≤ 120000 by have := HW.out; omega)
      clear HW
      have HV0 := Lib.hid HD.out.viewL
      have HG1 := Lib.hid HD.out.goodL.kv.good
      go_upto_region 10 with (fail)
      go_wp2_with (fail)
      refine HV0.out.mono ?_
      rintro e w6 ⟨Ad, Au, Ac, cd, cu, cc, rfl, ho, hb6⟩
      obtain ⟨G, hGe⟩ : ∃ G, G = w6.heap.size := ⟨_, rfl⟩
      have hG0 := Blk.new w6 44 (bookCells m.v Ad Au Ac cd cu cc)
      have hal0 := below1 w6 (.cells (bookCells m.v Ad Au Ac cd cu cc) 44)
      obtain ⟨w7, hw7⟩ : ∃ w7, w7 = w6.alloc (.cells (bookCells m.v Ad Au Ac cd cu cc) 44) := ⟨_, rfl⟩
      rw [← hw7] at hG0 hal0
      rw [← hGe] at hG0
      have hbr7 : Below wr.heap.size wr w7 := hb6.trans (hal0.mono hb6.size)
      have hd7 := HD.out.grow hbr7
      have HD7 := Lib.hid hd7; have HG7 := Lib.hid hG0; have HGL := Lib.hid (show wr.heap.size ≤ G ∧ G < w7.heap.size from ⟨by rw [hGe]; exact hb6.size, hG0.lt⟩)
      have HR7 := Lib.hid (ho.rd.below hal0).tight
      have hbwr : b ≤ wr.heap.size := by have := HOB.out.lt; omega
      have HB7 := Lib.hid (HBW.out.trans (hbr7.mono hbwr)); have HOB7 := Lib.hid (HOB.out.below hbr7 HOB.out.lt)
      have hw7' : w6.alloc (.cells #[.int .i64 m.v.session, .int .i64 m.v.decided, .int .i64 m.v.epoch, .slice Ad m.v.dir.length cd, .slice Au m.v.up.length cu, .slice Ac m.v.commit.length cc] 44) = w7 := hw7.symm
      have HW7 := Lib.hid hw7'; have HGE := Lib.hid hGe
      obtain ⟨s1, hs1⟩ : ∃ s1, s1 = wr.heap.size := ⟨_, rfl⟩
      rw [← hs1] at HD7 HR7 HGL
      obtain ⟨t1, ht1⟩ : ∃ t1, t1 = w7.heap.size := ⟨_, rfl⟩
      rw [← ht1] at HD7 HR7 HGL
      have HT1 := Lib.hid (Nat.le_of_eq ht1)
      clear hG0 hal0 hw7 hw7' hGe ho hb6 hbr7 hd7 HV0 HBW HOB hbwr hs1 ht1
      go_upto_region 11 with (fail)
      rw [HW7.out, ← HGE.out]
      clear HW7 HGE
      have HFU := Lib.hid (HD7.out.fuseR (fz.toNat : Int) (by have := fz.toNat_lt; omega))
      have hx255 : fz.toNat < 256 := fz.toNat_lt
      go_upto_region 12 with (go_at_call 19; refine HFU.out.mono ?_; rintro e w8 ⟨rfl, hd8, hkp8⟩)
      clear hx255
      have HS1 := Lib.hid (show ∀ k, ¬ (k < L ∨ s1 ≤ k ∧ k < t1) → b ≤ k from fun k e => by have := HBL.out; omega)
      have HD8 := Lib.hid hd8; have HG8 := Lib.hid (HG7.out.keeps hkp8 (fun e => e (Or.inr HGL.out))); have HR8 := Lib.hid (HR7.out.off hkp8 (fun k e f => f (Or.inr e))); have HB8 := Lib.hid (HB7.out.trans (hkp8.below HS1.out (by have := HOB7.out.lt; omega))); have HOB8 := Lib.hid (HOB7.out.keeps hkp8 (fun e => e (Or.inl (by have := HBL.out; show b + 1 < L; omega)))); have HT8 := Lib.hid (Nat.le_trans HT1.out hkp8.size)
      clear hd8 hkp8 HFU HD7 HG7 HR7 HB7 HOB7 HT1
      obtain ⟨F, hFe⟩ : ∃ F, F = m.fuse (fz.toNat : Int) := ⟨_, rfl⟩
      rw [← hFe] at HD8
      have HFV := Lib.hid (show F.v = m.v by rw [hFe]; rfl); have HFW := Lib.hid (show F.pw.writes ≤ 120000 by rw [hFe]; exact HW1.out)
      clear hFe
      have c0 : w8.cell? ⟨b + 1, 0, none⟩ = some (.int .i64 o.k) := (HOB8.out.cell 0).trans rfl
      by_cases hk7 : ¬ o.k < 7
      · have hk7' : o.k ≥ 7 := by omega
        clear hk7
        go_wp2_with fail
        refine (answers19_any w8).mono ?_
        rintro e w9 ⟨rfl, hb9⟩
        go_wp2
        go_ret
        rw [← HBE.out]
        exact ⟨rfl, HB8.out.trans (hb9.mono (by have := HOB8.out.lt; omega))⟩
      have hk7' : o.k < 7 := by omega
      have hk7g : ¬ (o.k ≥ 7) := by omega
      go_upto_region 14 with (fail)
      have hob8 := HO.out.below HB8.out
      have hb8s : b ≤ w8.heap.size := by have := HOB8.out.lt; omega
      have HDA := Lib.hid (HD8.out.doL o oA oc (by have := HW1.out; omega) (hob8.rd.more hb8s) hob8.len hob8.n1)
      have HK7 := Lib.hid hk7'
      clear hob8 hb8s c0 hk7 hk7' hk7g
      go_upto_region 15 with (first | refine wpList_load_row rfl 38 (.tmp 6) rfl (b + 1) rfl _ _ _ _ HOB8.out Try.underlying38 rfl (by kernel_rfl) ?_ | (go_at_call 13; refine HDA.out.mono ?_; rintro e w9 ⟨ra, Ma, hda, rfl, hd9, hkp9⟩))
      have HD9 := Lib.hid hd9; have HG9 := Lib.hid (HG8.out.keeps hkp9 (fun e => e (Or.inr HGL.out))); have HR9 := Lib.hid (HR8.out.off hkp9 (fun k e f => f (Or.inr e))); have HB9 := Lib.hid (HB8.out.trans (hkp9.below HS1.out (by have := HOB8.out.lt; omega))); have HOB9 := Lib.hid (HOB8.out.keeps hkp9 (fun e => e (Or.inl (by have := HBL.out; show b + 1 < L; omega)))); have HT9 := Lib.hid (Nat.le_trans HT8.out hkp9.size)
      have HDAA := Lib.hid hda
      clear hd9 hkp9 hda HDA HD8 HG8 HR8 HB8 HOB8 HT8
      have hob9 := HO.out.below HB9.out
      have hb9s : b ≤ w9.heap.size := by have := HOB9.out.lt; omega
      have HDBB := Lib.hid (HD9.out.doR o oA oc (by have := HFW.out; omega) (hob9.rd.more hb9s) hob9.len hob9.n1)
      have HGF := Lib.hid HD9.out.swap.goodL
      clear hob9 hb9s
      go_upto_region 16 with (first | refine wpList_load_row rfl 38 (.tmp 6) rfl (b + 1) rfl _ _ _ _ HOB9.out Try.underlying38 rfl (by kernel_rfl) ?_ | (go_at_call 13; refine HDBB.out.mono ?_; rintro e w10 ⟨rb, Mb, hdb, rfl, hd10, hkp10⟩))
      have HD10 := Lib.hid hd10; have HG10 := Lib.hid (HG9.out.keeps hkp10 (fun e => e (Or.inr HGL.out))); have HR10 := Lib.hid (HR9.out.off hkp10 (fun k e f => f (Or.inr e))); have HB10 := Lib.hid (HB9.out.trans (hkp10.below HS1.out (by have := HOB9.out.lt; omega))); have HBS10 := Lib.hid (show b ≤ w10.heap.size by have := HOB9.out.lt; have := hkp10.size; omega); have HT10 := Lib.hid (Nat.le_trans HT9.out hkp10.size)
      have HCUT := Lib.hid (cut_act HF.out HFV.out HDAA.out hdb HK7.out)
      have HWB := Lib.hid (show Mb.pw.writes ≤ 122000 by have := (dor_rose HGF.out hdb).writes; have := HFW.out; omega)
      clear hd10 hkp10 hdb HDBB HD9 HG9 HR9 HB9 HOB9 HT9 HDAA HGF HFV HFW HF HW1
      have HV2 := Lib.hid HD10.out.viewR
      have HG2 := Lib.hid HD10.out.swap.goodL.kv.good
      have HGA := Lib.hid HD10.out.goodL.kv.good
      go_wp2_with (fail)
      refine HV2.out.mono ?_
      rintro e w11 ⟨Bd, Bu, Bc, dd, du, dc, rfl, ho, hb11⟩
      obtain ⟨G2, hG2e⟩ : ∃ G2, G2 = w11.heap.size := ⟨_, rfl⟩
      have hG0 := Blk.new w11 44 (bookCells Mb.v Bd Bu Bc dd du dc)
      have hal0 := below1 w11 (.cells (bookCells Mb.v Bd Bu Bc dd du dc) 44)
      obtain ⟨w12, hw12⟩ : ∃ w12, w12 = w11.alloc (.cells (bookCells Mb.v Bd Bu Bc dd du dc) 44) := ⟨_, rfl⟩
      rw [← hw12] at hG0 hal0
      rw [← hG2e] at hG0
      have hbr12 : Below w10.heap.size w10 w12 := hb11.trans (hal0.mono hb11.size)
      have HD12 := Lib.hid (HD10.out.grow hbr12); have HGG := Lib.hid (HG10.out.below hbr12 HG10.out.lt); have HGG2 := Lib.hid hG0; have HGL2 := Lib.hid (show w10.heap.size ≤ G2 ∧ G2 < w12.heap.size from ⟨by rw [hG2e]; exact hb11.size, hG0.lt⟩)
      have HRX := Lib.hid (HR10.out.below hbr12); have HRY := Lib.hid (ho.rd.below hal0).tight
      have HB12 := Lib.hid (HB10.out.trans (hbr12.mono HBS10.out))
      have hw12' : w11.alloc (.cells #[.int .i64 Mb.v.session, .int .i64 Mb.v.decided, .int .i64 Mb.v.epoch, .slice Bd Mb.v.dir.length dd, .slice Bu Mb.v.up.length du, .slice Bc Mb.v.commit.length dc] 44) = w12 := hw12.symm
      have HW12 := Lib.hid hw12'; have HGE2 := Lib.hid hG2e; have HBS12 := Lib.hid (Nat.le_trans HBS10.out hbr12.size)
      clear hG0 hal0 hw12 hw12' hG2e ho hb11 hbr12 HV2 HD10 HG10 HR10 HB10 HT10
      go_upto_region 17 with (fail)
      rw [HW12.out, ← HGE2.out]
      clear HW12 HGE2
      have HST := Lib.hid (HD12.out.startR (by have := HWB.out; omega))
      go_upto_region 18 with (go_at_call 20; refine HST.out.mono ?_; rintro e w13 ⟨rfl, Mc, hst, hd13, hkp13⟩)
      have HD13 := Lib.hid hd13; have HMC := Lib.hid hst.2.2.1
      have HGa := Lib.hid (HGG.out.keeps hkp13 (fun e => e (Or.inl (Or.inr HGL.out)))); have HGb := Lib.hid (HGG2.out.keeps hkp13 (fun e => e (Or.inr HGL2.out)))
      have HRa := Lib.hid (HRX.out.off hkp13 (fun k e f => f (Or.inl (Or.inr e)))); have HRb := Lib.hid (HRY.out.off hkp13 (fun k e f => f (Or.inr e)))
      have HB13 := Lib.hid (HB12.out.trans (hkp13.below (fun k e => HS1.out k (fun f => e (Or.inl f))) HBS12.out)); have HBS13 := Lib.hid (Nat.le_trans HBS12.out hkp13.size)
      clear hst hd13 hkp13 HST HD12 HGG HGG2 HRX HRY HB12 HBS12 HGL HGL2 HS1 HBS10
      have hmc := HMC.out
      have HCST := Lib.hid (And.intro (HG1.out.cost HNN.out) (And.intro (HG2.out.cost HNN.out) (HGA.out.cost HNN.out)))
      obtain ⟨r1, f⟩ := rb
      obtain ⟨r0, e0⟩ := ra
      simp only at HCUT ⊢
      obtain ⟨v1, hv1⟩ : ∃ v1, v1 = m.v := ⟨_, rfl⟩
      obtain ⟨v2, hv2⟩ : ∃ v2, v2 = Mb.v := ⟨_, rfl⟩
      obtain ⟨va, hva⟩ : ∃ va, va = Ma.v := ⟨_, rfl⟩
      have HZ := Lib.hid (show f = 0 → v2 = va from fun e => by rw [hv2, hva]; exact HCUT.out.zero e)
      have HCO := Lib.hid (show f = e0 ∨ f = 3 from HCUT.out.code)
      have HAL := Lib.hid (show v2 = v1 ∨ v2 = va by rw [hv2, hva, hv1]; exact HCUT.out.all_)
      have hVL := fun W (h : Below w13.heap.size w13 W) => (HD13.out.below h).viewL
      have hVR := fun W (h : Below w13.heap.size w13 W) => (HD13.out.below h).viewR
      rw [← hva] at hVL HCST
      rw [hmc, ← hv2] at hVR
      rw [← hv1] at HGa HRa HCST
      rw [← hv2] at HGb HRb HCST
      have HVL := Lib.hid hVL; have HVR := Lib.hid hVR
      clear hVL hVR hmc hv1 hv2 hva HCUT HMC HG1 HG2 HGA HD13
      by_cases hf0 : f = 0
      · subst hf0
        have hv2a := HZ.out rfl
        have HVA := Lib.hid hv2a
        clear hv2a HZ
        refine wp_region_anyN (Below w13.heap.size w13) (by kernel_rfl) ?_
        refine anyC_takes (by kernel_rfl) (fun _ _ _ _ _ h => h) [0, 2] 14 _ _ (by kernel_rfl) ?_
        simp only [List.filterMap_cons, List.filterMap_nil, List.getElem?_toArray, List.getElem?_cons_succ, List.getElem?_cons_zero]
        show wpQuiet _ _ _ _ (_ :: _ :: List.nil) _
        repeat (first | go_big_quiet_skip | (go_big_quiet_want; first | (refine quiet_load_row 44 (.tmp 17) rfl G2 rfl _ _ _ (fun W hW => HGb.out.below hW HGb.out.lt) Try.underlying44 rfl (by kernel_rfl) ?_; simp only [Act.put, List.setIfInBounds_toArray, List.set_cons_succ, List.set_cons_zero]; go_big_quiet_on) | (go_big_quiet_op; first | go_big_quiet_on | (refine ⟨_, fun _ _ => rfl, ?_⟩; go_big_quiet_on))))
        refine wpQuiet_nil ?_
        have hD0 : Below w13.heap.size w13 w13.drew := (Below.refl _ _).drew
        refine anyC_only (i := 1) rfl (by kernel_rfl) hD0 ?_
        go_wp2_with fail
        refine (HVR.out _ hD0).mono ?_
        rintro e w14 ⟨Cd, Cu, Cc, ed, eu, ec, rfl, ho, hb14⟩
        have hb14' := hD0.trans (hb14.mono hD0.size)
        have HS14 := Lib.hid (Same_any w14 v2 v2 _ _ Cd Cu Cc Bd Bu Bc ed eu ec dd du dc ho.rd (HRb.out.below hb14') (by have := HCST.out; omega) (by have := HCST.out; omega))
        rw [decide_eq_true rfl] at HS14
        have HB14 := Lib.hid hb14'
        clear ho hb14 hb14' hD0
        go_wp2_with fail
        refine anyC_only (i := 3) rfl (by kernel_rfl) HB14.out ?_
        go_wp2_with fail
        refine HS14.out.mono ?_
        rintro e w15 ⟨rfl, hb15⟩
        have HB15 := Lib.hid (HB14.out.trans (hb15.mono HB14.out.size))
        clear hb15 HS14
        go_wp2_with fail
        have HF0 := Lib.hid (show decide ((0 : Int) = 0) = true from rfl)
        refine anyC_takes (by kernel_rfl) (fun _ _ _ _ _ h => h) [4, 5, 6, 7, 8, 9, 10] 5 _ _ (by kernel_rfl) ?_
        simp only [List.filterMap_cons, List.filterMap_nil, List.getElem?_toArray, List.getElem?_cons_succ, List.getElem?_cons_zero]
        show wpQuiet _ _ _ _ (_ :: _ :: _ :: _ :: _ :: _ :: _ :: List.nil) _
        repeat (first | go_big_quiet_skip | (go_big_quiet_want; first | (refine quiet_load_row 44 (.tmp 17) rfl G2 rfl _ _ _ (fun W hW => HGb.out.below hW HGb.out.lt) Try.underlying44 rfl (by kernel_rfl) ?_; simp only [Act.put, List.setIfInBounds_toArray, List.set_cons_succ, List.set_cons_zero]; go_big_quiet_on) | (refine quiet_eqlB _ _ (.tmp 87) _ rfl .i64 0 0 rfl rfl _ HF0.out ?_; simp only [Act.put, List.setIfInBounds_toArray, List.set_cons_succ, List.set_cons_zero]; go_big_quiet_on) | (go_big_quiet_op; first | go_big_quiet_on | (refine ⟨_, fun _ _ => rfl, ?_⟩; go_big_quiet_on))))
        refine wpQuiet_nil ?_
        refine anyC_only (i := 11) rfl (by kernel_rfl) HB15.out ?_
        go_wp2_with fail
        refine (HVL.out _ HB15.out).mono ?_
        rintro e w16 ⟨Cd, Cu, Cc, ed, eu, ec, rfl, ho, hb16⟩
        have hb16' := HB15.out.trans (hb16.mono HB15.out.size)
        have HS16 := Lib.hid (Same_any w16 v2 va _ _ Bd Bu Bc Cd Cu Cc dd du dc ed eu ec (HRb.out.below hb16') ho.rd (by have := HCST.out; omega) (by have := HCST.out; omega))
        rw [decide_eq_true (by rw [HVA.out])] at HS16
        have HB16 := Lib.hid hb16'
        clear ho hb16 hb16'
        go_wp2_with fail
        refine anyC_only (i := 12) rfl (by kernel_rfl) HB16.out ?_
        go_wp2_with fail
        refine HS16.out.mono ?_
        rintro e w17 ⟨rfl, hb17⟩
        have HB17 := Lib.hid (HB16.out.trans (hb17.mono HB16.out.size))
        clear hb17 HS16
        go_wp2_with fail
        refine anyC_takes (by kernel_rfl) (fun _ _ _ _ _ h => h) [13, 14, 15] 0 _ _ (by kernel_rfl) ?_
        simp only [List.filterMap_cons, List.filterMap_nil, List.getElem?_toArray, List.getElem?_cons_succ, List.getElem?_cons_zero]
        show wpQuiet _ _ _ _ (_ :: _ :: _ :: List.nil) _
        repeat (first | go_big_quiet_skip | (go_big_quiet_want; first | (fail; simp only [Act.put, List.setIfInBounds_toArray, List.set_cons_succ, List.set_cons_zero]; go_big_quiet_on) | (go_big_quiet_op; first | go_big_quiet_on | (refine ⟨_, fun _ _ => rfl, ?_⟩; go_big_quiet_on))))
        refine wpQuiet_nil ?_
        refine ⟨HB17.out, by kernel_rfl, ?_⟩
        go_upto_region 20 with (fail)
        obtain rfl : e0 = 0 := by have := HCO.out; omega
        have HE1 := Lib.hid (show decide ((0 : Int) = 0) = true from rfl); have HE3 := Lib.hid (show decide ((0 : Int) = 3) = false from rfl)
        refine wp_region_anyN (Below w13.heap.size w13) (by kernel_rfl) ?_
        have hE0 := HB17.out.drew
        refine anyC_only (i := 0) rfl (by kernel_rfl) hE0 ?_
        go_wp2_with fail
        refine (answers19_any _).mono ?_
        rintro e w18 ⟨rfl, hb18⟩
        have HB18 := Lib.hid (hE0.trans (hb18.mono hE0.size))
        clear hb18 hE0
        go_wp2_with fail
        refine anyC_takes (by kernel_rfl) (fun _ _ _ _ _ h => h) [1, 2, 3, 4, 5, 6, 7, 8, 9, 10, 11, 12] 9 _ _ (by kernel_rfl) ?_
        simp only [List.filterMap_cons, List.filterMap_nil, List.getElem?_toArray, List.getElem?_cons_succ, List.getElem?_cons_zero]
        show wpQuiet _ _ _ _ (_ :: _ :: _ :: _ :: _ :: _ :: _ :: _ :: _ :: _ :: _ :: _ :: List.nil) _
        repeat (first | go_big_quiet_skip | (go_big_quiet_want; first | (refine quiet_load_row 44 (.tmp 17) rfl G2 rfl _ _ _ (fun W hW => HGb.out.below hW HGb.out.lt) Try.underlying44 rfl (by kernel_rfl) ?_; simp only [Act.put, List.setIfInBounds_toArray, List.set_cons_succ, List.set_cons_zero]; go_big_quiet_on) | (refine quiet_load_row 44 (.tmp 12) rfl G rfl _ _ _ (fun W hW => HGa.out.below hW HGa.out.lt) Try.underlying44 rfl (by kernel_rfl) ?_; simp only [Act.put, List.setIfInBounds_toArray, List.set_cons_succ, List.set_cons_zero]; go_big_quiet_on) | (refine quiet_eqlB _ _ (.tmp 99) (.tmp 100) rfl .i64 0 0 rfl rfl _ HE1.out ?_; simp only [Act.put, List.setIfInBounds_toArray, List.set_cons_succ, List.set_cons_zero]; go_big_quiet_on) | (refine quiet_eqlB _ _ (.tmp 103) _ rfl .i64 0 3 rfl rfl _ HE3.out ?_; simp only [Act.put, List.setIfInBounds_toArray, List.set_cons_succ, List.set_cons_zero]; go_big_quiet_on) | (go_big_quiet_op; first | go_big_quiet_on | (refine ⟨_, fun _ _ => rfl, ?_⟩; go_big_quiet_on))))
        refine wpQuiet_nil ?_
        refine anyC_only (i := 13) rfl (by kernel_rfl) HB18.out ?_
        have hs19 := Same_any w18 v2 v1 _ _ Bd Bu Bc Ad Au Ac dd du dc cd cu cc (HRb.out.below HB18.out) (HRa.out.below HB18.out) (by have := HCST.out; omega) (by have := HCST.out; omega)
        obtain ⟨d1, hd1⟩ : ∃ d1, d1 = decide (bk v2 = bk v1) := ⟨_, rfl⟩
        rw [← hd1] at hs19
        have HS19 := Lib.hid hs19
        clear hs19
        go_wp2_with fail
        refine HS19.out.mono ?_
        rintro e w19 ⟨rfl, hb19⟩
        have HB19 := Lib.hid (HB18.out.trans (hb19.mono HB18.out.size))
        clear hb19 HS19
        cases d1 with
        | true =>
          clear hd1
          go_wp2_with fail
          refine anyC_takes (by kernel_rfl) (fun _ _ _ _ _ h => h) [14, 15, 16] 5 _ _ (by kernel_rfl) ?_
          simp only [List.filterMap_cons, List.filterMap_nil, List.getElem?_toArray, List.getElem?_cons_succ, List.getElem?_cons_zero]
          show wpQuiet _ _ _ _ (_ :: _ :: _ :: List.nil) _
          repeat (first | go_big_quiet_skip | (go_big_quiet_want; first | (refine quiet_load_row 44 (.tmp 17) rfl G2 rfl _ _ _ (fun W hW => HGb.out.below hW HGb.out.lt) Try.underlying44 rfl (by kernel_rfl) ?_; simp only [Act.put, List.setIfInBounds_toArray, List.set_cons_succ, List.set_cons_zero]; go_big_quiet_on) | (go_big_quiet_op; first | go_big_quiet_on | (refine ⟨_, fun _ _ => rfl, ?_⟩; go_big_quiet_on))))
          refine wpQuiet_nil ?_
          refine anyC_skipB (i := 17) rfl (by kernel_rfl) HB19.out (by kernel_rfl) ?_
          simp only [List.getElem_toArray, List.getElem_cons_succ, List.getElem_cons_zero, Act.put, List.setIfInBounds_toArray, List.set_cons_succ, List.set_cons_zero]
          refine anyC_skipB (i := 18) rfl (by kernel_rfl) HB19.out (by kernel_rfl) ?_
          simp only [List.getElem_toArray, List.getElem_cons_succ, List.getElem_cons_zero, Act.put, List.setIfInBounds_toArray, List.set_cons_succ, List.set_cons_zero]
          refine anyC_takes (by kernel_rfl) (fun _ _ _ _ _ h => h) [19, 20, 21] 0 _ _ (by kernel_rfl) ?_
          simp only [List.filterMap_cons, List.filterMap_nil, List.getElem?_toArray, List.getElem?_cons_succ, List.getElem?_cons_zero]
          show wpQuiet _ _ _ _ (_ :: _ :: _ :: List.nil) _
          repeat (first | go_big_quiet_skip | (go_big_quiet_want; first | (fail; simp only [Act.put, List.setIfInBounds_toArray, List.set_cons_succ, List.set_cons_zero]; go_big_quiet_on) | (go_big_quiet_op; first | go_big_quiet_on | (refine ⟨_, fun _ _ => rfl, ?_⟩; go_big_quiet_on))))
          refine wpQuiet_nil ?_
          refine ⟨HB19.out, by kernel_rfl, ?_⟩
          go_wp2
          go_ret
          rw [← HBE.out]
          exact ⟨rfl, HB13.out.trans (HB19.out.mono HBS13.out)⟩
        | false =>
          have hva : v2 = va := by
            rcases HAL.out with e | e
            · rw [e, decide_eq_true rfl] at hd1; cases hd1
            · exact e
          have HVX := Lib.hid hva
          clear hd1 hva
          go_wp2_with fail
          refine anyC_takes (by kernel_rfl) (fun _ _ _ _ _ h => h) [14, 15, 16] 5 _ _ (by kernel_rfl) ?_
          simp only [List.filterMap_cons, List.filterMap_nil, List.getElem?_toArray, List.getElem?_cons_succ, List.getElem?_cons_zero]
          show wpQuiet _ _ _ _ (_ :: _ :: _ :: List.nil) _
          repeat (first | go_big_quiet_skip | (go_big_quiet_want; first | (refine quiet_load_row 44 (.tmp 17) rfl G2 rfl _ _ _ (fun W hW => HGb.out.below hW HGb.out.lt) Try.underlying44 rfl (by kernel_rfl) ?_; simp only [Act.put, List.setIfInBounds_toArray, List.set_cons_succ, List.set_cons_zero]; go_big_quiet_on) | (go_big_quiet_op; first | go_big_quiet_on | (refine ⟨_, fun _ _ => rfl, ?_⟩; go_big_quiet_on))))
          refine wpQuiet_nil ?_
          refine anyC_only (i := 17) rfl (by kernel_rfl) HB19.out ?_
          go_wp2_with fail
          refine (HVL.out _ HB19.out).mono ?_
          rintro e w20 ⟨Cd, Cu, Cc, ed, eu, ec, rfl, ho, hb20⟩
          have hb20' := HB19.out.trans (hb20.mono HB19.out.size)
          have hs20 := Same_any w20 v2 va _ _ Bd Bu Bc Cd Cu Cc dd du dc ed eu ec (HRb.out.below hb20') ho.rd (by have := HCST.out; omega) (by have := HCST.out; omega)
          rw [decide_eq_true (by rw [HVX.out])] at hs20
          have HS20 := Lib.hid hs20; have HB20 := Lib.hid hb20'
          clear ho hb20 hb20' hs20
          go_wp2_with fail
          refine anyC_only (i := 18) rfl (by kernel_rfl) HB20.out ?_
          go_wp2_with fail
          refine HS20.out.mono ?_
          rintro e w21 ⟨rfl, hb21⟩
          have HB21 := Lib.hid (HB20.out.trans (hb21.mono HB20.out.size))
          clear hb21 HS20
          go_wp2_with fail
          refine anyC_takes (by kernel_rfl) (fun _ _ _ _ _ h => h) [19, 20, 21] 0 _ _ (by kernel_rfl) ?_
          simp only [List.filterMap_cons, List.filterMap_nil, List.getElem?_toArray, List.getElem?_cons_succ, List.getElem?_cons_zero]
          show wpQuiet _ _ _ _ (_ :: _ :: _ :: List.nil) _
          repeat (first | go_big_quiet_skip | (go_big_quiet_want; first | (fail; simp only [Act.put, List.setIfInBounds_toArray, List.set_cons_succ, List.set_cons_zero]; go_big_quiet_on) | (go_big_quiet_op; first | go_big_quiet_on | (refine ⟨_, fun _ _ => rfl, ?_⟩; go_big_quiet_on))))
          refine wpQuiet_nil ?_
          refine ⟨HB21.out, by kernel_rfl, ?_⟩
          go_wp2
          go_ret
          rw [← HBE.out]
          exact ⟨rfl, HB13.out.trans (HB21.out.mono HBS13.out)⟩
      · clear HZ
        refine wp_region_anyN (Below w13.heap.size w13) (by kernel_rfl) ?_
        refine anyC_takes (by kernel_rfl) (fun _ _ _ _ _ h => h) [0, 2] 14 _ _ (by kernel_rfl) ?_
        simp only [List.filterMap_cons, List.filterMap_nil, List.getElem?_toArray, List.getElem?_cons_succ, List.getElem?_cons_zero]
        show wpQuiet _ _ _ _ (_ :: _ :: List.nil) _
        repeat (first | go_big_quiet_skip | (go_big_quiet_want; first | (refine quiet_load_row 44 (.tmp 17) rfl G2 rfl _ _ _ (fun W hW => HGb.out.below hW HGb.out.lt) Try.underlying44 rfl (by kernel_rfl) ?_; simp only [Act.put, List.setIfInBounds_toArray, List.set_cons_succ, List.set_cons_zero]; go_big_quiet_on) | (go_big_quiet_op; first | go_big_quiet_on | (refine ⟨_, fun _ _ => rfl, ?_⟩; go_big_quiet_on))))
        refine wpQuiet_nil ?_
        have hD0 : Below w13.heap.size w13 w13.drew := (Below.refl _ _).drew
        refine anyC_only (i := 1) rfl (by kernel_rfl) hD0 ?_
        go_wp2_with fail
        refine (HVR.out _ hD0).mono ?_
        rintro e w14 ⟨Cd, Cu, Cc, ed, eu, ec, rfl, ho, hb14⟩
        have hb14' := hD0.trans (hb14.mono hD0.size)
        have HS14 := Lib.hid (Same_any w14 v2 v2 _ _ Cd Cu Cc Bd Bu Bc ed eu ec dd du dc ho.rd (HRb.out.below hb14') (by have := HCST.out; omega) (by have := HCST.out; omega))
        rw [decide_eq_true rfl] at HS14
        have HB14 := Lib.hid hb14'
        clear ho hb14 hb14' hD0
        go_wp2_with fail
        refine anyC_only (i := 3) rfl (by kernel_rfl) HB14.out ?_
        go_wp2_with fail
        refine HS14.out.mono ?_
        rintro e w15 ⟨rfl, hb15⟩
        have HB15 := Lib.hid (HB14.out.trans (hb15.mono HB14.out.size))
        clear hb15 HS14
        go_wp2_with fail
        have HF0 := Lib.hid (show decide (f = 0) = false from decide_eq_false hf0)
        refine anyC_takes (by kernel_rfl) (fun _ _ _ _ _ h => h) [4, 5, 6, 7, 8, 9, 10] 5 _ _ (by kernel_rfl) ?_
        simp only [List.filterMap_cons, List.filterMap_nil, List.getElem?_toArray, List.getElem?_cons_succ, List.getElem?_cons_zero]
        show wpQuiet _ _ _ _ (_ :: _ :: _ :: _ :: _ :: _ :: _ :: List.nil) _
        repeat (first | go_big_quiet_skip | (go_big_quiet_want; first | (refine quiet_load_row 44 (.tmp 17) rfl G2 rfl _ _ _ (fun W hW => HGb.out.below hW HGb.out.lt) Try.underlying44 rfl (by kernel_rfl) ?_; simp only [Act.put, List.setIfInBounds_toArray, List.set_cons_succ, List.set_cons_zero]; go_big_quiet_on) | (refine quiet_eqlB _ _ (.tmp 87) _ rfl .i64 f 0 rfl rfl _ HF0.out ?_; simp only [Act.put, List.setIfInBounds_toArray, List.set_cons_succ, List.set_cons_zero]; go_big_quiet_on) | (go_big_quiet_op; first | go_big_quiet_on | (refine ⟨_, fun _ _ => rfl, ?_⟩; go_big_quiet_on))))
        refine wpQuiet_nil ?_
        refine anyC_skipB (i := 11) rfl (by kernel_rfl) HB15.out (by kernel_rfl) ?_
        simp only [List.getElem_toArray, List.getElem_cons_succ, List.getElem_cons_zero, Act.put, List.setIfInBounds_toArray, List.set_cons_succ, List.set_cons_zero]
        refine anyC_skipB (i := 12) rfl (by kernel_rfl) HB15.out (by kernel_rfl) ?_
        simp only [List.getElem_toArray, List.getElem_cons_succ, List.getElem_cons_zero, Act.put, List.setIfInBounds_toArray, List.set_cons_succ, List.set_cons_zero]
        refine anyC_takes (by kernel_rfl) (fun _ _ _ _ _ h => h) [13, 14, 15] 0 _ _ (by kernel_rfl) ?_
        simp only [List.filterMap_cons, List.filterMap_nil, List.getElem?_toArray, List.getElem?_cons_succ, List.getElem?_cons_zero]
        show wpQuiet _ _ _ _ (_ :: _ :: _ :: List.nil) _
        repeat (first | go_big_quiet_skip | (go_big_quiet_want; first | (fail; simp only [Act.put, List.setIfInBounds_toArray, List.set_cons_succ, List.set_cons_zero]; go_big_quiet_on) | (go_big_quiet_op; first | go_big_quiet_on | (refine ⟨_, fun _ _ => rfl, ?_⟩; go_big_quiet_on))))
        refine wpQuiet_nil ?_
        have HB17 := HB15
        refine ⟨HB17.out, by kernel_rfl, ?_⟩
        by_cases hfe : f = e0
        · subst hfe
          go_upto_region 20 with (fail)
          have HE1 := Lib.hid (show decide (f = f) = true from decide_eq_true rfl); have HE3 := Lib.hid (show decide (f = 3) = decide (f = 3) from rfl)
          refine wp_region_anyN (Below w13.heap.size w13) (by kernel_rfl) ?_
          have hE0 := HB17.out.drew
          refine anyC_only (i := 0) rfl (by kernel_rfl) hE0 ?_
          go_wp2_with fail
          refine (answers19_any _).mono ?_
          rintro e w18 ⟨rfl, hb18⟩
          have HB18 := Lib.hid (hE0.trans (hb18.mono hE0.size))
          clear hb18 hE0
          go_wp2_with fail
          refine anyC_takes (by kernel_rfl) (fun _ _ _ _ _ h => h) [1, 2, 3, 4, 5, 6, 7, 8, 9, 10, 11, 12] 9 _ _ (by kernel_rfl) ?_
          simp only [List.filterMap_cons, List.filterMap_nil, List.getElem?_toArray, List.getElem?_cons_succ, List.getElem?_cons_zero]
          show wpQuiet _ _ _ _ (_ :: _ :: _ :: _ :: _ :: _ :: _ :: _ :: _ :: _ :: _ :: _ :: List.nil) _
          repeat (first | go_big_quiet_skip | (go_big_quiet_want; first | (refine quiet_load_row 44 (.tmp 17) rfl G2 rfl _ _ _ (fun W hW => HGb.out.below hW HGb.out.lt) Try.underlying44 rfl (by kernel_rfl) ?_; simp only [Act.put, List.setIfInBounds_toArray, List.set_cons_succ, List.set_cons_zero]; go_big_quiet_on) | (refine quiet_load_row 44 (.tmp 12) rfl G rfl _ _ _ (fun W hW => HGa.out.below hW HGa.out.lt) Try.underlying44 rfl (by kernel_rfl) ?_; simp only [Act.put, List.setIfInBounds_toArray, List.set_cons_succ, List.set_cons_zero]; go_big_quiet_on) | (refine quiet_eqlB _ _ (.tmp 99) (.tmp 100) rfl .i64 f f rfl rfl _ HE1.out ?_; simp only [Act.put, List.setIfInBounds_toArray, List.set_cons_succ, List.set_cons_zero]; go_big_quiet_on) | (refine quiet_eqlB _ _ (.tmp 103) _ rfl .i64 f 3 rfl rfl _ HE3.out ?_; simp only [Act.put, List.setIfInBounds_toArray, List.set_cons_succ, List.set_cons_zero]; go_big_quiet_on) | (go_big_quiet_op; first | go_big_quiet_on | (refine ⟨_, fun _ _ => rfl, ?_⟩; go_big_quiet_on))))
          refine wpQuiet_nil ?_
          refine anyC_only (i := 13) rfl (by kernel_rfl) HB18.out ?_
          have hs19 := Same_any w18 v2 v1 _ _ Bd Bu Bc Ad Au Ac dd du dc cd cu cc (HRb.out.below HB18.out) (HRa.out.below HB18.out) (by have := HCST.out; omega) (by have := HCST.out; omega)
          obtain ⟨d1, hd1⟩ : ∃ d1, d1 = decide (bk v2 = bk v1) := ⟨_, rfl⟩
          rw [← hd1] at hs19
          have HS19 := Lib.hid hs19
          clear hs19
          go_wp2_with fail
          refine HS19.out.mono ?_
          rintro e w19 ⟨rfl, hb19⟩
          have HB19 := Lib.hid (HB18.out.trans (hb19.mono HB18.out.size))
          clear hb19 HS19
          cases d1 with
          | true =>
            clear hd1
            go_wp2_with fail
            refine anyC_takes (by kernel_rfl) (fun _ _ _ _ _ h => h) [14, 15, 16] 5 _ _ (by kernel_rfl) ?_
            simp only [List.filterMap_cons, List.filterMap_nil, List.getElem?_toArray, List.getElem?_cons_succ, List.getElem?_cons_zero]
            show wpQuiet _ _ _ _ (_ :: _ :: _ :: List.nil) _
            repeat (first | go_big_quiet_skip | (go_big_quiet_want; first | (refine quiet_load_row 44 (.tmp 17) rfl G2 rfl _ _ _ (fun W hW => HGb.out.below hW HGb.out.lt) Try.underlying44 rfl (by kernel_rfl) ?_; simp only [Act.put, List.setIfInBounds_toArray, List.set_cons_succ, List.set_cons_zero]; go_big_quiet_on) | (go_big_quiet_op; first | go_big_quiet_on | (refine ⟨_, fun _ _ => rfl, ?_⟩; go_big_quiet_on))))
            refine wpQuiet_nil ?_
            refine anyC_skipB (i := 17) rfl (by kernel_rfl) HB19.out (by kernel_rfl) ?_
            simp only [List.getElem_toArray, List.getElem_cons_succ, List.getElem_cons_zero, Act.put, List.setIfInBounds_toArray, List.set_cons_succ, List.set_cons_zero]
            refine anyC_skipB (i := 18) rfl (by kernel_rfl) HB19.out (by kernel_rfl) ?_
            simp only [List.getElem_toArray, List.getElem_cons_succ, List.getElem_cons_zero, Act.put, List.setIfInBounds_toArray, List.set_cons_succ, List.set_cons_zero]
            refine anyC_takes (by kernel_rfl) (fun _ _ _ _ _ h => h) [19, 20, 21] 0 _ _ (by kernel_rfl) ?_
            simp only [List.filterMap_cons, List.filterMap_nil, List.getElem?_toArray, List.getElem?_cons_succ, List.getElem?_cons_zero]
            show wpQuiet _ _ _ _ (_ :: _ :: _ :: List.nil) _
            repeat (first | go_big_quiet_skip | (go_big_quiet_want; first | (fail; simp only [Act.put, List.setIfInBounds_toArray, List.set_cons_succ, List.set_cons_zero]; go_big_quiet_on) | (go_big_quiet_op; first | go_big_quiet_on | (refine ⟨_, fun _ _ => rfl, ?_⟩; go_big_quiet_on))))
            refine wpQuiet_nil ?_
            refine ⟨HB19.out, by kernel_rfl, ?_⟩
            go_wp2
            go_ret
            rw [← HBE.out]
            exact ⟨rfl, HB13.out.trans (HB19.out.mono HBS13.out)⟩
          | false =>
            have hva : v2 = va := by
              rcases HAL.out with e | e
              · rw [e, decide_eq_true rfl] at hd1; cases hd1
              · exact e
            have HVX := Lib.hid hva
            clear hd1 hva
            go_wp2_with fail
            refine anyC_takes (by kernel_rfl) (fun _ _ _ _ _ h => h) [14, 15, 16] 5 _ _ (by kernel_rfl) ?_
            simp only [List.filterMap_cons, List.filterMap_nil, List.getElem?_toArray, List.getElem?_cons_succ, List.getElem?_cons_zero]
            show wpQuiet _ _ _ _ (_ :: _ :: _ :: List.nil) _
            repeat (first | go_big_quiet_skip | (go_big_quiet_want; first | (refine quiet_load_row 44 (.tmp 17) rfl G2 rfl _ _ _ (fun W hW => HGb.out.below hW HGb.out.lt) Try.underlying44 rfl (by kernel_rfl) ?_; simp only [Act.put, List.setIfInBounds_toArray, List.set_cons_succ, List.set_cons_zero]; go_big_quiet_on) | (go_big_quiet_op; first | go_big_quiet_on | (refine ⟨_, fun _ _ => rfl, ?_⟩; go_big_quiet_on))))
            refine wpQuiet_nil ?_
            refine anyC_only (i := 17) rfl (by kernel_rfl) HB19.out ?_
            go_wp2_with fail
            refine (HVL.out _ HB19.out).mono ?_
            rintro e w20 ⟨Cd, Cu, Cc, ed, eu, ec, rfl, ho, hb20⟩
            have hb20' := HB19.out.trans (hb20.mono HB19.out.size)
            have hs20 := Same_any w20 v2 va _ _ Bd Bu Bc Cd Cu Cc dd du dc ed eu ec (HRb.out.below hb20') ho.rd (by have := HCST.out; omega) (by have := HCST.out; omega)
            rw [decide_eq_true (by rw [HVX.out])] at hs20
            have HS20 := Lib.hid hs20; have HB20 := Lib.hid hb20'
            clear ho hb20 hb20' hs20
            go_wp2_with fail
            refine anyC_only (i := 18) rfl (by kernel_rfl) HB20.out ?_
            go_wp2_with fail
            refine HS20.out.mono ?_
            rintro e w21 ⟨rfl, hb21⟩
            have HB21 := Lib.hid (HB20.out.trans (hb21.mono HB20.out.size))
            clear hb21 HS20
            go_wp2_with fail
            refine anyC_takes (by kernel_rfl) (fun _ _ _ _ _ h => h) [19, 20, 21] 0 _ _ (by kernel_rfl) ?_
            simp only [List.filterMap_cons, List.filterMap_nil, List.getElem?_toArray, List.getElem?_cons_succ, List.getElem?_cons_zero]
            show wpQuiet _ _ _ _ (_ :: _ :: _ :: List.nil) _
            repeat (first | go_big_quiet_skip | (go_big_quiet_want; first | (fail; simp only [Act.put, List.setIfInBounds_toArray, List.set_cons_succ, List.set_cons_zero]; go_big_quiet_on) | (go_big_quiet_op; first | go_big_quiet_on | (refine ⟨_, fun _ _ => rfl, ?_⟩; go_big_quiet_on))))
            refine wpQuiet_nil ?_
            refine ⟨HB21.out, by kernel_rfl, ?_⟩
            go_wp2
            go_ret
            rw [← HBE.out]
            exact ⟨rfl, HB13.out.trans (HB21.out.mono HBS13.out)⟩
        · obtain rfl : f = 3 := by have := HCO.out; omega
          go_upto_region 20 with (fail)
          have HE1 := Lib.hid (show decide ((3 : Int) = e0) = false from decide_eq_false hfe); have HE3 := Lib.hid (show decide ((3 : Int) = 3) = true from rfl)
          clear hfe
          refine wp_region_anyN (Below w13.heap.size w13) (by kernel_rfl) ?_
          have hE0 := HB17.out.drew
          refine anyC_only (i := 0) rfl (by kernel_rfl) hE0 ?_
          go_wp2_with fail
          refine (answers19_any _).mono ?_
          rintro e w18 ⟨rfl, hb18⟩
          have HB18 := Lib.hid (hE0.trans (hb18.mono hE0.size))
          clear hb18 hE0
          go_wp2_with fail
          refine anyC_takes (by kernel_rfl) (fun _ _ _ _ _ h => h) [1, 2, 3, 4, 5, 6, 7, 8, 9, 10, 11, 12] 9 _ _ (by kernel_rfl) ?_
          simp only [List.filterMap_cons, List.filterMap_nil, List.getElem?_toArray, List.getElem?_cons_succ, List.getElem?_cons_zero]
          show wpQuiet _ _ _ _ (_ :: _ :: _ :: _ :: _ :: _ :: _ :: _ :: _ :: _ :: _ :: _ :: List.nil) _
          repeat (first | go_big_quiet_skip | (go_big_quiet_want; first | (refine quiet_load_row 44 (.tmp 17) rfl G2 rfl _ _ _ (fun W hW => HGb.out.below hW HGb.out.lt) Try.underlying44 rfl (by kernel_rfl) ?_; simp only [Act.put, List.setIfInBounds_toArray, List.set_cons_succ, List.set_cons_zero]; go_big_quiet_on) | (refine quiet_load_row 44 (.tmp 12) rfl G rfl _ _ _ (fun W hW => HGa.out.below hW HGa.out.lt) Try.underlying44 rfl (by kernel_rfl) ?_; simp only [Act.put, List.setIfInBounds_toArray, List.set_cons_succ, List.set_cons_zero]; go_big_quiet_on) | (refine quiet_eqlB _ _ (.tmp 99) (.tmp 100) rfl .i64 3 e0 rfl rfl _ HE1.out ?_; simp only [Act.put, List.setIfInBounds_toArray, List.set_cons_succ, List.set_cons_zero]; go_big_quiet_on) | (refine quiet_eqlB _ _ (.tmp 103) _ rfl .i64 3 3 rfl rfl _ HE3.out ?_; simp only [Act.put, List.setIfInBounds_toArray, List.set_cons_succ, List.set_cons_zero]; go_big_quiet_on) | (go_big_quiet_op; first | go_big_quiet_on | (refine ⟨_, fun _ _ => rfl, ?_⟩; go_big_quiet_on))))
          refine wpQuiet_nil ?_
          refine anyC_only (i := 13) rfl (by kernel_rfl) HB18.out ?_
          have hs19 := Same_any w18 v2 v1 _ _ Bd Bu Bc Ad Au Ac dd du dc cd cu cc (HRb.out.below HB18.out) (HRa.out.below HB18.out) (by have := HCST.out; omega) (by have := HCST.out; omega)
          obtain ⟨d1, hd1⟩ : ∃ d1, d1 = decide (bk v2 = bk v1) := ⟨_, rfl⟩
          rw [← hd1] at hs19
          have HS19 := Lib.hid hs19
          clear hs19
          go_wp2_with fail
          refine HS19.out.mono ?_
          rintro e w19 ⟨rfl, hb19⟩
          have HB19 := Lib.hid (HB18.out.trans (hb19.mono HB18.out.size))
          clear hb19 HS19
          cases d1 with
          | true =>
            clear hd1
            go_wp2_with fail
            refine anyC_takes (by kernel_rfl) (fun _ _ _ _ _ h => h) [14, 15, 16] 5 _ _ (by kernel_rfl) ?_
            simp only [List.filterMap_cons, List.filterMap_nil, List.getElem?_toArray, List.getElem?_cons_succ, List.getElem?_cons_zero]
            show wpQuiet _ _ _ _ (_ :: _ :: _ :: List.nil) _
            repeat (first | go_big_quiet_skip | (go_big_quiet_want; first | (refine quiet_load_row 44 (.tmp 17) rfl G2 rfl _ _ _ (fun W hW => HGb.out.below hW HGb.out.lt) Try.underlying44 rfl (by kernel_rfl) ?_; simp only [Act.put, List.setIfInBounds_toArray, List.set_cons_succ, List.set_cons_zero]; go_big_quiet_on) | (go_big_quiet_op; first | go_big_quiet_on | (refine ⟨_, fun _ _ => rfl, ?_⟩; go_big_quiet_on))))
            refine wpQuiet_nil ?_
            refine anyC_skipB (i := 17) rfl (by kernel_rfl) HB19.out (by kernel_rfl) ?_
            simp only [List.getElem_toArray, List.getElem_cons_succ, List.getElem_cons_zero, Act.put, List.setIfInBounds_toArray, List.set_cons_succ, List.set_cons_zero]
            refine anyC_skipB (i := 18) rfl (by kernel_rfl) HB19.out (by kernel_rfl) ?_
            simp only [List.getElem_toArray, List.getElem_cons_succ, List.getElem_cons_zero, Act.put, List.setIfInBounds_toArray, List.set_cons_succ, List.set_cons_zero]
            refine anyC_takes (by kernel_rfl) (fun _ _ _ _ _ h => h) [19, 20, 21] 0 _ _ (by kernel_rfl) ?_
            simp only [List.filterMap_cons, List.filterMap_nil, List.getElem?_toArray, List.getElem?_cons_succ, List.getElem?_cons_zero]
            show wpQuiet _ _ _ _ (_ :: _ :: _ :: List.nil) _
            repeat (first | go_big_quiet_skip | (go_big_quiet_want; first | (fail; simp only [Act.put, List.setIfInBounds_toArray, List.set_cons_succ, List.set_cons_zero]; go_big_quiet_on) | (go_big_quiet_op; first | go_big_quiet_on | (refine ⟨_, fun _ _ => rfl, ?_⟩; go_big_quiet_on))))
            refine wpQuiet_nil ?_
            refine ⟨HB19.out, by kernel_rfl, ?_⟩
            go_wp2
            go_ret
            rw [← HBE.out]
            exact ⟨rfl, HB13.out.trans (HB19.out.mono HBS13.out)⟩
          | false =>
            have hva : v2 = va := by
              rcases HAL.out with e | e
              · rw [e, decide_eq_true rfl] at hd1; cases hd1
              · exact e
            have HVX := Lib.hid hva
            clear hd1 hva
            go_wp2_with fail
            refine anyC_takes (by kernel_rfl) (fun _ _ _ _ _ h => h) [14, 15, 16] 5 _ _ (by kernel_rfl) ?_
            simp only [List.filterMap_cons, List.filterMap_nil, List.getElem?_toArray, List.getElem?_cons_succ, List.getElem?_cons_zero]
            show wpQuiet _ _ _ _ (_ :: _ :: _ :: List.nil) _
            repeat (first | go_big_quiet_skip | (go_big_quiet_want; first | (refine quiet_load_row 44 (.tmp 17) rfl G2 rfl _ _ _ (fun W hW => HGb.out.below hW HGb.out.lt) Try.underlying44 rfl (by kernel_rfl) ?_; simp only [Act.put, List.setIfInBounds_toArray, List.set_cons_succ, List.set_cons_zero]; go_big_quiet_on) | (go_big_quiet_op; first | go_big_quiet_on | (refine ⟨_, fun _ _ => rfl, ?_⟩; go_big_quiet_on))))
            refine wpQuiet_nil ?_
            refine anyC_only (i := 17) rfl (by kernel_rfl) HB19.out ?_
            go_wp2_with fail
            refine (HVL.out _ HB19.out).mono ?_
            rintro e w20 ⟨Cd, Cu, Cc, ed, eu, ec, rfl, ho, hb20⟩
            have hb20' := HB19.out.trans (hb20.mono HB19.out.size)
            have hs20 := Same_any w20 v2 va _ _ Bd Bu Bc Cd Cu Cc dd du dc ed eu ec (HRb.out.below hb20') ho.rd (by have := HCST.out; omega) (by have := HCST.out; omega)
            rw [decide_eq_true (by rw [HVX.out])] at hs20
            have HS20 := Lib.hid hs20; have HB20 := Lib.hid hb20'
            clear ho hb20 hb20' hs20
            go_wp2_with fail
            refine anyC_only (i := 18) rfl (by kernel_rfl) HB20.out ?_
            go_wp2_with fail
            refine HS20.out.mono ?_
            rintro e w21 ⟨rfl, hb21⟩
            have HB21 := Lib.hid (HB20.out.trans (hb21.mono HB20.out.size))
            clear hb21 HS20
            go_wp2_with fail
            refine anyC_takes (by kernel_rfl) (fun _ _ _ _ _ h => h) [19, 20, 21] 0 _ _ (by kernel_rfl) ?_
            simp only [List.filterMap_cons, List.filterMap_nil, List.getElem?_toArray, List.getElem?_cons_succ, List.getElem?_cons_zero]
            show wpQuiet _ _ _ _ (_ :: _ :: _ :: List.nil) _
            repeat (first | go_big_quiet_skip | (go_big_quiet_want; first | (fail; simp only [Act.put, List.setIfInBounds_toArray, List.set_cons_succ, List.set_cons_zero]; go_big_quiet_on) | (go_big_quiet_op; first | go_big_quiet_on | (refine ⟨_, fun _ _ => rfl, ?_⟩; go_big_quiet_on))))
            refine wpQuiet_nil ?_
            refine ⟨HB21.out, by kernel_rfl, ?_⟩
            go_wp2
            go_ret
            rw [← HBE.out]
            exact ⟨rfl, HB13.out.trans (HB21.out.mono HBS13.out)⟩
end Go.Proofs.Ytlabebapjhhkaaa
