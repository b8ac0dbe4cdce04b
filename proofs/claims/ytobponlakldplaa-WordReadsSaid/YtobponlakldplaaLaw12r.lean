/- The walk of layer 12's law WordReads. Condition: the slices take at most the form's own reach. -/
import Derived.Test.YtobponlakldplaaLaw12
namespace Go.Proofs.Ytobponlakldplaa
open Go.RowKit
set_option maxRecDepth 100000 in
set_option maxHeartbeats 4000000 in
theorem WordReads_any (A : Option Addr) (n c : Nat) (A2 : Option Addr) (n2 c2 : Nat) (w : World) (l : List UInt8) (bs : List Bool) (hn : n ≤ 140737488351232) (hnc : n ≤ c) (hcc : c ≤ 9223372036854775807) (hn2 : n2 ≤ 9223372036854775807) (hr : Rd w w.heap.size A n l) (hr2 : Reads w w.heap.size 1 A2 n2 (bs.map Value.bool)) :
    Calls Try.prog 4 #[.slice A n c, .slice A2 n2 c2] w fun e w' => e = .returned (.bool true) ∧ Below w.heap.size w w' := by
  have HL := Lib.hid hr.len
  have HL2 := Lib.hid (show bs.length = n2 by have := hr2.1; simpa using this)
  have HR := Lib.hid hr; have HR2 := Lib.hid hr2
  clear hr hr2
  go_enter Try.func4, Try.ntmps4
  go_wp2_with fail
  refine (Read_any A n c w l (by omega) HR.out).mono ?_
  rintro e w1 ⟨R, rfl, hi1, hb1⟩
  have HI1 := Lib.hid hi1; have HB1 := Lib.hid hb1
  clear hi1 hb1
  go_wp2_with fail
  go_loopw [8, 6, 7] (fun q q6 q7 wr => ∃ (i a : Nat) (bad : Bool) (s : RS), i ≤ n2 ∧ q = .int .i64 (i : Int) ∧ q6 = .int .i64 (a : Int) ∧ q7 = .bool bad ∧ a ≤ n ∧ ReIs wr (fun k => w.heap.size ≤ k) R s ∧ ((bad = false → s = ⟨l.drop a, false⟩) ∧ (bad = true → s.bad = true)) ∧ Below w.heap.size w wr) (fun q _ _ _ => n2 - (intOf q).toNat)
  case atStart => exact ⟨0, 0, false, _, by omega, rfl, rfl, rfl, by omega, HI1.out, ⟨fun _ => by simp, fun e => by cases e⟩, HB1.out⟩
  case round =>
    obtain ⟨i, a, bad, s, hi, rfl, rfl, rfl, ha, hris, ⟨hs0, hs1⟩, hb⟩ := hrel
    have HI := Lib.hid hris; have HB := Lib.hid hb
    clear hris hb
    by_cases hin : i < n2
    · have hin' : (i : Int) < (n2 : Int) := by omega
      obtain ⟨ad2, u, hA2, _, hu, hcell⟩ := (HR2.out.below HB.out).at_ hin
      subst hA2
      rw [List.getElem?_map, List.getElem?_eq_getElem (by rw [HL2.out]; exact hin)] at hu
      injection hu with hu
      subst hu
      generalize bs[i]'(by rw [HL2.out]; exact hin) = bi at hcell
      have hrw := HR.out.below HB.out
      have HRW := Lib.hid hrw
      cases bi
      · -- bytes
        cases bad
        · have hs := hs0 rfl
          clear hs0 hs1
          by_cases h2 : n - a < 2
          · have hby : s.bytes = ([], { s with bad := true }) := by unfold RS.bytes; rw [if_neg (by rw [hs]; simp only [List.length_drop]; have := HL.out; omega)]
            have HBY := Lib.hid hby
            have hlt : (n : Int) - (a : Int) < 2 := by omega
            clear hby hs hrw
            go_wp2_with fail
            refine (RBytes_any wr _ R s HI.out).mono ?_
            rw [HBY.out]
            rintro e w3 ⟨v3, rfl, ⟨A3, c3, rfl, hr3, _⟩, hi3, hk3⟩
            have HR3 := Lib.hid (hr3.drew); clear hr3
            have hb3 : Below w.heap.size w w3 := HB.out.trans (hk3.below (fun _ e => e) HB.out.size)
            have HI3 := Lib.hid (hi3.below ((Below.refl _ w3).drew)); have HB3 := Lib.hid hb3.drew
            clear hi3 hk3 hb3
            go_wp2_with fail
            refine wp_region_q (by kernel_rfl) (by kernel_rfl) ?_
            repeat (first | go_big_quiet_skip | (go_big_quiet_want; go_big_quiet_op; first | go_big_quiet_on))
            refine wpQuiet_nil ?_
            go_wp2_with (first
              | (refine wpList_str rfl 26 9 5 (.tmp 139) rfl A3 _ c3 ([]) rfl Try.underlying26 Try.underlying5 Try.underlying9 _ HR3.out ?_)
              | (refine wpList_neq rfl 9 9 (.tmp 140) (.tmp 141) rfl ([]) ([]) rfl rfl ?_; rw [show (decide (([]) = ([]))) = true from by simp])
              | fail)
            refine (Done_any w3.drew _ R _ HI3.out).mono ?_
            rw [show (!({ s with bad := true } : RS).bad && decide (({ s with bad := true } : RS).left.length = 0)) = false from rfl]
            rintro e w4 ⟨rfl, rfl⟩
            go_wp2
            go_roundw
            case rel => exact ⟨i + 1, a, true, _, by omega, by go_num, rfl, rfl, by omega, HI3.out, ⟨(fun e => by cases e), (fun _ => rfl)⟩, HB3.out⟩
            case measure => simp [intOf]; omega
          · have h2' : 2 ≤ n - a := by omega
            have hlt : ¬ (n : Int) - (a : Int) < 2 := by omega
            have hg : ∀ j, (l.drop a).getD j 0 = l.getD (a + j) 0 := fun j => by simp only [List.getD_eq_getElem?_getD, List.getElem?_drop]
            have hok : s.bad = false ∧ 2 ≤ s.left.length := by rw [hs]; refine ⟨rfl, ?_⟩; simp only [List.length_drop]; have := HL.out; omega
            have hq : ∀ W, Below w.heap.size w W → ∃ ad, A = some ad ∧ ∀ j, j < 2 → W.cell? (ad.add (a + j)) = some (.int .u8 (l.getD (a + j) 0).toNat) := fun W hW => by
              obtain ⟨ad, hA, _, _⟩ := (HR.out.below hW).at_ (k := a) (by omega)
              refine ⟨ad, hA, fun j hj => ?_⟩
              obtain ⟨ad', hA', _, h5⟩ := (HR.out.below hW).at_ (k := a + j) (by omega)
              rw [hA] at hA'; injection hA' with hA'; subst hA'; exact h5
            have HQ := Lib.hid hq
            obtain ⟨k, hk⟩ : ∃ k, k = (l.getD a 0).toNat * 256 + (l.getD (a + 1) 0).toNat := ⟨_, rfl⟩
            have hbytes : s.bytes = if k ≤ n - a - 2 then ((l.drop (a + 2)).take k, ({ left := l.drop (a + 2 + k), bad := false } : RS)) else ([], ({ left := l.drop (a + 2), bad := true } : RS)) := by
              unfold RS.bytes
              rw [if_pos hok, hs]
              simp only [hg, Nat.add_zero, ← hk, List.length_drop, List.drop_drop]
              rw [HL.out]
            by_cases hkl : k ≤ n - a - 2
            · rw [if_pos hkl] at hbytes
              obtain ⟨L3, hL3⟩ : ∃ L3, L3 = (l.drop (a + 2)).take k := ⟨_, rfl⟩
              rw [← hL3] at hbytes
              have hlen3 : L3.length = k := by rw [hL3]; simp only [List.length_take, List.length_drop]; have := HL.out; omega
              have HBY := Lib.hid hbytes
              have hcut : ∀ W, Below w.heap.size w W → Rd W w.heap.size (if c = a + 2 then A else A.map (·.add (a + 2))) k L3 := fun W hW => by
                have h1 := Reads.cut (HR.out.below hW) (k := a + 2) (by omega) hnc
                simp only [Nat.mul_one] at h1
                have h2 : Rd W w.heap.size (if c = a + 2 then A else A.map (·.add (a + 2))) (n - (a + 2)) (l.drop (a + 2)) := by unfold Rd; rw [List.map_drop]; exact h1
                rw [hL3]
                exact h2.front (by omega)
              have HCUT := Lib.hid hcut; have HLEN3 := Lib.hid hlen3
              clear hcut hlen3 hL3
              clear hbytes hs hrw hg hok hq
              go_wp2_with fail
              refine (RBytes_any wr _ R s HI.out).mono ?_
              rw [HBY.out]
              rintro e w3 ⟨v3, rfl, ⟨A3, c3, rfl, hr3, _⟩, hi3, hk3⟩
              have HR3 := Lib.hid (hr3.drew.drew); clear hr3
              have hb3 : Below w.heap.size w w3 := HB.out.trans (hk3.below (fun _ e => e) HB.out.size)
              have HI3 := Lib.hid (hi3.below ((Below.refl _ w3).drew.drew)); have HB3 := Lib.hid hb3.drew.drew
              have HB0 := Lib.hid hb3
              clear hi3 hk3 hb3
              obtain ⟨ad, hA, hq4⟩ := HQ.out w3 HB0.out
              subst hA
              have q0 := hq4 0 (by omega); have q1 := hq4 1 (by omega)
              have hadd : ∀ j, 0 < j → ad.add j = ⟨ad.block, ad.off + j, none⟩ := by
                intro j hj; unfold Addr.add; split
                · omega
                · rfl
              rw [Nat.add_zero] at q0
              rw [hadd _ (by omega)] at q1
              have l0 := (l.getD a 0).toNat_lt; have l1 := (l.getD (a + 1) 0).toNat_lt
              generalize (l.getD a 0).toNat = x0 at *; generalize (l.getD (a + 1) 0).toNat = x1 at *
              have hf1 : ((n : Int) - (a : Int) < 2) = False := eq_false (by omega)
              have hkk : (x0 : Int) * 256 + (x1 : Int) = (k : Int) := by omega
              have hf2 : ((n : Int) - (a : Int) - 2 < (k : Int)) = False := eq_false (by omega)
              have HKN := Lib.hid hk
              clear hq4 hlt hk
              have hf3 : (a : Int) + 2 + (k : Int) ≤ (c : Int) := by omega
              have hdone : (!({ left := l.drop (a + 2 + k), bad := false } : RS).bad && decide (({ left := l.drop (a + 2 + k), bad := false } : RS).left.length = 0)) = decide (a + 2 + k = n) := by
                simp only [List.length_drop, Bool.not_false, Bool.true_and]
                have := HL.out
                congr 1
                simp only [eq_iff_iff]
                omega
              have HD := Lib.hid hdone
              clear hdone
              obtain ⟨A', hA'⟩ : ∃ A', A' = (if c = a + 2 then (some ad) else (some ad).map (·.add (a + 2))) := ⟨_, rfl⟩
              have hw := HCUT.out _ HB3.out
              rw [← hA'] at hw
              have hsl := run_slice_bytes Try.prog 26 (some ad) n c (a + 2) k (by kernel_rfl) (fun _ => by kernel_rfl) (by omega) ((a : Int) + 2 + (k : Int)) (by omega)
              rw [← hA'] at hsl
              have HW := Lib.hid hw; have HSL := Lib.hid hsl; have HKL := Lib.hid hkl
              clear hw hkl hA' hsl
              by_cases hend : a + 2 + k = n
              · have HE := Lib.hid (show decide (a + 2 + k = n) = true by simp [hend])
                have hend' : (a : Int) + 2 + (k : Int) = (n : Int) := by omega
                have HEND := Lib.hid hend'
                clear hend hend'
                go_wp2_with fail
                refine wp_region_q (by kernel_rfl) (by kernel_rfl) ?_
                repeat (first | go_big_quiet_skip | (go_big_quiet_want; go_big_quiet_op; first | go_big_quiet_on))
                refine wpQuiet_nil ?_
                go_wp2_with fail
                refine wp_region_q (by kernel_rfl) (by kernel_rfl) ?_
                repeat (first | go_big_quiet_skip | (go_big_quiet_want; go_big_quiet_op; first | go_big_quiet_on))
                refine wpQuiet_nil ?_
                go_wp2_with (first
                  | (refine wpList_slice_lh rfl 26 (.tmp 126) (.tmp 128) (.tmp 132) rfl (.slice (some ad) n c) (.slice A' k (c - (a + 2))) ((a : Int) + 2) ((a : Int) + 2 + (k : Int)) rfl rfl rfl (HSL.out _) ?_)
                  | (refine wpList_str rfl 26 9 5 (.tmp 133) rfl A' k (c - (a + 2)) L3 rfl Try.underlying26 Try.underlying5 Try.underlying9 _ HW.out ?_)
                  | (refine wpList_str rfl 26 9 5 (.tmp 139) rfl A3 L3.length c3 L3 rfl Try.underlying26 Try.underlying5 Try.underlying9 _ HR3.out ?_)
                  | (refine wpList_neq rfl 9 9 (.tmp 140) (.tmp 141) rfl L3 L3 rfl rfl ?_; rw [show (decide (L3 = L3)) = true from by simp])
                  | fail)
                refine (Done_any w3.drew.drew _ R _ HI3.out).mono ?_
                rw [HD.out, HE.out]
                rintro e w4 ⟨rfl, rfl⟩
                have hend' := HEND.out
                go_wp2
                go_roundw
                case rel => exact ⟨i + 1, a + 2 + k, false, _, by omega, by go_num, by go_num, rfl, by have := HKL.out; omega, HI3.out, ⟨(fun _ => rfl), (fun e => by cases e)⟩, HB3.out⟩
                case measure => simp [intOf]; omega
              · have HE := Lib.hid (show decide (a + 2 + k = n) = false by simp [hend])
                have hend' : ¬ (a : Int) + 2 + (k : Int) = (n : Int) := by omega
                have HEND := Lib.hid hend'
                clear hend hend'
                go_wp2_with fail
                refine wp_region_q (by kernel_rfl) (by kernel_rfl) ?_
                repeat (first | go_big_quiet_skip | (go_big_quiet_want; go_big_quiet_op; first | go_big_quiet_on))
                refine wpQuiet_nil ?_
                go_wp2_with fail
                refine wp_region_q (by kernel_rfl) (by kernel_rfl) ?_
                repeat (first | go_big_quiet_skip | (go_big_quiet_want; go_big_quiet_op; first | go_big_quiet_on))
                refine wpQuiet_nil ?_
                go_wp2_with (first
                  | (refine wpList_slice_lh rfl 26 (.tmp 126) (.tmp 128) (.tmp 132) rfl (.slice (some ad) n c) (.slice A' k (c - (a + 2))) ((a : Int) + 2) ((a : Int) + 2 + (k : Int)) rfl rfl rfl (HSL.out _) ?_)
                  | (refine wpList_str rfl 26 9 5 (.tmp 133) rfl A' k (c - (a + 2)) L3 rfl Try.underlying26 Try.underlying5 Try.underlying9 _ HW.out ?_)
                  | (refine wpList_str rfl 26 9 5 (.tmp 139) rfl A3 L3.length c3 L3 rfl Try.underlying26 Try.underlying5 Try.underlying9 _ HR3.out ?_)
                  | (refine wpList_neq rfl 9 9 (.tmp 140) (.tmp 141) rfl L3 L3 rfl rfl ?_; rw [show (decide (L3 = L3)) = true from by simp])
                  | fail)
                refine (Done_any w3.drew.drew _ R _ HI3.out).mono ?_
                rw [HD.out, HE.out]
                rintro e w4 ⟨rfl, rfl⟩
                have hend' := HEND.out
                go_wp2
                go_roundw
                case rel => exact ⟨i + 1, a + 2 + k, false, _, by omega, by go_num, by go_num, rfl, by have := HKL.out; omega, HI3.out, ⟨(fun _ => rfl), (fun e => by cases e)⟩, HB3.out⟩
                case measure => simp [intOf]; omega
            · rw [if_neg hkl] at hbytes
              have HBY := Lib.hid hbytes
              clear hbytes hs hrw hg hok hq
              go_wp2_with fail
              refine (RBytes_any wr _ R s HI.out).mono ?_
              rw [HBY.out]
              rintro e w3 ⟨v3, rfl, ⟨A3, c3, rfl, hr3, _⟩, hi3, hk3⟩
              have HR3 := Lib.hid (hr3.drew); clear hr3
              have hb3 : Below w.heap.size w w3 := HB.out.trans (hk3.below (fun _ e => e) HB.out.size)
              have HI3 := Lib.hid (hi3.below ((Below.refl _ w3).drew)); have HB3 := Lib.hid hb3.drew
              have HB0 := Lib.hid hb3
              clear hi3 hk3 hb3
              obtain ⟨ad, hA, hq4⟩ := HQ.out w3 HB0.out
              subst hA
              have q0 := hq4 0 (by omega); have q1 := hq4 1 (by omega)
              have hadd : ∀ j, 0 < j → ad.add j = ⟨ad.block, ad.off + j, none⟩ := by
                intro j hj; unfold Addr.add; split
                · omega
                · rfl
              rw [Nat.add_zero] at q0
              rw [hadd _ (by omega)] at q1
              have l0 := (l.getD a 0).toNat_lt; have l1 := (l.getD (a + 1) 0).toNat_lt
              generalize (l.getD a 0).toNat = x0 at *; generalize (l.getD (a + 1) 0).toNat = x1 at *
              have hf1 : ((n : Int) - (a : Int) < 2) = False := eq_false (by omega)
              have hkk : (x0 : Int) * 256 + (x1 : Int) = (k : Int) := by omega
              have hf2 : ((n : Int) - (a : Int) - 2 < (k : Int)) = True := eq_true (by omega)
              have HKN := Lib.hid hk
              clear hq4 hlt hk hkl
              go_wp2_with fail
              refine wp_region_q (by kernel_rfl) (by kernel_rfl) ?_
              repeat (first | go_big_quiet_skip | (go_big_quiet_want; go_big_quiet_op; first | go_big_quiet_on))
              refine wpQuiet_nil ?_
              go_wp2_with (first
                | (refine wpList_str rfl 26 9 5 (.tmp 139) rfl A3 _ c3 ([]) rfl Try.underlying26 Try.underlying5 Try.underlying9 _ HR3.out ?_)
                | (refine wpList_neq rfl 9 9 (.tmp 140) (.tmp 141) rfl ([]) ([]) rfl rfl ?_; rw [show (decide (([]) = ([]))) = true from by simp])
                | fail)
              refine (Done_any w3.drew _ R _ HI3.out).mono ?_
              rw [show (!({ left := l.drop (a + 2), bad := true } : RS).bad && decide (({ left := l.drop (a + 2), bad := true } : RS).left.length = 0)) = false from rfl]
              rintro e w4 ⟨rfl, rfl⟩
              go_wp2
              go_roundw
              case rel => exact ⟨i + 1, a, true, _, by omega, by go_num, rfl, rfl, by omega, HI3.out, ⟨(fun e => by cases e), (fun _ => rfl)⟩, HB3.out⟩
              case measure => simp [intOf]; omega
        · have hs := hs1 rfl
          clear hs0 hs1
          have hby : s.bytes = ([], { s with bad := true }) := by unfold RS.bytes; rw [if_neg (by rw [hs]; simp)]
          have HBY := Lib.hid hby
          clear hby hs hrw
          go_wp2_with fail
          refine (RBytes_any wr _ R s HI.out).mono ?_
          rw [HBY.out]
          rintro e w3 ⟨v3, rfl, ⟨A3, c3, rfl, hr3, _⟩, hi3, hk3⟩
          have HR3 := Lib.hid (hr3.drew); clear hr3
          have hb3 : Below w.heap.size w w3 := HB.out.trans (hk3.below (fun _ e => e) HB.out.size)
          have HI3 := Lib.hid (hi3.below ((Below.refl _ w3).drew)); have HB3 := Lib.hid hb3.drew
          clear hi3 hk3 hb3
          go_wp2_with fail
          refine wp_region_q (by kernel_rfl) (by kernel_rfl) ?_
          repeat (first | go_big_quiet_skip | (go_big_quiet_want; go_big_quiet_op; first | go_big_quiet_on))
          refine wpQuiet_nil ?_
          go_wp2_with (first
            | (refine wpList_str rfl 26 9 5 (.tmp 139) rfl A3 _ c3 ([]) rfl Try.underlying26 Try.underlying5 Try.underlying9 _ HR3.out ?_)
            | (refine wpList_neq rfl 9 9 (.tmp 140) (.tmp 141) rfl ([]) ([]) rfl rfl ?_; rw [show (decide (([]) = ([]))) = true from by simp])
            | fail)
          refine (Done_any w3.drew _ R _ HI3.out).mono ?_
          rw [show (!({ s with bad := true } : RS).bad && decide (({ s with bad := true } : RS).left.length = 0)) = false from rfl]
          rintro e w4 ⟨rfl, rfl⟩
          go_wp2
          go_roundw
          case rel => exact ⟨i + 1, a, true, _, by omega, by go_num, rfl, rfl, by omega, HI3.out, ⟨(fun e => by cases e), (fun _ => rfl)⟩, HB3.out⟩
          case measure => simp [intOf]; omega
      · -- ints
        cases bad
        · have hs := hs0 rfl
          clear hs0 hs1
          by_cases h4 : n - a < 4
          · have hint : s.int = (0, { s with bad := true }) := by unfold RS.int; rw [if_neg (by rw [hs]; simp only [List.length_drop]; have := HL.out; omega)]
            have HBY := Lib.hid hint
            have hlt : (n : Int) - (a : Int) < 4 := by omega
            clear hint hs hrw
            go_wp2_with fail
            refine (RInt_any wr _ R s HI.out).mono ?_
            rw [HBY.out]
            rintro e w3 ⟨rfl, hi3, hk3⟩
            have hb3 : Below w.heap.size w w3 := HB.out.trans (hk3.below (fun _ e => e) HB.out.size)
            have HI3 := Lib.hid hi3; have HB3 := Lib.hid hb3
            clear hi3 hk3 hb3
            go_wp2_with fail
            refine (Done_any w3 _ R _ HI3.out).mono ?_
            rw [show (!({ s with bad := true } : RS).bad && decide (({ s with bad := true } : RS).left.length = 0)) = false from rfl]
            rintro e w4 ⟨rfl, rfl⟩
            go_wp2
            go_roundw
            case rel => exact ⟨i + 1, a, true, _, by omega, by go_num, rfl, rfl, by omega, HI3.out, ⟨(fun e => by cases e), (fun _ => rfl)⟩, HB3.out⟩
            case measure => simp [intOf]; omega
          · have h4' : 4 ≤ n - a := by omega
            have hlt : ¬ (n : Int) - (a : Int) < 4 := by omega
            have hg : ∀ j, (l.drop a).getD j 0 = l.getD (a + j) 0 := fun j => by simp only [List.getD_eq_getElem?_getD, List.getElem?_drop]
            have hok : s.bad = false ∧ 4 ≤ s.left.length := by rw [hs]; refine ⟨rfl, ?_⟩; simp only [List.length_drop]; have := HL.out; omega
            have hq : ∀ W, Below w.heap.size w W → ∃ ad, A = some ad ∧ ∀ j, j < 4 → W.cell? (ad.add (a + j)) = some (.int .u8 (l.getD (a + j) 0).toNat) := fun W hW => by
              obtain ⟨ad, hA, _, _⟩ := (HR.out.below hW).at_ (k := a) (by omega)
              refine ⟨ad, hA, fun j hj => ?_⟩
              obtain ⟨ad', hA', _, h5⟩ := (HR.out.below hW).at_ (k := a + j) (by omega)
              rw [hA] at hA'; injection hA' with hA'; subst hA'; exact h5
            have HQ := Lib.hid hq
            by_cases h128 : (l.getD (a + 0) 0).toNat < 128
            · have hint : s.int = (((l.getD (a + 0) 0).toNat : Int) * 16777216 + (l.getD (a + 1) 0).toNat * 65536 + (l.getD (a + 2) 0).toNat * 256 + (l.getD (a + 3) 0).toNat - 2, ({ left := (l.drop a).drop 4, bad := false } : RS)) := by
                unfold RS.int
                rw [if_pos hok, hs]
                simp only [hg]
                rw [if_pos h128]
                simp only [i4, hg]
              have l0 := (l.getD (a + 0) 0).toNat_lt; have l1 := (l.getD (a + 1) 0).toNat_lt; have l2 := (l.getD (a + 2) 0).toNat_lt; have l3 := (l.getD (a + 3) 0).toNat_lt
              have hda : (l.drop a).drop 4 = l.drop (a + 4) := by rw [List.drop_drop]
              rw [hda] at hint
              have HBY := Lib.hid hint
              have hdone : (!({ left := l.drop (a + 4), bad := false } : RS).bad && decide (({ left := l.drop (a + 4), bad := false } : RS).left.length = 0)) = decide (a + 4 = n) := by
                simp only [List.length_drop, Bool.not_false, Bool.true_and]
                have := HL.out
                congr 1
                simp only [eq_iff_iff]
                omega
              have HD := Lib.hid hdone
              clear hint hs hrw hg hok hq hda hdone
              by_cases hend : a + 4 = n
              · have hend' : (a : Int) + 4 = (n : Int) := by omega
                have HE := Lib.hid (show decide (a + 4 = n) = true by simp [hend])
                go_wp2_with fail
                refine (RInt_any wr _ R s HI.out).mono ?_
                rw [HBY.out]
                rintro e w3 ⟨rfl, hi3, hk3⟩
                have hb3 : Below w.heap.size w w3 := HB.out.trans (hk3.below (fun _ e => e) HB.out.size)
                have HI3 := Lib.hid hi3; have HB3 := Lib.hid hb3
                clear hi3 hk3 hb3
                obtain ⟨ad, hA, hq4⟩ := HQ.out w3 HB3.out
                subst hA
                have q0 := hq4 0 (by omega); have q1 := hq4 1 (by omega); have q2 := hq4 2 (by omega); have q3 := hq4 3 (by omega)
                generalize (l.getD (a + 0) 0).toNat = x0 at *; generalize (l.getD (a + 1) 0).toNat = x1 at *; generalize (l.getD (a + 2) 0).toNat = x2 at *; generalize (l.getD (a + 3) 0).toNat = x3 at *
                rw [Nat.add_zero] at q0
                have hadd : ∀ j, 0 < j → ad.add j = ⟨ad.block, ad.off + j, none⟩ := by
                  intro j hj; unfold Addr.add; split
                  · omega
                  · rfl
                rw [hadd _ (by omega)] at q1 q2 q3
                clear hadd
                have hf1 : ((n : Int) - (a : Int) < 4) = False := by simp; omega
                have hf2 : (128 ≤ (x0 : Int)) = False := by simp; omega
                clear hq4 hend hlt h128
                go_wp2_with fail
                go_wp2_with fail
                refine wp_region_q (by kernel_rfl) (by kernel_rfl) ?_
                repeat (first | go_big_quiet_skip | (go_big_quiet_want; go_big_quiet_op; first | go_big_quiet_on))
                refine wpQuiet_nil ?_
                go_wp2_with fail
                refine (Done_any w3.drew _ R _ (HI3.out.below ((Below.refl _ w3).drew))).mono ?_
                rw [HD.out, HE.out]
                rintro e w4 ⟨rfl, rfl⟩
                go_wp2
                go_roundw
                case rel => exact ⟨i + 1, a + 4, false, _, by omega, by go_num, by go_num, rfl, by omega, HI3.out.below ((Below.refl _ w3).drew), ⟨(fun _ => rfl), (fun e => by cases e)⟩, HB3.out.drew⟩
                case measure => simp [intOf]; omega
              · have hend' : ¬ (a : Int) + 4 = (n : Int) := by omega
                have HE := Lib.hid (show decide (a + 4 = n) = false by simp [hend])
                go_wp2_with fail
                refine (RInt_any wr _ R s HI.out).mono ?_
                rw [HBY.out]
                rintro e w3 ⟨rfl, hi3, hk3⟩
                have hb3 : Below w.heap.size w w3 := HB.out.trans (hk3.below (fun _ e => e) HB.out.size)
                have HI3 := Lib.hid hi3; have HB3 := Lib.hid hb3
                clear hi3 hk3 hb3
                obtain ⟨ad, hA, hq4⟩ := HQ.out w3 HB3.out
                subst hA
                have q0 := hq4 0 (by omega); have q1 := hq4 1 (by omega); have q2 := hq4 2 (by omega); have q3 := hq4 3 (by omega)
                generalize (l.getD (a + 0) 0).toNat = x0 at *; generalize (l.getD (a + 1) 0).toNat = x1 at *; generalize (l.getD (a + 2) 0).toNat = x2 at *; generalize (l.getD (a + 3) 0).toNat = x3 at *
                rw [Nat.add_zero] at q0
                have hadd : ∀ j, 0 < j → ad.add j = ⟨ad.block, ad.off + j, none⟩ := by
                  intro j hj; unfold Addr.add; split
                  · omega
                  · rfl
                rw [hadd _ (by omega)] at q1 q2 q3
                clear hadd
                have hf1 : ((n : Int) - (a : Int) < 4) = False := by simp; omega
                have hf2 : (128 ≤ (x0 : Int)) = False := by simp; omega
                clear hq4 hend hlt h128
                go_wp2_with fail
                go_wp2_with fail
                refine wp_region_q (by kernel_rfl) (by kernel_rfl) ?_
                repeat (first | go_big_quiet_skip | (go_big_quiet_want; go_big_quiet_op; first | go_big_quiet_on))
                refine wpQuiet_nil ?_
                go_wp2_with fail
                refine (Done_any w3.drew _ R _ (HI3.out.below ((Below.refl _ w3).drew))).mono ?_
                rw [HD.out, HE.out]
                rintro e w4 ⟨rfl, rfl⟩
                go_wp2
                go_roundw
                case rel => exact ⟨i + 1, a + 4, false, _, by omega, by go_num, by go_num, rfl, by omega, HI3.out.below ((Below.refl _ w3).drew), ⟨(fun _ => rfl), (fun e => by cases e)⟩, HB3.out.drew⟩
                case measure => simp [intOf]; omega
            · have hint : s.int = (0, ({ left := (l.drop a).drop 4, bad := true } : RS)) := by
                unfold RS.int
                rw [if_pos hok, hs]
                simp only [hg]
                rw [if_neg h128]
              have HBY := Lib.hid hint
              have hge : ¬ ((l.getD (a + 0) 0).toNat : Int) < 128 := by omega
              clear hint hs hrw hg hok hq
              go_wp2_with fail
              refine (RInt_any wr _ R s HI.out).mono ?_
              rw [HBY.out]
              rintro e w3 ⟨rfl, hi3, hk3⟩
              have hb3 : Below w.heap.size w w3 := HB.out.trans (hk3.below (fun _ e => e) HB.out.size)
              have HI3 := Lib.hid hi3; have HB3 := Lib.hid hb3
              clear hi3 hk3 hb3
              obtain ⟨ad, hA, hq4⟩ := HQ.out w3 HB3.out
              subst hA
              have q0 := hq4 0 (by omega)
              rw [Nat.add_zero] at q0 hge
              generalize (l.getD a 0).toNat = x0 at q0 hge
              have hf1 : ((n : Int) - (a : Int) < 4) = False := by simp; omega
              have hf2 : (128 ≤ (x0 : Int)) = True := by simp; omega
              clear hq4 h128 hlt hge
              go_wp2_with fail
              refine (Done_any w3 _ R _ HI3.out).mono ?_
              rw [show (!({ left := (l.drop a).drop 4, bad := true } : RS).bad && decide (({ left := (l.drop a).drop 4, bad := true } : RS).left.length = 0)) = false from rfl]
              rintro e w4 ⟨rfl, rfl⟩
              go_wp2
              go_roundw
              case rel => exact ⟨i + 1, a, true, _, by omega, by go_num, rfl, rfl, by omega, HI3.out, ⟨(fun e => by cases e), (fun _ => rfl)⟩, HB3.out⟩
              case measure => simp [intOf]; omega
        · have hs := hs1 rfl
          clear hs0 hs1
          have hint : s.int = (0, { s with bad := true }) := by unfold RS.int; rw [if_neg (by rw [hs]; simp)]
          have HBY := Lib.hid hint
          clear hint hs hrw
          go_wp2_with fail
          refine (RInt_any wr _ R s HI.out).mono ?_
          rw [HBY.out]
          rintro e w3 ⟨rfl, hi3, hk3⟩
          have hb3 : Below w.heap.size w w3 := HB.out.trans (hk3.below (fun _ e => e) HB.out.size)
          have HI3 := Lib.hid hi3; have HB3 := Lib.hid hb3
          clear hi3 hk3 hb3
          go_wp2_with fail
          refine (Done_any w3 _ R _ HI3.out).mono ?_
          rw [show (!({ s with bad := true } : RS).bad && decide (({ s with bad := true } : RS).left.length = 0)) = false from rfl]
          rintro e w4 ⟨rfl, rfl⟩
          go_wp2
          go_roundw
          case rel => exact ⟨i + 1, a, true, _, by omega, by go_num, rfl, rfl, by omega, HI3.out, ⟨(fun e => by cases e), (fun _ => rfl)⟩, HB3.out⟩
          case measure => simp [intOf]; omega
    · obtain rfl : i = n2 := by omega
      go_wp2_with fail
      refine (answers12_any wr).mono ?_
      rintro e w5 ⟨rfl, hb5⟩
      go_wp2
      go_ret
      exact ⟨rfl, HB.out.trans (hb5.mono HB.out.size)⟩
end Go.Proofs.Ytobponlakldplaa
