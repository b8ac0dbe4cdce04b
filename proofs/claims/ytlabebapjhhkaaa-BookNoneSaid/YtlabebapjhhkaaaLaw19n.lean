/- The walk of layer 19's law BookNone. No conditions. -/
import Derived.Test.YtlabebapjhhkaaaM13
namespace Go.Proofs.Ytlabebapjhhkaaa
open Go.RowKit Go.Shelf
set_option maxRecDepth 100000 in
theorem BookNone_any (w : World) (o : OpV) (A : Option Addr) (c : Nat) : Calls Try.prog 6 #[.agg (opC o A c)] w fun e w' => e = .returned (.bool true) ∧ Below w.heap.size w w' := by
  have HNIL := Lib.hid (fun w => do_nil w o A c)
  obtain ⟨k, n, hd, parts⟩ := o
  simp only at HNIL
  dsimp only [opC] at HNIL ⊢
  go_enter Try.func6, Try.ntmps6
  go_upto_region 1 with (fail)
  have hb := below1 w (.cells #[.int .i64 k, .int .i64 n, .string ⟨hd.id.toArray⟩, .int .i64 hd.size, .slice A parts.length c] 38)
  have hB := Blk.new w 38 #[.int .i64 k, .int .i64 n, .string ⟨hd.id.toArray⟩, .int .i64 hd.size, .slice A parts.length c]
  obtain ⟨b, hbe⟩ : ∃ b, b = w.heap.size := ⟨_, rfl⟩
  rw [← hbe] at hB ⊢
  generalize w.alloc (.cells #[.int .i64 k, .int .i64 n, .string ⟨hd.id.toArray⟩, .int .i64 hd.size, .slice A parts.length c] 38) = w1 at hb hB ⊢
  have HB := Lib.hid hb; have HBB := Lib.hid hB
  clear hb hB hbe
  go_upto_region 3 with (first | refine wpList_load_row rfl 38 (.tmp 1) rfl b rfl _ _ _ _ HBB.out Try.underlying38 rfl (by kernel_rfl) ?_ | (go_at_call 13; refine (HNIL.out w1).mono ?_; rintro e w2 ⟨q, rfl, hq, hb2⟩))
  have HB2 := Lib.hid (HB.out.trans (hb2.mono HB.out.size)); have HQ := Lib.hid hq
  have HBB2 := Lib.hid (HBB.out.below hb2 HBB.out.lt)
  clear hb2 hq
  go_wp2_with fail
  refine (answers19_any w2).mono ?_
  rintro e w3 ⟨rfl, hb3⟩
  have HB3 := Lib.hid (HB2.out.trans (hb3.mono HB2.out.size))
  have hBB3 := HBB2.out.below hb3 HBB2.out.lt
  have k0 : w3.cell? ⟨b, 0, none⟩ = some (.int .i64 k) := (hBB3.cell 0).trans rfl
  clear hb3 hBB3
  have hq := HQ.out
  by_cases q1 : q = 1
  · subst q1
    clear hq
    go_wp2_with fail
    refine (Down_nil w3).mono ?_
    rintro e w4 ⟨rfl, hw4⟩
    subst hw4
    go_wp2_with fail
    refine (View_nil w4).mono ?_
    rintro e w5 ⟨rfl, hb5⟩
    have HB5 := Lib.hid (HB3.out.trans (hb5.mono HB3.out.size))
    go_wp2_with fail
    refine (Same_any w5 BookV.zero BookV.zero (fun _ => True) (fun _ => True) none none none none none none 0 0 0 0 0 0 (BookRd.zero_ _ _) (BookRd.zero_ _ _) (by decide) (by decide)).mono ?_
    rintro e w6 ⟨rfl, hb6⟩
    have HB6 := Lib.hid (HB5.out.trans (hb6.mono HB5.out.size))
    rw [decide_eq_true zero_bk]
    go_wp2
    go_ret
    exact ⟨rfl, HB6.out⟩
  · by_cases q2 : k < 1
    · clear hq
      go_wp2_with fail
      refine (Down_nil w3).mono ?_
      rintro e w4 ⟨rfl, hw4⟩
      subst hw4
      go_wp2_with fail
      refine (View_nil w4).mono ?_
      rintro e w5 ⟨rfl, hb5⟩
      have HB5 := Lib.hid (HB3.out.trans (hb5.mono HB3.out.size))
      go_wp2_with fail
      refine (Same_any w5 BookV.zero BookV.zero (fun _ => True) (fun _ => True) none none none none none none 0 0 0 0 0 0 (BookRd.zero_ _ _) (BookRd.zero_ _ _) (by decide) (by decide)).mono ?_
      rintro e w6 ⟨rfl, hb6⟩
      have HB6 := Lib.hid (HB5.out.trans (hb6.mono HB5.out.size))
      rw [decide_eq_true zero_bk]
      go_wp2
      go_ret
      exact ⟨rfl, HB6.out⟩
    · have q3 : 6 < k := by omega
      clear hq
      go_wp2_with fail
      refine (Down_nil w3).mono ?_
      rintro e w4 ⟨rfl, hw4⟩
      subst hw4
      go_wp2_with fail
      refine (View_nil w4).mono ?_
      rintro e w5 ⟨rfl, hb5⟩
      have HB5 := Lib.hid (HB3.out.trans (hb5.mono HB3.out.size))
      go_wp2_with fail
      refine (Same_any w5 BookV.zero BookV.zero (fun _ => True) (fun _ => True) none none none none none none 0 0 0 0 0 0 (BookRd.zero_ _ _) (BookRd.zero_ _ _) (by decide) (by decide)).mono ?_
      rintro e w6 ⟨rfl, hb6⟩
      have HB6 := Lib.hid (HB5.out.trans (hb6.mono HB5.out.size))
      rw [decide_eq_true zero_bk]
      go_wp2
      go_ret
      exact ⟨rfl, HB6.out⟩
end Go.Proofs.Ytlabebapjhhkaaa
