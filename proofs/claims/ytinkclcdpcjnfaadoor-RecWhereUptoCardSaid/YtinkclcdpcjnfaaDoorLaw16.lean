/- The walks of the laws' own answers, layer 16, and of the document's Same. Condition: sha's constants are there. -/
import Derived.Test.YtinkclcdpcjnfaaDoorRecT
namespace Go.Proofs.YtinkclcdpcjnfaaDoor
open Go.RowKit
theorem decB_lt {b : List UInt8} (h : b.length < 24) : decB b = (BookV.zero, false) := by
  cases hd : (decB b).2
  · rw [← decB_no hd, ← hd]
  · obtain ⟨h1, h2⟩ := decB_ok hd
    obtain ⟨_, e1⟩ := book_enc h1
    have := (book_lens (decB b).1).2.2.2
    rw [← e1, h2] at this
    omega
def st3 : StateV := { StateV.zero with epoch := 3 }
def ob0 : ObjV := ⟨[], 0, [], []⟩
theorem st3_bad : (WS.state ⟨[], false⟩ st3).bad = false := by rfl
theorem st3_len : (WS.state ⟨[], false⟩ st3).out.length = 32 := by rfl
theorem bk0_bad : (WS.book ⟨[], false⟩ BookV.zero).bad = false := by rfl
theorem bk0_len : (WS.book ⟨[], false⟩ BookV.zero).out.length = 24 := by rfl
theorem StateRd.nil_ (w : World) (S : Nat → Prop) {x : StateV} (Ao Ap : Option Addr) (h1 : x.objs = []) (h2 : x.pobjs = []) : StateRd w S x Ao Ap := ⟨fun h => by rw [h1] at h; simp at h, fun h => by rw [h2] at h; simp at h⟩
set_option maxRecDepth 100000 in
set_option maxHeartbeats 2000000 in
theorem answers16_any (w : World) (hk : Consts w) : Calls Tryd.prog 12 #[] w fun e w' => e = .returned (.bool true) ∧ Below w.heap.size w w' := by
  have hB0 : 0 < w.heap.size := by have := World.block_lt_of_cell? w _ (hk 0 (by omega)); omega
  go_enter Tryd.func12, Tryd.ntmps12
  go_wp2_with fail
  refine (EncodeState_any w (fun _ => False) st3 none none 0 0 (StateRd.nil_ _ _ _ _ rfl rfl) (fun k e => e.elim) (by decide)).mono ?_
  rintro e w1 ⟨v1, rfl, hf1, hb1, _⟩
  rw [st3_bad] at hf1 ⊢
  simp only [Bool.false_eq_true, if_false] at hf1
  have hlen := st3_len
  have hdec := decS_enc st3_bad
  generalize (WS.state ⟨[], false⟩ st3).out = out at hf1 hlen hdec
  obtain ⟨A1, c1, rfl, hrd, _⟩ := hf1
  have HLEN := Lib.hid hlen; have HDEC := Lib.hid hdec; have HB := Lib.hid hb1; have HRD := Lib.hid hrd
  clear hlen hdec hb1 hrd
  go_wp2_with fail
  refine (DecodeState_any w1 A1 _ c1 out (by rw [HLEN.out]; omega) HRD.out).mono ?_
  rintro e w2 ⟨Ao, Ap, co, cp, rfl, _, hb2⟩
  rw [HDEC.out]
  have HB2 := Lib.hid (HB.out.trans (hb2.mono HB.out.size))
  clear hb2
  have HBX := Lib.hid (Blk.new w2 26 (stateCells st3 Ao Ap co cp))
  have HBB := Lib.hid ((Below.refl w2.heap.size w2).alloc (Nat.le_refl _) (.cells (stateCells st3 Ao Ap co cp) 26))
  go_wp2_with fail
  obtain ⟨q, hq⟩ : ∃ q, q = w2.heap.size := ⟨_, rfl⟩
  rw [← hq] at HBX ⊢
  have HQ := Lib.hid hq; clear hq
  refine (EncodeBook_any _ (fun _ => False) BookV.zero none none none 0 0 0 (BookRd.zero_ _ _) (fun k e => e.elim) (by decide)).mono ?_
  rintro e w3 ⟨v3, rfl, hf3, hb3, _⟩
  rw [bk0_bad] at hf3 ⊢
  simp only [Bool.false_eq_true, if_false] at hf3
  have hlen3 := bk0_len
  generalize (WS.book ⟨[], false⟩ BookV.zero).out = out3 at hf3 hlen3
  obtain ⟨A3, c3, rfl, _, _⟩ := hf3
  have HLEN3 := Lib.hid hlen3
  have HBX3 := Lib.hid (HBX.out.below hb3 HBX.out.lt); have HB3 := Lib.hid (HBB.out.trans (hb3.mono HBB.out.size))
  clear hlen3 hb3
  go_wp2_with fail
  refine (DecodeBook_any _ none 0 0 [] (by omega) Rd.nil_).mono ?_
  rintro e w4 ⟨Bd, Bu, Bc, ed, eu, ec, rfl, _, hb4⟩
  rw [decB_lt (b := []) (by simp)]
  have hbx4 := HBX3.out.below hb4 HBX3.out.lt
  have c0 : ∀ o, (w4.alloc o).cell? ⟨q, 0, none⟩ = some (.int .i64 st3.epoch) := fun o => ((hbx4.alloc o).cell 0).trans rfl
  have hep : (st3.epoch == 3) = true := rfl
  have hl32 : ((out.length : Int) == 32) = true := by rw [HLEN.out]; rfl
  have hl24 : ((out3.length : Int) == 24) = true := by rw [HLEN3.out]; rfl
  have HB4 := Lib.hid (HB2.out.trans ((HB3.out.trans (hb4.mono HB3.out.size)).mono HB2.out.size))
  clear hb4 hbx4 HBX HBX3
  go_wp2_with fail
  have hba : Below w.heap.size w (w4.alloc (.cells (bookCells BookV.zero Bd Bu Bc ed eu ec) 39)) := HB4.out.alloc HB4.out.size _
  refine (Tag_any _ (hk.below hba hB0) 1 2 ob0 none none 0 0 Rd.nil_).mono ?_
  rintro e w5 ⟨A5, c5, rfl, _, _, hb5⟩
  have HB5 := Lib.hid (hba.trans (hb5.mono hba.size))
  clear hb5
  go_wp2_with fail
  go_ret
  exact ⟨rfl, HB5.out⟩
theorem Same_no (w : World) (A1 A2 : Option Addr) (n1 c1 n2 c2 : Nat) : Calls Tryd.prog 11 #[.slice A1 n1 c1, .bool false, .slice A2 n2 c2, .bool false] w fun e w' => e = .returned (.bool true) ∧ w' = w := by
  go_enter Tryd.func11, Tryd.ntmps11
  go_wp2
  go_ret
  exact ⟨rfl, rfl⟩
theorem Same_yes (w : World) (A1 A2 : Option Addr) (n1 c1 n2 c2 : Nat) (l : List UInt8) (h1 : Rd w w.heap.size A1 n1 l) (h2 : Rd w w.heap.size A2 n2 l) : Calls Tryd.prog 11 #[.slice A1 n1 c1, .bool true, .slice A2 n2 c2, .bool true] w fun e w' => e = .returned (.bool true) ∧ w' = w := by
  have H1 := Lib.hid h1; have H2 := Lib.hid h2
  have hd : decide (l = l) = true := by simp
  clear h1 h2
  go_enter Tryd.func11, Tryd.ntmps11
  go_wp2_with (first | (refine wpList_str rfl 27 9 5 (.tmp 16) rfl A1 n1 c1 l rfl Tryd.underlying27 Tryd.underlying5 Tryd.underlying9 _ H1.out ?_) | (refine wpList_str rfl 27 9 5 (.tmp 18) rfl A2 n2 c2 l rfl Tryd.underlying27 Tryd.underlying5 Tryd.underlying9 _ H2.out ?_) | (refine wpList_eql rfl _ _ _ _ rfl l l rfl rfl ?_))
  go_ret
  exact ⟨rfl, rfl⟩
end Go.Proofs.YtinkclcdpcjnfaaDoor
