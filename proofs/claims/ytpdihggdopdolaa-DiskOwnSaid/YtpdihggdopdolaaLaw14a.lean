/- The walk of layer 14's law DiskOwn. Condition: the slice takes at most the form's own reach. -/
import Derived.Test.YtpdihggdopdolaaLaw14
import Derived.Test.YtpdihggdopdolaaStr
namespace Go.Proofs.Ytpdihggdopdolaa
open Go.RowKit
theorem DiskIs.tight {w : World} {F : Nat → Prop} {D : Nat} {s : DS} (h : DiskIs w F D s) : DiskIs w (fun k => F k ∧ k < w.heap.size) D s := by
  obtain ⟨gs, r, h1, h2⟩ := h
  exact ⟨gs, r, h1, fun k e => ⟨h2 k e, h1.foot_lt k e⟩⟩
set_option maxRecDepth 100000 in
theorem DiskOwn_any (A : Option Addr) (n c : Nat) (w : World) (l : List UInt8) (hn : n ≤ 140737488351232) (hr : Rd w w.heap.size A n l) :
    Calls Try.prog 3 #[.slice A n c] w fun e w' => e = .returned (.bool true) ∧ Below w.heap.size w w' := by
  have hN1 : DS.new 1 = { bl := [zero32], fuse := -1, down := false, writes := 0 } := rfl
  have HN := Lib.hid hN1; clear hN1
  by_cases h32 : n = 32
  · subst h32
    have hlen : l.length = 32 := hr.len.symm
    have hw1 : ({ bl := [zero32], fuse := -1, down := false, writes := 0 } : DS).write 0 l = (0, { bl := [l], fuse := -1, down := false, writes := 1 }) := by
      unfold DS.write
      rw [if_pos ⟨rfl, hlen⟩]
      rfl
    have HW1 := Lib.hid hw1; have HLEN := Lib.hid hlen; clear hw1 hlen
    have hhas : ({ bl := [l], fuse := -1, down := false, writes := 1 } : DS).has 0 = true := rfl
    have HHAS := Lib.hid hhas; clear hhas
    go_enter Try.func3, Try.ntmps3
    go_wp2_with fail
    refine (New_any w 1).mono ?_
    rintro e w1 ⟨D, rfl, hd1, hb1⟩
    rw [HN.out] at hd1
    replace hd1 := hd1.tight
    go_wp2_with (at_builtin; refine app_bytes rfl (.tmp 21) (.tmp 22) rfl w1.heap.size (.slice (some ⟨w1.heap.size, 0, none⟩) 0 0) [] rfl (Own.new_ w1 _ (Nat.le_refl _) [] (by simp) #[] rfl) _ A 32 c l rfl ((hr.below hb1).alloc hb1.size _) (by simp) (by simp) ?_; intro v2 w2 hown2 hg2 _)
    have hb12 : Below w1.heap.size w1 w2 := below_app ((Below.refl _ _).alloc (Nat.le_refl _) _) (Own.new_ w1 _ (Nat.le_refl _) [] (by simp) #[] rfl) (by simp) hg2
    have hb2 : Below w.heap.size w w2 := hb1.trans (hb12.mono hb1.size)
    clear hg2
    rw [List.nil_append] at hown2
    obtain ⟨gc, cc, cur, rfl, hgc, hcur, hcc, hcell⟩ := hown2.blk (by rw [HLEN.out]; omega)
    rw [HLEN.out] at hown2 ⊢
    have hd2 := hd1.below hb12
    replace hd2 : DiskIs w2 (fun k => w.heap.size ≤ k ∧ k ≠ gc) D _ := hd2.weaken (fun k e => ⟨e.1, by omega⟩)
    have hsz1 := hb1.size
    have hgl := hcur.lt
    refine (Write_any w2 _ D _ 0 _ 32 cc l (by decide) hd2 hown2.rd).mono ?_
    rw [HW1.out]
    rintro e w3 ⟨rfl, hd3, hk3⟩
    have hb3 : Below w.heap.size w w3 := hb2.trans (hk3.below (fun _ e => e.1) hb2.size)
    have hs23 := hk3.size
    replace hd3 : DiskIs w3 (fun k => w.heap.size ≤ k ∧ k ≠ gc) D _ := hd3.weaken (fun k e => by
      rcases e with e | e
      · exact e
      · exact ⟨Nat.le_trans hb2.size e, by omega⟩)
    have hc3 : w3.cell? ⟨gc, 0, none⟩ = some (.int .u8 (l.getD 0 0).toNat) := ((hcur.keeps hk3 (fun e => e.2 rfl)).cell 0).trans (hcell 0 (by rw [HLEN.out]; omega))
    have hf3 : w3.frozen? ⟨gc, 0, none⟩ = false := (hcur.keeps hk3 (fun e => e.2 rfl)).frozen 0
    generalize (l.getD 0 0) = x0 at hc3
    clear hown2 hcur hcell hd1 hd2 hk3 hb12 hb1 hb2
    go_wp2_with fail
    generalize (bits BinOp.xor IntKind.u8 (x0.toNat : Int) 255) = y0
    have hkc : Keeps (fun k => k = gc) w3 (w3.setCell ⟨gc, 0, none⟩ (.int .u8 y0)) := (Keeps.refl (fun k => k = gc) w3).setCell (p := ⟨gc, 0, none⟩) rfl _
    have hb4 : Below w.heap.size w (w3.setCell ⟨gc, 0, none⟩ (.int .u8 y0)) := hb3.setCell (p := ⟨gc, 0, none⟩) (by show _ ≤ gc; omega) _
    have hd4 := hd3.keeps hkc (fun k e1 e2 => e1.2 e2)
    generalize w3.setCell ⟨gc, 0, none⟩ (.int .u8 y0) = w4 at hb4 hd4 ⊢
    clear hkc hd3 hc3 hf3 hb3
    obtain ⟨gs, r, hA4, _⟩ := hd4
    refine (Read_any w4 D gs r _ 0 hA4).mono ?_
    rintro e w5 ⟨v5, rfl, ho5, hb45⟩
    rw [HHAS.out, if_pos rfl] at ho5
    rw [HHAS.out]
    have hgl5 : ({ bl := [l], fuse := -1, down := false, writes := 1 } : DS).bl.getD (0 : Int).toNat [] = l := rfl
    rw [hgl5] at ho5
    clear hgl5
    obtain ⟨gx, cx, curx, rfl, hgx, hcurx, hccx, hcellx⟩ := ho5.blk (by rw [HLEN.out]; omega)
    rw [HLEN.out]
    have hx1 : w5.cell? ⟨gx, 1, none⟩ = some (.int .u8 (l.getD 1 0).toNat) := (hcurx.cell 1).trans (hcellx 1 (by rw [HLEN.out]; omega))
    have hxf : w5.frozen? ⟨gx, 1, none⟩ = false := hcurx.frozen 1
    generalize (l.getD 1 0) = x1 at hx1
    have H4 := Lib.hid hA4
    clear ho5 hcurx hcellx hccx hA4
    go_wp2_with fail
    generalize (bits BinOp.xor IntKind.u8 (x1.toNat : Int) 255) = y1
    have hb46 : Below w4.heap.size w4 (w5.setCell ⟨gx, 1, none⟩ (.int .u8 y1)) := hb45.setCell (p := ⟨gx, 1, none⟩) hgx _
    generalize w5.setCell ⟨gx, 1, none⟩ (.int .u8 y1) = w6 at hb46 ⊢
    have hb6 : Below w.heap.size w w6 := hb4.trans (hb46.mono hb4.size)
    refine (Read_any w6 D gs r _ 0 (H4.out.below hb46)).mono ?_
    rintro e w7 ⟨v7, rfl, ho7, hb67⟩
    rw [HHAS.out, if_pos rfl] at ho7
    rw [HHAS.out]
    have hgl7 : ({ bl := [l], fuse := -1, down := false, writes := 1 } : DS).bl.getD (0 : Int).toNat [] = l := rfl
    rw [hgl7] at ho7
    clear hgl7 hx1 hxf hb45 hb46
    obtain ⟨A7, c7, rfl⟩ := ho7.shape
    rw [HLEN.out]
    have hb7 : Below w.heap.size w w7 := hb6.trans (hb67.mono hb6.size)
    have H7 := Lib.hid ho7
    clear ho7 hb67
    go_wp2_with fail
    refine (answers14_any w7).mono ?_
    rintro e w8 ⟨rfl, hb78⟩
    have hb8 : Below w.heap.size w w8 := hb7.trans (hb78.mono hb7.size)
    have hr7 := H7.out.rd
    rw [HLEN.out] at hr7
    have HR7 := Lib.hid (hr7.below hb78)
    have HR := Lib.hid (hr.below hb8)
    clear hr7 hr hb78
    go_wp2_with (first
      | (refine wpList_str rfl 22 9 5 (.tmp 61) rfl A7 32 c7 l rfl Try.underlying22 Try.underlying5 Try.underlying9 _ HR7.out ?_)
      | (refine wpList_str rfl 22 9 5 (.tmp 63) rfl A 32 c l rfl Try.underlying22 Try.underlying5 Try.underlying9 _ HR.out ?_)
      | fail)
    go_ret
    exact ⟨rfl, hb8⟩
  · have hnl : ¬ l.length = 32 := by rw [← hr.len]; exact h32
    have hw1 : ({ bl := [zero32], fuse := -1, down := false, writes := 0 } : DS).write 0 l = (1, { bl := [zero32], fuse := -1, down := false, writes := 0 }) := by
      unfold DS.write
      rw [if_neg (fun e => hnl e.2)]
    have HW1 := Lib.hid hw1; clear hw1 hnl
    have h32' : ¬ (n : Int) = 32 := by omega
    go_enter Try.func3, Try.ntmps3
    go_wp2_with fail
    refine (answers14_any w).mono ?_
    rintro e w1 ⟨rfl, hb1⟩
    go_wp2_with fail
    refine (New_any w1 1).mono ?_
    rintro e w2 ⟨D, rfl, hd2, hb12⟩
    have hb2 : Below w.heap.size w w2 := hb1.trans (hb12.mono hb1.size)
    rw [HN.out] at hd2
    go_wp2_with fail
    refine (Write_any w2 _ D _ 0 A n c l (by decide) hd2 ((hr.below hb2).more hb2.size)).mono ?_
    rw [HW1.out]
    rintro e w3 ⟨rfl, _, hk3⟩
    have hs1 := hb1.size
    have hb3 : Below w.heap.size w w3 := hb2.trans (hk3.below (fun k e => Nat.le_trans hs1 e) hb2.size)
    go_wp2
    go_ret
    exact ⟨rfl, hb3⟩
end Go.Proofs.Ytpdihggdopdolaa
