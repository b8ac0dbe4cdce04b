/- The walk of layer 15's law SlotErased. Conditions: the slice is no greater than a row's own reach. -/
import Derived.Test.YtpdihggdopdolaaLaw15s
namespace Go.Proofs.Ytpdihggdopdolaa
open Go.RowKit
theorem Len_G (w : World) (G : Nat → Prop) (D : Nat) (s : DS) (h : DiskIs w G D s) :
    Calls Try.prog 20 #[.pointer (some ⟨D, 0, none⟩)] w fun e w' => e = .returned (.int .i64 s.bl.length) ∧ w' = w := by
  obtain ⟨gs, r, hA, hF⟩ := h
  exact Len_any w hA
/-- How many bytes are not 0. -/
def nz (l : List UInt8) : Nat := l.countP (· != 0)
/-- Of the blocks from 1 on. -/
def nzs (bl : List (List UInt8)) (i : Nat) : Nat := ((List.range i).map fun j => nz (bl.getD (1 + j) [])).sum
theorem nzs_succ (bl : List (List UInt8)) (i : Nat) : nzs bl (i + 1) = nzs bl i + nz (bl.getD (1 + i) []) := by
  unfold nzs
  rw [List.range_succ, List.map_append, List.sum_append]
  simp
theorem nz_zero : nz zero32 = 0 := by unfold nz zero32; rfl
theorem nz_take_succ (l : List UInt8) (j : Nat) (hj : j < l.length) : nz (l.take (j + 1)) = nz (l.take j) + if l.getD j 0 = 0 then 0 else 1 := by
  unfold nz
  rw [List.take_add_one, List.countP_append]
  congr 1
  rw [List.getD_eq_getElem?_getD, List.getElem?_eq_getElem hj]
  by_cases h : l[j] = 0 <;> simp [h]
theorem piece_one (y : UInt8) : pieceOf [y] 0 = y :: List.replicate 31 0 := by
  unfold pieceOf
  simp
theorem nz_one (y : UInt8) : nz (pieceOf [y] 0) = if y = 0 then 0 else 1 := by
  rw [piece_one]
  unfold nz
  rw [List.countP_cons]
  have h : List.countP (fun x => x != 0) (List.replicate 31 (0 : UInt8)) = 0 := by rfl
  rw [h]
  by_cases hy : y = 0 <;> simp [hy]
/-- A clean slot that keeps one byte: what is not 0 on the disk. -/
theorem nzs_all {s : DS} {room side : Nat} {y : UInt8} (h : SOk s room side [y]) (hc : CleanP s room side 1) (hr : 0 < room) : nzs s.bl (2 * room) = if y = 0 then 0 else 1 := by
  have hall : ∀ j, j < 2 * room → nz (s.bl.getD (1 + j) []) = if j = side * room then nz (pieceOf [y] 0) else 0 := by
    intro j hj
    have hlt : 1 + j < s.bl.length := by rw [h.len]; omega
    have hs := h.sideLe
    have hd := h.data 0 (by unfold takesOf; simp)
    rw [Nat.add_zero] at hd
    have cases : j = side * room ∨ (∃ i, 0 < i ∧ i < room ∧ j = side * room + i) ∨ (∃ i, i < room ∧ j = (1 - side) * room + i) := by
      rcases (show side = 0 ∨ side = 1 by omega) with rfl | rfl
      · by_cases e : j = 0
        · exact Or.inl (by simpa using e)
        · by_cases e2 : j < room
          · exact Or.inr (Or.inl ⟨j, by omega, e2, by simp⟩)
          · exact Or.inr (Or.inr ⟨j - room, by omega, by simp; omega⟩)
      · by_cases e : j = room
        · exact Or.inl (by simpa using e)
        · by_cases e2 : j < room
          · exact Or.inr (Or.inr ⟨j, e2, by simp⟩)
          · exact Or.inr (Or.inl ⟨j - room, by omega, by omega, by simp; omega⟩)
    rcases cases with e | ⟨i, h0, hi, e⟩ | ⟨i, hi, e⟩
    · rw [if_pos e, e, (getD_some (by rw [← e]; exact hlt)).2 hd]
    · rw [if_neg (by omega), e, ← Nat.add_assoc, (getD_some (by rw [Nat.add_assoc, ← e]; exact hlt)).2 ((hc i hi).2 (by unfold takesOf; omega)), nz_zero]
    · have hne : j ≠ side * room := by
        rw [e]
        rcases (show side = 0 ∨ side = 1 by omega) with rfl | rfl <;> simp <;> omega
      rw [if_neg hne, e, ← Nat.add_assoc, (getD_some (by rw [Nat.add_assoc, ← e]; exact hlt)).2 (hc i hi).1, nz_zero]
  have hsum : ∀ m, m ≤ 2 * room → nzs s.bl m = if side * room < m then nz (pieceOf [y] 0) else 0 := by
    intro m
    induction m with
    | zero => intro _; rfl
    | succ m ih =>
      intro hm
      rw [nzs_succ, ih (by omega), hall m (by omega)]
      by_cases e : m = side * room
      · rw [if_neg (by omega), if_pos e, if_pos (by omega), Nat.zero_add]
      · rw [if_neg e]
        by_cases e2 : side * room < m
        · rw [if_pos e2, if_pos (by omega), Nat.add_zero]
        · rw [if_neg e2, if_neg (by omega)]
  have h9 : side * room ≤ 1 * room := Nat.mul_le_mul_right room h.sideLe
  rw [hsum _ (Nat.le_refl _), if_pos (by omega), nz_one]
theorem Read_o (w : World) (G : Nat → Prop) (D : Nat) (s : DS) (k : Nat) (l : List UInt8) (h : DiskIs w G D s) (hl : s.bl[k]? = some l) (h32 : l.length = 32) :
    Calls Try.prog 15 #[.pointer (some ⟨D, 0, none⟩), .int .i64 (k : Int)] w fun e w' => ∃ g c, e = .returned (.tuple #[.slice (some ⟨g, 0, none⟩) 32 c, .bool true]) ∧ (∀ j, j < 32 → w'.cell? ⟨g, j, none⟩ = some (.int .u8 ((l.getD j 0).toNat : Int))) ∧ Below w.heap.size w w' := by
  obtain ⟨gs, r, hA, hF⟩ := h
  refine (Read_any w D gs r s (k : Int) hA).mono ?_
  rintro e w2 ⟨v, rfl, hv, hb⟩
  have hk : k < s.bl.length := (List.getElem?_eq_some_iff.1 hl).1
  have hhas : s.has (k : Int) = true := by unfold DS.has; exact decide_eq_true ⟨by omega, by omega⟩
  have hgl : s.bl.getD (k : Int).toNat [] = l := by rw [Int.toNat_natCast, List.getD_eq_getElem?_getD, hl]; rfl
  rw [hhas, if_pos rfl, hgl] at hv
  rw [hhas]
  obtain ⟨g, c, cur, rfl, _, hB, _, hcur⟩ := hv.blk (by omega)
  rw [h32]
  exact ⟨g, c, rfl, fun j hj => (hB.cell j).trans (hcur j (by omega)), hb⟩
set_option maxRecDepth 100000 in
set_option maxHeartbeats 1000000 in
theorem SlotErased_any (A : Option Addr) (n c : Nat) (x : UInt8) (w : World) (l : List UInt8) (hle : n ≤ 140737488351232) (hnc : n ≤ c) (_hcc : c ≤ 9223372036854775807) (hr : Rd w w.heap.size A n l) :
    Calls Try.prog 9 #[.slice A n c, .int .u8 x.toNat] w fun e w' => e = .returned (.bool true) ∧ Below w.heap.size w w' := by
  have HL := Lib.hid hle; have HNC := Lib.hid hnc
  have HR := Lib.hid (fun W (hW : Below w.heap.size w W) => hr.below hW); have HLEN := Lib.hid hr.len
  clear hle hnc hr
  generalize hBe : w.heap.size = B at HR
  have HBE := Lib.hid hBe
  clear hBe
  go_enter Try.func9, Try.ntmps9
  go_wp2_with fail
  refine (SNew_any w 40 (by omega)).mono ?_
  rintro e w1 ⟨S, rfl, hs1, hb1⟩
  rw [HBE.out] at hs1 hb1
  obtain ⟨hok1, hcl1⟩ := SOk.new 40 (by omega)
  have e40 : min (max (40 : Int) 0) 512 = ((40 : Nat) : Int) := by decide
  rw [e40, Int.toNat_natCast] at hs1
  clear e40
  have hf1 : (DS.new (1 + 2 * ((40 : Nat) : Int))).fuse = -1 := rfl
  have hd1 : (DS.new (1 + 2 * ((40 : Nat) : Int))).down = false := rfl
  have hw1 : (DS.new (1 + 2 * ((40 : Nat) : Int))).writes = 0 := rfl
  generalize DS.new (1 + 2 * ((40 : Nat) : Int)) = s1 at hok1 hcl1 hf1 hd1 hw1 hs1
  have HS1 := Lib.hid hs1; have HB1 := Lib.hid hb1; have HOK1 := Lib.hid hok1; have HCL1 := Lib.hid hcl1; have HF1 := Lib.hid hf1; have HD1 := Lib.hid hd1; have HW1 := Lib.hid hw1
  have HBW1 := Lib.hid (show B ≤ w1.heap.size by have := hb1.size; have := HBE.out; omega)
  clear hs1 hb1 hok1 hcl1 hf1 hd1 hw1
  by_cases h4 : n < 4
  · have h4' : (n : Int) < 4 := by omega
    go_wp2_with fail
    refine (answers15_any w1).mono ?_
    rintro e w3 ⟨rfl, hb3⟩
    have HB3 := Lib.hid (HB1.out.trans (hb3.mono HBW1.out))
    clear hb3
    go_wp2_with fail
    go_ret
    exact ⟨rfl, HB3.out⟩
  by_cases h1000 : 1000 < n
  · have h4' : ¬ (n : Int) < 4 := by omega
    have h1000' : (1000 : Int) < (n : Int) := by omega
    go_wp2_with fail
    refine (answers15_any w1).mono ?_
    rintro e w3 ⟨rfl, hb3⟩
    have HB3 := Lib.hid (HB1.out.trans (hb3.mono HBW1.out))
    clear hb3
    go_wp2_with fail
    go_ret
    exact ⟨rfl, HB3.out⟩
  have h4' : ¬ (n : Int) < 4 := by omega
  have h1000' : ¬ (1000 : Int) < (n : Int) := by omega
  have hfit1 : ¬ 40 < takesOf l.length := by have := HLEN.out; unfold takesOf; omega
  obtain ⟨he2, hok2, hcl2, hp2⟩ := save_full l HOK1.out HCL1.out HF1.out HD1.out hfit1
  rw [HW1.out] at hp2
  have HSV := Lib.hid (show s1.save 40 0 [] l = (0, (s1.save 40 0 [] l).2) from Prod.ext he2 rfl)
  generalize (s1.save 40 0 [] l).2 = s2 at HSV hok2 hcl2 hp2
  have hf2 : s2.fuse = -1 := congrArg PW.left hp2
  have hd2 : s2.down = false := congrArg PW.gone hp2
  have hw2 : s2.writes ≤ 2000 := by
    have h9 : s2.writes = _ := congrArg PW.writes hp2
    simp only [List.length_nil] at h9
    unfold takesOf at *
    omega
  have hfit2 : ¬ 40 < takesOf [x].length := by unfold takesOf; simp
  obtain ⟨he3, hok3, hcl3, hp3⟩ := save_full [x] hok2 hcl2 hf2 hd2 hfit2
  have HSV3 := Lib.hid (show s2.save 40 (1 - 0) l [x] = (0, (s2.save 40 (1 - 0) l [x]).2) from Prod.ext he3 rfl)
  generalize (s2.save 40 (1 - 0) l [x]).2 = s3 at HSV3 hok3 hcl3 hp3
  obtain ⟨f, hf⟩ : ∃ f : Nat → Nat, f = nzs s3.bl := ⟨_, rfl⟩
  have HF0 := Lib.hid (show f 0 = 0 by rw [hf]; rfl)
  have HFS := Lib.hid (show ∀ i, f (i + 1) = f i + nz (s3.bl.getD (1 + i) []) by rw [hf]; exact nzs_succ s3.bl)
  have HNZ := Lib.hid (show ∀ m, m = 80 → (x = 0 → f m = 0) ∧ (x ≠ 0 → f m = 1) by
    intro m hm
    have h9 := nzs_all hok3 hcl3 (by omega)
    rw [hf, show m = 2 * 40 by omega, h9]
    exact ⟨fun e => if_pos e, fun e => if_neg e⟩)
  clear hf
  have HL3 := Lib.hid hok3.len
  have H32 := Lib.hid hok3.l32
  have HOK2 := Lib.hid hok2; have HW2 := Lib.hid hw2
  clear he2 hok2 hcl2 hp2 hf2 hd2 hw2 hfit1 hfit2 he3 hok3 hcl3 hp3 h4 h1000
  go_wp2_with fail
  refine (Save_arg 0 [] l A n c HS1.out HBW1.out HOK1.out (HR.out w1 HB1.out) HNC.out (by rw [HW1.out]; omega) HL.out).mono ?_
  rintro e w2 ⟨rfl, hs2, hb2⟩
  rw [HSV.out] at hs2 ⊢
  have HS2 := Lib.hid hs2; have HB2 := Lib.hid (HB1.out.trans hb2); have HBW2 := Lib.hid (Nat.le_trans HBW1.out hb2.size)
  clear hs2 hb2
  go_wp2_with fail
  refine (Save_B (fun k => B ≤ k ∧ k < w2.heap.size) (1 - 0) l [x] (some ⟨w2.heap.size, 0, none⟩) 1 1 (HS2.out.before _) (fun k e => e.1) (by have := HBW2.out; simp; omega) HOK2.out ((Rd.new_ w2 [x] _ rfl 1 rfl).more (by simp)) (Nat.le_refl _) (fun _ ad e e2 => by cases e; exact absurd e2.2 (Nat.lt_irrefl _)) (by have := HW2.out; omega) (by omega)).mono ?_
  rintro e w3 ⟨rfl, hs3, hb3⟩
  rw [HSV3.out] at hs3 ⊢
  have HS3 := Lib.hid hs3; have HB3 := Lib.hid ((HB2.out.alloc HBW2.out _).trans hb3)
  have HBW3 := Lib.hid (show B ≤ w3.heap.size from Nat.le_trans (by have := HBW2.out; simp; omega) hb3.size)
  clear hs3 hb3
  go_wp2_with fail
  clear h4' h1000'
  go_loopw [6, 7, 8, 9, 10] (fun al q _ _ _ wr => ∃ i : Nat, i ≤ 80 ∧ q = .int .i64 ((1 + i : Nat) : Int) ∧ al = .int .i64 (f i : Int) ∧ f i ≤ 32 * i ∧ SlotIs wr (fun k => B ≤ k) S 40 s3 ∧ Below B w wr ∧ B ≤ wr.heap.size) (fun _ q _ _ _ _ => 81 - (intOf q).toNat)
  case atStart => exact ⟨0, by omega, rfl, by rw [HF0.out]; rfl, by rw [HF0.out]; exact Nat.le_refl _, HS3.out, HB3.out, HBW3.out⟩
  case round =>
    obtain ⟨i, hi, rfl, rfl, hz, hs, hb, hbw⟩ := hrel
    have HS := Lib.hid hs; have HB := Lib.hid hb; have HBW := Lib.hid hbw; have HZ := Lib.hid hz
    clear hs hb hbw
    by_cases hi8 : i < 80
    · have hi8' : ((1 + i : Nat) : Int) < 81 := by omega
      have hlen : (s3.bl.length : Int) = 81 := by rw [HL3.out]; rfl
      obtain ⟨lb, hlb⟩ : ∃ lb, s3.bl[1 + i]? = some lb := ⟨_, List.getElem?_eq_getElem (by rw [HL3.out]; omega)⟩
      have h32 := H32.out _ _ hlb
      have hgd : s3.bl.getD (1 + i) [] = lb := (getD_some (by rw [HL3.out]; omega)).2 hlb
      have HLB := Lib.hid hlb; have HB32 := Lib.hid h32; have HGD := Lib.hid hgd; have HLENB := Lib.hid hlen
      clear hlb h32 hgd hlen
      go_wp2_with (first
        | (go_at_call 34; refine (SDisk_any wr _ S 40 s3 HS.out).mono ?_; rintro e w4 ⟨⟨D, G, rfl, hdk⟩, hw4⟩; have HDK := Lib.hid hdk; clear hdk; subst hw4)
        | (go_at_call 20; refine (Len_G _ G D s3 HDK.out).mono ?_; rintro e w5 ⟨rfl, hw5⟩; subst hw5; rw [HLENB.out]))
      refine (SDisk_any w5 _ S 40 s3 HS.out).mono ?_
      rintro e w6 ⟨⟨D2, G2, rfl, hdk2⟩, hw6⟩
      have HDK2 := Lib.hid hdk2
      clear hdk2
      subst hw6
      go_wp2_with fail
      refine (Read_o _ G2 D2 s3 (1 + i) lb HDK2.out HLB.out HB32.out).mono ?_
      rintro e w7 ⟨g, cg, rfl, hcell, hb7⟩
      have HCELL := Lib.hid hcell
      have HS7 := Lib.hid (HS.out.below hb7); have HB7 := Lib.hid (HB.out.trans (hb7.mono HBW.out)); have HBW7 := Lib.hid (Nat.le_trans HBW.out hb7.size)
      clear hcell hb7 hi8'
      go_wp2_with fail
      have hfi : f i ≤ 3000 := by have := HZ.out; omega
      go_loopw [6, 10] (fun al q wr => ∃ j : Nat, j ≤ 32 ∧ q = .int .i64 (j : Int) ∧ al = .int .i64 ((f i + nz (lb.take j) : Nat) : Int) ∧ nz (lb.take j) ≤ j ∧ wr = w7) (fun _ q _ => 32 - (intOf q).toNat)
      case atStart => exact ⟨0, by omega, rfl, by simp [nz], by simp [nz], rfl⟩
      case round =>
        obtain ⟨j, hj, rfl, rfl, hnj, hwr⟩ := hrel
        subst hwr
        have HNJ := Lib.hid hnj
        by_cases hj32 : j < 32
        · have hj32' : (j : Int) < 32 := by omega
          have hc := HCELL.out j hj32
          have hts := nz_take_succ lb j (by rw [HB32.out]; exact hj32)
          have HTS := Lib.hid hts
          clear hts
          by_cases hz : lb.getD j 0 = 0
          · rw [hz] at hc
            rw [if_pos hz] at HTS
            clear hz
            go_wp2_with fail
            go_roundw
            case rel =>
              refine ⟨j + 1, hj32, by go_num, ?_, ?_, by first | rfl | trivial⟩
              · rw [HTS.out, Nat.add_zero]
              · rw [HTS.out]; have := HNJ.out; omega
            case measure => simp [intOf]; omega
          · have hz' : ((lb.getD j 0).toNat : Int) ≠ 0 := fun e => hz (by
              have : (lb.getD j 0).toNat = 0 := by omega
              exact UInt8.toNat_inj.1 this)
            rw [if_neg hz] at HTS
            clear hz
            generalize ((lb.getD j 0).toNat : Int) = yv at hc hz'
            go_wp2_with fail
            go_roundw
            case rel =>
              refine ⟨j + 1, hj32, by go_num, ?_, ?_, by first | rfl | trivial⟩
              · rw [HTS.out, ← Nat.add_assoc]; have := HNJ.out; go_num
              · rw [HTS.out]; have := HNJ.out; omega
            case measure => simp [intOf]; omega
        · obtain rfl : j = 32 := by omega
          have htk : lb.take 32 = lb := List.take_of_length_le (by rw [HB32.out]; exact Nat.le_refl _)
          rw [htk] at HNJ
          rw [htk]
          have hfs := HFS.out i
          rw [HGD.out] at hfs
          rw [← hfs]
          have HFSI := Lib.hid hfs
          clear hfs htk hnj
          go_wp2_with fail
          go_roundw
          case rel =>
            refine ⟨i + 1, hi8, by go_num, rfl, ?_, HS7.out, HB7.out, HBW7.out⟩
            rw [HFSI.out]; have := HNJ.out; have := HZ.out; omega
          case measure => simp [intOf]; omega
    · obtain rfl : i = 80 := by omega
      have hlen : (s3.bl.length : Int) = 81 := by rw [HL3.out]; rfl
      have HLENB := Lib.hid hlen
      clear hlen hz
      go_wp2_with (first
        | (go_at_call 34; refine (SDisk_any wr _ S 40 s3 HS.out).mono ?_; rintro e w4 ⟨⟨D, G, rfl, hdk⟩, hw4⟩; have HDK := Lib.hid hdk; clear hdk; subst hw4)
        | (go_at_call 20; refine (Len_G _ G D s3 HDK.out).mono ?_; rintro e w5 ⟨rfl, hw5⟩; subst hw5; rw [HLENB.out]))
      refine (answers15_any _).mono ?_
      rintro e w8 ⟨rfl, hb8⟩
      have HB8 := Lib.hid (HB.out.trans (hb8.mono HBW.out))
      clear hb8
      obtain ⟨hn0, hn1⟩ := HNZ.out 80 rfl
      by_cases hx : x = 0
      · rw [hn0 hx]
        subst hx
        clear hn0 hn1
        go_wp2_with fail
        go_ret
        exact ⟨rfl, HB8.out⟩
      · rw [hn1 hx]
        have hx' : (x.toNat : Int) ≠ 0 := fun e => hx (by
          have : x.toNat = 0 := by omega
          exact UInt8.toNat_inj.1 this)
        clear hn0 hn1 hx
        generalize (x.toNat : Int) = yv at hx' ⊢
        go_wp2_with fail
        go_ret
        have hb : (yv != 0) = true := by simpa using hx'
        refine ⟨?_, HB8.out⟩
        show Ending.returned (.bool (yv != 0)) = _
        rw [hb]
end Go.Proofs.Ytpdihggdopdolaa
