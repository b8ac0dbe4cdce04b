/- The walk of layer 17's law NetOwn. Condition: the message is no great one. -/
import Derived.Test.YtoekmgpnmhknoaaLaw17
import Derived.Test.YtoekmgpnmhknoaaWire4
namespace Go.Proofs.Ytoekmgpnmhknoaa
open Go.RowKit
abbrev headsC (hs : List HeadV) : List Value := hs.flatMap headC
theorem headsC_get (hs : List HeadV) : ∀ (j : Nat) (u : Value), (headsC hs)[j]? = some u → ∃ i h, hs[i]? = some h ∧ ((j = i * 2 ∧ u = .string ⟨h.id.toArray⟩) ∨ (j = i * 2 + 1 ∧ u = .int .i64 h.size)) := by
  induction hs with
  | nil => intro j u h; exact absurd h (by simp [headsC])
  | cons x r ih =>
    intro j u h
    match j, h with
    | 0, h => exact ⟨0, x, rfl, Or.inl ⟨rfl, (Option.some.inj h).symm⟩⟩
    | 1, h => exact ⟨0, x, rfl, Or.inr ⟨rfl, (Option.some.inj h).symm⟩⟩
    | j + 2, h =>
      obtain ⟨i, y, h1, h2⟩ := ih j u h
      exact ⟨i + 1, y, h1, by rcases h2 with ⟨h2, h3⟩ | ⟨h2, h3⟩; exact Or.inl ⟨by omega, h3⟩; exact Or.inr ⟨by omega, h3⟩⟩
theorem next_cell3 (ad : Addr) (i : Nat) : ad.add (i * 2 + 1) = ⟨(ad.add (i * 2)).block, (ad.add (i * 2)).off + 1, none⟩ := by
  unfold Addr.add
  rw [if_neg (by omega)]
  split
  · next h => rw [h]
  · simp [Nat.add_assoc]
theorem heads_reads {w : World} {B : Nat} {A : Option Addr} {hs : List HeadV} (h : HeadsRd w B A hs) : Reads w B 2 A hs.length (headsC hs) := by
  refine ⟨headC_len hs, fun hn => ?_⟩
  obtain ⟨ad, e, hb, hc⟩ := h hn
  refine ⟨ad, e, hb, fun j u hu => ?_⟩
  obtain ⟨i, x, hx, h2⟩ := headsC_get hs j u hu
  obtain ⟨c0, c1⟩ := hc i x hx
  rcases h2 with ⟨rfl, rfl⟩ | ⟨rfl, rfl⟩
  · exact c0
  · rw [next_cell3]; exact c1
theorem reads_heads {w : World} {B : Nat} {A : Option Addr} {hs : List HeadV} (h : Reads w B 2 A hs.length (headsC hs)) : HeadsRd w B A hs := by
  intro hn
  obtain ⟨ad, e, hb, hc⟩ := h.2 hn
  refine ⟨ad, e, hb, fun i x hx => ?_⟩
  obtain ⟨h1, h2⟩ := headC_at hs i x hx
  exact ⟨hc _ _ h1, by have := hc _ _ h2; rw [next_cell3] at this; exact this⟩
theorem headsC_one (hs : List HeadV) : ∀ u ∈ headsC hs, u.oneCell' = true := by
  intro u hu
  obtain ⟨x, _, h⟩ := List.mem_flatMap.1 hu
  rcases List.mem_cons.1 h with rfl | h
  · rfl
  · rw [List.mem_singleton.1 h]; rfl
/-- A fresh block of the copies: where it lies, and how great it is. -/
def BlkOf (w : World) (lo hi : Nat) (A : Option Addr) (n : Nat) (t : TypeId) (k : Nat) : Prop := 0 < n → ∃ g cs, A = some ⟨g, 0, none⟩ ∧ lo ≤ g ∧ g < hi ∧ Blk w g t cs ∧ n * k ≤ cs.size
def DataOf (w : World) (lo hi : Nat) (A : Option Addr) (l : List UInt8) (i : Nat) : Prop := 0 < l.length → ∃ g cs, A = some ⟨g, 0, none⟩ ∧ lo ≤ g ∧ g < hi ∧ Blk w g 5 cs ∧ l.length ≤ cs.size ∧ ∀ k, i ≤ k → k < l.length → cs[k]? = some (.int .u8 ((l.getD k 0).toNat : Int))
theorem BlkOf.far {w : World} {lo hi n k g i : Nat} {A : Option Addr} {t t' : TypeId} {cs : Array Value} (h : BlkOf w lo hi A n t k) (hb : Blk w g t' cs) (hne : t ≠ t') (u : Value) : BlkOf (w.setCell ⟨g, i, none⟩ u) lo hi A n t k := fun hn => by
  obtain ⟨g1, cs1, h1, h2, h3, h4, h5⟩ := h hn
  exact ⟨g1, cs1, h1, h2, h3, h4.far (p := ⟨g, i, none⟩) (h4.ne_ hb hne) u, h5⟩
theorem BlkOf.keeps {w w' : World} {F : Nat → Prop} {lo hi n k : Nat} {A : Option Addr} {t : TypeId} (h : BlkOf w lo hi A n t k) (hk : Keeps F w w') (hF : ∀ k, lo ≤ k → k < hi → ¬ F k) : BlkOf w' lo hi A n t k := fun hn => by
  obtain ⟨g1, cs1, h1, h2, h3, h4, h5⟩ := h hn
  exact ⟨g1, cs1, h1, h2, h3, h4.keeps hk (hF _ h2 h3), h5⟩
theorem DataOf.keeps {w w' : World} {F : Nat → Prop} {lo hi i : Nat} {A : Option Addr} {l : List UInt8} (h : DataOf w lo hi A l i) (hk : Keeps F w w') (hF : ∀ k, lo ≤ k → k < hi → ¬ F k) : DataOf w' lo hi A l i := fun hn => by
  obtain ⟨g1, cs1, h1, h2, h3, h4, h5⟩ := h hn
  exact ⟨g1, cs1, h1, h2, h3, h4.keeps hk (hF _ h2 h3), h5⟩
theorem blk_of_row {w : World} {lo n k c : Nat} {A : Option Addr} {t : TypeId} {xs : List Value} (h : w.ownsRow lo t k (.slice A n c) n xs) : BlkOf w lo w.heap.size A n t k := fun hn => by
  rcases h.2 with ⟨e, e0⟩ | ⟨g, cap, cur, e, hg, hbl, hnc, _, hcs, _⟩
  · omega
  · injection e with e1 e2 e3
    subst e1
    exact ⟨g, cur, rfl, hg, Blk.lt hbl, hbl, by rw [hcs]; exact Nat.mul_le_mul_right k hnc⟩
theorem data_of_row {w : World} {lo c : Nat} {A : Option Addr} {l : List UInt8} (h : Own w lo (.slice A l.length c) l) : DataOf w lo w.heap.size A l 0 := fun hn => by
  obtain ⟨g, c1, cur, e, hg, hb, hc, hj⟩ := h.blk hn
  injection e with e1 e2 e3
  refine ⟨g, cur, e1, hg, hb.lt, hb, ?_, fun k _ hk => hj k hk⟩
  apply Nat.le_of_not_lt
  intro hlt
  have := hj (l.length - 1) (by omega)
  rw [Array.getElem?_eq_none (by omega)] at this
  cases this
set_option maxRecDepth 100000 in
set_option maxHeartbeats 4000000 in
theorem NetOwn_any (m : MsgV) (Ah Ad Ap Ax : Option Addr) (ch cd cp cx : Nat) (w : World) (hs : m.cost ≤ 67108864) (hr : MsgRd w w.heap.size m Ah Ad Ap Ax) :
    Calls Try.prog 4 #[.agg (msgCells m Ah Ad Ap Ax ch cd cp cx)] w fun e w' => e = .returned (.bool true) ∧ Below w.heap.size w w' := by
  have hb1 : Below w.heap.size w (w.alloc (.cells (msgCells m Ah Ad Ap Ax ch cd cp cx) 31)) := (Below.refl _ _).alloc (Nat.le_refl _) _
  have HM1 := Lib.hid (Blk.new w 31 (msgCells m Ah Ad Ap Ax ch cd cp cx))
  have HR1 := Lib.hid ((hr.below hb1 (Nat.le_refl _)).more hb1.size); have HB1 := Lib.hid hb1
  have HC := Lib.hid hs
  clear hb1 hr hs
  go_enter Try.func4, Try.ntmps4
  go_upto_region 1 with (fail)
  generalize hQe : w.heap.size = Q at HM1 ⊢
  obtain ⟨w1, hw1⟩ : ∃ w1, w1 = w.alloc (.cells (msgCells m Ah Ad Ap Ax ch cd cp cx) 31) := ⟨_, rfl⟩
  rw [← hw1] at HM1 HR1 HB1 ⊢
  have HQE := Lib.hid hQe
  clear hw1 hQe
  go_wp2_with (refine wpList_load_row rfl 31 (.tmp 1) rfl Q rfl _ _ _ _ HM1.out Try.underlying31 rfl (by kernel_rfl) ?_)
  refine (RefMsg_any w1 m Ah Ad Ap Ax ch cd cp cx HR1.out (by have := HC.out; omega)).mono ?_
  rintro e w2 ⟨v2, rfl, ⟨A2, c2, rfl, hrd2, _⟩, hb2⟩
  have hde := fun h => decode_enc (m := m) h
  generalize hsm : WS.msg ⟨[], false⟩ m = s at hrd2 hde ⊢
  have HSM := Lib.hid hsm; have HDE := Lib.hid hde
  have HM2 := Lib.hid (HM1.out.below hb2 HM1.out.lt); have HR2 := Lib.hid ((HR1.out.below hb2 (Nat.le_refl _)).more hb2.size); have HB2 := Lib.hid (HB1.out.trans (hb2.mono HB1.out.size))
  clear hb2 hrd2 hsm hde HM1 HR1 HB1
  cases hbad : s.bad
  · have HBAD := Lib.hid hbad; have HDE2 := Lib.hid (HDE.out hbad)
    have HLL := Lib.hid (show s.out.length ≤ 67108864 from by rw [← HSM.out, (msg_enc (by rw [HSM.out]; exact HBAD.out)).2, enc_cost_]; exact HC.out)
    clear hbad HDE
    go_wp2_with fail
    refine (NNew_any w2).mono ?_
    rintro e w3 ⟨D, rfl, hn3, hD3, hb3⟩
    have HN3 := Lib.hid hn3; have HB3 := Lib.hid (HB2.out.trans (hb3.mono HB2.out.size)); have HM3 := Lib.hid (HM2.out.below hb3 HM2.out.lt); have HR3 := Lib.hid ((HR2.out.below hb3 (Nat.le_refl _)).more hb3.size)
    have HD3 := Lib.hid hD3; have HL23 := Lib.hid hb3.size; have HQ2 := Lib.hid HM2.out.lt
    have HR2o := Lib.hid (HR2.out.below hb3 (Nat.le_refl _))
    clear hn3 hb3 hD3 HM2 HR2 HB2
    go_upto_region 6 with (refine wpList_load_row rfl 31 (.tmp 1) rfl Q rfl _ _ _ _ HM3.out Try.underlying31 rfl (by kernel_rfl) ?_)
    have hb34 : Below w3.heap.size w3 (w3.alloc (.cells (msgCells m Ah Ad Ap Ax ch cd cp cx) 31)) := (Below.refl _ _).alloc (Nat.le_refl _) _
    have HC4 := Lib.hid (Blk.new w3 31 (msgCells m Ah Ad Ap Ax ch cd cp cx)); have HM4 := Lib.hid (HM3.out.below hb34 HM3.out.lt); have HN4 := Lib.hid (HN3.out.below hb34); have HB4 := Lib.hid (HB3.out.trans (hb34.mono HB3.out.size))
    have HR4 := Lib.hid (HR2o.out.below (hb34.mono HL23.out) HL23.out)
    have HD4 := Lib.hid (show D < w3.heap.size by obtain ⟨v0, gs0, g1, _⟩ := HN3.out; exact g1.cells.lt)
    have hQC : Q < w3.heap.size := HM3.out.lt
    generalize hCe : w3.heap.size = C at HC4 HD4 hQC ⊢
    obtain ⟨w4, hw4⟩ : ∃ w4, w4 = w3.alloc (.cells (msgCells m Ah Ad Ap Ax ch cd cp cx) 31) := ⟨_, rfl⟩
    have HS4 := Lib.hid (show C < w4.heap.size from by rw [hw4, ← hCe]; simp)
    rw [← hw4] at HC4 HM4 HN4 HB4 HR4 ⊢
    have HCE := Lib.hid hCe; have HQC := Lib.hid hQC
    generalize hB0 : w2.heap.size = B0 at HR4 HD3 HL23 HQ2
    have HB0 := Lib.hid hB0
    obtain ⟨S4, hS4e⟩ : ∃ S4, S4 = w4.heap.size := ⟨_, rfl⟩
    have HS4e := Lib.hid (Nat.le_of_eq hS4e); have HS4C := Lib.hid (show C < S4 by have := HS4.out; omega)
    have HK4 := Lib.hid (Keeps.refl (fun k => k = C) w4)
    have HBC := Lib.hid (show B0 ≤ C from by rw [← hCe]; exact HL23.out)
    obtain ⟨i8, hi0, hz0, hz1, hz2⟩ := info_parts u8_info
    have HI8 := Lib.hid (And.intro hi0 (And.intro hz0 (And.intro hz1 hz2)))
    clear hi0 hz0 hz1 hz2
    obtain ⟨i64, hi0, hz0, hz1, hz2⟩ := info_parts i64_info
    have HI64 := Lib.hid (And.intro hi0 (And.intro hz0 (And.intro hz1 hz2)))
    clear hi0 hz0 hz1 hz2
    obtain ⟨ih, hi0, hz0, hz1, hz2⟩ := info_parts head_info
    have HIH := Lib.hid (And.intro hi0 (And.intro hz0 (And.intro hz1 hz2)))
    clear hi0 hz0 hz1 hz2
    have HCO := Lib.hid (show m.data.length ≤ 67108864 ∧ m.parts.length ≤ 67108864 ∧ m.heads.length ≤ 67108864 from by have h1 := HC.out; have := costH_ge m.heads; unfold MsgV.cost at h1; omega)
    clear hb34 hw4 hCe hB0 hQC hS4e HM3 HN3 HB3 HR3 HR2o
    have HOWN := Lib.hid (show (w4.alloc (.cells #[] 5)).ownsRow S4 5 1 (.slice (some ⟨w4.heap.size, 0, none⟩) 0 0) 0 [] from World.ownsRow_made w4 #[] 0 (Nat.le_trans HS4e.out HK4.out.size) (Nat.zero_le _) rfl)
    have hbe : Below w4.heap.size w4 (w4.alloc (.cells #[] 5)) := (Below.refl _ _).alloc (Nat.le_refl _) _
    have HRX := Lib.hid (Reads.below (w' := w4.alloc (.cells #[] 5)) (HR4.out.data) (hbe.mono (Nat.le_trans HBC.out (Nat.le_trans (Nat.le_of_lt HS4.out) HK4.out.size))))
    have p0 : w4.cell? ⟨Q, 15, none⟩ = some (.slice Ax m.data.length cx) := (HM4.out.cell 15).trans rfl
    have hql : Q < w4.heap.size := HM4.out.lt
    have hle := HCO.out
    have HSZ := Lib.hid (show S4 ≤ (w4.alloc (.cells #[] 5)).heap.size from Nat.le_trans (Nat.le_trans HS4e.out HK4.out.size) hbe.size)
    clear hbe
    go_upto_region 7 with (at_builtin; refine wpList_append_any _ rfl (.tmp 29) (.tmp 31) _ rfl S4 5 i8 _ 1 1 Try.underlying29 HI8.out.1 HI8.out.2.1 HI8.out.2.2.1 HI8.out.2.2.2 rfl (by omega) _ 0 [] rfl HOWN.out _ Ax m.data.length cx (m.data.map B8) rfl HRX.out (B8_one _) (by simp only [maxLen]; omega) (by omega) HSZ.out ?_; intro v' wA hown' hg' hat'; rw [Nat.zero_add, List.nil_append] at hown'; obtain ⟨Bx, ex, rfl⟩ := row_shape hown'; have hko := ((Keeps.refl (fun k => k = C) w4).alloc (.cells #[] 5)).grown hg' (fun kk e => Or.inl (by injection e with e; exact Nat.le_of_eq e)); have hkA : Keeps (fun _ => False) w4 wA := ((Keeps.refl (fun _ => False) w4).alloc (.cells #[] 5)).grown hg' (fun kk e => Or.inl (by injection e with e; exact Nat.le_of_eq e)); have hDk := HC4.out.keeps hkA id; have q0' : wA.cell? ⟨C, 15, none⟩ = some (.slice Ax m.data.length cx) := (hDk.cell 15).trans rfl; have f0' : wA.frozen? ⟨C, 15, none⟩ = false := hDk.frozen 15)
    have hks : Keeps (fun k => k = C) wA (wA.setCell ⟨C, 15, none⟩ (.slice Bx m.data.length ex)) := (Keeps.refl (fun k => k = C) wA).setCell (p := ⟨C, 15, none⟩) rfl _
    have HOx := Lib.hid (row_keeps hown' hks (fun kk e e2 => by have h1 := (World.ownsRow.lt hown' kk e).1; have h2 := HS4C.out; have h3 : kk = C := e2; omega))
    have HC5 := Lib.hid (show Blk (wA.setCell ⟨C, 15, none⟩ (.slice Bx m.data.length ex)) C 31 (msgCells m Ah Ad Ap Bx ch cd cp ex) from hDk.set_ 15 _)
    have hkj := hko.trans hks (fun _ _ e => e)
    have HK5 := Lib.hid (HK4.out.trans hkj (fun _ _ e => e)); have HM5 := Lib.hid (HM4.out.keeps hkj (fun e => by have := HQC.out; omega))
    have HR5 := Lib.hid (HR4.out.off hkj (Nat.le_trans HBC.out (Nat.le_trans (Nat.le_of_lt HS4.out) HK4.out.size)) (fun k h1 h2 => by have := HBC.out; omega))
    have HN5 := Lib.hid (HN4.out.keeps hkj (fun k h1 h2 => by have := HD4.out; omega))
    obtain ⟨w5, hwj⟩ : ∃ w5, w5 = wA.setCell ⟨C, 15, none⟩ (.slice Bx m.data.length ex) := ⟨_, rfl⟩
    rw [← hwj] at HOx HC5 HK5 HM5 HR5 HN5 ⊢
    clear hwj hkj hks hown' hg' hat' hko hkA hDk q0' f0' p0 hql hle HOWN HRX HSZ HC4 HK4 HM4 HR4 HN4 wA
    have HOWN := Lib.hid (show (w5.alloc (.cells #[] 3)).ownsRow S4 3 1 (.slice (some ⟨w5.heap.size, 0, none⟩) 0 0) 0 [] from World.ownsRow_made w5 #[] 0 (Nat.le_trans HS4e.out HK5.out.size) (Nat.zero_le _) rfl)
    have hbe : Below w5.heap.size w5 (w5.alloc (.cells #[] 3)) := (Below.refl _ _).alloc (Nat.le_refl _) _
    have HRX := Lib.hid (Reads.below (w' := w5.alloc (.cells #[] 3)) (HR5.out.parts) (hbe.mono (Nat.le_trans HBC.out (Nat.le_trans (Nat.le_of_lt HS4.out) HK5.out.size))))
    have p0 : w5.cell? ⟨Q, 13, none⟩ = some (.slice Ap m.parts.length cp) := (HM5.out.cell 13).trans rfl
    have hql : Q < w5.heap.size := HM5.out.lt
    have hle := HCO.out
    have HSZ := Lib.hid (show S4 ≤ (w5.alloc (.cells #[] 3)).heap.size from Nat.le_trans (Nat.le_trans HS4e.out HK5.out.size) hbe.size)
    clear hbe
    go_upto_region 8 with (at_builtin; refine wpList_append_any _ rfl (.tmp 34) (.tmp 36) _ rfl S4 3 i64 _ 1 8 Try.underlying27 HI64.out.1 HI64.out.2.1 HI64.out.2.2.1 HI64.out.2.2.2 rfl (by omega) _ 0 [] rfl HOWN.out _ Ap m.parts.length cp (m.parts.map (Value.int .i64)) rfl HRX.out (by intro u hu; obtain ⟨x, _, rfl⟩ := List.mem_map.1 hu; rfl) (by simp only [maxLen]; omega) (by omega) HSZ.out ?_; intro v' wA hown' hg' hat'; rw [Nat.zero_add, List.nil_append] at hown'; obtain ⟨Bp, ep, rfl⟩ := row_shape hown'; have hko := ((Keeps.refl (fun k => k = C) w5).alloc (.cells #[] 3)).grown hg' (fun kk e => Or.inl (by injection e with e; exact Nat.le_of_eq e)); have hkA : Keeps (fun _ => False) w5 wA := ((Keeps.refl (fun _ => False) w5).alloc (.cells #[] 3)).grown hg' (fun kk e => Or.inl (by injection e with e; exact Nat.le_of_eq e)); have hDk := HC5.out.keeps hkA id; have q0' : wA.cell? ⟨C, 13, none⟩ = some (.slice Ap m.parts.length cp) := (hDk.cell 13).trans rfl; have f0' : wA.frozen? ⟨C, 13, none⟩ = false := hDk.frozen 13)
    have hks : Keeps (fun k => k = C) wA (wA.setCell ⟨C, 13, none⟩ (.slice Bp m.parts.length ep)) := (Keeps.refl (fun k => k = C) wA).setCell (p := ⟨C, 13, none⟩) rfl _
    have HOp := Lib.hid (row_keeps hown' hks (fun kk e e2 => by have h1 := (World.ownsRow.lt hown' kk e).1; have h2 := HS4C.out; have h3 : kk = C := e2; omega))
    have HOx := Lib.hid (row_keeps (row_keeps HOx.out hkA (fun _ _ => id)) hks (fun kk e e2 => by have h1 := (World.ownsRow.lt HOx.out kk e).1; have h2 := HS4C.out; have h3 : kk = C := e2; omega))
    have HC6 := Lib.hid (show Blk (wA.setCell ⟨C, 13, none⟩ (.slice Bp m.parts.length ep)) C 31 (msgCells m Ah Ad Bp Bx ch cd ep ex) from hDk.set_ 13 _)
    have hkj := hko.trans hks (fun _ _ e => e)
    have HK6 := Lib.hid (HK5.out.trans hkj (fun _ _ e => e)); have HM6 := Lib.hid (HM5.out.keeps hkj (fun e => by have := HQC.out; omega))
    have HR6 := Lib.hid (HR5.out.off hkj (Nat.le_trans HBC.out (Nat.le_trans (Nat.le_of_lt HS4.out) HK5.out.size)) (fun k h1 h2 => by have := HBC.out; omega))
    have HN6 := Lib.hid (HN5.out.keeps hkj (fun k h1 h2 => by have := HD4.out; omega))
    obtain ⟨w6, hwj⟩ : ∃ w6, w6 = wA.setCell ⟨C, 13, none⟩ (.slice Bp m.parts.length ep) := ⟨_, rfl⟩
    rw [← hwj] at HOx HOp HC6 HK6 HM6 HR6 HN6 ⊢
    clear hwj hkj hks hown' hg' hat' hko hkA hDk q0' f0' p0 hql hle HOWN HRX HSZ HC5 HK5 HM5 HR5 HN5 wA
    have HOWN := Lib.hid (show (w6.alloc (.cells #[] 45)).ownsRow S4 45 2 (.slice (some ⟨w6.heap.size, 0, none⟩) 0 0) 0 [] from World.ownsRow_made w6 #[] 0 (Nat.le_trans HS4e.out HK6.out.size) (Nat.zero_le _) rfl)
    have hbe : Below w6.heap.size w6 (w6.alloc (.cells #[] 45)) := (Below.refl _ _).alloc (Nat.le_refl _) _
    have HRX := Lib.hid (Reads.below (w' := w6.alloc (.cells #[] 45)) (heads_reads HR6.out.heads) (hbe.mono (Nat.le_trans HBC.out (Nat.le_trans (Nat.le_of_lt HS4.out) HK6.out.size))))
    have p0 : w6.cell? ⟨Q, 7, none⟩ = some (.slice Ah m.heads.length ch) := (HM6.out.cell 7).trans rfl
    have hql : Q < w6.heap.size := HM6.out.lt
    have hle := HCO.out
    have HSZ := Lib.hid (show S4 ≤ (w6.alloc (.cells #[] 45)).heap.size from Nat.le_trans (Nat.le_trans HS4e.out HK6.out.size) hbe.size)
    clear hbe
    go_upto_region 9 with (at_builtin; refine wpList_append_any _ rfl (.tmp 39) (.tmp 41) _ rfl S4 45 ih _ 2 24 Try.underlying26 HIH.out.1 HIH.out.2.1 HIH.out.2.2.1 HIH.out.2.2.2 rfl (by omega) _ 0 [] rfl HOWN.out _ Ah m.heads.length ch (headsC m.heads) rfl HRX.out (headsC_one _) (by simp only [maxLen]; omega) (by omega) HSZ.out ?_; intro v' wA hown' hg' hat'; rw [Nat.zero_add, List.nil_append] at hown'; obtain ⟨Bh, eh, rfl⟩ := row_shape hown'; have hko := ((Keeps.refl (fun k => k = C) w6).alloc (.cells #[] 45)).grown hg' (fun kk e => Or.inl (by injection e with e; exact Nat.le_of_eq e)); have hkA : Keeps (fun _ => False) w6 wA := ((Keeps.refl (fun _ => False) w6).alloc (.cells #[] 45)).grown hg' (fun kk e => Or.inl (by injection e with e; exact Nat.le_of_eq e)); have hDk := HC6.out.keeps hkA id; have q0' : wA.cell? ⟨C, 7, none⟩ = some (.slice Ah m.heads.length ch) := (hDk.cell 7).trans rfl; have f0' : wA.frozen? ⟨C, 7, none⟩ = false := hDk.frozen 7)
    have hks : Keeps (fun k => k = C) wA (wA.setCell ⟨C, 7, none⟩ (.slice Bh m.heads.length eh)) := (Keeps.refl (fun k => k = C) wA).setCell (p := ⟨C, 7, none⟩) rfl _
    have HOh := Lib.hid (row_keeps hown' hks (fun kk e e2 => by have h1 := (World.ownsRow.lt hown' kk e).1; have h2 := HS4C.out; have h3 : kk = C := e2; omega))
    have HOx := Lib.hid (row_keeps (row_keeps HOx.out hkA (fun _ _ => id)) hks (fun kk e e2 => by have h1 := (World.ownsRow.lt HOx.out kk e).1; have h2 := HS4C.out; have h3 : kk = C := e2; omega))
    have HOp := Lib.hid (row_keeps (row_keeps HOp.out hkA (fun _ _ => id)) hks (fun kk e e2 => by have h1 := (World.ownsRow.lt HOp.out kk e).1; have h2 := HS4C.out; have h3 : kk = C := e2; omega))
    have HC7 := Lib.hid (show Blk (wA.setCell ⟨C, 7, none⟩ (.slice Bh m.heads.length eh)) C 31 (msgCells m Bh Ad Bp Bx eh cd ep ex) from hDk.set_ 7 _)
    have hkj := hko.trans hks (fun _ _ e => e)
    have HK7 := Lib.hid (HK6.out.trans hkj (fun _ _ e => e)); have HM7 := Lib.hid (HM6.out.keeps hkj (fun e => by have := HQC.out; omega))
    have HR7 := Lib.hid (HR6.out.off hkj (Nat.le_trans HBC.out (Nat.le_trans (Nat.le_of_lt HS4.out) HK6.out.size)) (fun k h1 h2 => by have := HBC.out; omega))
    have HN7 := Lib.hid (HN6.out.keeps hkj (fun k h1 h2 => by have := HD4.out; omega))
    obtain ⟨w7, hwj⟩ : ∃ w7, w7 = wA.setCell ⟨C, 7, none⟩ (.slice Bh m.heads.length eh) := ⟨_, rfl⟩
    rw [← hwj] at HOx HOp HOh HC7 HK7 HM7 HR7 HN7 ⊢
    clear hwj hkj hks hown' hg' hat' hko hkA hDk q0' f0' p0 hql hle HOWN HRX HSZ HC6 HK6 HM6 HR6 HN6 wA
    have hmr : MsgRd w7 w7.heap.size m Bh Ad Bp Bx := ⟨reads_heads (Reads.of_own HOh.out), (HR7.out.more (Nat.le_trans HBC.out (Nat.le_trans (Nat.le_of_lt HS4.out) HK7.out.size))).dealers, Reads.of_own HOp.out, Reads.of_own HOx.out⟩
    have HMR := Lib.hid hmr
    clear hmr
    go_wp2_with (refine wpList_load_row rfl 31 (.tmp 6) rfl C rfl _ _ _ _ HC7.out Try.underlying31 rfl (by kernel_rfl) ?_)
    refine (Send_any w7 (fun k => k = D) D [] m Bh Ad Bp Bx eh cd ep ex HN7.out HMR.out (by have := HC.out; omega) (by simp)).mono ?_
    rintro e w8 ⟨rfl, hn8, hk8⟩
    rw [HSM.out, sendE_ok HBAD.out (by simp)]
    rw [HSM.out, sendN_ok HBAD.out (by simp)] at hn8
    have hDl : ∀ k, S4 ≤ k → k < w7.heap.size → ¬ k = D := fun k h1 _ h2 => by have := HD4.out; have := HS4C.out; omega
    have HX8 := Lib.hid (show DataOf w8 S4 w7.heap.size Bx m.data 0 from DataOf.keeps (data_of_row HOx.out) hk8 hDl)
    have HP8 := Lib.hid (show BlkOf w8 S4 w7.heap.size Bp m.parts.length 3 1 from BlkOf.keeps (blk_of_row HOp.out) hk8 hDl)
    have HH8 := Lib.hid (show BlkOf w8 S4 w7.heap.size Bh m.heads.length 45 2 from BlkOf.keeps (blk_of_row HOh.out) hk8 hDl)
    have HC8 := Lib.hid (HC7.out.keeps hk8 (fun e => by have h1 := HD4.out; have h2 : C = D := e; omega))
    have HM8 := Lib.hid (HM7.out.keeps hk8 (fun e => by have h1 := HD3.out; have h2 : Q = D := e; have h3 := HQ2.out; omega))
    have HR8 := Lib.hid (HR7.out.off hk8 (Nat.le_trans HBC.out (Nat.le_trans (Nat.le_of_lt HS4.out) HK7.out.size)) (fun k h1 h2 => by have := HD3.out; omega))
    have HN8 := Lib.hid (show NetIs w8 (Grown (fun k => k = D) w7) D [s.out] from hn8)
    have HK8 := Lib.hid ((HK7.out.weaken (F' := fun k => k = C ∨ k = D) (fun _ _ e => Or.inl e)).trans hk8 (fun k _ e => Or.inr e))
    have HCK := Lib.hid (And.intro (Nat.lt_of_lt_of_le HS4.out HK7.out.size) hk8.size)
    have HCO2 := Lib.hid HCO.out
    generalize hS7 : w7.heap.size = S7 at HX8 HP8 HH8 HCK
    clear hn8 hk8 hDl HC7 HM7 HR7 HN7 HOx HOp HOh HMR
    go_wp2_with fail
    go_loopw [8] (fun q wr => ∃ i : Nat, i ≤ m.data.length ∧ q = .int .i64 (i : Int) ∧ DataOf wr S4 S7 Bx m.data i ∧ BlkOf wr S4 S7 Bp m.parts.length 3 1 ∧ BlkOf wr S4 S7 Bh m.heads.length 45 2 ∧ Keeps (fun k => S4 ≤ k ∧ k < S7) w8 wr) (fun q _ => m.data.length - (intOf q).toNat)
    case atStart => exact ⟨0, Nat.zero_le _, rfl, HX8.out, HP8.out, HH8.out, Keeps.refl _ _⟩
    case round =>
      obtain ⟨i, hi, rfl, hx, hp, hh, hk⟩ := hrel
      have hC := HC8.out.keeps hk (fun e => by have h1 : S4 ≤ C := e.1; have := HS4C.out; omega)
      have HX := Lib.hid hx; have HP := Lib.hid hp; have HH := Lib.hid hh; have HK := Lib.hid hk; have HC9 := Lib.hid hC
      clear hx hp hh hk hC
      have hle := HCO.out.1
      by_cases hil : i < m.data.length
      · obtain ⟨g, cs, rfl, hg1, hg2, hbl, hcs, hrest⟩ := HX.out (by omega)
        have p0 : wr.cell? ⟨C, 15, none⟩ = some (.slice (some ⟨g, 0, none⟩) m.data.length ex) := (HC9.out.cell 15).trans rfl
        have hci : wr.cell? ⟨g, i, none⟩ = some (.int .u8 ((m.data.getD i 0).toNat : Int)) := (hbl.cell i).trans (hrest i (Nat.le_refl _) hil)
        have hfz := hbl.frozen i
        have HBL := Lib.hid hbl; have HRE := Lib.hid hrest; have HG := Lib.hid (And.intro hg1 (And.intro hg2 hcs))
        clear hbl hrest hg1 hg2 hcs
        go_wp2
        refine wp_region_qt 10 (by kernel_rfl) (by kernel_rfl) ?_
        simp only [List.take_succ_cons, List.take_zero, List.drop_succ_cons, List.drop_zero]
        repeat (first | go_big_quiet_skip | (go_big_quiet_want; go_big_quiet_op; first | go_big_quiet_on))
        refine wpQuiet_nil ?_
        go_wp2
        go_roundw
        case rel => exact ⟨i + 1, by omega, by go_num, fun hn => ⟨g, _, rfl, HG.out.1, HG.out.2.1, HBL.out.set_ i _, by simpa using HG.out.2.2, fun k h1 h2 => by rw [Array.getElem?_setIfInBounds_ne (by omega)]; exact HRE.out k (by omega) h2⟩, HP.out.far HBL.out (by decide) _, HH.out.far HBL.out (by decide) _, (HK.out.setCell (p := ⟨g, i, none⟩) (And.intro HG.out.1 HG.out.2.1) _).drew⟩
        case measure => simp [intOf]; omega
      · obtain rfl : i = m.data.length := by omega
        have p0 : wr.cell? ⟨C, 15, none⟩ = some (.slice Bx m.data.length ex) := (HC9.out.cell 15).trans rfl
        clear hil hi
        go_wp2_with fail
        go_loopw [9] (fun q wx => ∃ i : Nat, i ≤ m.parts.length ∧ q = .int .i64 (i : Int) ∧ BlkOf wx S4 S7 Bp m.parts.length 3 1 ∧ BlkOf wx S4 S7 Bh m.heads.length 45 2 ∧ Keeps (fun k => S4 ≤ k ∧ k < S7) w8 wx) (fun q _ => m.parts.length - (intOf q).toNat)
        case atStart => exact ⟨0, Nat.zero_le _, rfl, HP.out, HH.out, HK.out⟩
        case round =>
          obtain ⟨i, hi, rfl, hp, hh, hk⟩ := hrel
          clear HX HP HH HK HC9 hle p0
          have hC := HC8.out.keeps hk (fun e => by have h1 : S4 ≤ C := e.1; have := HS4C.out; omega)
          have HP := Lib.hid hp; have HH := Lib.hid hh; have HK := Lib.hid hk; have HC9 := Lib.hid hC
          clear hp hh hk hC
          have hle := HCO.out.2.1
          by_cases hil : i < m.parts.length
          · obtain ⟨g, cs, rfl, hg1, hg2, hbl, hcs⟩ := HP.out (by omega)
            have p0 : wr.cell? ⟨C, 13, none⟩ = some (.slice (some ⟨g, 0, none⟩) m.parts.length ep) := (HC9.out.cell 13).trans rfl
            obtain ⟨uo, huo⟩ : ∃ u, cs[i]? = some u := ⟨_, Array.getElem?_eq_getElem (by omega)⟩
            have hci : wr.cell? ⟨g, i, none⟩ = some uo := (hbl.cell i).trans huo
            clear huo
            have hfz := hbl.frozen i
            have HBL := Lib.hid hbl; have HG := Lib.hid (And.intro hg1 (And.intro hg2 hcs))
            clear hbl hg1 hg2 hcs
            go_wp2
            go_roundw
            case rel => exact ⟨i + 1, by omega, by go_num, fun hn => ⟨g, _, rfl, HG.out.1, HG.out.2.1, HBL.out.set_ i _, by simpa using HG.out.2.2⟩, HH.out.far HBL.out (by decide) _, HK.out.setCell (p := ⟨g, i, none⟩) (And.intro HG.out.1 HG.out.2.1) _⟩
            case measure => simp [intOf]; omega
          · obtain rfl : i = m.parts.length := by omega
            have p0 : wr.cell? ⟨C, 13, none⟩ = some (.slice Bp m.parts.length ep) := (HC9.out.cell 13).trans rfl
            clear hil hi
            go_wp2_with fail
            go_loopw [10] (fun q wx => ∃ i : Nat, i ≤ m.heads.length ∧ q = .int .i64 (i : Int) ∧ BlkOf wx S4 S7 Bh m.heads.length 45 2 ∧ Keeps (fun k => S4 ≤ k ∧ k < S7) w8 wx) (fun q _ => m.heads.length - (intOf q).toNat)
            case atStart => exact ⟨0, Nat.zero_le _, rfl, HH.out, HK.out⟩
            case round =>
              obtain ⟨i, hi, rfl, hh, hk⟩ := hrel
              clear HP HH HK HC9 hle p0
              have hC := HC8.out.keeps hk (fun e => by have h1 : S4 ≤ C := e.1; have := HS4C.out; omega)
              have HH := Lib.hid hh; have HK := Lib.hid hk; have HC9 := Lib.hid hC
              clear hh hk hC
              have hle := HCO.out.2.2
              by_cases hil : i < m.heads.length
              · obtain ⟨g, cs, rfl, hg1, hg2, hbl, hcs⟩ := HH.out (by omega)
                have p0 : wr.cell? ⟨C, 7, none⟩ = some (.slice (some ⟨g, 0, none⟩) m.heads.length eh) := (HC9.out.cell 7).trans rfl
                obtain ⟨uo, huo⟩ : ∃ u, cs[i * 2]? = some u := ⟨_, Array.getElem?_eq_getElem (by omega)⟩
                have hci : wr.cell? ⟨g, i * 2, none⟩ = some uo := (hbl.cell (i * 2)).trans huo
                clear huo
                have hfz := hbl.frozen (i * 2)
                have HBL := Lib.hid hbl; have HG := Lib.hid (And.intro hg1 (And.intro hg2 hcs))
                clear hbl hg1 hg2 hcs
                go_wp2
                go_roundw
                case rel => exact ⟨i + 1, by omega, by go_num, fun hn => ⟨g, _, rfl, HG.out.1, HG.out.2.1, HBL.out.set_ (i * 2) _, by simpa using HG.out.2.2⟩, HK.out.setCell (p := ⟨g, i * 2, none⟩) (And.intro HG.out.1 HG.out.2.1) _⟩
                case measure => simp [intOf]; omega
              · obtain rfl : i = m.heads.length := by omega
                have p0 : wr.cell? ⟨C, 7, none⟩ = some (.slice Bh m.heads.length eh) := (HC9.out.cell 7).trans rfl
                clear hil hi
                have HM9 := Lib.hid (HM8.out.keeps HK.out (fun e => by have h1 : S4 ≤ Q := e.1; have := HS4C.out; have := HQC.out; omega))
                have HR9 := Lib.hid (HR8.out.off HK.out (Nat.le_trans HBC.out (Nat.le_of_lt (Nat.lt_of_lt_of_le HCK.out.1 HCK.out.2))) (fun k h1 h2 => by have := HBC.out; have := HS4C.out; omega))
                have HN9 := Lib.hid (HN8.out.keeps HK.out (fun k e h2 => by
                  rcases e with e | e
                  · have := HD4.out; have := HS4C.out; omega
                  · have := hS7; omega))
                have hBW : Below w.heap.size w wr := HB4.out.trans ((HK8.out.below (B := w.heap.size) (fun k e => by have h1 := HB0.out; have h2 := HBC.out; have h3 := HD3.out; have h4 := HQE.out; have h5 := HQ2.out; omega) HB4.out.size).trans (HK.out.below (B := w.heap.size) (fun k e => by have h2 := HBC.out; have h3 := HS4C.out; have h4 := HQE.out; have h5 := HQ2.out; omega) (Nat.le_trans HB4.out.size HK8.out.size)))
                have HBW := Lib.hid hBW
                have HBL9 := Lib.hid (show B0 ≤ wr.heap.size from Nat.le_trans (Nat.le_trans HBC.out (Nat.le_of_lt (Nat.lt_of_lt_of_le HCK.out.1 HCK.out.2))) HK.out.size)
                have hBW := hBW
                clear hBW HH HK HC9 hle HM8 HR8 HN8 HK8
                go_wp2_with fail
                refine (At_any wr (Grown (fun k => k = D) w7) D [s.out] 0 HN9.out (fun b hb => by rw [List.mem_singleton.1 hb]; exact HLL.out)).mono ?_
                rintro e w10 ⟨Ch, Cd, Cp, Cx, fh, fd, fp, fx, rfl, hm10, _, hb10⟩
                have hat : atN [s.out] 0 = (m, true) := by unfold atN; rw [if_pos ⟨by omega, by simp⟩]; exact HDE2.out
                rw [hat] at hm10 ⊢
                dsimp only at hm10 ⊢
                have hbq : Below w10.heap.size w10 (w10.alloc (.cells (msgCells m Ch Cd Cp Cx fh fd fp fx) 31)) := (Below.refl _ _).alloc (Nat.le_refl _) _
                have hbz := hb10.trans (hbq.mono hb10.size)
                have HL := Lib.hid (Blk.new w10 31 (msgCells m Ch Cd Cp Cx fh fd fp fx)); have HML := Lib.hid ((hm10.below hbq (Nat.le_refl _)).more hbq.size)
                have HM10 := Lib.hid (HM9.out.below hbz HM9.out.lt); have HR10 := Lib.hid (HR9.out.below (hbz.mono HBL9.out) HBL9.out); have HBL10 := Lib.hid (Nat.le_trans HBL9.out hbz.size); have HB10 := Lib.hid (HBW.out.trans (hbz.mono HBW.out.size))
                clear hbq hbz hm10 hb10 hat HM9 HR9 HBL9 HBW HN9
                go_upto_region 23 with (fail)
                generalize hLe : w10.heap.size = L at HL ⊢
                obtain ⟨w11, hw11⟩ : ∃ w11, w11 = w10.alloc (.cells (msgCells m Ch Cd Cp Cx fh fd fp fx) 31) := ⟨_, rfl⟩
                rw [← hw11] at HL HML HM10 HR10 HBL10 HB10 ⊢
                clear hLe hw11
                go_wp2_with fail
                refine (answers17_any w11).mono ?_
                rintro e w12 ⟨rfl, hb12⟩
                have HL12 := Lib.hid (HL.out.below hb12 HL.out.lt); have HML12 := Lib.hid ((HML.out.below hb12 (Nat.le_refl _)).more hb12.size)
                have HM12 := Lib.hid (HM10.out.below hb12 HM10.out.lt); have HR12 := Lib.hid ((HR10.out.below (hb12.mono HBL10.out) HBL10.out).more (Nat.le_trans HBL10.out hb12.size)); have HB12 := Lib.hid (HB10.out.trans (hb12.mono HB10.out.size))
                clear hb12
                go_wp2_with (refine wpList_wantedN rfl ?_; first | (refine wpList_load_row rfl 31 (.tmp 11) rfl L rfl _ _ _ _ HL12.out Try.underlying31 rfl (by kernel_rfl) ?_) | (refine wpList_load_row rfl 31 (.tmp 1) rfl Q rfl _ _ _ _ HM12.out Try.underlying31 rfl (by kernel_rfl) ?_))
                refine (same_any w12 m _ _ _ _ _ _ _ _ m _ _ _ _ _ _ _ _ HML12.out HR12.out (by have := HC.out; omega) (by have := HC.out; omega)).mono ?_
                rintro e w13 ⟨rfl, hb13⟩
                rw [decide_eq_true rfl]
                have HFIN := Lib.hid (HB12.out.trans (hb13.mono HB12.out.size))
                clear hb13
                go_wp2_with fail
                go_ret
                exact ⟨rfl, HFIN.out⟩
  · have HBAD := Lib.hid hbad
    clear hbad HDE
    go_upto_region 3 with (fail)
    have hC0 : Below w2.heap.size w2 w2.drew := (Below.refl _ _).drew
    refine wp_region_anyN (Below w2.heap.size w2) (by kernel_rfl) ?_
    refine anyC_only (i := 0) rfl (by kernel_rfl) hC0 ?_
    go_wp2_with fail
    refine (answers17_any w2.drew).mono ?_
    rintro e w3 ⟨rfl, hb3⟩
    have hb23 : Below w2.heap.size w2 w3 := hC0.trans hb3
    go_wp2_with fail
    have HMC := Lib.hid (fun W (hW : Below w2.heap.size w2 W) => HM2.out.below hW HM2.out.lt)
    refine anyC_takes (by kernel_rfl) (fun _ _ _ _ _ h => h) [1, 3] 5 _ _ (by kernel_rfl) ?_
    simp only [List.filterMap_cons, List.filterMap_nil, List.getElem?_toArray, List.getElem?_cons_succ, List.getElem?_cons_zero]
    show wpQuiet _ _ _ _ (_ :: _ :: List.nil) _
    repeat (first | go_big_quiet_skip | (go_big_quiet_want; first | (refine quiet_load_row 31 (.tmp 1) rfl Q rfl _ _ _ HMC.out Try.underlying31 rfl (by kernel_rfl) ?_; simp only [Act.put, List.setIfInBounds_toArray, List.set_cons_succ, List.set_cons_zero]; go_big_quiet_on) | (go_big_quiet_op; first | go_big_quiet_on | (refine ⟨_, fun _ _ => rfl, ?_⟩; go_big_quiet_on))))
    refine wpQuiet_nil ?_
    refine anyC_only (i := 2) rfl (by kernel_rfl) hb23 ?_
    go_wp2_with fail
    refine (NNew_G w3 w3.heap.size (Nat.le_refl _)).mono ?_
    rintro e w4 ⟨D, rfl, hn4, hb4⟩
    have hb24 := hb23.trans (hb4.mono hb23.size)
    have HN4 := Lib.hid hn4
    go_wp2_with fail
    refine anyC_only (i := 4) rfl (by kernel_rfl) hb24 ?_
    go_wp2_with fail
    refine (Send_G w4 w3.heap.size D [] m Ah Ad Ap Ax ch cd cp cx HN4.out hb4.size ((HR2.out.below hb24 (Nat.le_refl _)).more hb24.size) (by have := HC.out; omega) (by simp)).mono ?_
    rintro e w5 ⟨rfl, _, hb5⟩
    have hb25 := hb24.trans (hb5.mono hb23.size)
    have hE : sendE [] (WS.msg ⟨[], false⟩ m) = 1 := by unfold sendE; rw [HSM.out, HBAD.out]; rfl
    rw [hE]
    go_wp2_with fail
    refine anyC_takes (by kernel_rfl) (fun _ _ _ _ _ h => h) [5, 6, 7] 0 _ _ (by kernel_rfl) ?_
    simp only [List.filterMap_cons, List.filterMap_nil, List.getElem?_toArray, List.getElem?_cons_succ, List.getElem?_cons_zero]
    show wpQuiet _ _ _ _ (_ :: _ :: _ :: List.nil) _
    repeat (first | go_big_quiet_skip | (go_big_quiet_want; first | (refine quiet_pick _ _ _ rfl rfl (.bool true) rfl ?_; simp only [Act.put, List.setIfInBounds_toArray, List.set_cons_succ, List.set_cons_zero]; go_big_quiet_on) | (go_big_quiet_op; first | go_big_quiet_on | (refine ⟨_, fun _ _ => rfl, ?_⟩; go_big_quiet_on))))
    refine wpQuiet_nil ?_
    refine ⟨hb25, by kernel_rfl, ?_⟩
    have HFIN := Lib.hid (HB2.out.trans (hb25.mono HB2.out.size))
    go_wp2
    go_ret
    exact ⟨rfl, HFIN.out⟩
end Go.Proofs.Ytoekmgpnmhknoaa
