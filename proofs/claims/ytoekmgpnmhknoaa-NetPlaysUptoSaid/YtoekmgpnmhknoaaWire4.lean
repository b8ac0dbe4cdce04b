/- The walks of the eye's lists: what any bytes are read as. Condition: a list has no great number of parts. -/
import Derived.Test.YtoekmgpnmhknoaaWire2
import Derived.Test.YtoekmgpnmhknoaaWord2
import Derived.Test.YtoekmgpnmhknoaaStr
namespace Go.Proofs.Ytoekmgpnmhknoaa
open Go.RowKit
def RS.ints (s : RS) : Nat → List Int × RS
  | 0 => ([], s)
  | k + 1 => ((s.ints k).1 ++ [(s.ints k).2.int.1], (s.ints k).2.int.2)
def RS.list (s : RS) (most : Nat) : List Int × RS := if s.int.1 > (most : Int) then ([], s.int.2) else s.int.2.ints (max s.int.1 0).toNat
def RS.head (s : RS) : HeadV × RS := (⟨s.bytes.1, s.bytes.2.int.1⟩, s.bytes.2.int.2)
def RS.headsN (s : RS) : Nat → List HeadV × RS
  | 0 => ([], s)
  | k + 1 => ((s.headsN k).1 ++ [(s.headsN k).2.head.1], (s.headsN k).2.head.2)
def RS.heads (s : RS) (most : Nat) : List HeadV × RS := if s.int.1 > (most : Int) then ([], s.int.2) else s.int.2.headsN (max s.int.1 0).toNat
theorem ints_length (s : RS) (k : Nat) : (s.ints k).1.length = k := by
  induction k with
  | zero => rfl
  | succ k ih => simp [RS.ints, ih]
theorem headsN_length (s : RS) (k : Nat) : (s.headsN k).1.length = k := by
  induction k with
  | zero => rfl
  | succ k ih => simp [RS.headsN, ih]
attribute [irreducible] RS.ints RS.headsN
/-- A slice of numbers that is read, of new memory. -/
def FreshI (w : World) (B : Nat) (v : Value) (l : List Int) : Prop := ∃ A c, v = .slice A l.length c ∧ Reads w w.heap.size 1 A l.length (l.map (Value.int .i64)) ∧ ∀ ad, A = some ad → B ≤ ad.block
def FreshH (w : World) (B : Nat) (v : Value) (l : List HeadV) : Prop := ∃ A c, v = .slice A l.length c ∧ HeadsRd w w.heap.size A l ∧ ∀ ad, A = some ad → B ≤ ad.block
/-- All of F but a row. -/
def Ex (F : Nat → Prop) (v : Value) (k : Nat) : Prop := F k ∧ v.ownBlock ≠ some k
theorem ReIs.grown {w w' : World} {F : Nat → Prop} {D : Nat} {s : RS} {v : Value} (h : ReIs w (Ex F v) D s) (hg : w.grownBy w' v.ownBlock) : ReIs w' (Ex F v) D s :=
  h.keeps (G := fun k => v.ownBlock = some k) ((Keeps.refl _ w).grown hg (fun _ e => Or.inr e)) (fun _ e e2 => e.2 e2)
theorem ReIs.tight {w : World} {F : Nat → Prop} {D : Nat} {s : RS} (h : ReIs w F D s) : ReIs w (fun k => F k ∧ k < w.heap.size) D s := by
  obtain ⟨A, c, h1, h2, h3⟩ := h
  exact ⟨A, c, h1, ⟨h2, h1.cells.lt⟩, fun ad e => ⟨h3 ad e, h1.blk ad e⟩⟩
theorem ReIs.weaken {w : World} {F G : Nat → Prop} {D : Nat} {s : RS} (h : ReIs w F D s) (hn : ∀ k, F k → G k) : ReIs w G D s := by
  obtain ⟨A, c, h1, h2, h3⟩ := h
  exact ⟨A, c, h1, hn _ h2, fun ad e => hn _ (h3 ad e)⟩
theorem ReIs.skip {F : Nat → Prop} {w w' : World} {D : Nat} {s : RS} (h : ReIs w F D s) (hb : Below w.heap.size w w') : ReIs w' (Off F w w') D s :=
  (h.tight.below hb).weaken (fun _ e => ⟨e.1, Or.inl e.2⟩)
theorem i64_info : (Try.prog.info? 3).map (fun i => (i.zero, i.size, i.bytes)) = some (some (.int .i64 0), 1, 8) := by kernel_rfl
theorem head_info : (Try.prog.info? 45).map (fun i => (i.zero, i.size, i.bytes)) = some (some (.agg #[.string ⟨#[]⟩, .int .i64 0]), 2, 24) := by kernel_rfl
theorem reads_row {w : World} {q : Nat} {t : TypeId} {cs : List Value} {size n : Nat} (h : Blk w q t cs.toArray) (hn : cs.length = n * size) : Reads w w.heap.size size (some ⟨q, 0, none⟩) n cs := by
  refine ⟨hn, fun _ => ⟨_, rfl, h.lt, fun j u hu => ?_⟩⟩
  have ha : (⟨q, 0, none⟩ : Addr).add j = ⟨q, j, none⟩ := by unfold Addr.add; split <;> simp_all
  rw [ha, h.cell j, List.getElem?_toArray]
  exact hu
/-- A row that is owned, as numbers that are read. -/
theorem freshI_of {w : World} {B : Nat} {v : Value} {l : List Int} (h : w.ownsRow B 3 1 v l.length (l.map (Value.int .i64))) : FreshI w B v l := by
  have hr : ∀ A c, v = .slice A l.length c → Reads w w.heap.size 1 A l.length (l.map (Value.int .i64)) := fun A c e => by subst e; exact Reads.of_own h
  rcases h.2 with ⟨rfl, e⟩ | ⟨g, cap, cur, rfl, hg, _⟩
  · have : l = [] := List.eq_nil_of_length_eq_zero e
    subst this
    exact ⟨none, 0, rfl, ⟨rfl, fun h => by simp at h⟩, fun _ e => by cases e⟩
  · exact ⟨_, cap, rfl, hr _ _ rfl, fun ad e => by injection e with e; subst e; exact hg⟩
def IntsPost (w : World) (F : Nat → Prop) (D : Nat) (r : List Int × RS) (e : Ending) (w' : World) : Prop := ∃ v, e = .returned v ∧ FreshI w' w.heap.size v r.1 ∧ ReIs w' (Ex F v) D r.2 ∧ Keeps F w w' ∧ ∀ k, v.ownBlock = some k → k < w'.heap.size
theorem ex_nil {w : World} {F : Nat → Prop} {D : Nat} {s : RS} (h : ReIs w F D s) : ReIs w (Ex F (.slice none 0 0)) D s := h.weaken (fun _ e => ⟨e, fun e2 => by cases e2⟩)
theorem ReIs.appended {w w' : World} {F : Nat → Prop} {D : Nat} {s : RS} {v v' : Value} (h : ReIs w (Ex F v) D s) (hg : w.grownBy w' v.ownBlock) (hat : v'.ownBlock = v.ownBlock ∨ v'.ownBlock = some w.heap.size) : ReIs w' (Ex F v') D s := by
  have h1 : ReIs w (fun k => Ex F v k ∧ Ex F v' k) D s := h.tight.weaken (fun k e => ⟨e.1, e.1.1, fun e2 => by
    rcases hat with h3 | h3
    · exact e.1.2 (h3 ▸ e2)
    · rw [h3] at e2; injection e2 with e2; have := e.2; omega⟩)
  exact (h1.keeps (G := fun k => v.ownBlock = some k) ((Keeps.refl _ w).grown hg (fun _ e => Or.inr e)) (fun _ e e2 => e.1.2 e2)).weaken (fun _ e => e.2)
set_option maxRecDepth 100000 in
theorem EyeInts_any (w : World) (F : Nat → Prop) (D : Nat) (s : RS) (most : Nat) (hu : Up F w) (h : ReIs w F D s) (hm : most ≤ 67108864) :
    Calls Try.prog 37 #[.agg #[.pointer (some ⟨D, 0, none⟩), .int .i64 (most : Int)]] w (IntsPost w F D (s.list most)) := by
  go_enter Try.func37, Try.ntmps37
  have hb1 : Below w.heap.size w (w.alloc (.cells #[.pointer (some ⟨D, 0, none⟩), .int .i64 (most : Int)] 75)) := (Below.refl _ _).alloc (Nat.le_refl _) _
  have h1 := h.skip hb1
  have hbx := Blk.new w 75 #[.pointer (some ⟨D, 0, none⟩), .int .i64 (most : Int)]
  have hsz : (w.alloc (.cells #[.pointer (some ⟨D, 0, none⟩), .int .i64 (most : Int)] 75)).heap.size = w.heap.size + 1 := by simp
  have H1 := Lib.hid h1; have HSZ := Lib.hid hsz
  clear h1 hsz
  go_upto_region 1 with (fail)
  obtain ⟨b, hb⟩ : ∃ b, b = w.heap.size := ⟨_, rfl⟩
  rw [← hb] at hbx HSZ ⊢
  obtain ⟨w1, hw1⟩ : ∃ w1, w1 = w.alloc (.cells #[.pointer (some ⟨D, 0, none⟩), .int .i64 (most : Int)] 75) := ⟨_, rfl⟩
  rw [← hw1] at H1 hbx HSZ hb1 ⊢
  obtain ⟨G, hG⟩ : ∃ G, G = Off F w w1 := ⟨_, rfl⟩
  have hGb : ¬ G b := by rw [hG]; intro e; have := e.2; have := HSZ.out; omega
  have hGF : ∀ k, G k → F k := fun k e => by rw [hG] at e; exact e.1
  have hfin : ∀ w2, Keeps G w1 w2 → Keeps F w w2 := fun w2 hk => by rw [hG] at hk; exact Keeps.off hb1 hk
  rw [← hG] at H1
  have hGu : ∀ k, w1.heap.size ≤ k → G k := fun k hk => by rw [hG]; exact hu.off hb1 k hk
  have p0 : w1.cell? ⟨b, 0, none⟩ = some (.pointer (some ⟨D, 0, none⟩)) := (hbx.cell 0).trans rfl
  have HFIN := Lib.hid hfin; have HGF := Lib.hid hGF; have HGB := Lib.hid hGb; have HBX := Lib.hid hbx; have HB := Lib.hid hb; have HGU := Lib.hid hGu
  clear hfin hGF hGb hbx hb hG hw1 hb1 h hu hGu
  go_wp2_with fail
  refine (RInt_any w1 G D s H1.out).mono ?_
  rintro e w2 ⟨rfl, h2, hk2⟩
  have hi1 : s.list most = if s.int.1 > (most : Int) then ([], s.int.2) else s.int.2.ints (max s.int.1 0).toNat := rfl
  have hbx2 := HBX.out.keeps hk2 HGB.out
  have p1 : w2.cell? ⟨b, 1, none⟩ = some (.int .i64 (most : Int)) := (hbx2.cell 1).trans rfl
  generalize s.int.1 = z at hi1 ⊢
  generalize s.int.2 = s1 at hi1 h2
  have HI1 := Lib.hid hi1; have H2 := Lib.hid h2; have HK2 := Lib.hid hk2
  clear hi1 h2 hk2 hbx2 p0
  by_cases hbig : z > (most : Int)
  · have hl : s.list most = ([], s1) := by rw [HI1.out, if_pos hbig]
    have HL := Lib.hid hl
    clear hl
    go_wp2
    go_ret
    rw [HL.out]
    exact ⟨_, rfl, ⟨none, 0, rfl, ⟨rfl, fun h => by simp at h⟩, fun _ e => by cases e⟩, ex_nil (H2.out.weaken HGF.out), HFIN.out _ HK2.out, fun _ e => by cases e⟩
  · obtain ⟨k, hk⟩ : ∃ k : Nat, (k : Int) = max z 0 := ⟨(max z 0).toNat, by omega⟩
    have hl : s.list most = s1.ints k := by rw [HI1.out, if_neg hbig, ← hk, Int.toNat_natCast]
    have hkm : k ≤ most := by omega
    have hbig' : (z > (most : Int)) = False := eq_false hbig
    have HL := Lib.hid hl; have HKZ := Lib.hid hk
    clear hl hk hbig
    go_upto_region 5 with (fail)
    go_cut [13, 14] (fun s13 s14 wx => s13 = .int .i64 (k : Int) ∧ s14 = .int .i64 0 ∧ wx = w2)
    case first =>
      by_cases hz : z < 0
      · have hk0 : k = 0 := by have := HKZ.out; omega
        have HK0 := Lib.hid hk0
        clear hk0
        go_wp2_with fail
        go_meet
        exact ⟨by rw [HK0.out]; rfl, rfl, rfl⟩
      · have hk0 : z = (k : Int) := by have := HKZ.out; omega
        have HK0 := Lib.hid hk0
        have hz' : 0 ≤ z := by omega
        clear hk0
        go_wp2_with fail
        go_meet
        exact ⟨by rw [HK0.out], rfl, rfl⟩
    case rest =>
      obtain ⟨rfl, rfl, rfl⟩ := hcut
      have h0 : (s1.ints 0) = ([], s1) := by unfold RS.ints; rfl
      have H0 := Lib.hid h0
      clear h0 p1
      go_wp2_with fail
      go_loopw [4, 14] (fun v q wr => ∃ j : Nat, j ≤ k ∧ q = .int .i64 (j : Int) ∧ wr.ownsRow w1.heap.size 3 1 v j ((s1.ints j).1.map (Value.int .i64)) ∧ ReIs wr (Ex G v) D (s1.ints j).2 ∧ Keeps G w1 wr) (fun _ q _ => k - (intOf q).toNat)
      case atStart => exact ⟨0, by omega, rfl, by rw [H0.out]; exact World.ownsRow_nil _ _ _ _, by rw [H0.out]; exact ex_nil H2.out, HK2.out⟩
      case round =>
        obtain ⟨j, hj, rfl, hv, hr, hkp⟩ := hrel
        obtain ⟨A, c, rfl⟩ : ∃ A c, u4 = .slice A j c := by
          rcases hv.2 with ⟨rfl, e⟩ | ⟨g, cap, cur, rfl, _⟩
          · rw [e]; exact ⟨none, 0, rfl⟩
          · exact ⟨_, cap, rfl⟩
        have HV := Lib.hid hv; have HR := Lib.hid hr; have HK := Lib.hid hkp
        clear hv hr hkp
        by_cases hjk : j < k
        · have hjk' : (j : Int) < (k : Int) := by omega
          have p0 : wr.cell? ⟨b, 0, none⟩ = some (.pointer (some ⟨D, 0, none⟩)) := ((HBX.out.keeps HK.out HGB.out).cell 0).trans rfl
          go_wp2_with fail
          refine (RInt_any wr (Ex G _) D _ HR.out).mono ?_
          rintro e wy ⟨rfl, hy, hky⟩
          have hst : (s1.ints (j + 1)).1 = (s1.ints j).1 ++ [(s1.ints j).2.int.1] ∧ (s1.ints (j + 1)).2 = (s1.ints j).2.int.2 := by
            rw [RS.ints.eq_def]; exact ⟨rfl, rfl⟩
          have hvy := row_keeps HV.out hky (fun kk e e2 => e2.2 e)
          have hkG : Keeps G wr wy := hky.weaken (fun _ _ e => e.1)
          generalize (s1.ints j).2.int.1 = x at hst ⊢
          generalize (s1.ints j).2.int.2 = s2 at hst hy
          have hbq : Below wy.heap.size wy (wy.alloc (.cells #[.int .i64 x] 3)) := (Below.refl _ _).alloc (Nat.le_refl _) _
          have hq := Blk.new wy 3 [Value.int .i64 x].toArray
          have hvq : (wy.alloc (.cells #[.int .i64 x] 3)).ownsRow w1.heap.size 3 1 (.slice A j c) j ((s1.ints j).1.map (Value.int .i64)) := World.ownsRow.alloc hvy _
          have hyq := hy.below hbq
          have hk1 : Keeps G w1 wy := HK.out.trans hkG (fun _ _ e => e)
          have HVQ := Lib.hid hvq; have HYQ := Lib.hid hyq; have HQ := Lib.hid hq; have HKQ := Lib.hid (hk1.trans (Keeps.of_below (F := G) hbq) (fun _ _ e => e)); have HST := Lib.hid hst; have HY1 := Lib.hid hk1.size; have HBQ := Lib.hid hbq
          clear hst hvy hkG hky hy hvq hyq hq hk1 hbq
          obtain ⟨i0, hi0, hz0, hz1, hz2⟩ := info_parts i64_info
          have HI0 := Lib.hid (And.intro hi0 (And.intro hz0 (And.intro hz1 hz2)))
          clear hi0 hz0 hz1 hz2
          go_wp2_with (at_builtin; refine wpList_append_any _ rfl (.tmp 16) (.tmp 20) _ rfl w1.heap.size 3 i0 _ 1 8 Try.underlying27 HI0.out.1 HI0.out.2.1 HI0.out.2.2.1 HI0.out.2.2.2 rfl (by omega) _ j _ rfl HVQ.out _ (some ⟨wy.heap.size, 0, none⟩) 1 1 [.int .i64 x] rfl (reads_row HQ.out rfl) (by intro u hu; simp only [List.mem_singleton] at hu; subst hu; rfl) (by simp only [maxLen]; omega) (by omega) (by have := HBQ.out.size; have := HY1.out; omega) ?_; intro v' w' hown' hg' hat')
          have hfr := HYQ.out.appended hg' hat'
          have hkr := HKQ.out.grown hg' (fun kk e => Or.inl (HVQ.out.lt kk e).1)
          have HFR := Lib.hid hfr; have HKR := Lib.hid hkr; have HOWN := Lib.hid hown'
          clear hfr hkr hown' hg' hat'
          go_roundw
          case rel => exact ⟨j + 1, by omega, by go_num, by rw [HST.out.1, List.map_append]; exact HOWN.out, by rw [HST.out.2]; exact HFR.out, HKR.out⟩
          case measure => simp [intOf]; omega
        · obtain rfl : j = k := by omega
          go_wp2
          go_ret
          rw [HL.out]
          have hlen := ints_length s1 j
          have hv2 : wr.ownsRow w1.heap.size 3 1 (.slice A j c) (s1.ints j).1.length ((s1.ints j).1.map (Value.int .i64)) := by rw [hlen]; exact HV.out
          obtain ⟨A', c', e1, e2, e3⟩ := freshI_of hv2
          refine ⟨_, rfl, ⟨A', c', e1, e2, fun ad e => ?_⟩, HR.out.weaken (fun kk e => ⟨HGF.out kk e.1, e.2⟩), HFIN.out _ HK.out, fun kk e => (HV.out.lt kk e).2⟩
          have := e3 ad e
          have := HSZ.out
          have := HB.out
          omega
def headC (h : HeadV) : List Value := [.string ⟨h.id.toArray⟩, .int .i64 h.size]
theorem headC_at (l : List HeadV) : ∀ (i : Nat) (h : HeadV), l[i]? = some h → (l.flatMap headC)[i * 2]? = some (.string ⟨h.id.toArray⟩) ∧ (l.flatMap headC)[i * 2 + 1]? = some (.int .i64 h.size) := by
  induction l with
  | nil => intro i h e; cases e
  | cons x r ih =>
    intro i h e
    cases i with
    | zero => injection e with e; subst e; exact ⟨rfl, rfl⟩
    | succ i =>
      have h1 := ih i h (by simpa using e)
      rw [List.flatMap_cons]
      unfold headC at h1 ⊢
      rw [show (i + 1) * 2 = i * 2 + 2 by omega, show i * 2 + 2 + 1 = (i * 2 + 1) + 2 by omega]
      exact h1
theorem headC_len (l : List HeadV) : (l.flatMap headC).length = l.length * 2 := by
  induction l with
  | nil => rfl
  | cons x r ih => rw [List.flatMap_cons, List.length_append, ih]; simp [headC]; omega
theorem freshH_of {w : World} {B : Nat} {v : Value} {l : List HeadV} (h : w.ownsRow B 45 2 v l.length (l.flatMap headC)) : FreshH w B v l := by
  rcases h.2 with ⟨rfl, e⟩ | ⟨g, cap, cur, rfl, hg, hh, _, _, _, ht⟩
  · have : l = [] := List.eq_nil_of_length_eq_zero e
    subst this
    exact ⟨none, 0, rfl, fun h => by simp at h, fun _ e => by cases e⟩
  · refine ⟨_, cap, rfl, fun hn => ⟨_, rfl, lt_of_block hh, fun i x hx => ?_⟩, fun ad e => by injection e with e; subst e; exact hg⟩
    obtain ⟨h0, h1⟩ := headC_at l i x hx
    have hi : i < l.length := (List.getElem?_eq_some_iff.1 hx).1
    have hcur : ∀ j, j < l.length * 2 → w.cell? ⟨g, j, none⟩ = (l.flatMap headC)[j]? := by
      intro j hj
      rw [cell_of_row w g j cur _ (0, 0) hh, ← ht, List.getElem?_take, if_pos hj, Array.getElem?_toList]
    have ha : (⟨g, 0, none⟩ : Addr).add (i * 2) = ⟨g, i * 2, none⟩ := by unfold Addr.add; split <;> simp_all
    rw [ha]
    exact ⟨(hcur (i * 2) (by omega)).trans h0, (hcur (i * 2 + 1) (by omega)).trans h1⟩
def HeadsPost (w : World) (F : Nat → Prop) (D : Nat) (r : List HeadV × RS) (e : Ending) (w' : World) : Prop := ∃ v, e = .returned v ∧ FreshH w' w.heap.size v r.1 ∧ ReIs w' (Ex F v) D r.2 ∧ Keeps F w w' ∧ ∀ k, v.ownBlock = some k → k < w'.heap.size
set_option maxRecDepth 100000 in
theorem EyeHeads_any (w : World) (F : Nat → Prop) (D : Nat) (s : RS) (most : Nat) (hu : Up F w) (h : ReIs w F D s) (hm : most ≤ 67108864) :
    Calls Try.prog 35 #[.agg #[.pointer (some ⟨D, 0, none⟩), .int .i64 (most : Int)]] w (HeadsPost w F D (s.heads most)) := by
  go_enter Try.func35, Try.ntmps35
  have hb1 : Below w.heap.size w (w.alloc (.cells #[.pointer (some ⟨D, 0, none⟩), .int .i64 (most : Int)] 75)) := (Below.refl _ _).alloc (Nat.le_refl _) _
  have h1 := h.skip hb1
  have hbx := Blk.new w 75 #[.pointer (some ⟨D, 0, none⟩), .int .i64 (most : Int)]
  have hsz : (w.alloc (.cells #[.pointer (some ⟨D, 0, none⟩), .int .i64 (most : Int)] 75)).heap.size = w.heap.size + 1 := by simp
  have H1 := Lib.hid h1; have HSZ := Lib.hid hsz
  clear h1 hsz
  go_upto_region 1 with (fail)
  obtain ⟨b, hb⟩ : ∃ b, b = w.heap.size := ⟨_, rfl⟩
  rw [← hb] at hbx HSZ ⊢
  obtain ⟨w1, hw1⟩ : ∃ w1, w1 = w.alloc (.cells #[.pointer (some ⟨D, 0, none⟩), .int .i64 (most : Int)] 75) := ⟨_, rfl⟩
  rw [← hw1] at H1 hbx HSZ hb1 ⊢
  obtain ⟨G, hG⟩ : ∃ G, G = Off F w w1 := ⟨_, rfl⟩
  have hGb : ¬ G b := by rw [hG]; intro e; have := e.2; have := HSZ.out; omega
  have hGF : ∀ k, G k → F k := fun k e => by rw [hG] at e; exact e.1
  have hfin : ∀ w2, Keeps G w1 w2 → Keeps F w w2 := fun w2 hk => by rw [hG] at hk; exact Keeps.off hb1 hk
  rw [← hG] at H1
  have hGu : ∀ k, w1.heap.size ≤ k → G k := fun k hk => by rw [hG]; exact hu.off hb1 k hk
  have p0 : w1.cell? ⟨b, 0, none⟩ = some (.pointer (some ⟨D, 0, none⟩)) := (hbx.cell 0).trans rfl
  have HFIN := Lib.hid hfin; have HGF := Lib.hid hGF; have HGB := Lib.hid hGb; have HBX := Lib.hid hbx; have HB := Lib.hid hb; have HGU := Lib.hid hGu
  clear hfin hGF hGb hbx hb hG hw1 hb1 h hu hGu
  go_wp2_with fail
  refine (RInt_any w1 G D s H1.out).mono ?_
  rintro e w2 ⟨rfl, h2, hk2⟩
  have hi1 : s.heads most = if s.int.1 > (most : Int) then ([], s.int.2) else s.int.2.headsN (max s.int.1 0).toNat := rfl
  have hbx2 := HBX.out.keeps hk2 HGB.out
  have p1 : w2.cell? ⟨b, 1, none⟩ = some (.int .i64 (most : Int)) := (hbx2.cell 1).trans rfl
  generalize s.int.1 = z at hi1 ⊢
  generalize s.int.2 = s1 at hi1 h2
  have HI1 := Lib.hid hi1; have H2 := Lib.hid h2; have HK2 := Lib.hid hk2
  clear hi1 h2 hk2 hbx2 p0
  by_cases hbig : z > (most : Int)
  · have hl : s.heads most = ([], s1) := by rw [HI1.out, if_pos hbig]
    have HL := Lib.hid hl
    clear hl
    go_wp2
    go_ret
    rw [HL.out]
    exact ⟨_, rfl, ⟨none, 0, rfl, fun h => by simp at h, fun _ e => by cases e⟩, ex_nil (H2.out.weaken HGF.out), HFIN.out _ HK2.out, fun _ e => by cases e⟩
  · obtain ⟨k, hk⟩ : ∃ k : Nat, (k : Int) = max z 0 := ⟨(max z 0).toNat, by omega⟩
    have hl : s.heads most = s1.headsN k := by rw [HI1.out, if_neg hbig, ← hk, Int.toNat_natCast]
    have hkm : k ≤ most := by omega
    have hbig' : (z > (most : Int)) = False := eq_false hbig
    have HL := Lib.hid hl; have HKZ := Lib.hid hk
    clear hl hk hbig
    go_upto_region 5 with (fail)
    go_cut [14, 15] (fun s14 s15 wx => s14 = .int .i64 (k : Int) ∧ s15 = .int .i64 0 ∧ wx = w2)
    case first =>
      by_cases hz : z < 0
      · have hk0 : k = 0 := by have := HKZ.out; omega
        have HK0 := Lib.hid hk0
        clear hk0
        go_wp2_with fail
        go_meet
        exact ⟨by rw [HK0.out]; rfl, rfl, rfl⟩
      · have hk0 : z = (k : Int) := by have := HKZ.out; omega
        have HK0 := Lib.hid hk0
        have hz' : 0 ≤ z := by omega
        clear hk0
        go_wp2_with fail
        go_meet
        exact ⟨by rw [HK0.out], rfl, rfl⟩
    case rest =>
      obtain ⟨rfl, rfl, rfl⟩ := hcut
      have h0 : (s1.headsN 0) = ([], s1) := by unfold RS.headsN; rfl
      have H0 := Lib.hid h0
      clear h0 p1
      go_wp2_with fail
      go_loopw [4, 15] (fun v q wr => ∃ j : Nat, j ≤ k ∧ q = .int .i64 (j : Int) ∧ wr.ownsRow w1.heap.size 45 2 v j ((s1.headsN j).1.flatMap headC) ∧ ReIs wr (Ex G v) D (s1.headsN j).2 ∧ Keeps G w1 wr) (fun _ q _ => k - (intOf q).toNat)
      case atStart => exact ⟨0, by omega, rfl, by rw [H0.out]; exact World.ownsRow_nil _ _ _ _, by rw [H0.out]; exact ex_nil H2.out, HK2.out⟩
      case round =>
        obtain ⟨j, hj, rfl, hv, hr, hkp⟩ := hrel
        obtain ⟨A, c, rfl⟩ : ∃ A c, u4 = .slice A j c := by
          rcases hv.2 with ⟨rfl, e⟩ | ⟨g, cap, cur, rfl, _⟩
          · rw [e]; exact ⟨none, 0, rfl⟩
          · exact ⟨_, cap, rfl⟩
        have HV := Lib.hid hv; have HR := Lib.hid hr; have HK := Lib.hid hkp
        clear hv hr hkp
        by_cases hjk : j < k
        · have hjk' : (j : Int) < (k : Int) := by omega
          have p0 : wr.cell? ⟨b, 0, none⟩ = some (.pointer (some ⟨D, 0, none⟩)) := ((HBX.out.keeps HK.out HGB.out).cell 0).trans rfl
          go_wp2_with fail
          refine (RBytes_any wr (Ex G _) D _ HR.out).mono ?_
          rintro e wx ⟨vx, rfl, ⟨Ax, cx, rfl, hrx, _⟩, hx, hkx⟩
          have hvx := row_keeps HV.out hkx (fun kk e e2 => e2.2 e)
          have p0 : wx.cell? ⟨b, 0, none⟩ = some (.pointer (some ⟨D, 0, none⟩)) := (((HBX.out.keeps HK.out HGB.out).keeps hkx (fun e => HGB.out e.1)).cell 0).trans rfl
          have hst : (s1.headsN (j + 1)).1 = (s1.headsN j).1 ++ [⟨(s1.headsN j).2.bytes.1, (s1.headsN j).2.bytes.2.int.1⟩] ∧ (s1.headsN (j + 1)).2 = (s1.headsN j).2.bytes.2.int.2 := by
            rw [RS.headsN.eq_def]; exact ⟨rfl, rfl⟩
          generalize (s1.headsN j).2.bytes.1 = idb at hst hrx ⊢
          generalize (s1.headsN j).2.bytes.2 = s3 at hst hx
          have HST := Lib.hid hst; have HRX := Lib.hid hrx; have HX := Lib.hid hx; have HVX := Lib.hid hvx; have HKX := Lib.hid (HK.out.trans (hkx.weaken (F' := G) (fun _ _ e => e.1)) (fun _ _ e => e))
          clear hst hrx hx hkx hvx
          go_wp2_with (refine wpList_str rfl 29 9 5 (.tmp 19) rfl Ax _ cx idb rfl Try.underlying29 Try.underlying5 Try.underlying9 _ HRX.out ?_)
          refine (RInt_any wx (Ex G _) D _ HX.out).mono ?_
          rintro e wy ⟨rfl, hy, hky⟩
          have hst := HST.out
          have hvy := row_keeps HVX.out hky (fun kk e e2 => e2.2 e)
          have hkG : Keeps G wx wy := hky.weaken (fun _ _ e => e.1)
          generalize s3.int.1 = x at hst ⊢
          generalize s3.int.2 = s2 at hst hy
          have hbq : Below wy.heap.size wy (wy.alloc (.cells #[.string ⟨idb.toArray⟩, .int .i64 x] 45)) := (Below.refl _ _).alloc (Nat.le_refl _) _
          have hq := Blk.new wy 45 [Value.string ⟨idb.toArray⟩, Value.int .i64 x].toArray
          have hvq : (wy.alloc (.cells #[.string ⟨idb.toArray⟩, .int .i64 x] 45)).ownsRow w1.heap.size 45 2 (.slice A j c) j ((s1.headsN j).1.flatMap headC) := World.ownsRow.alloc hvy _
          have hyq := hy.below hbq
          have hk1 : Keeps G w1 wy := HKX.out.trans hkG (fun _ _ e => e)
          clear HST
          have HVQ := Lib.hid hvq; have HYQ := Lib.hid hyq; have HQ := Lib.hid hq; have HKQ := Lib.hid (hk1.trans (Keeps.of_below (F := G) hbq) (fun _ _ e => e)); have HST := Lib.hid hst; have HY1 := Lib.hid hk1.size; have HBQ := Lib.hid hbq
          clear hst hvy hkG hky hy hvq hyq hq hk1 hbq p0
          obtain ⟨i0, hi0, hz0, hz1, hz2⟩ := info_parts head_info
          have HI0 := Lib.hid (And.intro hi0 (And.intro hz0 (And.intro hz1 hz2)))
          clear hi0 hz0 hz1 hz2
          go_wp2_with (at_builtin; refine wpList_append_any _ rfl (.tmp 21) (.tmp 27) _ rfl w1.heap.size 45 i0 _ 2 24 Try.underlying26 HI0.out.1 HI0.out.2.1 HI0.out.2.2.1 HI0.out.2.2.2 rfl (by omega) _ j _ rfl HVQ.out _ (some ⟨wy.heap.size, 0, none⟩) 1 1 [.string ⟨idb.toArray⟩, .int .i64 x] rfl (reads_row HQ.out rfl) (by intro u hu; simp only [List.mem_cons, List.not_mem_nil, or_false] at hu; rcases hu with rfl | rfl <;> rfl) (by simp only [maxLen]; omega) (by omega) (by have := HBQ.out.size; have := HY1.out; omega) ?_; intro v' w' hown' hg' hat')
          have hfr := HYQ.out.appended hg' hat'
          have hkr := HKQ.out.grown hg' (fun kk e => Or.inl (HVQ.out.lt kk e).1)
          have HFR := Lib.hid hfr; have HKR := Lib.hid hkr; have HOWN := Lib.hid hown'
          clear hfr hkr hown' hg' hat'
          go_roundw
          case rel => exact ⟨j + 1, by omega, by go_num, by rw [HST.out.1, List.flatMap_append]; exact HOWN.out, by rw [HST.out.2]; exact HFR.out, HKR.out⟩
          case measure => simp [intOf]; omega
        · obtain rfl : j = k := by omega
          go_wp2
          go_ret
          rw [HL.out]
          have hlen := headsN_length s1 j
          have hv2 : wr.ownsRow w1.heap.size 45 2 (.slice A j c) (s1.headsN j).1.length ((s1.headsN j).1.flatMap headC) := by rw [hlen]; exact HV.out
          obtain ⟨A', c', e1, e2, e3⟩ := freshH_of hv2
          refine ⟨_, rfl, ⟨A', c', e1, e2, fun ad e => ?_⟩, HR.out.weaken (fun kk e => ⟨HGF.out kk e.1, e.2⟩), HFIN.out _ HK.out, fun kk e => (HV.out.lt kk e).2⟩
          have := e3 ad e
          have := HSZ.out
          have := HB.out
          omega
end Go.Proofs.Ytoekmgpnmhknoaa
