/- The walk of rec's DecodeBook. Condition: the bytes are no great number. Printed by mkrec8.py. -/
import Derived.Test.YtinkclcdpcjnfaaDoorRec7
import Derived.Test.YtinkclcdpcjnfaaDoorAnyD
namespace Go.Proofs.YtinkclcdpcjnfaaDoor
open Go.RowKit
theorem i64_info : (Tryd.prog.info? 3).map (fun i => (i.zero, i.size, i.bytes)) = some (some (.int .i64 0), 1, 8) := by kernel_rfl
theorem bool_info : (Tryd.prog.info? 4).map (fun i => (i.zero, i.size, i.bytes)) = some (some (.bool false), 1, 1) := by kernel_rfl
theorem head_info : (Tryd.prog.info? 72).map (fun i => (i.zero, i.size, i.bytes)) = some (some (.agg #[.string ⟨#[]⟩, .int .i64 0]), 2, 24) := by kernel_rfl
def RS.ints (s : RS) : Nat → List Int × RS
  | 0 => ([], s)
  | k + 1 => ((s.ints k).1 ++ [(s.ints k).2.int.1], (s.ints k).2.int.2)
def RS.head (s : RS) : HeadV × RS := (⟨s.bytes.1, s.bytes.2.int.1⟩, s.bytes.2.int.2)
def RS.headsN (s : RS) : Nat → List HeadV × RS
  | 0 => ([], s)
  | k + 1 => ((s.headsN k).1 ++ [(s.headsN k).2.head.1], (s.headsN k).2.head.2)
theorem ints_length (s : RS) (k : Nat) : (s.ints k).1.length = k := by
  induction k with
  | zero => rfl
  | succ k ih => simp [RS.ints, ih]
theorem headsN_length (s : RS) (k : Nat) : (s.headsN k).1.length = k := by
  induction k with
  | zero => rfl
  | succ k ih => simp [RS.headsN, ih]
theorem ints_succ (s : RS) (k : Nat) : s.ints (k + 1) = ((s.ints k).1 ++ [(s.ints k).2.int.1], (s.ints k).2.int.2) := by rw [RS.ints.eq_def]
theorem ints_zero (s : RS) : s.ints 0 = ([], s) := by rw [RS.ints.eq_def]
theorem headsN_succ (s : RS) (k : Nat) : s.headsN (k + 1) = ((s.headsN k).1 ++ [(s.headsN k).2.head.1], (s.headsN k).2.head.2) := by rw [RS.headsN.eq_def]
theorem headsN_zero (s : RS) : s.headsN 0 = ([], s) := by rw [RS.headsN.eq_def]
attribute [irreducible] RS.ints RS.headsN
def RS.book (s : RS) (most : Nat) : BookV × RS :=
  let a := s.int
  let b := a.2.int
  let c := b.2.int
  let d := c.2.int.2.headsN (c.2.count most)
  let e := d.2.int.2.ints (d.2.count most)
  let f := e.2.int.2.ints (e.2.count most)
  (⟨a.1, b.1, c.1, d.1, e.1.map (fun z => z == 1), f.1⟩, f.2)
def BookV.zero : BookV := ⟨0, 0, 0, [], [], []⟩
def decB (b : List UInt8) : BookV × Bool :=
  let r := (⟨b, false⟩ : RS).book b.length
  if (r.2.bad = false ∧ r.2.left.length = 0) ∧ (WS.book ⟨[], false⟩ r.1).bad = false ∧ (WS.book ⟨[], false⟩ r.1).out = b then (r.1, true) else (BookV.zero, false)
def headC (h : HeadV) : List Value := [.string ⟨h.id.toArray⟩, .int .i64 h.size]
theorem headC_at (l : List HeadV) : ∀ (i : Nat) (h : HeadV), l[i]? = some h → (l.flatMap headC)[i * 2]? = some (.string ⟨h.id.toArray⟩) ∧ (l.flatMap headC)[i * 2 + 1]? = some (.int .i64 h.size) := by
  induction l with
  | nil => intro i h e; cases e
  | cons x r ih =>
    intro i h e
    cases i with
    | zero => injection e with e; subst e; exact ⟨rfl, rfl⟩
    | succ i =>
      have h1 := ih i h (by simpa using e)
      rw [List.flatMap_cons]
      unfold headC at h1 ⊢
      rw [show (i + 1) * 2 = i * 2 + 2 by omega, show i * 2 + 2 + 1 = (i * 2 + 1) + 2 by omega]
      exact h1
theorem headsRd_of {w : World} {B : Nat} {v : Value} {l : List HeadV} (h : w.ownsRow B 72 2 v l.length (l.flatMap headC)) : ∃ A c, v = .slice A l.length c ∧ HeadsRd w w.heap.size A l ∧ ∀ ad, A = some ad → B ≤ ad.block := by
  rcases h.2 with ⟨rfl, e⟩ | ⟨g, cap, cur, rfl, hg, hh, _, _, _, ht⟩
  · have : l = [] := List.eq_nil_of_length_eq_zero e
    subst this
    exact ⟨none, 0, rfl, fun h => by simp at h, fun _ e => by cases e⟩
  · refine ⟨_, cap, rfl, fun hn => ⟨_, rfl, lt_of_block hh, fun i x hx => ?_⟩, fun ad e => by injection e with e; subst e; exact hg⟩
    obtain ⟨h0, h1⟩ := headC_at l i x hx
    have hi : i < l.length := (List.getElem?_eq_some_iff.1 hx).1
    have hcur : ∀ j, j < l.length * 2 → w.cell? ⟨g, j, none⟩ = (l.flatMap headC)[j]? := by
      intro j hj
      rw [cell_of_row w g j cur _ (0, 0) hh, ← ht, List.getElem?_take, if_pos hj, Array.getElem?_toList]
    have ha : (⟨g, 0, none⟩ : Addr).add (i * 2) = ⟨g, i * 2, none⟩ := by unfold Addr.add; split <;> simp_all
    rw [ha]
    exact ⟨(hcur (i * 2) (by omega)).trans h0, (hcur (i * 2 + 1) (by omega)).trans h1⟩
theorem readsRow_of {w : World} {B n : Nat} {e : TypeId} {v : Value} {l : List Value} (h : w.ownsRow B e 1 v n l) : ∃ A c, v = .slice A n c ∧ Reads w w.heap.size 1 A n l ∧ ∀ ad, A = some ad → B ≤ ad.block := by
  have hr : ∀ A c, v = .slice A n c → Reads w w.heap.size 1 A n l := fun A c e => by subst e; exact Reads.of_own h
  rcases h.2 with ⟨rfl, e⟩ | ⟨g, cap, cur, rfl, hg, _⟩
  · subst e; exact ⟨none, 0, rfl, hr _ _ rfl, fun _ e => by cases e⟩
  · exact ⟨_, cap, rfl, hr _ _ rfl, fun ad e => by injection e with e; subst e; exact hg⟩
/-- Two cells that are known. -/
def TwoCells (a b : Addr) (u v : Value) (W : World) : Prop := W.cell? a = some u ∧ W.cell? b = some v
theorem row_shape {w : World} {B size n : Nat} {e : TypeId} {v : Value} {xs : List Value} (h : w.ownsRow B e size v n xs) : ∃ A c, v = .slice A n c := by
  rcases h.2 with ⟨rfl, e⟩ | ⟨g, cap, cur, rfl, _⟩
  · rw [e]; exact ⟨none, 0, rfl⟩
  · exact ⟨_, cap, rfl⟩
section
variable {w3 x y : World} {F G : Nat → Prop} {D N : Nat} {t : TypeId} {cs cs2 : Array Value} {s s2 : RS}
theorem AtN.fresh (h : AtN w3 F D N t x cs s) (hk : Keeps G x y) (hG : ∀ k, G k → w3.heap.size ≤ k) (hN : N < w3.heap.size) (hF : ∀ k, F k → k < w3.heap.size) : AtN w3 F D N t y cs s :=
  ⟨h.blk.keeps hk (fun e => by have := hG _ e; omega), h.re.keeps hk (fun k e e2 => by have := hG _ e2; have := hF _ e; omega), h.kp.trans hk (fun i hi e => by have := hG _ e; omega)⟩
theorem AtN.trans (h : AtN w3 F D N t x cs s) (h2 : AtN x F D N t y cs2 s2) : AtN w3 F D N t y cs2 s2 := ⟨h2.blk, h2.re, h.kp.trans h2.kp (fun _ _ e => e)⟩
theorem AtN.here (h : AtN w3 F D N t x cs s) : AtN x F D N t x cs s := ⟨h.blk, h.re, Keeps.refl _ _⟩
end
/-- What a decoding leaves. -/
def DecBPost (w : World) (b : List UInt8) (e : Ending) (w' : World) : Prop := ∃ (Ad Au Ac : Option Addr) (cd cu cc : Nat),
  e = .returned (.tuple #[.agg (bookCells (decB b).1 Ad Au Ac cd cu cc), .bool (decB b).2]) ∧ BookRd w' (fun k => w.heap.size ≤ k ∧ k < w'.heap.size) (decB b).1 Ad Au Ac ∧ Below w.heap.size w w'
abbrev zeroBook : Array Value := #[.int .i64 0, .int .i64 0, .int .i64 0, .slice none 0 0, .slice none 0 0, .slice none 0 0]
theorem headsN_cost (s : RS) (k : Nat) : costH (s.headsN k).1 ≤ 65541 * k := by
  have app : ∀ (a b : List HeadV), costH (a ++ b) = costH a + costH b := by
    intro a b
    induction a with
    | nil => simp [costH]
    | cons x r ih => simp only [List.cons_append, costH, ih]; omega
  induction k with
  | zero => rw [headsN_zero]; exact Nat.le_refl _
  | succ k ih =>
    rw [headsN_succ]
    dsimp only
    rw [app]
    have h1 := bytes_len1 (s.headsN k).2
    simp only [costH, RS.head]
    omega
theorem BookRd.zero_ (w : World) (S : Nat → Prop) : BookRd w S BookV.zero none none none := ⟨fun h => by simp [BookV.zero] at h, ⟨rfl, fun h => by simp [BookV.zero] at h⟩, ⟨rfl, fun h => by simp [BookV.zero] at h⟩, fun ad e => by rcases e with e | e | e <;> cases e.1⟩
theorem decB_none {w w13 : World} {b : List UInt8} {R : Nat} {a : Act} (hR : Blk w13 R 39 zeroBook) (hb : Below w.heap.size w w13) (hd : decB b = (BookV.zero, false)) (hRw : w.heap.size ≤ R)
    (h2 : a.tmps.getD 2 undef = .pointer (some ⟨R, 0, none⟩)) (h3 : a.tmps.getD 3 undef = .bool false) (h0 : a.defers = []) : bodyPost Tryd.prog Tryd.f16 (DecBPost w b) .ret a (w13.setRow R zeroBook) := by
  have hR' := setRow_heap w13 R _ zeroBook _ _ hR
  have hrow := run_loadVar_row (P := Tryd.prog) (w13.setRow R zeroBook) R 39 39 zeroBook (0, 0) _ hR' Tryd.underlying39 rfl (by kernel_rfl)
  refine bodyPost_ret (v := .tuple #[.agg zeroBook, .bool false]) ?_ h0 ?_
  · rw [results_cell_tmp rfl, h2, h3]
    simp only [asAddr, Sem.run_pure, Result.andThen_ok, hrow]
  · exact ⟨none, none, none, 0, 0, 0, by rw [hd]; rfl, by rw [hd]; exact BookRd.zero_ _ _, hb.trans (below_setRow (Below.refl _ _) hRw _)⟩
theorem BookRd.tight {w : World} {S : Nat → Prop} {k : BookV} {Ad Au Ac : Option Addr} (h : BookRd w S k Ad Au Ac) : BookRd w (fun k => S k ∧ k < w.heap.size) k Ad Au Ac := by
  refine ⟨h.dir, h.up, h.commit, fun ad e => ⟨h.inS ad e, ?_⟩⟩
  rcases e with ⟨e, h0⟩ | ⟨e, h0⟩ | ⟨e, h0⟩
  · obtain ⟨ad', e', hb, _⟩ := h.dir h0
    rw [e] at e'; injection e' with e'; rw [e']; exact hb
  · obtain ⟨ad', e', hb, _⟩ := h.up.2 h0
    rw [e] at e'; injection e' with e'; rw [e']; exact hb
  · obtain ⟨ad', e', hb, _⟩ := h.commit.2 h0
    rw [e] at e'; injection e' with e'; rw [e']; exact hb
theorem BookRd.weaken {w : World} {S S' : Nat → Prop} {k : BookV} {Ad Au Ac : Option Addr} (h : BookRd w S k Ad Au Ac) (hS : ∀ k, S k → S' k) : BookRd w S' k Ad Au Ac := ⟨h.dir, h.up, h.commit, fun ad e => hS _ (h.inS ad e)⟩
theorem decB_some {w w13 : World} {b : List UInt8} {m : BookV} {R B : Nat} {a : Act} {old : Array Value} {Ad Au Ac : Option Addr} {cd cu cc : Nat} (hR : Blk w13 R 39 old) (hb : Below w.heap.size w w13) (hd : decB b = (m, true)) (hRw : w.heap.size ≤ R) (hRB : R < B)
    (hMR : BookRd w13 (fun k => B ≤ k) m Ad Au Ac) (cs : Array Value) (hcs : cs = bookCells m Ad Au Ac cd cu cc)
    (h2 : a.tmps.getD 2 undef = .pointer (some ⟨R, 0, none⟩)) (h3 : a.tmps.getD 3 undef = .bool true) (h0 : a.defers = []) : bodyPost Tryd.prog Tryd.f16 (DecBPost w b) .ret a (w13.setRow R cs) := by
  have hR' := setRow_heap w13 R _ cs _ _ hR
  have hcz : cs.size = 6 := by rw [hcs]; rfl
  have hrow := run_loadVar_row (P := Tryd.prog) (w13.setRow R cs) R 39 39 cs (0, 0) _ hR' Tryd.underlying39 rfl (by rw [hcz]; kernel_rfl)
  refine bodyPost_ret (v := .tuple #[.agg cs, .bool true]) ?_ h0 ?_
  · rw [results_cell_tmp rfl, h2, h3]
    simp only [asAddr, Sem.run_pure, Result.andThen_ok, hrow]
  · refine ⟨Ad, Au, Ac, cd, cu, cc, by rw [hd, hcs], ?_, hb.trans (below_setRow (Below.refl _ _) hRw _)⟩
    rw [hd]
    have h4 := hMR.off ((Keeps.refl (fun k => k = R) w13).setRow_ rfl cs) (fun k e e2 => by omega)
    exact h4.tight.weaken (fun k e => ⟨by have := e.1; omega, e.2⟩)

set_option maxRecDepth 100000 in
set_option maxHeartbeats 8000000 in
theorem DecodeBook_any (w : World) (A : Option Addr) (n c : Nat) (b : List UInt8) (hn : n ≤ 67108864) (hr : Rd w w.heap.size A n b) :
    Calls Tryd.prog 16 #[.slice A n c] w (DecBPost w b) := by
  have hbl := hr.len
  go_enter Tryd.func16, Tryd.ntmps16
  have hb1 : Below w.heap.size w (w.alloc (.cells zeroBook 39)) := (Below.refl _ _).alloc (Nat.le_refl _) _
  have hR := Blk.new w 39 zeroBook
  have hr1 := hr.below hb1
  have hsz : (w.alloc (.cells zeroBook 39)).heap.size = w.heap.size + 1 := by simp
  have HSZ := Lib.hid hsz; have HBL := Lib.hid hbl
  clear hsz hbl
  go_upto_region 1 with (fail)
  obtain ⟨R, hRe⟩ : ∃ R, R = w.heap.size := ⟨_, rfl⟩
  rw [← hRe] at hR HSZ ⊢
  generalize w.alloc (.cells zeroBook 39) = w1 at hb1 hR hr1 HSZ ⊢
  have HRE := Lib.hid hRe; clear hRe
  go_wp2_with fail
  refine (Read_any A n c w1 b (by omega) (hr1.more hb1.size)).mono ?_
  rintro e w2 ⟨D, rfl, h2, hb2⟩
  have hR2 := hR.below hb2 (by have := HSZ.out; omega)
  have hb02 := hb1.trans (hb2.mono hb1.size)
  have hr2 := hr1.below (hb2.mono hb1.size)
  have H2 := Lib.hid h2.tight; have HB2 := Lib.hid hb2; have HR2 := Lib.hid hR2; have HB02 := Lib.hid hb02; have HRD2 := Lib.hid hr2
  clear h2 hb2 hR2 hb02 hr2 hR hr1 hb1 hr
  go_upto_region 2 with (fail)
  have hbE : Below w2.heap.size w2 (w2.alloc (.cells #[.pointer (some ⟨D, 0, none⟩), .int .i64 (n : Int)] 67)) := (Below.refl _ _).alloc (Nat.le_refl _) _
  have hE := Blk.new w2 67 #[.pointer (some ⟨D, 0, none⟩), .int .i64 (n : Int)]
  have h3 := H2.out.below hbE
  have hRE2 := HR2.out.below hbE HR2.out.lt
  have hRl := HR2.out.lt
  have hszE : (w2.alloc (.cells #[.pointer (some ⟨D, 0, none⟩), .int .i64 (n : Int)] 67)).heap.size = w2.heap.size + 1 := by simp
  obtain ⟨F, hF⟩ : ∃ F, F = (fun k => w1.heap.size ≤ k ∧ k < w2.heap.size) := ⟨_, rfl⟩
  rw [← hF] at h3
  obtain ⟨E, hEe⟩ : ∃ E, E = w2.heap.size := ⟨_, rfl⟩
  rw [← hEe] at hE hRl hszE hF ⊢
  obtain ⟨wE, hwE⟩ : ∃ wE, wE = w2.alloc (.cells #[.pointer (some ⟨D, 0, none⟩), .int .i64 (n : Int)] 67) := ⟨_, rfl⟩
  rw [← hwE] at h3 hbE hE hRE2 hszE ⊢
  have HB0E := Lib.hid (HB02.out.trans (hbE.mono HB02.out.size)); have HRDE := Lib.hid (HRD2.out.below (hbE.mono HB02.out.size))
  have HFE := Lib.hid (show ¬ F E by rw [hF]; intro e; have := e.2; omega)
  have HFR := Lib.hid (show ¬ F R by rw [hF]; intro e; have := e.1; have := HSZ.out; omega)
  have HFB := Lib.hid (show ∀ k, F k → w.heap.size ≤ k by rw [hF]; intro k e; have := e.1; have := HRE.out; have := HSZ.out; omega)
  have HFU := Lib.hid (show ∀ k, F k → k < E by rw [hF]; intro k e; exact e.2)
  have HE := Lib.hid hE; have H3 := Lib.hid h3; have HRE2 := Lib.hid hRE2; have HSZE := Lib.hid hszE; have HRL := Lib.hid hRl
  clear hbE hE h3 hRE2 hszE hRl hF hEe hwE H2 HB2 HR2 HB02 HRD2
  have p0 : wE.cell? ⟨E, 0, none⟩ = some (.pointer (some ⟨D, 0, none⟩)) := (HE.out.cell 0).trans rfl
  go_wp2_with fail
  clear p0
  obtain ⟨s0, hs0⟩ : ∃ ss : RS, ss = ⟨b, false⟩ := ⟨_, rfl⟩
  rw [← hs0] at H3
  have HS0 := Lib.hid hs0; clear hs0
  refine (RInt_any wE F D s0 H3.out).mono ?_
  rintro e wF ⟨rfl, hy, hky⟩
  obtain ⟨z0, hz0⟩ : ∃ zz, zz = s0.int.1 := ⟨_, rfl⟩
  obtain ⟨s1, hs1⟩ : ∃ ss, ss = s0.int.2 := ⟨_, rfl⟩
  rw [← hz0]
  rw [← hs1] at hy
  have HZ0 := Lib.hid hz0; have HS1 := Lib.hid hs1; have HY := Lib.hid hy; have HKY := Lib.hid hky
  clear hz0 hs1 hy hky H3
  go_upto_region 3 with (fail)
  have hbN : Below wF.heap.size wF (wF.alloc (.cells #[.int .i64 z0, .int .i64 0, .int .i64 0, .slice none 0 0, .slice none 0 0, .slice none 0 0] 39)) := (Below.refl _ _).alloc (Nat.le_refl _) _
  have hN := Blk.new wF 39 #[.int .i64 z0, .int .i64 0, .int .i64 0, .slice none 0 0, .slice none 0 0, .slice none 0 0]
  have hE3 := ((HE.out.keeps HKY.out HFE.out).below hbN (HE.out.keeps HKY.out HFE.out).lt)
  have hR3 := ((HRE2.out.keeps HKY.out HFR.out).below hbN (HRE2.out.keeps HKY.out HFR.out).lt)
  have h3 := HY.out.below hbN
  have hszN : (wF.alloc (.cells #[.int .i64 z0, .int .i64 0, .int .i64 0, .slice none 0 0, .slice none 0 0, .slice none 0 0] 39)).heap.size = wF.heap.size + 1 := by simp
  have hb03 : Below w.heap.size w (wF.alloc (.cells #[.int .i64 z0, .int .i64 0, .int .i64 0, .slice none 0 0, .slice none 0 0, .slice none 0 0] 39)) := (HB0E.out.trans (HKY.out.below HFB.out HB0E.out.size)).trans (hbN.mono (Nat.le_trans HB0E.out.size HKY.out.size))
  have hrd3 : Rd (wF.alloc (.cells #[.int .i64 z0, .int .i64 0, .int .i64 0, .slice none 0 0, .slice none 0 0, .slice none 0 0] 39)) w.heap.size A n b := (HRDE.out.below (HKY.out.below HFB.out HB0E.out.size)).below (hbN.mono (Nat.le_trans HB0E.out.size HKY.out.size))
  have hEl := (HE.out.keeps HKY.out HFE.out).lt
  obtain ⟨N, hNe⟩ : ∃ N, N = wF.heap.size := ⟨_, rfl⟩
  rw [← hNe] at hN hszN hEl ⊢
  obtain ⟨w3, hw3⟩ : ∃ w3, w3 = wF.alloc (.cells #[.int .i64 z0, .int .i64 0, .int .i64 0, .slice none 0 0, .slice none 0 0, .slice none 0 0] 39) := ⟨_, rfl⟩
  rw [← hw3] at hN hE3 hR3 h3 hszN hb03 hrd3 ⊢
  have hFN : ¬ F N := fun e => by have := HFU.out _ e; omega
  have hEN : E ≠ N := by omega
  have hRN : R ≠ N := by have := HRL.out; omega
  have HFN := Lib.hid hFN
  have HE3 := Lib.hid hE3; have HR3 := Lib.hid hR3; have HB3 := Lib.hid hb03; have HRD3 := Lib.hid hrd3
  have HKE := Lib.hid (show ∀ x, Keeps (Or1 F N) w3 x → Blk x E 67 #[.pointer (some ⟨D, 0, none⟩), .int .i64 (n : Int)] from fun x hk => HE3.out.keeps hk (fun e => by rcases e with e | e; exact HFE.out e; exact hEN e))
  have HKR := Lib.hid (show ∀ x, Keeps (Or1 F N) w3 x → Blk x R 39 zeroBook from fun x hk => HR3.out.keeps hk (fun e => by rcases e with e | e; exact HFR.out e; exact hRN e))
  have HF3 := Lib.hid (show ∀ k, F k → k < w3.heap.size from fun k e => by have := HFU.out _ e; omega)
  have HNL := Lib.hid (show ∀ k, w3.heap.size ≤ k → k ≠ N from fun k e => by omega)
  have hA3 : AtN w3 F D N 39 w3 #[.int .i64 z0, .int .i64 0, .int .i64 0, .slice none 0 0, .slice none 0 0, .slice none 0 0] s1 := ⟨hN, h3, Keeps.refl _ _⟩
  have HA := Lib.hid hA3
  have HNE := Lib.hid (show w.heap.size ≤ R ∧ R < w3.heap.size ∧ w.heap.size ≤ w3.heap.size ∧ N < w3.heap.size ∧ w.heap.size ≤ N from ⟨by have := HRE.out; omega, by have := HRL.out; omega, hb03.size, by omega, by have := HRL.out; have := HRE.out; omega⟩)
  clear hN hE3 hR3 h3 hszN hb03 hrd3 hbN hw3 hNe hFN hEN hRN hA3 HY HKY HE HRE2 HSZE HRL HRDE HB0E hEl
  have p0 : w3.cell? ⟨E, 0, none⟩ = some (.pointer (some ⟨D, 0, none⟩)) := ((HKE.out _ HA.out.kp).cell 0).trans rfl
  go_wp2_with fail
  refine (RInt_any w3 F D s1 HA.out.re).mono ?_
  rintro e y1 ⟨rfl, hy, hky⟩
  generalize hz : s1.int.1 = z1
  generalize hs : s1.int.2 = s2 at hy
  have HZ1 := Lib.hid hz.symm; have HS2 := Lib.hid hs.symm
  have hA := HA.out.step hy hky HFN.out
  have q : y1.cell? ⟨N, 1, none⟩ = some (.int .i64 0) := (hA.blk.cell 1).trans rfl
  have f : y1.frozen? ⟨N, 1, none⟩ = false := hA.blk.frozen 1
  go_upto_region 4 with (fail)
  have hA2 : AtN w3 F D N 39 (y1.setCell ⟨N, 1, none⟩ (.int .i64 z1)) #[.int .i64 z0, .int .i64 z1, .int .i64 0, .slice none 0 0, .slice none 0 0, .slice none 0 0] s2 := hA.put HFN.out 1 _
  obtain ⟨v1, hv⟩ : ∃ ww, ww = y1.setCell ⟨N, 1, none⟩ (.int .i64 z1) := ⟨_, rfl⟩
  rw [← hv] at hA2 ⊢
  clear hv q f p0 hA hy hky hz hs HA
  have HA := Lib.hid hA2
  clear hA2
  have p0 : v1.cell? ⟨E, 0, none⟩ = some (.pointer (some ⟨D, 0, none⟩)) := ((HKE.out _ HA.out.kp).cell 0).trans rfl
  go_wp2_with fail
  refine (RInt_any v1 F D s2 HA.out.re).mono ?_
  rintro e y2 ⟨rfl, hy, hky⟩
  generalize hz : s2.int.1 = z2
  generalize hs : s2.int.2 = s3 at hy
  have HZ2 := Lib.hid hz.symm; have HS3 := Lib.hid hs.symm
  have hA := HA.out.step hy hky HFN.out
  have q : y2.cell? ⟨N, 2, none⟩ = some (.int .i64 0) := (hA.blk.cell 2).trans rfl
  have f : y2.frozen? ⟨N, 2, none⟩ = false := hA.blk.frozen 2
  go_upto_region 5 with (fail)
  have hA2 : AtN w3 F D N 39 (y2.setCell ⟨N, 2, none⟩ (.int .i64 z2)) #[.int .i64 z0, .int .i64 z1, .int .i64 z2, .slice none 0 0, .slice none 0 0, .slice none 0 0] s3 := hA.put HFN.out 2 _
  obtain ⟨v2, hv⟩ : ∃ ww, ww = y2.setCell ⟨N, 2, none⟩ (.int .i64 z2) := ⟨_, rfl⟩
  rw [← hv] at hA2 ⊢
  clear hv q f p0 hA hy hky hz hs HA
  have HA := Lib.hid hA2
  clear hA2
  have p0 : v2.cell? ⟨E, 0, none⟩ = some (.pointer (some ⟨D, 0, none⟩)) := ((HKE.out _ HA.out.kp).cell 0).trans rfl
  go_wp2_with (refine wpList_load_row rfl 67 (.tmp 4) rfl E rfl _ _ _ _ (HKE.out _ HA.out.kp) Tryd.underlying67 rfl (by kernel_rfl) ?_)
  refine (EyeCount_any v2 F D s3 n (fun k e => Nat.lt_of_lt_of_le (HF3.out k e) HA.out.kp.size) HA.out.re hn).mono ?_
  rintro e v3 ⟨rfl, hy, hky⟩
  have hcm := count_le s3 n
  generalize hk1 : s3.count n = k1 at hcm ⊢
  generalize hs : s3.int.2 = s4 at hy
  have HK1 := Lib.hid hk1.symm; have HS4 := Lib.hid hs.symm; have HCM1 := Lib.hid (Nat.le_trans hcm hn)
  have hA := HA.out.step hy hky HFN.out
  clear hy hky hk1 hs HA hcm p0
  have HA := Lib.hid hA
  clear hA
  go_wp2_with fail
  go_loopw [28] (fun q wr => ∃ j : Nat, j ≤ k1 ∧ q = .int .i64 (j : Int) ∧ ∃ A c, AtN w3 F D N 39 wr #[.int .i64 z0, .int .i64 z1, .int .i64 z2, .slice A j c, .slice none 0 0, .slice none 0 0] (s4.headsN j).2 ∧ wr.ownsRow w3.heap.size 72 2 (.slice A j c) j ((s4.headsN j).1.flatMap headC)) (fun q _ => k1 - (intOf q).toNat)
  case atStart => exact ⟨0, by omega, rfl, none, 0, by rw [headsN_zero]; exact HA.out, by rw [headsN_zero]; exact World.ownsRow_nil _ _ _ _⟩
  case round =>
    obtain ⟨j, hj, rfl, A1, c1, ha, hv⟩ := hrel
    have HAJ := Lib.hid ha; have HV := Lib.hid hv
    have hkb := HCM1.out
    clear ha hv
    by_cases hjk : j < k1
    · have hjk' : (j : Int) < (k1 : Int) := by omega
      have p0 : wr.cell? ⟨E, 0, none⟩ = some (.pointer (some ⟨D, 0, none⟩)) := ((HKE.out _ HAJ.out.kp).cell 0).trans rfl
      go_wp2_with fail
      refine (RBytes_any wr F D _ HAJ.out.re).mono ?_
      rintro e wx ⟨vx, rfl, ⟨Ax, cx, rfl, hrx, _⟩, hx, hkx⟩
      have hvx := row_keeps HV.out hkx (fun kk e hf => by have h1 := (HV.out.lt kk e).1; have h2 := HF3.out _ hf; omega)
      have hax := HAJ.out.step hx hkx HFN.out
      have HRX := Lib.hid hrx; have HVX := Lib.hid hvx; have HAX := Lib.hid hax
      generalize hid : (s4.headsN j).2.bytes.1 = idb at HRX ⊢
      have HID := Lib.hid hid.symm
      clear hrx hx hkx hvx hax p0 hid
      go_upto_region 8 with (refine wpList_str rfl 27 9 5 (.tmp 32) rfl Ax _ cx idb rfl Tryd.underlying27 Tryd.underlying5 Tryd.underlying9 _ HRX.out ?_)
      have hk0 := (Keeps.refl (fun _ => False) wx).alloc (.cells #[.string ⟨idb.toArray⟩, .int .i64 0] 72)
      have hay := HAX.out.fresh hk0 (fun _ e => e.elim) HNE.out.2.2.2.1 HF3.out
      have hvy : (wx.alloc (.cells #[.string ⟨idb.toArray⟩, .int .i64 0] 72)).ownsRow w3.heap.size 72 2 (.slice A1 j c1) j ((s4.headsN j).1.flatMap headC) := World.ownsRow.alloc HVX.out _
      have hq := Blk.new wx 72 #[.string ⟨idb.toArray⟩, .int .i64 0]
      have hgl : w3.heap.size ≤ wx.heap.size := HAX.out.kp.size
      have hgo : ∀ k, (Value.slice A1 j c1).ownBlock = some k → k ≠ wx.heap.size := fun k e => Nat.ne_of_lt (HVX.out.lt k e).2
      obtain ⟨g, hg⟩ : ∃ g, g = wx.heap.size := ⟨_, rfl⟩
      rw [← hg] at hq hgl hgo ⊢
      obtain ⟨wy, hwy⟩ : ∃ wy, wy = wx.alloc (.cells #[.string ⟨idb.toArray⟩, .int .i64 0] 72) := ⟨_, rfl⟩
      rw [← hwy] at hay hvy hq ⊢
      clear hwy hg hk0
      have p0 : wy.cell? ⟨E, 0, none⟩ = some (.pointer (some ⟨D, 0, none⟩)) := ((HKE.out _ hay.kp).cell 0).trans rfl
      have hgF : ¬ F g := fun e => by have := HF3.out _ e; omega
      have HAY := Lib.hid hay; have HVY := Lib.hid hvy; have HQ := Lib.hid hq; have HGL := Lib.hid hgl; have HGO := Lib.hid hgo; have HGF := Lib.hid hgF
      clear hay hvy hq hgl hgo hgF
      go_wp2_with fail
      refine (RInt_any wy F D _ HAY.out.re).mono ?_
      rintro e wz ⟨rfl, hz, hkz⟩
      have hst := headsN_succ s4 j
      have hx1 : (s4.headsN j).2.head.1 = ⟨idb, (s4.headsN j).2.bytes.2.int.1⟩ := by rw [HID.out]; rfl
      have hx2 : (s4.headsN j).2.head.2 = (s4.headsN j).2.bytes.2.int.2 := rfl
      rw [hx1, hx2] at hst
      generalize (s4.headsN j).2.bytes.2.int.1 = x at hst ⊢
      generalize (s4.headsN j).2.bytes.2.int.2 = sN at hst hz
      have haz := HAY.out.step hz hkz HFN.out
      have hvz := row_keeps HVY.out hkz (fun kk e hf => by have h1 := (HVY.out.lt kk e).1; have h2 := HF3.out _ hf; omega)
      have hqz := HQ.out.keeps hkz HGF.out
      have q1 : wz.cell? ⟨g, 1, none⟩ = some (.int .i64 0) := (hqz.cell 1).trans rfl
      have f1 : wz.frozen? ⟨g, 1, none⟩ = false := hqz.frozen 1
      have HAZ := Lib.hid haz; have HVZ := Lib.hid hvz; have HQZ := Lib.hid hqz; have HST := Lib.hid hst
      clear haz hvz hqz hz hkz hst hx1 hx2 p0
      go_upto_region 9 with (fail)
      have hk1 := (Keeps.refl (fun k => k = g) wz).setCell (p := ⟨g, 1, none⟩) rfl (.int .i64 x)
      have haw := HAZ.out.fresh hk1 (fun k e => by rw [e]; exact HGL.out) HNE.out.2.2.2.1 HF3.out
      have hvw := row_keeps HVZ.out hk1 (fun kk e e2 => HGO.out kk e e2)
      have hqw := HQZ.out.set_ 1 (.int .i64 x)
      obtain ⟨W, hW⟩ : ∃ W, W = wz.setCell ⟨g, 1, none⟩ (.int .i64 x) := ⟨_, rfl⟩
      rw [← hW] at haw hvw hqw ⊢
      have hqw' : Blk W g 72 #[.string ⟨idb.toArray⟩, .int .i64 x] := hqw
      clear hW hk1 q1 f1 hqw
      have q3 : W.cell? ⟨N, 3, none⟩ = some (.slice A1 j c1) := (haw.blk.cell 3).trans rfl
      have hbq : Below W.heap.size W (W.alloc (.cells #[.string ⟨idb.toArray⟩, .int .i64 x] 72)) := (Below.refl _ _).alloc (Nat.le_refl _) _
      have hvq : (W.alloc (.cells #[.string ⟨idb.toArray⟩, .int .i64 x] 72)).ownsRow w3.heap.size 72 2 (.slice A1 j c1) j ((s4.headsN j).1.flatMap headC) := World.ownsRow.alloc hvw _
      have hqq := Blk.new W 72 [Value.string ⟨idb.toArray⟩, Value.int .i64 x].toArray
      obtain ⟨i0, hi0, hz0, hz1, hz2⟩ := info_parts head_info
      have HI0 := Lib.hid (And.intro hi0 (And.intro hz0 (And.intro hz1 hz2)))
      have HAW := Lib.hid haw; have HVQ := Lib.hid hvq; have HQQ := Lib.hid hqq; have HQW := Lib.hid hqw'; have HBQ := Lib.hid hbq
      clear hi0 hz0 hz1 hz2 haw hvw hvq hqq hqw' hbq
      go_wp2_with (first | (refine wpList_load_row rfl 72 (.tmp 6) rfl g rfl _ _ _ _ HQW.out Tryd.underlying72 rfl (by kernel_rfl) ?_) | (at_builtin; refine wpList_append_any _ rfl (.tmp 40) (.tmp 42) _ rfl w3.heap.size 72 i0 _ 2 24 Tryd.underlying35 HI0.out.1 HI0.out.2.1 HI0.out.2.2.1 HI0.out.2.2.2 rfl (by omega) _ j _ rfl HVQ.out _ (some ⟨W.heap.size, 0, none⟩) 1 1 [.string ⟨idb.toArray⟩, .int .i64 x] rfl (reads_row HQQ.out rfl) (by intro u hu; simp only [List.mem_cons, List.not_mem_nil, or_false] at hu; rcases hu with rfl | rfl <;> rfl) (by simp only [maxLen]; have := HCM1.out; omega) (by have := HCM1.out; omega) (by have := HBQ.out.size; have := HAW.out.kp.size; omega) ?_; intro v' w' hown' hg' hat'; obtain ⟨A', c', rfl⟩ := row_shape hown'; have hko := ((Keeps.refl (fun k => (Value.slice A1 j c1).ownBlock = some k) W).alloc (.cells #[.string ⟨idb.toArray⟩, .int .i64 x] 72)).grown hg' (fun kk e => Or.inr e); have haf := HAW.out.fresh hko (fun k e => (HVQ.out.lt k e).1) HNE.out.2.2.2.1 HF3.out; have q3' : w'.cell? ⟨N, 3, none⟩ = some (.slice A1 j c1) := (haf.blk.cell 3).trans rfl; have f3' : w'.frozen? ⟨N, 3, none⟩ = false := haf.blk.frozen 3))
      have hfin := haf.put HFN.out 3 (.slice A' (j + 1) c')
      have hvf := row_keeps hown' ((Keeps.refl (fun k => k = N) w').setCell (p := ⟨N, 3, none⟩) rfl (.slice A' (j + 1) c')) (fun kk e e2 => by have h1 := (hown'.lt kk e).1; have h2 := HNE.out.2.2.2.1; omega)
      have HFIN := Lib.hid hfin; have HVF := Lib.hid hvf
      clear hfin hvf hown' hg' hat' hko haf q3 q3' f3'
      go_roundw
      case rel => exact ⟨j + 1, by omega, by go_num, A', c', by rw [HST.out]; exact HFIN.out, by rw [HST.out, List.flatMap_append]; exact HVF.out⟩
      case measure => simp [intOf]; omega
    · obtain rfl : j = k1 := by omega
      obtain ⟨A', c', e1, hrd, hab⟩ := headsRd_of (l := (s4.headsN j).1) (by rw [headsN_length]; exact HV.out)
      obtain ⟨rfl, rfl⟩ : A1 = A' ∧ c1 = c' := by injection e1 with q1 q2 q3; exact ⟨q1, q3⟩
      have hll := headsN_length s4 j
      generalize hz : (s4.headsN j).1 = z3 at hrd hll
      generalize hs : (s4.headsN j).2 = s5 at HAJ
      rw [← hll] at HAJ ⊢
      have HRD := Lib.hid hrd; have HAB := Lib.hid hab; have HZ3 := Lib.hid hz.symm; have HS5 := Lib.hid hs.symm; have HLL := Lib.hid hll
      clear hrd hab hz hs hll e1 HV
      go_wp2_with (refine wpList_load_row rfl 67 (.tmp 4) rfl E rfl _ _ _ _ (HKE.out _ HAJ.out.kp) Tryd.underlying67 rfl (by kernel_rfl) ?_)
      refine (EyeCount_any wr F D s5 n (fun k e => Nat.lt_of_lt_of_le (HF3.out k e) HAJ.out.kp.size) HAJ.out.re hn).mono ?_
      rintro e v4 ⟨rfl, hy, hky⟩
      have hcm := count_le s5 n
      generalize hk1 : s5.count n = k2 at hcm ⊢
      generalize hs : s5.int.2 = s6 at hy
      have HK2 := Lib.hid hk1.symm; have HS6 := Lib.hid hs.symm; have HCM2 := Lib.hid (Nat.le_trans hcm hn)
      have hA := HAJ.out.step hy hky HFN.out
      have hrd4 := (HRD.out.off hky (Nat.le_refl _) (fun ad e _ hf => by have h1 := HAB.out ad e; have h2 := HF3.out _ hf; omega)).more hky.size
      clear hy hky hk1 hs hcm HRD HAJ
      have HA := Lib.hid hA; have HRD := Lib.hid hrd4
      clear hA hrd4
      go_wp2_with fail
      have HNB := Lib.hid (show N < v4.heap.size from Nat.lt_of_lt_of_le HNE.out.2.2.2.1 HA.out.kp.size); have HFBB := Lib.hid (show ∀ k, F k → k < v4.heap.size from fun k e => Nat.lt_of_lt_of_le (HF3.out k e) HA.out.kp.size)
      have HKP := Lib.hid HA.out.kp
      go_loopw [48] (fun q wr => ∃ j : Nat, j ≤ k2 ∧ q = .int .i64 (j : Int) ∧ ∃ A c, AtN v4 F D N 39 wr #[.int .i64 z0, .int .i64 z1, .int .i64 z2, .slice A1 z3.length c1, .slice A j c, .slice none 0 0] (s6.ints j).2 ∧ wr.ownsRow v4.heap.size 4 1 (.slice A j c) j ((s6.ints j).1.map (fun z => Value.bool (z == 1)))) (fun q _ => k2 - (intOf q).toNat)
      case atStart => exact ⟨0, by omega, rfl, none, 0, by rw [ints_zero]; exact HA.out.here, by rw [ints_zero]; exact World.ownsRow_nil _ _ _ _⟩
      case round =>
        obtain ⟨j, hj, rfl, Ai, ci, ha, hv⟩ := hrel
        have HAJ := Lib.hid ha; have HV := Lib.hid hv; have hkb := HCM2.out
        clear ha hv
        by_cases hjk : j < k2
        · have hjk' : (j : Int) < (k2 : Int) := by omega
          have p0 : wr.cell? ⟨E, 0, none⟩ = some (.pointer (some ⟨D, 0, none⟩)) := ((HKE.out _ (HKP.out.trans HAJ.out.kp (fun _ _ e => e))).cell 0).trans rfl
          have q4 : wr.cell? ⟨N, 4, none⟩ = some (.slice Ai j ci) := (HAJ.out.blk.cell 4).trans rfl
          go_wp2_with fail
          refine wp_region_anyDN (TwoCells ⟨N, 4, none⟩ ⟨E, 0, none⟩ (.slice Ai j ci) (.pointer (some ⟨D, 0, none⟩))) 9 (by kernel_rfl) ?_
          refine anyD_takes (by kernel_rfl) (fun _ _ _ _ _ h => h) [0, 1, 2, 3] 6 _ _ (by kernel_rfl) ?_
          simp only [List.filterMap_cons, List.filterMap_nil, List.getElem?_toArray, List.getElem?_cons_succ, List.getElem?_cons_zero]
          show wpQuiet _ _ _ _ (_ :: _ :: _ :: _ :: List.nil) _
          repeat (first | go_big_quiet_skip | (go_big_quiet_want; first | (refine quiet_load 36 (.tmp 50) rfl ⟨N, 4, none⟩ rfl _ (fun W hW => hW.1) (fun _ => by kernel_rfl) ?_; simp only [Act.put, List.setIfInBounds_toArray, List.set_cons_succ, List.set_cons_zero]; go_big_quiet_on) | (refine quiet_load _ (.tmp 52) rfl ⟨E, 0, none⟩ rfl _ (fun W hW => hW.2) (fun _ => by kernel_rfl) ?_; simp only [Act.put, List.setIfInBounds_toArray, List.set_cons_succ, List.set_cons_zero]; go_big_quiet_on) | (go_big_quiet_op; first | go_big_quiet_on | (refine ⟨_, fun _ _ => rfl, ?_⟩; go_big_quiet_on))))
          refine wpQuiet_nil ?_
          refine anyD_only (i := 4) rfl (by kernel_rfl) ⟨q4, p0⟩ ?_
          go_wp2_with fail
          refine (RInt_any wr.drew F D _ (HAJ.out.re.below ((Below.refl _ _).drew))).mono ?_
          rintro e wx ⟨rfl, hx, hkx⟩
          have hkx' : Keeps F wr wx := ((Keeps.refl F wr).drew).trans hkx (fun _ _ e => e)
          have hst := ints_succ s6 j
          generalize (s6.ints j).2.int.1 = x at hst ⊢
          generalize (s6.ints j).2.int.2 = sN at hst hx
          have hax := HAJ.out.step hx hkx' HFN.out
          have hvx := row_keeps HV.out hkx' (fun kk e hf => by have h1 := (HV.out.lt kk e).1; have h2 := HFBB.out _ hf; omega)
          have q4x : wx.cell? ⟨N, 4, none⟩ = some (.slice Ai j ci) := (hax.blk.cell 4).trans rfl
          have p0x : wx.cell? ⟨E, 0, none⟩ = some (.pointer (some ⟨D, 0, none⟩)) := ((HKE.out _ (HKP.out.trans hax.kp (fun _ _ e => e))).cell 0).trans rfl
          have HAX := Lib.hid hax; have HVX := Lib.hid hvx; have HST := Lib.hid hst
          clear hax hvx hst hx hkx hkx' p0 q4
          go_wp2_with fail
          refine anyD_takes (by kernel_rfl) (fun _ _ _ _ _ h => h) [5] 4 _ _ (by kernel_rfl) ?_
          simp only [List.filterMap_cons, List.filterMap_nil, List.getElem?_toArray, List.getElem?_cons_succ, List.getElem?_cons_zero]
          show wpQuiet _ _ _ _ (_ :: List.nil) _
          repeat (first | go_big_quiet_skip | (go_big_quiet_want; first | (fail; simp only [Act.put, List.setIfInBounds_toArray, List.set_cons_succ, List.set_cons_zero]; go_big_quiet_on) | (go_big_quiet_op; first | go_big_quiet_on | (refine ⟨_, fun _ _ => rfl, ?_⟩; go_big_quiet_on))))
          refine wpQuiet_nil ?_
          refine anyD_only (i := 6) rfl (by kernel_rfl) ⟨q4x, p0x⟩ ?_
          go_wp2_with fail
          have hk0 := (Keeps.refl (fun _ => False) wx).alloc (.cells #[.bool (x == 1)] 4)
          have hay := HAX.out.fresh hk0 (fun _ e => e.elim) HNB.out HFBB.out
          have hvq : (wx.alloc (.cells #[.bool (x == 1)] 4)).ownsRow v4.heap.size 4 1 (.slice Ai j ci) j ((s6.ints j).1.map (fun z => Value.bool (z == 1))) := World.ownsRow.alloc HVX.out _
          have hqq := Blk.new wx 4 [.bool (x == 1)].toArray
          have hbq : Below wx.heap.size wx (wx.alloc (.cells #[.bool (x == 1)] 4)) := (Below.refl _ _).alloc (Nat.le_refl _) _
          obtain ⟨i0, hi0, hz0, hz1, hz2⟩ := info_parts bool_info
          have HI0 := Lib.hid (And.intro hi0 (And.intro hz0 (And.intro hz1 hz2)))
          have q4y : (wx.alloc (.cells #[.bool (x == 1)] 4)).cell? ⟨N, 4, none⟩ = some (.slice Ai j ci) := (hay.blk.cell 4).trans rfl
          have p0y : (wx.alloc (.cells #[.bool (x == 1)] 4)).cell? ⟨E, 0, none⟩ = some (.pointer (some ⟨D, 0, none⟩)) := ((HKE.out _ (HKP.out.trans hay.kp (fun _ _ e => e))).cell 0).trans rfl
          have HAY := Lib.hid hay; have HVQ := Lib.hid hvq; have HQQ := Lib.hid hqq; have HBQ := Lib.hid hbq
          clear hi0 hz0 hz1 hz2 hay hvq hqq hbq hk0 q4x p0x
          refine anyD_only (i := 7) rfl (by kernel_rfl) ⟨q4y, p0y⟩ ?_
          clear q4y p0y
          refine wpList_append_any _ rfl (.tmp 51) (.tmp 56) _ rfl v4.heap.size 4 i0 _ 1 1 Tryd.underlying36 HI0.out.1 HI0.out.2.1 HI0.out.2.2.1 HI0.out.2.2.2 rfl (by omega) _ j _ rfl HVQ.out _ (some ⟨wx.heap.size, 0, none⟩) 1 1 [.bool (x == 1)] rfl (reads_row HQQ.out rfl) (by intro u hu; simp only [List.mem_singleton] at hu; subst hu; rfl) (by simp only [maxLen]; omega) (by omega) (by have := HBQ.out.size; have := HAX.out.kp.size; omega) ?_
          intro v' w' hown' hg' hat'
          obtain ⟨A', c', rfl⟩ := row_shape hown'
          have hko := (Keeps.refl (fun k => (Value.slice Ai j ci).ownBlock = some k) (wx.alloc (.cells #[.bool (x == 1)] 4))).grown hg' (fun kk e => Or.inr e)
          have haf := HAY.out.fresh hko (fun k e => (HVQ.out.lt k e).1) HNB.out HFBB.out
          have q3' : w'.cell? ⟨N, 4, none⟩ = some (.slice Ai j ci) := (haf.blk.cell 4).trans rfl
          have f3' : w'.frozen? ⟨N, 4, none⟩ = false := haf.blk.frozen 4
          simp only [List.getElem_toArray, List.getElem_cons_succ, List.getElem_cons_zero, Act.put, List.setIfInBounds_toArray, List.set_cons_succ, List.set_cons_zero]
          go_wp2_with fail
          refine anyD_takes (by kernel_rfl) (fun _ _ _ _ _ h => h) [8] 1 _ _ (by kernel_rfl) ?_
          simp only [List.filterMap_cons, List.filterMap_nil, List.getElem?_toArray, List.getElem?_cons_succ, List.getElem?_cons_zero]
          show wpQuiet _ _ _ _ (_ :: List.nil) _
          repeat (first | go_big_quiet_skip | (go_big_quiet_want; first | (fail; simp only [Act.put, List.setIfInBounds_toArray, List.set_cons_succ, List.set_cons_zero]; go_big_quiet_on) | (go_big_quiet_op; first | go_big_quiet_on | (refine ⟨_, fun _ _ => rfl, ?_⟩; go_big_quiet_on))))
          refine wpQuiet_nil ?_
          refine anyD_only (i := 9) rfl (by kernel_rfl) ⟨q3', ((HKE.out _ (HKP.out.trans haf.kp (fun _ _ e => e))).cell 0).trans rfl⟩ ?_
          go_wp2_with fail
          refine anyD_end (by kernel_rfl) (by kernel_rfl) ?_
          go_wp2_with fail
          have hfin := haf.put HFN.out 4 (.slice A' (j + 1) c')
          have hvf := row_keeps hown' ((Keeps.refl (fun k => k = N) w').setCell (p := ⟨N, 4, none⟩) rfl (.slice A' (j + 1) c')) (fun kk e e2 => by have h1 := (hown'.lt kk e).1; have h2 := HNB.out; omega)
          have HFIN := Lib.hid hfin; have HVF := Lib.hid hvf
          clear hfin hvf hown' hg' hat' hko haf q3' f3'
          go_roundw
          case rel => exact ⟨j + 1, by omega, by go_num, A', c', by rw [HST.out]; exact HFIN.out, by rw [HST.out, List.map_append]; exact HVF.out⟩
          case measure => simp [intOf]; omega
        · obtain rfl : j = k2 := by omega
          obtain ⟨A', c', e1, hrd, hab⟩ := readsRow_of HV.out
          obtain ⟨rfl, rfl⟩ : Ai = A' ∧ ci = c' := by injection e1 with q1 q2 q3; exact ⟨q1, q3⟩
          have hll : ((s6.ints j).1.map (fun z => z == 1)).length = j := by rw [List.length_map, ints_length]
          have hmm : (s6.ints j).1.map (fun z => Value.bool (z == 1)) = ((s6.ints j).1.map (fun z => z == 1)).map Value.bool := by rw [List.map_map]; rfl
          rw [hmm] at hrd
          generalize hz : (s6.ints j).1.map (fun z => z == 1) = z4 at hrd hll
          generalize hs : (s6.ints j).2 = s7 at HAJ
          rw [← hll] at HAJ hrd ⊢
          have HUP := Lib.hid hrd; have HABU := Lib.hid (show ∀ ad, Ai = some ad → w3.heap.size ≤ ad.block from fun ad e => Nat.le_trans HA.out.kp.size (hab ad e)); have HZ4 := Lib.hid hz.symm; have HS7 := Lib.hid hs.symm; have HLL2 := Lib.hid hll
          have HRD5 := Lib.hid ((HRD.out.off HAJ.out.kp (Nat.le_refl _) (fun ad e _ hf => by have h1 := HAB.out ad e; have h3 := HNE.out.2.2.2.1; rcases hf with hf | hf; (have h2 := HF3.out _ hf; omega); omega)).more HAJ.out.kp.size)
          have hA := HA.out.trans HAJ.out
          clear hrd hab hz hs hll e1 HV hmm HAJ HA HRD HKP
          have HAJ := Lib.hid hA
          go_wp2_with (refine wpList_load_row rfl 67 (.tmp 4) rfl E rfl _ _ _ _ (HKE.out _ HAJ.out.kp) Tryd.underlying67 rfl (by kernel_rfl) ?_)
          refine (EyeCount_any wr F D s7 n (fun k e => Nat.lt_of_lt_of_le (HF3.out k e) HAJ.out.kp.size) HAJ.out.re hn).mono ?_
          rintro e v5 ⟨rfl, hy, hky⟩
          have hcm := count_le s7 n
          generalize hk1 : s7.count n = k3 at hcm ⊢
          generalize hs : s7.int.2 = s8 at hy
          have HK3 := Lib.hid hk1.symm; have HS8 := Lib.hid hs.symm; have HCM3 := Lib.hid (Nat.le_trans hcm hn)
          have hA5 := HAJ.out.step hy hky HFN.out
          have hrd5 := (HRD5.out.off hky (Nat.le_refl _) (fun ad e _ hf => by have h1 := HAB.out ad e; have h2 := HF3.out _ hf; omega)).more hky.size
          have hup5 := (reads_off HUP.out hky (Nat.le_refl _) (fun ad e _ hf => by have h1 := HABU.out ad e; have h2 := HF3.out _ hf; omega)).more hky.size
          clear hy hky hk1 hs hcm HRD5 HAJ hA HUP
          have HA := Lib.hid hA5; have HRD := Lib.hid hrd5; have HUP := Lib.hid hup5
          clear hA5 hrd5 hup5 HNB HFBB hj hjk hkb
          obtain ⟨A2, hA2⟩ : ∃ A2, A2 = Ai := ⟨_, rfl⟩
          obtain ⟨c2, hc2⟩ : ∃ c2, c2 = ci := ⟨_, rfl⟩
          rw [← hA2, ← hc2] at HA
          rw [← hA2] at HUP HABU
          clear hA2 hc2
          go_wp2_with fail
          have HNB := Lib.hid (show N < v5.heap.size from Nat.lt_of_lt_of_le HNE.out.2.2.2.1 HA.out.kp.size); have HFBB := Lib.hid (show ∀ k, F k → k < v5.heap.size from fun k e => Nat.lt_of_lt_of_le (HF3.out k e) HA.out.kp.size)
          have HKP := Lib.hid HA.out.kp
          go_loopw [62] (fun q wr => ∃ j : Nat, j ≤ k3 ∧ q = .int .i64 (j : Int) ∧ ∃ A c, AtN v5 F D N 39 wr #[.int .i64 z0, .int .i64 z1, .int .i64 z2, .slice A1 z3.length c1, .slice A2 z4.length c2, .slice A j c] (s8.ints j).2 ∧ wr.ownsRow v5.heap.size 3 1 (.slice A j c) j ((s8.ints j).1.map (Value.int .i64))) (fun q _ => k3 - (intOf q).toNat)
          case atStart => exact ⟨0, by omega, rfl, none, 0, by rw [ints_zero]; exact HA.out.here, by rw [ints_zero]; exact World.ownsRow_nil _ _ _ _⟩
          case round =>
            obtain ⟨j, hj, rfl, Ai, ci, ha, hv⟩ := hrel
            have HAJ := Lib.hid ha; have HV := Lib.hid hv; have hkb := HCM3.out
            clear ha hv
            by_cases hjk : j < k3
            · have hjk' : (j : Int) < (k3 : Int) := by omega
              have p0 : wr.cell? ⟨E, 0, none⟩ = some (.pointer (some ⟨D, 0, none⟩)) := ((HKE.out _ (HKP.out.trans HAJ.out.kp (fun _ _ e => e))).cell 0).trans rfl
              have q4 : wr.cell? ⟨N, 5, none⟩ = some (.slice Ai j ci) := (HAJ.out.blk.cell 5).trans rfl
              go_wp2_with fail
              refine wp_region_anyDN (TwoCells ⟨N, 5, none⟩ ⟨E, 0, none⟩ (.slice Ai j ci) (.pointer (some ⟨D, 0, none⟩))) 8 (by kernel_rfl) ?_
              refine anyD_takes (by kernel_rfl) (fun _ _ _ _ _ h => h) [0, 1, 2, 3] 5 _ _ (by kernel_rfl) ?_
              simp only [List.filterMap_cons, List.filterMap_nil, List.getElem?_toArray, List.getElem?_cons_succ, List.getElem?_cons_zero]
              show wpQuiet _ _ _ _ (_ :: _ :: _ :: _ :: List.nil) _
              repeat (first | go_big_quiet_skip | (go_big_quiet_want; first | (refine quiet_load 37 (.tmp 64) rfl ⟨N, 5, none⟩ rfl _ (fun W hW => hW.1) (fun _ => by kernel_rfl) ?_; simp only [Act.put, List.setIfInBounds_toArray, List.set_cons_succ, List.set_cons_zero]; go_big_quiet_on) | (refine quiet_load _ (.tmp 66) rfl ⟨E, 0, none⟩ rfl _ (fun W hW => hW.2) (fun _ => by kernel_rfl) ?_; simp only [Act.put, List.setIfInBounds_toArray, List.set_cons_succ, List.set_cons_zero]; go_big_quiet_on) | (go_big_quiet_op; first | go_big_quiet_on | (refine ⟨_, fun _ _ => rfl, ?_⟩; go_big_quiet_on))))
              refine wpQuiet_nil ?_
              refine anyD_only (i := 4) rfl (by kernel_rfl) ⟨q4, p0⟩ ?_
              go_wp2_with fail
              refine (RInt_any wr.drew F D _ (HAJ.out.re.below ((Below.refl _ _).drew))).mono ?_
              rintro e wx ⟨rfl, hx, hkx⟩
              have hkx' : Keeps F wr wx := ((Keeps.refl F wr).drew).trans hkx (fun _ _ e => e)
              have hst := ints_succ s8 j
              generalize (s8.ints j).2.int.1 = x at hst ⊢
              generalize (s8.ints j).2.int.2 = sN at hst hx
              have hax := HAJ.out.step hx hkx' HFN.out
              have hvx := row_keeps HV.out hkx' (fun kk e hf => by have h1 := (HV.out.lt kk e).1; have h2 := HFBB.out _ hf; omega)
              have q4x : wx.cell? ⟨N, 5, none⟩ = some (.slice Ai j ci) := (hax.blk.cell 5).trans rfl
              have p0x : wx.cell? ⟨E, 0, none⟩ = some (.pointer (some ⟨D, 0, none⟩)) := ((HKE.out _ (HKP.out.trans hax.kp (fun _ _ e => e))).cell 0).trans rfl
              have HAX := Lib.hid hax; have HVX := Lib.hid hvx; have HST := Lib.hid hst
              clear hax hvx hst hx hkx hkx' p0 q4
              go_wp2_with fail
              refine anyD_only (i := 5) rfl (by kernel_rfl) ⟨q4x, p0x⟩ ?_
              go_wp2_with fail
              have hk0 := (Keeps.refl (fun _ => False) wx).alloc (.cells #[.int .i64 x] 3)
              have hay := HAX.out.fresh hk0 (fun _ e => e.elim) HNB.out HFBB.out
              have hvq : (wx.alloc (.cells #[.int .i64 x] 3)).ownsRow v5.heap.size 3 1 (.slice Ai j ci) j ((s8.ints j).1.map (Value.int .i64)) := World.ownsRow.alloc HVX.out _
              have hqq := Blk.new wx 3 [.int .i64 x].toArray
              have hbq : Below wx.heap.size wx (wx.alloc (.cells #[.int .i64 x] 3)) := (Below.refl _ _).alloc (Nat.le_refl _) _
              obtain ⟨i0, hi0, hz0, hz1, hz2⟩ := info_parts i64_info
              have HI0 := Lib.hid (And.intro hi0 (And.intro hz0 (And.intro hz1 hz2)))
              have q4y : (wx.alloc (.cells #[.int .i64 x] 3)).cell? ⟨N, 5, none⟩ = some (.slice Ai j ci) := (hay.blk.cell 5).trans rfl
              have p0y : (wx.alloc (.cells #[.int .i64 x] 3)).cell? ⟨E, 0, none⟩ = some (.pointer (some ⟨D, 0, none⟩)) := ((HKE.out _ (HKP.out.trans hay.kp (fun _ _ e => e))).cell 0).trans rfl
              have HAY := Lib.hid hay; have HVQ := Lib.hid hvq; have HQQ := Lib.hid hqq; have HBQ := Lib.hid hbq
              clear hi0 hz0 hz1 hz2 hay hvq hqq hbq hk0 q4x p0x
              refine anyD_only (i := 6) rfl (by kernel_rfl) ⟨q4y, p0y⟩ ?_
              clear q4y p0y
              refine wpList_append_any _ rfl (.tmp 65) (.tmp 69) _ rfl v5.heap.size 3 i0 _ 1 8 Tryd.underlying37 HI0.out.1 HI0.out.2.1 HI0.out.2.2.1 HI0.out.2.2.2 rfl (by omega) _ j _ rfl HVQ.out _ (some ⟨wx.heap.size, 0, none⟩) 1 1 [.int .i64 x] rfl (reads_row HQQ.out rfl) (by intro u hu; simp only [List.mem_singleton] at hu; subst hu; rfl) (by simp only [maxLen]; omega) (by omega) (by have := HBQ.out.size; have := HAX.out.kp.size; omega) ?_
              intro v' w' hown' hg' hat'
              obtain ⟨A', c', rfl⟩ := row_shape hown'
              have hko := (Keeps.refl (fun k => (Value.slice Ai j ci).ownBlock = some k) (wx.alloc (.cells #[.int .i64 x] 3))).grown hg' (fun kk e => Or.inr e)
              have haf := HAY.out.fresh hko (fun k e => (HVQ.out.lt k e).1) HNB.out HFBB.out
              have q3' : w'.cell? ⟨N, 5, none⟩ = some (.slice Ai j ci) := (haf.blk.cell 5).trans rfl
              have f3' : w'.frozen? ⟨N, 5, none⟩ = false := haf.blk.frozen 5
              simp only [List.getElem_toArray, List.getElem_cons_succ, List.getElem_cons_zero, Act.put, List.setIfInBounds_toArray, List.set_cons_succ, List.set_cons_zero]
              go_wp2_with fail
              refine anyD_takes (by kernel_rfl) (fun _ _ _ _ _ h => h) [7] 1 _ _ (by kernel_rfl) ?_
              simp only [List.filterMap_cons, List.filterMap_nil, List.getElem?_toArray, List.getElem?_cons_succ, List.getElem?_cons_zero]
              show wpQuiet _ _ _ _ (_ :: List.nil) _
              repeat (first | go_big_quiet_skip | (go_big_quiet_want; first | (fail; simp only [Act.put, List.setIfInBounds_toArray, List.set_cons_succ, List.set_cons_zero]; go_big_quiet_on) | (go_big_quiet_op; first | go_big_quiet_on | (refine ⟨_, fun _ _ => rfl, ?_⟩; go_big_quiet_on))))
              refine wpQuiet_nil ?_
              refine anyD_only (i := 8) rfl (by kernel_rfl) ⟨q3', ((HKE.out _ (HKP.out.trans haf.kp (fun _ _ e => e))).cell 0).trans rfl⟩ ?_
              go_wp2_with fail
              refine anyD_end (by kernel_rfl) (by kernel_rfl) ?_
              go_wp2_with fail
              have hfin := haf.put HFN.out 5 (.slice A' (j + 1) c')
              have hvf := row_keeps hown' ((Keeps.refl (fun k => k = N) w').setCell (p := ⟨N, 5, none⟩) rfl (.slice A' (j + 1) c')) (fun kk e e2 => by have h1 := (hown'.lt kk e).1; have h2 := HNB.out; omega)
              have HFIN := Lib.hid hfin; have HVF := Lib.hid hvf
              clear hfin hvf hown' hg' hat' hko haf q3' f3'
              go_roundw
              case rel => exact ⟨j + 1, by omega, by go_num, A', c', by rw [HST.out]; exact HFIN.out, by rw [HST.out, List.map_append]; exact HVF.out⟩
              case measure => simp [intOf]; omega
            · obtain rfl : j = k3 := by omega
              obtain ⟨A', c', e1, hrd, hab⟩ := readsRow_of HV.out
              obtain ⟨rfl, rfl⟩ : Ai = A' ∧ ci = c' := by injection e1 with q1 q2 q3; exact ⟨q1, q3⟩
              have hll := ints_length s8 j
              generalize hz : (s8.ints j).1 = z5 at hrd hll
              generalize hs : (s8.ints j).2 = s9 at HAJ
              rw [← hll] at HAJ hrd ⊢
              have HRD6 := (HRD.out.off HAJ.out.kp (Nat.le_refl _) (fun ad e _ hf => by have h1 := HAB.out ad e; have h3 := HNE.out.2.2.2.1; rcases hf with hf | hf; (have h2 := HF3.out _ hf; omega); omega)).more HAJ.out.kp.size
              have HUP6 := (reads_off HUP.out HAJ.out.kp (Nat.le_refl _) (fun ad e _ hf => by have h1 := HABU.out ad e; have h3 := HNE.out.2.2.2.1; rcases hf with hf | hf; (have h2 := HF3.out _ hf; omega); omega)).more HAJ.out.kp.size
              have habc : ∀ ad, Ai = some ad → w3.heap.size ≤ ad.block := fun ad e => Nat.le_trans HA.out.kp.size (hab ad e)
              have hA := HA.out.trans HAJ.out
              obtain ⟨m, hm⟩ : ∃ m : BookV, m = ⟨z0, z1, z2, z3, z4, z5⟩ := ⟨_, rfl⟩
              have hmb : BookRd wr (fun k => w3.heap.size ≤ k) m A1 A2 Ai := by
                rw [hm]
                exact ⟨HRD6, HUP6, hrd, fun ad e => by rcases e with e | e | e; exact HAB.out ad e.1; exact HABU.out ad e.1; exact habc ad e.1⟩
              have hst : (⟨b, false⟩ : RS).book n = (m, s9) := by
                rw [hm, ← hz, ← hs, HZ4.out, HZ3.out, HZ2.out, HZ1.out, HZ0.out, HK3.out, HS8.out, HS7.out, HK2.out, HS6.out, HS5.out, HK1.out, HS4.out, HS3.out, HS2.out, HS1.out, HS0.out]; rfl
              have hcost : m.cost ≤ 140737488000000 := by
                have h1 : costH z3 ≤ 65541 * z3.length := by rw [HLL.out, HZ3.out]; exact headsN_cost _ _
                have h2 := HLL.out; have h3 := HLL2.out; have h4 := HCM1.out; have h5 := HCM2.out
                rw [hm]
                unfold BookV.cost
                dsimp only
                omega
              obtain ⟨v6, hv6⟩ : ∃ v6, v6 = wr := ⟨_, rfl⟩
              subst hv6
              obtain ⟨A3, hA3⟩ : ∃ A3, A3 = Ai := ⟨_, rfl⟩
              subst hA3
              obtain ⟨c3, hc3⟩ : ∃ c3, c3 = ci := ⟨_, rfl⟩
              subst hc3
              have HMB := Lib.hid hmb
              clear HA HAJ HRD HUP HRD6 HUP6 hrd hab habc hz hs hll e1 HV hmb HKP hj hjk
              have HA := Lib.hid hA
              clear hA
              have henc := EncodeBook_any v6 (fun k => w3.heap.size ≤ k ∧ k < v6.heap.size) m A1 A2 A3 c1 c2 c3 HMB.out.tight (fun k e => e.2) hcost
              rw [hm] at henc
              dsimp only [bookCells] at henc
              rw [← hm] at henc
              have HENC := Lib.hid henc; have HM := Lib.hid hm; have HST := Lib.hid hst; have HCO := Lib.hid hcost
              clear henc hm hst hcost
              go_wp2_with (refine wpList_load_row rfl 39 (.tmp 5) rfl N rfl _ _ _ _ HA.out.blk Tryd.underlying39 rfl (by kernel_rfl) ?_)
              refine HENC.out.mono ?_
              rintro e w12 ⟨v', rfl, hf, hb12, _⟩
              have hE12 := (HKE.out _ HA.out.kp).below hb12 (HKE.out _ HA.out.kp).lt
              have hR12 := (HKR.out _ HA.out.kp).below hb12 (HKR.out _ HA.out.kp).lt
              have hN12 := HA.out.blk.below hb12 HA.out.blk.lt
              have p0 : w12.cell? ⟨E, 0, none⟩ = some (.pointer (some ⟨D, 0, none⟩)) := (hE12.cell 0).trans rfl
              have H12 := Lib.hid (HA.out.re.below hb12)
              have hkB := HA.out.kp.below (B := w.heap.size) (fun k e => by rcases e with e | e; exact HFB.out _ e; rw [e]; exact HNE.out.2.2.2.2) HNE.out.2.2.1
              have hb11 : Below w.heap.size w v6 := HB3.out.trans hkB
              have HB12 := Lib.hid (hb11.trans (hb12.mono hb11.size))
              have HRD12 := Lib.hid ((HRD3.out.below hkB).below (hb12.mono hb11.size))
              have hMR : BookRd v6 (fun k => w3.heap.size ≤ k) m A1 A2 A3 := HMB.out
              have HMR := Lib.hid (hMR.below hb12)
              have HR12 := Lib.hid hR12; have HN12 := Lib.hid hN12; have HF := Lib.hid hf
              clear hE12 hR12 hN12 hb11 hkB hf hb12 hMR HENC
              go_wp2_with fail
              refine (Done_any w12 F D s9 H12.out).mono ?_
              obtain ⟨dn, hdn⟩ : ∃ x, x = (!s9.bad && decide (s9.left.length = 0)) := ⟨_, rfl⟩
              obtain ⟨es, hes⟩ : ∃ x, x = WS.book ⟨[], false⟩ m := ⟨_, rfl⟩
              rw [← hdn]
              have hdec : decB b = if (s9.bad = false ∧ s9.left.length = 0) ∧ es.bad = false ∧ es.out = b then (m, true) else (BookV.zero, false) := by
                unfold decB
                dsimp only
                rw [← HBL.out, HST.out, ← hes]
              rw [← hes] at HF ⊢
              have HEL := Lib.hid (show es.out.length ≤ 140737488355328 by rw [hes]; have h1 := book_len m; have h2 := HCO.out; omega)
              have HDN := Lib.hid hdn; have HES := Lib.hid hes; have HDEC := Lib.hid hdec
              clear hdn hes hdec p0
              rintro e w13 ⟨rfl, rfl⟩
              cases dn
              · have hd2 : decB b = (BookV.zero, false) := by
                  rw [HDEC.out, if_neg]
                  intro e
                  have := HDN.out
                  rw [e.1.1, e.1.2] at this
                  simp at this
                have HD2 := Lib.hid hd2; clear hd2
                go_wp2_with (refine wpList_store_row rfl 39 (.tmp 2) (.tmp 92) rfl R zeroBook (by rfl) (by rfl) _ _ HR12.out (by kernel_rfl) rfl (by kernel_rfl) ?_)
                exact decB_none HR12.out HB12.out HD2.out HNE.out.1 (by rfl) (by rfl) (by rfl)
              · cases hbad : es.bad
                · have hfb := HF.out
                  rw [hbad] at hfb
                  simp only [Bool.false_eq_true, if_false] at hfb
                  obtain ⟨Av, cv, rfl, hrv, _⟩ := hfb
                  have HRV := Lib.hid hrv
                  have HBAD := Lib.hid hbad
                  clear hrv hbad
                  have hel : es.out.length ≤ 140737488355328 := HEL.out
                  go_wp2_with fail
                  refine (Equal_any Av _ cv A n c w13 _ _ es.out b hel HRV.out HRD12.out).mono ?_
                  rintro e w14 ⟨rfl, hb14⟩
                  have HR14 := Lib.hid (HR12.out.below hb14 HR12.out.lt); have HN14 := Lib.hid (HN12.out.below hb14 HN12.out.lt); have HB14 := Lib.hid (HB12.out.trans (hb14.mono HB12.out.size))
                  have HMR14 := Lib.hid (HMR.out.below hb14)
                  clear hb14 hel
                  by_cases heq : es.out = b
                  · have hd2 : decB b = (m, true) := by
                      rw [HDEC.out, if_pos]
                      have := HDN.out
                      simp at this
                      exact ⟨⟨this.1, by rw [this.2]; rfl⟩, HBAD.out, heq⟩
                    rw [decide_eq_true heq]
                    have HD2 := Lib.hid hd2; clear hd2 heq
                    go_wp2_with (first | (refine wpList_load_row rfl 39 (.tmp 5) rfl N rfl _ _ _ _ HN14.out Tryd.underlying39 rfl (by kernel_rfl) ?_) | (refine wpList_store_row rfl 39 (.tmp 2) (.tmp 93) rfl R _ (by rfl) (by rfl) _ _ HR14.out (by kernel_rfl) (by rfl) (by simp [Value.oneCell']) ?_))
                    exact decB_some HR14.out HB14.out HD2.out HNE.out.1 HNE.out.2.1 HMR14.out _ (by rw [HM.out]) (by rfl) (by rfl) (by rfl)
                  · have hd2 : decB b = (BookV.zero, false) := by rw [HDEC.out, if_neg (fun e => heq e.2.2)]
                    rw [decide_eq_false heq]
                    have HD2 := Lib.hid hd2; clear hd2 heq
                    go_wp2_with (refine wpList_store_row rfl 39 (.tmp 2) (.tmp 92) rfl R zeroBook (by rfl) (by rfl) _ _ HR14.out (by kernel_rfl) rfl (by kernel_rfl) ?_)
                    exact decB_none HR14.out HB14.out HD2.out HNE.out.1 (by rfl) (by rfl) (by rfl)
                · have hd2 : decB b = (BookV.zero, false) := by rw [HDEC.out, if_neg (fun e => by rw [hbad] at e; simp at e)]
                  have HD2 := Lib.hid hd2; clear hd2
                  have HBAD := Lib.hid hbad
                  clear hbad
                  go_wp2_with (refine wpList_store_row rfl 39 (.tmp 2) (.tmp 92) rfl R zeroBook (by rfl) (by rfl) _ _ HR12.out (by kernel_rfl) rfl (by kernel_rfl) ?_)
                  exact decB_none HR12.out HB12.out HD2.out HNE.out.1 (by rfl) (by rfl) (by rfl)
end Go.Proofs.YtinkclcdpcjnfaaDoor
