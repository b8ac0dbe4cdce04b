/- States and books read from bytes; the plain law. Conditions stand with each theorem. -/
import Derived.Test.YtlabebapjhhkaaaM3
import Derived.Test.YtlabebapjhhkaaaM2
import Derived.Test.YtlabebapjhhkaaaM1
namespace Go.Proofs.Ytlabebapjhhkaaa
open Go.RowKit
/-! A region that draws its order, where two operations may come up. -/
section
variable {P : Program} {ops : Array Oper} {md : Region.Mode} {Q : Exit → Act → World → Prop} {C : World → Prop}
theorem anyC_both {i j : Nat} {oi oj : Oper} {f : Nat} {listed : Array Bool} {a : Act} {w : World} (hi : ops[i]? = some oi) (hj : ops[j]? = some oj) (hr : Region.ready md ops listed = [i, j]) (hC : C w)
    (h1 : wpList P ops (Exit.then (anyC P md ops C Q f (listed.setIfInBounds i true)) Q) [oi] a w) (h2 : wpList P ops (Exit.then (anyC P md ops C Q f (listed.setIfInBounds j true)) Q) [oj] a w) : anyC P md ops C Q (f + 1) listed a w := by
  refine ⟨hC, fun h0 => (by rw [hr] at h0; cases h0), fun k hk => ?_⟩
  rw [hr] at hk
  rcases (by simpa using hk : k = i ∨ k = j) with rfl | rfl
  · exact wpOp_of_list hi h1
  · exact wpOp_of_list hj h2
end
def RS.count (s : RS) (most : Nat) : Nat := if s.int.1 > (most : Int) then 0 else (max s.int.1 0).toNat
def RS.objT (s : RS) : ObjV × RS := (⟨s.bytes.1, s.bytes.2.int.1, s.bytes.2.int.2.bytes.1, s.bytes.2.int.2.bytes.2.bytes.1⟩, s.bytes.2.int.2.bytes.2.bytes.2)
def RS.objsN (s : RS) : Nat → List ObjV × RS
  | 0 => ([], s)
  | k + 1 => ((s.objsN k).1 ++ [(s.objsN k).2.objT.1], (s.objsN k).2.objT.2)
def RS.objs (s : RS) (most : Nat) : List ObjV × RS := s.int.2.objsN (s.count most)
theorem objsN_length (s : RS) (k : Nat) : (s.objsN k).1.length = k := by
  induction k with
  | zero => rfl
  | succ k ih => simp [RS.objsN, ih]
attribute [irreducible] RS.objsN
theorem ReIs.tight {w : World} {F : Nat → Prop} {D : Nat} {s : RS} (h : ReIs w F D s) : ReIs w (fun k => F k ∧ k < w.heap.size) D s := by
  obtain ⟨A, c, h1, h2, h3⟩ := h
  exact ⟨A, c, h1, ⟨h2, h1.cells.lt⟩, fun ad e => ⟨h3 ad e, h1.blk ad e⟩⟩
theorem count_le (s : RS) (most : Nat) : s.count most ≤ most := by
  unfold RS.count
  split
  · omega
  · omega
set_option maxRecDepth 100000 in
theorem EyeCount_any (w : World) (F : Nat → Prop) (D : Nat) (s : RS) (most : Nat) (hF : ∀ k, F k → k < w.heap.size) (h : ReIs w F D s) (hm : most ≤ 67108864) :
    Calls Try.prog 67 #[.agg #[.pointer (some ⟨D, 0, none⟩), .int .i64 (most : Int)]] w fun e w' => e = .returned (.int .i64 (s.count most : Int)) ∧ ReIs w' F D s.int.2 ∧ Keeps F w w' := by
  have hb1 : Below w.heap.size w (w.alloc (.cells #[.pointer (some ⟨D, 0, none⟩), .int .i64 (most : Int)] 105)) := (Below.refl _ _).alloc (Nat.le_refl _) _
  have h1 := h.below hb1
  have hbx := Blk.new w 105 #[.pointer (some ⟨D, 0, none⟩), .int .i64 (most : Int)]
  have hFb : ¬ F w.heap.size := fun e => Nat.lt_irrefl _ (hF _ e)
  have H1 := Lib.hid h1; have HBX := Lib.hid hbx; have HFB := Lib.hid hFb; have HB1 := Lib.hid hb1
  clear h1 hbx hFb hb1 h hF
  go_enter Try.func67, Try.ntmps67
  go_wp2_with fail
  refine (RInt_any _ F D s H1.out).mono ?_
  rintro e w2 ⟨rfl, h2, hk2⟩
  have p1 : w2.cell? ⟨w.heap.size, 1, none⟩ = some (.int .i64 (most : Int)) := ((HBX.out.keeps hk2 HFB.out).cell 1).trans rfl
  have H2 := Lib.hid h2; have HK2 := Lib.hid ((Keeps.of_below (F := F) HB1.out).trans hk2 (fun _ _ e => e))
  clear h2 hk2
  have hcnt : s.count most = if s.int.1 > (most : Int) then 0 else (max s.int.1 0).toNat := rfl
  generalize s.int.1 = z at hcnt ⊢
  have HC := Lib.hid hcnt
  clear hcnt
  by_cases hbig : z > (most : Int)
  · have HE := Lib.hid (show ((s.count most : Nat) : Int) = 0 by rw [HC.out, if_pos hbig]; rfl)
    go_wp2
    go_ret
    rw [HE.out]
    exact ⟨rfl, H2.out, HK2.out⟩
  · have hbig' : (z > (most : Int)) = False := eq_false hbig
    by_cases hz : z < 0
    · have HE := Lib.hid (show ((s.count most : Nat) : Int) = 0 by rw [HC.out, if_neg hbig]; omega)
      clear hbig
      go_wp2
      go_ret
      rw [HE.out]
      exact ⟨rfl, H2.out, HK2.out⟩
    · have HE := Lib.hid (show ((s.count most : Nat) : Int) = z by rw [HC.out, if_neg hbig]; omega)
      have hz' : 0 ≤ z := by omega
      clear hbig
      go_wp2
      go_ret
      rw [HE.out]
      exact ⟨rfl, H2.out, HK2.out⟩
end Go.Proofs.Ytlabebapjhhkaaa
namespace Go.Proofs.Ytlabebapjhhkaaa
open Go.RowKit
structure ObjP where
  o : ObjV
  As : Option Addr
  At : Option Addr
  cs : Nat
  ct : Nat
def objC (p : ObjP) : List Value := [.string ⟨p.o.id.toArray⟩, .int .i64 p.o.size, .slice p.As p.o.share.length p.cs, .slice p.At p.o.tag.length p.ct]
theorem objC_at (l : List ObjP) : ∀ (i : Nat) (p : ObjP), l[i]? = some p → (l.flatMap objC)[i * 4]? = some (.string ⟨p.o.id.toArray⟩) ∧ (l.flatMap objC)[i * 4 + 1]? = some (.int .i64 p.o.size) ∧
    (l.flatMap objC)[i * 4 + 2]? = some (.slice p.As p.o.share.length p.cs) ∧ (l.flatMap objC)[i * 4 + 3]? = some (.slice p.At p.o.tag.length p.ct) := by
  induction l with
  | nil => intro i h e; cases e
  | cons x r ih =>
    intro i h e
    cases i with
    | zero => injection e with e; subst e; exact ⟨rfl, rfl, rfl, rfl⟩
    | succ i =>
      have h1 := ih i h (by simpa using e)
      rw [List.flatMap_cons]
      unfold objC at h1 ⊢
      rw [show (i + 1) * 4 = i * 4 + 4 by omega, show i * 4 + 4 + 1 = (i * 4 + 1) + 4 by omega, show i * 4 + 4 + 2 = (i * 4 + 2) + 4 by omega, show i * 4 + 4 + 3 = (i * 4 + 3) + 4 by omega]
      exact h1
theorem objC_len (l : List ObjP) : (l.flatMap objC).length = l.length * 4 := by
  induction l with
  | nil => rfl
  | cons x r ih => rw [List.flatMap_cons, List.length_append, ih]; simp [objC]; omega
theorem Keeps.setNew {F : Nat → Prop} {a b : World} (h : Keeps F a b) {p : Addr} (hp : a.heap.size ≤ p.block) (u : Value) : Keeps F a (b.setCell p u) :=
  ⟨h.os, h.tape, h.output, by simp only [World.setCell, Array.size_modify]; exact h.size, fun k hk hn => (Below.heap_setCell _ _ _ _ (fun e => by omega)).trans (h.block k hk hn)⟩
theorem Keeps.setRowNew {F : Nat → Prop} {a b : World} (h : Keeps F a b) {g : Nat} (hp : a.heap.size ≤ g) (cs : Array Value) : Keeps F a (b.setRow g cs) :=
  ⟨h.os, h.tape, h.output, by simp only [World.setRow, Array.size_modify]; exact h.size, fun k hk hn => (setRow_other b g k cs (by omega)).trans (h.block k hk hn)⟩
theorem objsN_succ (s : RS) (k : Nat) : s.objsN (k + 1) = ((s.objsN k).1 ++ [(s.objsN k).2.objT.1], (s.objsN k).2.objT.2) := by rw [RS.objsN.eq_def]
theorem objsN_zero (s : RS) : s.objsN 0 = ([], s) := by rw [RS.objsN.eq_def]
def ObjsPost (w : World) (F : Nat → Prop) (D : Nat) (r : List ObjV × RS) (e : Ending) (w' : World) : Prop := ∃ A c, e = .returned (.slice A r.1.length c) ∧ ObjsRd w' (fun k => w.heap.size ≤ k) A r.1 ∧ ReIs w' F D r.2 ∧ Keeps F w w'
theorem Keeps.setRow_ {F : Nat → Prop} {a b : World} (h : Keeps F a b) {g : Nat} (hp : F g) (cs : Array Value) : Keeps F a (b.setRow g cs) :=
  ⟨h.os, h.tape, h.output, by simp only [World.setRow, Array.size_modify]; exact h.size, fun k hk hn => (setRow_other b g k cs (fun e => hn (by rw [e]; exact hp))).trans (h.block k hk hn)⟩
theorem ObjRd.app {w w' : World} {B : Nat} {v v' : Value} {As At : Option Addr} {o : ObjV} (h : ObjRd w (fun k => B ≤ k ∧ v.ownBlock ≠ some k) As At o) (hk : Keeps (fun k => v.ownBlock = some k) w w')
    (hv : v'.ownBlock = v.ownBlock ∨ ∃ m, v'.ownBlock = some m ∧ w.heap.size ≤ m) : ObjRd w' (fun k => B ≤ k ∧ v'.ownBlock ≠ some k) As At o := by
  have h' := h.off hk (fun k e e2 => e.2 e2)
  have key : ∀ k, k < w.heap.size → (B ≤ k ∧ v.ownBlock ≠ some k) → (B ≤ k ∧ v'.ownBlock ≠ some k) := fun k hk e => ⟨e.1, fun e2 => by
    rcases hv with e3 | ⟨m, e3, e4⟩
    · exact e.2 (e3 ▸ e2)
    · rw [e3] at e2; injection e2 with e2; omega⟩
  refine ⟨fun ad e h0 => key _ ?_ (h.1 ad e h0), fun ad e h0 => key _ ?_ (h.2.1 ad e h0), h'.2.2⟩
  · obtain ⟨ad', e', hb, _⟩ := h.2.2.1.2 h0
    rw [e] at e'; injection e' with e'; rw [e']; exact hb
  · obtain ⟨ad', e', hb, _⟩ := h.2.2.2.2 h0
    rw [e] at e'; injection e' with e'; rw [e']; exact hb
end Go.Proofs.Ytlabebapjhhkaaa
namespace Go.Proofs.Ytlabebapjhhkaaa
open Go.RowKit
theorem Rd.cellsE {w : World} {B n : Nat} {A : Option Addr} {l : List UInt8} (h : Rd w B A n l) (hn : 0 < n) : ∃ b o, A = some ⟨b, o, none⟩ ∧ b < B ∧ ∀ j, j < n → w.cell? ⟨b, o + j, none⟩ = some (.int .u8 (l.getD j 0).toNat) := by
  obtain ⟨ad, e, hb, hc⟩ := h.2 hn
  obtain ⟨b, off, spot⟩ := ad
  have hl := h.len
  have hc0 := hc 0 _ (by rw [List.getElem?_map, List.getElem?_eq_getElem (show 0 < l.length by omega)]; rfl)
  have hsp : spot = none := by simpa [Addr.add] using World.cell?_spot hc0
  subst hsp
  refine ⟨b, off, e, hb, fun j hj => ?_⟩
  have h1 := hc j _ (by rw [List.getElem?_map, List.getElem?_eq_getElem (show j < l.length by omega)]; rfl)
  have ha : (⟨b, off, none⟩ : Addr).add j = ⟨b, off + j, none⟩ := by unfold Addr.add; split <;> simp_all
  rw [ha] at h1
  rw [h1, List.getD_eq_getElem?_getD, List.getElem?_eq_getElem (show j < l.length by omega)]
  rfl
set_option maxRecDepth 100000 in
theorem Equal_any (A1 : Option Addr) (n1 c1 : Nat) (A2 : Option Addr) (n2 c2 : Nat) (w : World) (B1 B2 : Nat) (l1 l2 : List UInt8) (hn : n1 ≤ 140737488355328) (hr1 : Rd w B1 A1 n1 l1) (hr2 : Rd w B2 A2 n2 l2) :
    Calls Try.prog 71 #[.slice A1 n1 c1, .slice A2 n2 c2] w fun e w' => e = .returned (.bool (decide (l1 = l2))) ∧ Below w.heap.size w w' := by
  have HL1 := Lib.hid hr1.len
  have HL2 := Lib.hid hr2.len
  by_cases hne : n1 = n2
  · subst hne
    have hall : ∃ b1 o1 b2 o2, (0 < n1 → A1 = some ⟨b1, o1, none⟩ ∧ A2 = some ⟨b2, o2, none⟩ ∧ (∀ j, j < n1 → w.cell? ⟨b1, o1 + j, none⟩ = some (.int .u8 (l1.getD j 0).toNat)) ∧ ∀ j, j < n1 → w.cell? ⟨b2, o2 + j, none⟩ = some (.int .u8 (l2.getD j 0).toNat)) := by
      by_cases h0 : 0 < n1
      · obtain ⟨b1, o1, h1, _, h2⟩ := hr1.cellsE h0
        obtain ⟨b2, o2, h3, _, h4⟩ := hr2.cellsE h0
        exact ⟨b1, o1, b2, o2, fun _ => ⟨h1, h3, h2, h4⟩⟩
      · exact ⟨0, 0, 0, 0, fun h => absurd h h0⟩
    obtain ⟨b1, o1, b2, o2, hall⟩ := hall
    have HA := Lib.hid hall; clear hall hr1 hr2
    go_enter Try.func71, Try.ntmps71
    go_wp2_with fail
    go_loopw [5, 13] (fun s q wr => ∃ (j : Nat), j ≤ n1 ∧ q = .int .i64 j ∧ l1.take j = l2.take j ∧ ∃ d, wr = w.drewN d) (fun _ q _ => n1 - (intOf q).toNat)
    case atStart => exact ⟨0, by omega, rfl, rfl, 0, rfl⟩
    case round =>
      obtain ⟨j, hj, rfl, htk, d, rfl⟩ := hrel
      have HTK := Lib.hid htk; clear htk
      by_cases hlt : j < n1
      · obtain ⟨rfl, rfl, hc1, hc2⟩ := HA.out (by omega)
        have k1 : (w.drewN d).cell? ⟨b1, o1 + j, none⟩ = some (.int .u8 (l1.getD j 0).toNat) := hc1 j hlt
        have k2 : (w.drewN d).cell? ⟨b2, o2 + j, none⟩ = some (.int .u8 (l2.getD j 0).toNat) := hc2 j hlt
        have hs1 : l1.take (j + 1) = l1.take j ++ [l1.getD j 0] := by rw [List.take_succ_eq_append_getElem (by rw [← HL1.out]; exact hlt), List.getD_eq_getElem?_getD, List.getElem?_eq_getElem (by rw [← HL1.out]; exact hlt)]; rfl
        have hs2 : l2.take (j + 1) = l2.take j ++ [l2.getD j 0] := by rw [List.take_succ_eq_append_getElem (by rw [← HL2.out]; exact hlt), List.getD_eq_getElem?_getD, List.getElem?_eq_getElem (by rw [← HL2.out]; exact hlt)]; rfl
        generalize l1.getD j 0 = x1 at k1 hs1
        generalize l2.getD j 0 = x2 at k2 hs2
        have HS1 := Lib.hid hs1; have HS2 := Lib.hid hs2
        clear hc1 hc2 hs1 hs2
        generalize hW : w.drewN d = W at k1 k2
        have HW := Lib.hid hW; clear hW
        have hlt' : (j : Int) < (n1 : Int) := by omega
        by_cases hx : x1 = x2
        · subst hx
          go_wp2_with fail
          refine wp_region_q (by kernel_rfl) (by kernel_rfl) ?_
          repeat (first | go_big_quiet_skip | (go_big_quiet_want; go_big_quiet_op; first | go_big_quiet_on))
          refine wpQuiet_nil ?_
          go_wp2
          go_roundw
          case rel => exact ⟨j + 1, by omega, by go_num, by rw [HS1.out, HS2.out, HTK.out], d + 1, by rw [← HW.out]; rfl⟩
          case measure => simp [intOf]; omega
        · have hx2 : ((x1.toNat : Int) == (x2.toNat : Int)) = false := by
            have : ¬ x1.toNat = x2.toNat := fun e => hx (UInt8.toNat_inj.1 e)
            simp; omega
          have hx3 : ((x1.toNat : Int) != (x2.toNat : Int)) = true := by rw [bne, hx2]; rfl
          have HNE := Lib.hid (show l1 ≠ l2 from fun e => by
            have h1 := HS1.out
            rw [e, HS2.out] at h1
            exact hx (by simpa using h1.symm))
          clear hx
          go_wp2_with fail
          refine wp_region_q (by kernel_rfl) (by kernel_rfl) ?_
          repeat (first | go_big_quiet_skip | (go_big_quiet_want; go_big_quiet_op; first | go_big_quiet_on))
          refine wpQuiet_nil ?_
          go_wp2
          go_ret
          rw [decide_eq_false HNE.out]
          refine ⟨rfl, ?_⟩
          rw [← HW.out]
          exact ⟨rfl, rfl, rfl, Nat.le_refl _, fun _ _ => rfl⟩
      · obtain rfl : j = n1 := by omega
        have hd : l1 = l2 := by
          have h1 := HTK.out
          rw [List.take_of_length_le (by rw [← HL1.out]; exact Nat.le_refl _), List.take_of_length_le (by rw [← HL2.out]; exact Nat.le_refl _)] at h1
          exact h1
        have HD := Lib.hid hd; clear hd
        go_wp2
        go_ret
        rw [decide_eq_true HD.out]
        exact ⟨rfl, rfl, rfl, rfl, Nat.le_refl _, fun _ _ => rfl⟩
  · have hd : decide (l1 = l2) = false := decide_eq_false (fun e => hne (by rw [HL1.out, HL2.out, e]))
    have HD := Lib.hid hd
    have hne' : ((n1 : Int) == (n2 : Int)) = false := by simp; omega
    have hne2 : ((n1 : Int) != (n2 : Int)) = true := by rw [bne, hne']; rfl
    clear hd
    go_enter Try.func71, Try.ntmps71
    go_wp2_with fail
    go_wp2
    go_ret
    rw [HD.out]
    exact ⟨rfl, Below.refl _ _⟩
def RS.state (s : RS) (most : Nat) : StateV × RS :=
  let a := s.int
  let b := a.2.int
  let c := b.2.int
  let d := c.2.objs most
  let e := d.2.int
  let f := e.2.int
  let g := f.2.int
  let h := g.2.objs most
  (⟨a.1, b.1, c.1, d.1, e.1, f.1, g.1, h.1⟩, h.2)
def StateV.zero : StateV := ⟨0, 0, 0, [], 0, 0, 0, []⟩
def decS (b : List UInt8) : StateV × Bool :=
  let r := (⟨b, false⟩ : RS).state b.length
  if (r.2.bad = false ∧ r.2.left.length = 0) ∧ (WS.state ⟨[], false⟩ r.1).bad = false ∧ (WS.state ⟨[], false⟩ r.1).out = b then (r.1, true) else (StateV.zero, false)
/-- What a decoding leaves. -/
def DecSPost (w : World) (b : List UInt8) (e : Ending) (w' : World) : Prop := ∃ (Ao Ap : Option Addr) (co cp : Nat),
  e = .returned (.tuple #[.agg (stateCells (decS b).1 Ao Ap co cp), .bool (decS b).2]) ∧ StateRd w' (fun k => w.heap.size ≤ k ∧ k < w'.heap.size) (decS b).1 Ao Ap ∧ Below w.heap.size w w'
/-- F, or the block. -/
def Or1 (F : Nat → Prop) (N : Nat) (k : Nat) : Prop := F k ∨ k = N
structure AtN (w3 : World) (F : Nat → Prop) (D N : Nat) (t : TypeId) (x : World) (cs : Array Value) (s : RS) : Prop where
  blk : Blk x N t cs
  re : ReIs x F D s
  kp : Keeps (Or1 F N) w3 x
section
variable {w3 x y : World} {F : Nat → Prop} {D N : Nat} {t : TypeId} {cs : Array Value} {s s' : RS}
theorem AtN.step (h : AtN w3 F D N t x cs s) (hy : ReIs y F D s') (hk : Keeps F x y) (hN : ¬ F N) : AtN w3 F D N t y cs s' :=
  ⟨h.blk.keeps hk hN, hy, h.kp.trans hk (fun _ _ e => Or.inl e)⟩
theorem AtN.put (h : AtN w3 F D N t x cs s) (hN : ¬ F N) (j : Nat) (v : Value) : AtN w3 F D N t (x.setCell ⟨N, j, none⟩ v) (cs.setIfInBounds j v) s :=
  ⟨h.blk.set_ j v, h.re.keeps ((Keeps.refl (fun k => k = N) x).setCell (p := ⟨N, j, none⟩) rfl v) (fun k e e2 => hN (e2 ▸ e)), h.kp.setCell (p := ⟨N, j, none⟩) (Or.inr rfl) v⟩
theorem ObjsRd.put {S : Nat → Prop} {A : Option Addr} {os : List ObjV} (h : ObjsRd x S A os) (hS : ∀ k, S k → k ≠ N) (j : Nat) (v : Value) : ObjsRd (x.setCell ⟨N, j, none⟩ v) S A os :=
  h.off ((Keeps.refl (fun k => k = N) x).setCell (p := ⟨N, j, none⟩) rfl v) (fun k e e2 => hS k e e2)
theorem ObjsRd.tight {S : Nat → Prop} {A : Option Addr} {os : List ObjV} (h : ObjsRd x S A os) : ObjsRd x (fun k => S k ∧ k < x.heap.size) A os := fun hn => by
  obtain ⟨ad, e, hs, hb, hc⟩ := h hn
  refine ⟨ad, e, ⟨hs, hb⟩, hb, fun i o ho => ?_⟩
  obtain ⟨As, At, cs, ct, c0, c1, c2, c3, h1, h2, h3, h4⟩ := hc i o ho
  refine ⟨As, At, cs, ct, c0, c1, c2, c3, fun ad e h0 => ⟨h1 ad e h0, ?_⟩, fun ad e h0 => ⟨h2 ad e h0, ?_⟩, h3, h4⟩
  · obtain ⟨ad', e', hb, _⟩ := h3.2 h0
    rw [e] at e'; injection e' with e'; rw [e']; exact hb
  · obtain ⟨ad', e', hb, _⟩ := h4.2 h0
    rw [e] at e'; injection e' with e'; rw [e']; exact hb
end
theorem bytes_len1 (s : RS) : s.bytes.1.length ≤ 65535 := by
  unfold RS.bytes
  have h1 := (s.left.getD 0 0).toNat_lt
  have h2 := (s.left.getD 1 0).toNat_lt
  split
  · split
    · simp only [List.length_take]; omega
    · simp
  · simp
theorem objsN_cost (s : RS) (k : Nat) : costO (s.objsN k).1 ≤ 196615 * k := by
  have app : ∀ (a b : List ObjV), costO (a ++ b) = costO a + costO b := by
    intro a b
    induction a with
    | nil => simp [costO]
    | cons x r ih => simp only [List.cons_append, costO, ih]; omega
  induction k with
  | zero => rw [objsN_zero]; exact Nat.le_refl _
  | succ k ih =>
    rw [objsN_succ]
    dsimp only
    rw [app]
    have h1 := bytes_len1 (s.objsN k).2
    have h2 := bytes_len1 (s.objsN k).2.bytes.2.int.2
    have h3 := bytes_len1 (s.objsN k).2.bytes.2.int.2.bytes.2
    simp only [costO, RS.objT]
    omega
theorem objs_cost (s : RS) (most : Nat) : costO (s.objs most).1 ≤ 196615 * most := by
  unfold RS.objs
  have h1 := objsN_cost s.int.2 (s.count most)
  have h2 := count_le s most
  exact Nat.le_trans h1 (Nat.mul_le_mul_left _ h2)
theorem objs_len1 (s : RS) (most : Nat) : (s.objs most).1.length ≤ most := by
  unfold RS.objs
  rw [objsN_length]
  exact count_le s most
theorem state_len (x : StateV) : (WS.state ⟨[], false⟩ x).out.length ≤ x.cost := by
  have h1 := ints_len [x.epoch, x.decided, x.dealt] ⟨[], false⟩
  have h2 := objs_len2 ((⟨[], false⟩ : WS).ints [x.epoch, x.decided, x.dealt]) x.objs
  have h3 := ints_len [x.psession, x.pkind, x.pepoch] (((⟨[], false⟩ : WS).ints [x.epoch, x.decided, x.dealt]).objs x.objs)
  have h4 := objs_len2 ((((⟨[], false⟩ : WS).ints [x.epoch, x.decided, x.dealt]).objs x.objs).ints [x.psession, x.pkind, x.pepoch]) x.pobjs
  unfold WS.state StateV.cost
  simp only [List.length_cons, List.length_nil] at h1 h3
  omega
theorem book_len (k : BookV) : (WS.book ⟨[], false⟩ k).out.length ≤ k.cost := by
  have h1 := ints_len [k.session, k.decided, k.epoch, (k.dir.length : Int)] ⟨[], false⟩
  have h2 := heads_len k.dir ((⟨[], false⟩ : WS).ints [k.session, k.decided, k.epoch, (k.dir.length : Int)])
  have h3 := int_len (k.dir.foldl WS.head ((⟨[], false⟩ : WS).ints [k.session, k.decided, k.epoch, (k.dir.length : Int)])) k.up.length
  have h4 := ints_len (k.up.map flagI) ((k.dir.foldl WS.head ((⟨[], false⟩ : WS).ints [k.session, k.decided, k.epoch, (k.dir.length : Int)])).int k.up.length)
  have h5 := int_len (((k.dir.foldl WS.head ((⟨[], false⟩ : WS).ints [k.session, k.decided, k.epoch, (k.dir.length : Int)])).int k.up.length).ints (k.up.map flagI)) k.commit.length
  have h6 := ints_len k.commit ((((k.dir.foldl WS.head ((⟨[], false⟩ : WS).ints [k.session, k.decided, k.epoch, (k.dir.length : Int)])).int k.up.length).ints (k.up.map flagI)).int k.commit.length)
  unfold WS.book BookV.cost
  simp only [List.length_cons, List.length_nil, List.length_map] at h1 h4
  omega
abbrev zeroState : Array Value := #[.int .i64 0, .int .i64 0, .int .i64 0, .slice none 0 0, .int .i64 0, .int .i64 0, .int .i64 0, .slice none 0 0]
end Go.Proofs.Ytlabebapjhhkaaa
namespace Go.Proofs.Ytlabebapjhhkaaa
open Go.RowKit
theorem i64_info : (Try.prog.info? 3).map (fun i => (i.zero, i.size, i.bytes)) = some (some (.int .i64 0), 1, 8) := by kernel_rfl
theorem bool_info : (Try.prog.info? 4).map (fun i => (i.zero, i.size, i.bytes)) = some (some (.bool false), 1, 1) := by kernel_rfl
theorem head_info : (Try.prog.info? 35).map (fun i => (i.zero, i.size, i.bytes)) = some (some (.agg #[.string ⟨#[]⟩, .int .i64 0]), 2, 24) := by kernel_rfl
def RS.ints (s : RS) : Nat → List Int × RS
  | 0 => ([], s)
  | k + 1 => ((s.ints k).1 ++ [(s.ints k).2.int.1], (s.ints k).2.int.2)
def RS.head (s : RS) : HeadV × RS := (⟨s.bytes.1, s.bytes.2.int.1⟩, s.bytes.2.int.2)
def RS.headsN (s : RS) : Nat → List HeadV × RS
  | 0 => ([], s)
  | k + 1 => ((s.headsN k).1 ++ [(s.headsN k).2.head.1], (s.headsN k).2.head.2)
theorem ints_length (s : RS) (k : Nat) : (s.ints k).1.length = k := by
  induction k with
  | zero => rfl
  | succ k ih => simp [RS.ints, ih]
theorem headsN_length (s : RS) (k : Nat) : (s.headsN k).1.length = k := by
  induction k with
  | zero => rfl
  | succ k ih => simp [RS.headsN, ih]
theorem ints_succ (s : RS) (k : Nat) : s.ints (k + 1) = ((s.ints k).1 ++ [(s.ints k).2.int.1], (s.ints k).2.int.2) := by rw [RS.ints.eq_def]
theorem ints_zero (s : RS) : s.ints 0 = ([], s) := by rw [RS.ints.eq_def]
theorem headsN_succ (s : RS) (k : Nat) : s.headsN (k + 1) = ((s.headsN k).1 ++ [(s.headsN k).2.head.1], (s.headsN k).2.head.2) := by rw [RS.headsN.eq_def]
theorem headsN_zero (s : RS) : s.headsN 0 = ([], s) := by rw [RS.headsN.eq_def]
attribute [irreducible] RS.ints RS.headsN
def RS.book (s : RS) (most : Nat) : BookV × RS :=
  let a := s.int
  let b := a.2.int
  let c := b.2.int
  let d := c.2.int.2.headsN (c.2.count most)
  let e := d.2.int.2.ints (d.2.count most)
  let f := e.2.int.2.ints (e.2.count most)
  (⟨a.1, b.1, c.1, d.1, e.1.map (fun z => z == 1), f.1⟩, f.2)
def BookV.zero : BookV := ⟨0, 0, 0, [], [], []⟩
def decB (b : List UInt8) : BookV × Bool :=
  let r := (⟨b, false⟩ : RS).book b.length
  if (r.2.bad = false ∧ r.2.left.length = 0) ∧ (WS.book ⟨[], false⟩ r.1).bad = false ∧ (WS.book ⟨[], false⟩ r.1).out = b then (r.1, true) else (BookV.zero, false)
def headC (h : HeadV) : List Value := [.string ⟨h.id.toArray⟩, .int .i64 h.size]
theorem headC_at (l : List HeadV) : ∀ (i : Nat) (h : HeadV), l[i]? = some h → (l.flatMap headC)[i * 2]? = some (.string ⟨h.id.toArray⟩) ∧ (l.flatMap headC)[i * 2 + 1]? = some (.int .i64 h.size) := by
  induction l with
  | nil => intro i h e; cases e
  | cons x r ih =>
    intro i h e
    cases i with
    | zero => injection e with e; subst e; exact ⟨rfl, rfl⟩
    | succ i =>
      have h1 := ih i h (by simpa using e)
      rw [List.flatMap_cons]
      unfold headC at h1 ⊢
      rw [show (i + 1) * 2 = i * 2 + 2 by omega, show i * 2 + 2 + 1 = (i * 2 + 1) + 2 by omega]
      exact h1
theorem headsRd_of {w : World} {B : Nat} {v : Value} {l : List HeadV} (h : w.ownsRow B 35 2 v l.length (l.flatMap headC)) : ∃ A c, v = .slice A l.length c ∧ HeadsRd w w.heap.size A l ∧ ∀ ad, A = some ad → B ≤ ad.block := by
  rcases h.2 with ⟨rfl, e⟩ | ⟨g, cap, cur, rfl, hg, hh, _, _, _, ht⟩
  · have : l = [] := List.eq_nil_of_length_eq_zero e
    subst this
    exact ⟨none, 0, rfl, fun h => by simp at h, fun _ e => by cases e⟩
  · refine ⟨_, cap, rfl, fun hn => ⟨_, rfl, lt_of_block hh, fun i x hx => ?_⟩, fun ad e => by injection e with e; subst e; exact hg⟩
    obtain ⟨h0, h1⟩ := headC_at l i x hx
    have hi : i < l.length := (List.getElem?_eq_some_iff.1 hx).1
    have hcur : ∀ j, j < l.length * 2 → w.cell? ⟨g, j, none⟩ = (l.flatMap headC)[j]? := by
      intro j hj
      rw [cell_of_row w g j cur _ (0, 0) hh, ← ht, List.getElem?_take, if_pos hj, Array.getElem?_toList]
    have ha : (⟨g, 0, none⟩ : Addr).add (i * 2) = ⟨g, i * 2, none⟩ := by unfold Addr.add; split <;> simp_all
    rw [ha]
    exact ⟨(hcur (i * 2) (by omega)).trans h0, (hcur (i * 2 + 1) (by omega)).trans h1⟩
theorem readsRow_of {w : World} {B n : Nat} {e : TypeId} {v : Value} {l : List Value} (h : w.ownsRow B e 1 v n l) : ∃ A c, v = .slice A n c ∧ Reads w w.heap.size 1 A n l ∧ ∀ ad, A = some ad → B ≤ ad.block := by
  have hr : ∀ A c, v = .slice A n c → Reads w w.heap.size 1 A n l := fun A c e => by subst e; exact Reads.of_own h
  rcases h.2 with ⟨rfl, e⟩ | ⟨g, cap, cur, rfl, hg, _⟩
  · subst e; exact ⟨none, 0, rfl, hr _ _ rfl, fun _ e => by cases e⟩
  · exact ⟨_, cap, rfl, hr _ _ rfl, fun ad e => by injection e with e; subst e; exact hg⟩
/-- Two cells that are known. -/
def TwoCells (a b : Addr) (u v : Value) (W : World) : Prop := W.cell? a = some u ∧ W.cell? b = some v
theorem row_shape {w : World} {B size n : Nat} {e : TypeId} {v : Value} {xs : List Value} (h : w.ownsRow B e size v n xs) : ∃ A c, v = .slice A n c := by
  rcases h.2 with ⟨rfl, e⟩ | ⟨g, cap, cur, rfl, _⟩
  · rw [e]; exact ⟨none, 0, rfl⟩
  · exact ⟨_, cap, rfl⟩
section
variable {w3 x y : World} {F G : Nat → Prop} {D N : Nat} {t : TypeId} {cs cs2 : Array Value} {s s2 : RS}
theorem AtN.fresh (h : AtN w3 F D N t x cs s) (hk : Keeps G x y) (hG : ∀ k, G k → w3.heap.size ≤ k) (hN : N < w3.heap.size) (hF : ∀ k, F k → k < w3.heap.size) : AtN w3 F D N t y cs s :=
  ⟨h.blk.keeps hk (fun e => by have := hG _ e; omega), h.re.keeps hk (fun k e e2 => by have := hG _ e2; have := hF _ e; omega), h.kp.trans hk (fun i hi e => by have := hG _ e; omega)⟩
theorem AtN.trans (h : AtN w3 F D N t x cs s) (h2 : AtN x F D N t y cs2 s2) : AtN w3 F D N t y cs2 s2 := ⟨h2.blk, h2.re, h.kp.trans h2.kp (fun _ _ e => e)⟩
theorem AtN.here (h : AtN w3 F D N t x cs s) : AtN x F D N t x cs s := ⟨h.blk, h.re, Keeps.refl _ _⟩
end
theorem row_mono {w : World} {b base size n : Nat} {e : TypeId} {v : Value} {xs : List Value} (h : w.ownsRow base e size v n xs) (hb : b ≤ base) : w.ownsRow b e size v n xs := by
  refine ⟨h.1, ?_⟩
  rcases h.2 with h1 | ⟨g, cap, cur, h1, h2, h3⟩
  · exact Or.inl h1
  · exact Or.inr ⟨g, cap, cur, h1, Nat.le_trans hb h2, h3⟩
/-- A book whose three rows are its own. -/
structure BookOwn (w : World) (B : Nat) (k : BookV) (vd vu vc : Value) : Prop where
  dir : w.ownsRow B 35 2 vd k.dir.length (k.dir.flatMap headC)
  up : w.ownsRow B 4 1 vu k.up.length (k.up.map Value.bool)
  commit : w.ownsRow B 3 1 vc k.commit.length (k.commit.map (Value.int .i64))
theorem BookOwn.keeps {w w' : World} {F : Nat → Prop} {B : Nat} {k : BookV} {vd vu vc : Value} (h : BookOwn w B k vd vu vc) (hk : Keeps F w w') (hn : ∀ i, B ≤ i → i < w.heap.size → ¬ F i) : BookOwn w' B k vd vu vc :=
  ⟨row_keeps h.dir hk (fun i e => hn i (h.dir.lt i e).1 (h.dir.lt i e).2), row_keeps h.up hk (fun i e => hn i (h.up.lt i e).1 (h.up.lt i e).2), row_keeps h.commit hk (fun i e => hn i (h.commit.lt i e).1 (h.commit.lt i e).2)⟩
theorem BookOwn.below {w w' : World} {B : Nat} {k : BookV} {vd vu vc : Value} (h : BookOwn w B k vd vu vc) (hb : Below w.heap.size w w') : BookOwn w' B k vd vu vc := h.keeps (Keeps.of_below (F := fun _ => False) hb) (fun _ _ _ e => e)
theorem BookOwn.mono {w : World} {b B : Nat} {k : BookV} {vd vu vc : Value} (h : BookOwn w B k vd vu vc) (hb : b ≤ B) : BookOwn w b k vd vu vc := ⟨row_mono h.dir hb, row_mono h.up hb, row_mono h.commit hb⟩
theorem BookOwn.rd {w : World} {B : Nat} {k : BookV} {Ad Au Ac : Option Addr} {n1 n2 n3 cd cu cc : Nat} (h : BookOwn w B k (.slice Ad n1 cd) (.slice Au n2 cu) (.slice Ac n3 cc)) : BookRd w (fun k => B ≤ k) k Ad Au Ac := by
  obtain ⟨A1, c1, e1, h1, b1⟩ := headsRd_of h.dir
  obtain ⟨A2, c2, e2, h2, b2⟩ := readsRow_of h.up
  obtain ⟨A3, c3, e3, h3, b3⟩ := readsRow_of h.commit
  injection e1 with e1 _ _; injection e2 with e2 _ _; injection e3 with e3 _ _
  subst e1 e2 e3
  exact ⟨h1, h2, h3, fun ad e => by rcases e with e | e | e; exact b1 ad e.1; exact b2 ad e.1; exact b3 ad e.1⟩
/-- What a decoding leaves. -/
def DecBPost (w : World) (b : List UInt8) (e : Ending) (w' : World) : Prop := ∃ (Ad Au Ac : Option Addr) (cd cu cc : Nat),
  e = .returned (.tuple #[.agg (bookCells (decB b).1 Ad Au Ac cd cu cc), .bool (decB b).2]) ∧ BookOwn w' w.heap.size (decB b).1 (.slice Ad (decB b).1.dir.length cd) (.slice Au (decB b).1.up.length cu) (.slice Ac (decB b).1.commit.length cc) ∧ Below w.heap.size w w'
abbrev zeroBook : Array Value := #[.int .i64 0, .int .i64 0, .int .i64 0, .slice none 0 0, .slice none 0 0, .slice none 0 0]
theorem headsN_cost (s : RS) (k : Nat) : costH (s.headsN k).1 ≤ 65541 * k := by
  have app : ∀ (a b : List HeadV), costH (a ++ b) = costH a + costH b := by
    intro a b
    induction a with
    | nil => simp [costH]
    | cons x r ih => simp only [List.cons_append, costH, ih]; omega
  induction k with
  | zero => rw [headsN_zero]; exact Nat.le_refl _
  | succ k ih =>
    rw [headsN_succ]
    dsimp only
    rw [app]
    have h1 := bytes_len1 (s.headsN k).2
    simp only [costH, RS.head]
    omega
theorem BookRd.zero_ (w : World) (S : Nat → Prop) : BookRd w S BookV.zero none none none := ⟨fun h => by simp [BookV.zero] at h, ⟨rfl, fun h => by simp [BookV.zero] at h⟩, ⟨rfl, fun h => by simp [BookV.zero] at h⟩, fun ad e => by rcases e with e | e | e <;> cases e.1⟩
theorem decB_none {w w13 : World} {b : List UInt8} {R : Nat} {a : Act} (hR : Blk w13 R 44 zeroBook) (hb : Below w.heap.size w w13) (hd : decB b = (BookV.zero, false)) (hRw : w.heap.size ≤ R)
    (h2 : a.tmps.getD 2 undef = .pointer (some ⟨R, 0, none⟩)) (h3 : a.tmps.getD 3 undef = .bool false) (h0 : a.defers = []) : bodyPost Try.prog Try.f39 (DecBPost w b) .ret a (w13.setRow R zeroBook) := by
  have hR' := setRow_heap w13 R _ zeroBook _ _ hR
  have hrow := run_loadVar_row (P := Try.prog) (w13.setRow R zeroBook) R 44 44 zeroBook (0, 0) _ hR' Try.underlying44 rfl (by kernel_rfl)
  refine bodyPost_ret (v := .tuple #[.agg zeroBook, .bool false]) ?_ h0 ?_
  · rw [results_cell_tmp rfl, h2, h3]
    simp only [asAddr, Sem.run_pure, Result.andThen_ok, hrow]
  · exact ⟨none, none, none, 0, 0, 0, by rw [hd]; rfl, by rw [hd]; exact ⟨World.ownsRow_nil _ _ _ _, World.ownsRow_nil _ _ _ _, World.ownsRow_nil _ _ _ _⟩, hb.trans (below_setRow (Below.refl _ _) hRw _)⟩
theorem BookRd.tight {w : World} {S : Nat → Prop} {k : BookV} {Ad Au Ac : Option Addr} (h : BookRd w S k Ad Au Ac) : BookRd w (fun k => S k ∧ k < w.heap.size) k Ad Au Ac := by
  refine ⟨h.dir, h.up, h.commit, fun ad e => ⟨h.inS ad e, ?_⟩⟩
  rcases e with ⟨e, h0⟩ | ⟨e, h0⟩ | ⟨e, h0⟩
  · obtain ⟨ad', e', hb, _⟩ := h.dir h0
    rw [e] at e'; injection e' with e'; rw [e']; exact hb
  · obtain ⟨ad', e', hb, _⟩ := h.up.2 h0
    rw [e] at e'; injection e' with e'; rw [e']; exact hb
  · obtain ⟨ad', e', hb, _⟩ := h.commit.2 h0
    rw [e] at e'; injection e' with e'; rw [e']; exact hb
theorem BookRd.weaken {w : World} {S S' : Nat → Prop} {k : BookV} {Ad Au Ac : Option Addr} (h : BookRd w S k Ad Au Ac) (hS : ∀ k, S k → S' k) : BookRd w S' k Ad Au Ac := ⟨h.dir, h.up, h.commit, fun ad e => hS _ (h.inS ad e)⟩
theorem decB_some {w w13 : World} {b : List UInt8} {m : BookV} {R B : Nat} {a : Act} {old : Array Value} {Ad Au Ac : Option Addr} {cd cu cc : Nat} (hR : Blk w13 R 44 old) (hb : Below w.heap.size w w13) (hd : decB b = (m, true)) (hRw : w.heap.size ≤ R) (hRB : R < B)
    (hMR : BookOwn w13 B m (.slice Ad m.dir.length cd) (.slice Au m.up.length cu) (.slice Ac m.commit.length cc)) (cs : Array Value) (hcs : cs = bookCells m Ad Au Ac cd cu cc)
    (h2 : a.tmps.getD 2 undef = .pointer (some ⟨R, 0, none⟩)) (h3 : a.tmps.getD 3 undef = .bool true) (h0 : a.defers = []) : bodyPost Try.prog Try.f39 (DecBPost w b) .ret a (w13.setRow R cs) := by
  have hR' := setRow_heap w13 R _ cs _ _ hR
  have hcz : cs.size = 6 := by rw [hcs]; rfl
  have hrow := run_loadVar_row (P := Try.prog) (w13.setRow R cs) R 44 44 cs (0, 0) _ hR' Try.underlying44 rfl (by rw [hcz]; kernel_rfl)
  refine bodyPost_ret (v := .tuple #[.agg cs, .bool true]) ?_ h0 ?_
  · rw [results_cell_tmp rfl, h2, h3]
    simp only [asAddr, Sem.run_pure, Result.andThen_ok, hrow]
  · refine ⟨Ad, Au, Ac, cd, cu, cc, by rw [hd, hcs], ?_, hb.trans (below_setRow (Below.refl _ _) hRw _)⟩
    rw [hd]
    exact (hMR.keeps ((Keeps.refl (fun k => k = R) w13).setRow_ rfl cs) (fun k e _ e2 => by omega)).mono (by omega)

set_option maxRecDepth 100000 in
set_option maxHeartbeats 8000000 in
theorem DecodeBook_any (w : World) (A : Option Addr) (n c : Nat) (b : List UInt8) (hn : n ≤ 67108864) (hr : Rd w w.heap.size A n b) :
    Calls Try.prog 39 #[.slice A n c] w (DecBPost w b) := by
  have hbl := hr.len
  go_enter Try.func39, Try.ntmps39
  have hb1 : Below w.heap.size w (w.alloc (.cells zeroBook 44)) := (Below.refl _ _).alloc (Nat.le_refl _) _
  have hR := Blk.new w 44 zeroBook
  have hr1 := hr.below hb1
  have hsz : (w.alloc (.cells zeroBook 44)).heap.size = w.heap.size + 1 := by simp
  have HSZ := Lib.hid hsz; have HBL := Lib.hid hbl
  clear hsz hbl
  go_upto_region 1 with (fail)
  obtain ⟨R, hRe⟩ : ∃ R, R = w.heap.size := ⟨_, rfl⟩
  rw [← hRe] at hR HSZ ⊢
  generalize w.alloc (.cells zeroBook 44) = w1 at hb1 hR hr1 HSZ ⊢
  have HRE := Lib.hid hRe; clear hRe
  go_wp2_with fail
  refine (Read_any A n c w1 b (by omega) (hr1.more hb1.size)).mono ?_
  rintro e w2 ⟨D, rfl, h2, hb2⟩
  have hR2 := hR.below hb2 (by have := HSZ.out; omega)
  have hb02 := hb1.trans (hb2.mono hb1.size)
  have hr2 := hr1.below (hb2.mono hb1.size)
  have H2 := Lib.hid h2.tight; have HB2 := Lib.hid hb2; have HR2 := Lib.hid hR2; have HB02 := Lib.hid hb02; have HRD2 := Lib.hid hr2
  clear h2 hb2 hR2 hb02 hr2 hR hr1 hb1 hr
  go_upto_region 2 with (fail)
  have hbE : Below w2.heap.size w2 (w2.alloc (.cells #[.pointer (some ⟨D, 0, none⟩), .int .i64 (n : Int)] 105)) := (Below.refl _ _).alloc (Nat.le_refl _) _
  have hE := Blk.new w2 105 #[.pointer (some ⟨D, 0, none⟩), .int .i64 (n : Int)]
  have h3 := H2.out.below hbE
  have hRE2 := HR2.out.below hbE HR2.out.lt
  have hRl := HR2.out.lt
  have hszE : (w2.alloc (.cells #[.pointer (some ⟨D, 0, none⟩), .int .i64 (n : Int)] 105)).heap.size = w2.heap.size + 1 := by simp
  obtain ⟨F, hF⟩ : ∃ F, F = (fun k => w1.heap.size ≤ k ∧ k < w2.heap.size) := ⟨_, rfl⟩
  rw [← hF] at h3
  obtain ⟨E, hEe⟩ : ∃ E, E = w2.heap.size := ⟨_, rfl⟩
  rw [← hEe] at hE hRl hszE hF ⊢
  obtain ⟨wE, hwE⟩ : ∃ wE, wE = w2.alloc (.cells #[.pointer (some ⟨D, 0, none⟩), .int .i64 (n : Int)] 105) := ⟨_, rfl⟩
  rw [← hwE] at h3 hbE hE hRE2 hszE ⊢
  have HB0E := Lib.hid (HB02.out.trans (hbE.mono HB02.out.size)); have HRDE := Lib.hid (HRD2.out.below (hbE.mono HB02.out.size))
  have HFE := Lib.hid (show ¬ F E by rw [hF]; intro e; have := e.2; omega)
  have HFR := Lib.hid (show ¬ F R by rw [hF]; intro e; have := e.1; have := HSZ.out; omega)
  have HFB := Lib.hid (show ∀ k, F k → w.heap.size ≤ k by rw [hF]; intro k e; have := e.1; have := HRE.out; have := HSZ.out; omega)
  have HFU := Lib.hid (show ∀ k, F k → k < E by rw [hF]; intro k e; exact e.2)
  have HE := Lib.hid hE; have H3 := Lib.hid h3; have HRE2 := Lib.hid hRE2; have HSZE := Lib.hid hszE; have HRL := Lib.hid hRl
  clear hbE hE h3 hRE2 hszE hRl hF hEe hwE H2 HB2 HR2 HB02 HRD2
  have p0 : wE.cell? ⟨E, 0, none⟩ = some (.pointer (some ⟨D, 0, none⟩)) := (HE.out.cell 0).trans rfl
  go_wp2_with fail
  clear p0
  obtain ⟨s0, hs0⟩ : ∃ ss : RS, ss = ⟨b, false⟩ := ⟨_, rfl⟩
  rw [← hs0] at H3
  have HS0 := Lib.hid hs0; clear hs0
  refine (RInt_any wE F D s0 H3.out).mono ?_
  rintro e wF ⟨rfl, hy, hky⟩
  obtain ⟨z0, hz0⟩ : ∃ zz, zz = s0.int.1 := ⟨_, rfl⟩
  obtain ⟨s1, hs1⟩ : ∃ ss, ss = s0.int.2 := ⟨_, rfl⟩
  rw [← hz0]
  rw [← hs1] at hy
  have HZ0 := Lib.hid hz0; have HS1 := Lib.hid hs1; have HY := Lib.hid hy; have HKY := Lib.hid hky
  clear hz0 hs1 hy hky H3
  go_upto_region 3 with (fail)
  have hbN : Below wF.heap.size wF (wF.alloc (.cells #[.int .i64 z0, .int .i64 0, .int .i64 0, .slice none 0 0, .slice none 0 0, .slice none 0 0] 44)) := (Below.refl _ _).alloc (Nat.le_refl _) _
  have hN := Blk.new wF 44 #[.int .i64 z0, .int .i64 0, .int .i64 0, .slice none 0 0, .slice none 0 0, .slice none 0 0]
  have hE3 := ((HE.out.keeps HKY.out HFE.out).below hbN (HE.out.keeps HKY.out HFE.out).lt)
  have hR3 := ((HRE2.out.keeps HKY.out HFR.out).below hbN (HRE2.out.keeps HKY.out HFR.out).lt)
  have h3 := HY.out.below hbN
  have hszN : (wF.alloc (.cells #[.int .i64 z0, .int .i64 0, .int .i64 0, .slice none 0 0, .slice none 0 0, .slice none 0 0] 44)).heap.size = wF.heap.size + 1 := by simp
  have hb03 : Below w.heap.size w (wF.alloc (.cells #[.int .i64 z0, .int .i64 0, .int .i64 0, .slice none 0 0, .slice none 0 0, .slice none 0 0] 44)) := (HB0E.out.trans (HKY.out.below HFB.out HB0E.out.size)).trans (hbN.mono (Nat.le_trans HB0E.out.size HKY.out.size))
  have hrd3 : Rd (wF.alloc (.cells #[.int .i64 z0, .int .i64 0, .int .i64 0, .slice none 0 0, .slice none 0 0, .slice none 0 0] 44)) w.heap.size A n b := (HRDE.out.below (HKY.out.below HFB.out HB0E.out.size)).below (hbN.mono (Nat.le_trans HB0E.out.size HKY.out.size))
  have hEl := (HE.out.keeps HKY.out HFE.out).lt
  obtain ⟨N, hNe⟩ : ∃ N, N = wF.heap.size := ⟨_, rfl⟩
  rw [← hNe] at hN hszN hEl ⊢
  obtain ⟨w3, hw3⟩ : ∃ w3, w3 = wF.alloc (.cells #[.int .i64 z0, .int .i64 0, .int .i64 0, .slice none 0 0, .slice none 0 0, .slice none 0 0] 44) := ⟨_, rfl⟩
  rw [← hw3] at hN hE3 hR3 h3 hszN hb03 hrd3 ⊢
  have hFN : ¬ F N := fun e => by have := HFU.out _ e; omega
  have hEN : E ≠ N := by omega
  have hRN : R ≠ N := by have := HRL.out; omega
  have HFN := Lib.hid hFN
  have HE3 := Lib.hid hE3; have HR3 := Lib.hid hR3; have HB3 := Lib.hid hb03; have HRD3 := Lib.hid hrd3
  have HKE := Lib.hid (show ∀ x, Keeps (Or1 F N) w3 x → Blk x E 105 #[.pointer (some ⟨D, 0, none⟩), .int .i64 (n : Int)] from fun x hk => HE3.out.keeps hk (fun e => by rcases e with e | e; exact HFE.out e; exact hEN e))
  have HKR := Lib.hid (show ∀ x, Keeps (Or1 F N) w3 x → Blk x R 44 zeroBook from fun x hk => HR3.out.keeps hk (fun e => by rcases e with e | e; exact HFR.out e; exact hRN e))
  have HF3 := Lib.hid (show ∀ k, F k → k < w3.heap.size from fun k e => by have := HFU.out _ e; omega)
  have HNL := Lib.hid (show ∀ k, w3.heap.size ≤ k → k ≠ N from fun k e => by omega)
  have hA3 : AtN w3 F D N 44 w3 #[.int .i64 z0, .int .i64 0, .int .i64 0, .slice none 0 0, .slice none 0 0, .slice none 0 0] s1 := ⟨hN, h3, Keeps.refl _ _⟩
  have HA := Lib.hid hA3
  have HNE := Lib.hid (show w.heap.size ≤ R ∧ R < w3.heap.size ∧ w.heap.size ≤ w3.heap.size ∧ N < w3.heap.size ∧ w.heap.size ≤ N from ⟨by have := HRE.out; omega, by have := HRL.out; omega, hb03.size, by omega, by have := HRL.out; have := HRE.out; omega⟩)
  clear hN hE3 hR3 h3 hszN hb03 hrd3 hbN hw3 hNe hFN hEN hRN hA3 HY HKY HE HRE2 HSZE HRL HRDE HB0E hEl
  have p0 : w3.cell? ⟨E, 0, none⟩ = some (.pointer (some ⟨D, 0, none⟩)) := ((HKE.out _ HA.out.kp).cell 0).trans rfl
  go_wp2_with fail
  refine (RInt_any w3 F D s1 HA.out.re).mono ?_
  rintro e y1 ⟨rfl, hy, hky⟩
  generalize hz : s1.int.1 = z1
  generalize hs : s1.int.2 = s2 at hy
  have HZ1 := Lib.hid hz.symm; have HS2 := Lib.hid hs.symm
  have hA := HA.out.step hy hky HFN.out
  have q : y1.cell? ⟨N, 1, none⟩ = some (.int .i64 0) := (hA.blk.cell 1).trans rfl
  have f : y1.frozen? ⟨N, 1, none⟩ = false := hA.blk.frozen 1
  go_upto_region 4 with (fail)
  have hA2 : AtN w3 F D N 44 (y1.setCell ⟨N, 1, none⟩ (.int .i64 z1)) #[.int .i64 z0, .int .i64 z1, .int .i64 0, .slice none 0 0, .slice none 0 0, .slice none 0 0] s2 := hA.put HFN.out 1 _
  obtain ⟨v1, hv⟩ : ∃ ww, ww = y1.setCell ⟨N, 1, none⟩ (.int .i64 z1) := ⟨_, rfl⟩
  rw [← hv] at hA2 ⊢
  clear hv q f p0 hA hy hky hz hs HA
  have HA := Lib.hid hA2
  clear hA2
  have p0 : v1.cell? ⟨E, 0, none⟩ = some (.pointer (some ⟨D, 0, none⟩)) := ((HKE.out _ HA.out.kp).cell 0).trans rfl
  go_wp2_with fail
  refine (RInt_any v1 F D s2 HA.out.re).mono ?_
  rintro e y2 ⟨rfl, hy, hky⟩
  generalize hz : s2.int.1 = z2
  generalize hs : s2.int.2 = s3 at hy
  have HZ2 := Lib.hid hz.symm; have HS3 := Lib.hid hs.symm
  have hA := HA.out.step hy hky HFN.out
  have q : y2.cell? ⟨N, 2, none⟩ = some (.int .i64 0) := (hA.blk.cell 2).trans rfl
  have f : y2.frozen? ⟨N, 2, none⟩ = false := hA.blk.frozen 2
  go_upto_region 5 with (fail)
  have hA2 : AtN w3 F D N 44 (y2.setCell ⟨N, 2, none⟩ (.int .i64 z2)) #[.int .i64 z0, .int .i64 z1, .int .i64 z2, .slice none 0 0, .slice none 0 0, .slice none 0 0] s3 := hA.put HFN.out 2 _
  obtain ⟨v2, hv⟩ : ∃ ww, ww = y2.setCell ⟨N, 2, none⟩ (.int .i64 z2) := ⟨_, rfl⟩
  rw [← hv] at hA2 ⊢
  clear hv q f p0 hA hy hky hz hs HA
  have HA := Lib.hid hA2
  clear hA2
  have p0 : v2.cell? ⟨E, 0, none⟩ = some (.pointer (some ⟨D, 0, none⟩)) := ((HKE.out _ HA.out.kp).cell 0).trans rfl
  go_wp2_with (refine wpList_load_row rfl 105 (.tmp 4) rfl E rfl _ _ _ _ (HKE.out _ HA.out.kp) Try.underlying105 rfl (by kernel_rfl) ?_)
  refine (EyeCount_any v2 F D s3 n (fun k e => Nat.lt_of_lt_of_le (HF3.out k e) HA.out.kp.size) HA.out.re hn).mono ?_
  rintro e v3 ⟨rfl, hy, hky⟩
  have hcm := count_le s3 n
  generalize hk1 : s3.count n = k1 at hcm ⊢
  generalize hs : s3.int.2 = s4 at hy
  have HK1 := Lib.hid hk1.symm; have HS4 := Lib.hid hs.symm; have HCM1 := Lib.hid (Nat.le_trans hcm hn)
  have hA := HA.out.step hy hky HFN.out
  clear hy hky hk1 hs HA hcm p0
  have HA := Lib.hid hA
  clear hA
  go_wp2_with fail
  go_loopw [28] (fun q wr => ∃ j : Nat, j ≤ k1 ∧ q = .int .i64 (j : Int) ∧ ∃ A c, AtN w3 F D N 44 wr #[.int .i64 z0, .int .i64 z1, .int .i64 z2, .slice A j c, .slice none 0 0, .slice none 0 0] (s4.headsN j).2 ∧ wr.ownsRow w3.heap.size 35 2 (.slice A j c) j ((s4.headsN j).1.flatMap headC)) (fun q _ => k1 - (intOf q).toNat)
  case atStart => exact ⟨0, by omega, rfl, none, 0, by rw [headsN_zero]; exact HA.out, by rw [headsN_zero]; exact World.ownsRow_nil _ _ _ _⟩
  case round =>
    obtain ⟨j, hj, rfl, A1, c1, ha, hv⟩ := hrel
    have HAJ := Lib.hid ha; have HV := Lib.hid hv
    have hkb := HCM1.out
    clear ha hv
    by_cases hjk : j < k1
    · have hjk' : (j : Int) < (k1 : Int) := by omega
      have p0 : wr.cell? ⟨E, 0, none⟩ = some (.pointer (some ⟨D, 0, none⟩)) := ((HKE.out _ HAJ.out.kp).cell 0).trans rfl
      go_wp2_with fail
      refine (RBytes_any wr F D _ HAJ.out.re).mono ?_
      rintro e wx ⟨vx, rfl, ⟨Ax, cx, rfl, hrx, _⟩, hx, hkx⟩
      have hvx := row_keeps HV.out hkx (fun kk e hf => by have h1 := (HV.out.lt kk e).1; have h2 := HF3.out _ hf; omega)
      have hax := HAJ.out.step hx hkx HFN.out
      have HRX := Lib.hid hrx; have HVX := Lib.hid hvx; have HAX := Lib.hid hax
      generalize hid : (s4.headsN j).2.bytes.1 = idb at HRX ⊢
      have HID := Lib.hid hid.symm
      clear hrx hx hkx hvx hax p0 hid
      go_upto_region 8 with (refine wpList_str rfl 64 9 5 (.tmp 32) rfl Ax _ cx idb rfl Try.underlying64 Try.underlying5 Try.underlying9 _ HRX.out ?_)
      have hk0 := (Keeps.refl (fun _ => False) wx).alloc (.cells #[.string ⟨idb.toArray⟩, .int .i64 0] 35)
      have hay := HAX.out.fresh hk0 (fun _ e => e.elim) HNE.out.2.2.2.1 HF3.out
      have hvy : (wx.alloc (.cells #[.string ⟨idb.toArray⟩, .int .i64 0] 35)).ownsRow w3.heap.size 35 2 (.slice A1 j c1) j ((s4.headsN j).1.flatMap headC) := World.ownsRow.alloc HVX.out _
      have hq := Blk.new wx 35 #[.string ⟨idb.toArray⟩, .int .i64 0]
      have hgl : w3.heap.size ≤ wx.heap.size := HAX.out.kp.size
      have hgo : ∀ k, (Value.slice A1 j c1).ownBlock = some k → k ≠ wx.heap.size := fun k e => Nat.ne_of_lt (HVX.out.lt k e).2
      obtain ⟨g, hg⟩ : ∃ g, g = wx.heap.size := ⟨_, rfl⟩
      rw [← hg] at hq hgl hgo ⊢
      obtain ⟨wy, hwy⟩ : ∃ wy, wy = wx.alloc (.cells #[.string ⟨idb.toArray⟩, .int .i64 0] 35) := ⟨_, rfl⟩
      rw [← hwy] at hay hvy hq ⊢
      clear hwy hg hk0
      have p0 : wy.cell? ⟨E, 0, none⟩ = some (.pointer (some ⟨D, 0, none⟩)) := ((HKE.out _ hay.kp).cell 0).trans rfl
      have hgF : ¬ F g := fun e => by have := HF3.out _ e; omega
      have HAY := Lib.hid hay; have HVY := Lib.hid hvy; have HQ := Lib.hid hq; have HGL := Lib.hid hgl; have HGO := Lib.hid hgo; have HGF := Lib.hid hgF
      clear hay hvy hq hgl hgo hgF
      go_wp2_with fail
      refine (RInt_any wy F D _ HAY.out.re).mono ?_
      rintro e wz ⟨rfl, hz, hkz⟩
      have hst := headsN_succ s4 j
      have hx1 : (s4.headsN j).2.head.1 = ⟨idb, (s4.headsN j).2.bytes.2.int.1⟩ := by rw [HID.out]; rfl
      have hx2 : (s4.headsN j).2.head.2 = (s4.headsN j).2.bytes.2.int.2 := rfl
      rw [hx1, hx2] at hst
      generalize (s4.headsN j).2.bytes.2.int.1 = x at hst ⊢
      generalize (s4.headsN j).2.bytes.2.int.2 = sN at hst hz
      have haz := HAY.out.step hz hkz HFN.out
      have hvz := row_keeps HVY.out hkz (fun kk e hf => by have h1 := (HVY.out.lt kk e).1; have h2 := HF3.out _ hf; omega)
      have hqz := HQ.out.keeps hkz HGF.out
      have q1 : wz.cell? ⟨g, 1, none⟩ = some (.int .i64 0) := (hqz.cell 1).trans rfl
      have f1 : wz.frozen? ⟨g, 1, none⟩ = false := hqz.frozen 1
      have HAZ := Lib.hid haz; have HVZ := Lib.hid hvz; have HQZ := Lib.hid hqz; have HST := Lib.hid hst
      clear haz hvz hqz hz hkz hst hx1 hx2 p0
      go_upto_region 9 with (fail)
      have hk1 := (Keeps.refl (fun k => k = g) wz).setCell (p := ⟨g, 1, none⟩) rfl (.int .i64 x)
      have haw := HAZ.out.fresh hk1 (fun k e => by rw [e]; exact HGL.out) HNE.out.2.2.2.1 HF3.out
      have hvw := row_keeps HVZ.out hk1 (fun kk e e2 => HGO.out kk e e2)
      have hqw := HQZ.out.set_ 1 (.int .i64 x)
      obtain ⟨W, hW⟩ : ∃ W, W = wz.setCell ⟨g, 1, none⟩ (.int .i64 x) := ⟨_, rfl⟩
      rw [← hW] at haw hvw hqw ⊢
      have hqw' : Blk W g 35 #[.string ⟨idb.toArray⟩, .int .i64 x] := hqw
      clear hW hk1 q1 f1 hqw
      have q3 : W.cell? ⟨N, 3, none⟩ = some (.slice A1 j c1) := (haw.blk.cell 3).trans rfl
      have hbq : Below W.heap.size W (W.alloc (.cells #[.string ⟨idb.toArray⟩, .int .i64 x] 35)) := (Below.refl _ _).alloc (Nat.le_refl _) _
      have hvq : (W.alloc (.cells #[.string ⟨idb.toArray⟩, .int .i64 x] 35)).ownsRow w3.heap.size 35 2 (.slice A1 j c1) j ((s4.headsN j).1.flatMap headC) := World.ownsRow.alloc hvw _
      have hqq := Blk.new W 35 [Value.string ⟨idb.toArray⟩, Value.int .i64 x].toArray
      obtain ⟨i0, hi0, hz0, hz1, hz2⟩ := info_parts head_info
      have HI0 := Lib.hid (And.intro hi0 (And.intro hz0 (And.intro hz1 hz2)))
      have HAW := Lib.hid haw; have HVQ := Lib.hid hvq; have HQQ := Lib.hid hqq; have HQW := Lib.hid hqw'; have HBQ := Lib.hid hbq
      clear hi0 hz0 hz1 hz2 haw hvw hvq hqq hqw' hbq
      go_wp2_with (first | (refine wpList_load_row rfl 35 (.tmp 6) rfl g rfl _ _ _ _ HQW.out Try.underlying35 rfl (by kernel_rfl) ?_) | (at_builtin; refine wpList_append_any _ rfl (.tmp 40) (.tmp 42) _ rfl w3.heap.size 35 i0 _ 2 24 Try.underlying41 HI0.out.1 HI0.out.2.1 HI0.out.2.2.1 HI0.out.2.2.2 rfl (by omega) _ j _ rfl HVQ.out _ (some ⟨W.heap.size, 0, none⟩) 1 1 [.string ⟨idb.toArray⟩, .int .i64 x] rfl (reads_row HQQ.out rfl) (by intro u hu; simp only [List.mem_cons, List.not_mem_nil, or_false] at hu; rcases hu with rfl | rfl <;> rfl) (by simp only [maxLen]; have := HCM1.out; omega) (by have := HCM1.out; omega) (by have := HBQ.out.size; have := HAW.out.kp.size; omega) ?_; intro v' w' hown' hg' hat'; obtain ⟨A', c', rfl⟩ := row_shape hown'; have hko := ((Keeps.refl (fun k => (Value.slice A1 j c1).ownBlock = some k) W).alloc (.cells #[.string ⟨idb.toArray⟩, .int .i64 x] 35)).grown hg' (fun kk e => Or.inr e); have haf := HAW.out.fresh hko (fun k e => (HVQ.out.lt k e).1) HNE.out.2.2.2.1 HF3.out; have q3' : w'.cell? ⟨N, 3, none⟩ = some (.slice A1 j c1) := (haf.blk.cell 3).trans rfl; have f3' : w'.frozen? ⟨N, 3, none⟩ = false := haf.blk.frozen 3))
      have hfin := haf.put HFN.out 3 (.slice A' (j + 1) c')
      have hvf := row_keeps hown' ((Keeps.refl (fun k => k = N) w').setCell (p := ⟨N, 3, none⟩) rfl (.slice A' (j + 1) c')) (fun kk e e2 => by have h1 := (hown'.lt kk e).1; have h2 := HNE.out.2.2.2.1; omega)
      have HFIN := Lib.hid hfin; have HVF := Lib.hid hvf
      clear hfin hvf hown' hg' hat' hko haf q3 q3' f3'
      go_roundw
      case rel => exact ⟨j + 1, by omega, by go_num, A', c', by rw [HST.out]; exact HFIN.out, by rw [HST.out, List.flatMap_append]; exact HVF.out⟩
      case measure => simp [intOf]; omega
    · obtain rfl : j = k1 := by omega
      obtain ⟨A', c', e1, hrd, hab⟩ := headsRd_of (l := (s4.headsN j).1) (by rw [headsN_length]; exact HV.out)
      obtain ⟨rfl, rfl⟩ : A1 = A' ∧ c1 = c' := by injection e1 with q1 q2 q3; exact ⟨q1, q3⟩
      have hll := headsN_length s4 j
      have hod := HV.out
      generalize hz : (s4.headsN j).1 = z3 at hrd hll hod
      generalize hs : (s4.headsN j).2 = s5 at HAJ
      rw [← hll] at HAJ hod ⊢
      have HOD := Lib.hid hod
      clear hod
      have HRD := Lib.hid hrd; have HAB := Lib.hid hab; have HZ3 := Lib.hid hz.symm; have HS5 := Lib.hid hs.symm; have HLL := Lib.hid hll
      clear hrd hab hz hs hll e1 HV
      go_wp2_with (refine wpList_load_row rfl 105 (.tmp 4) rfl E rfl _ _ _ _ (HKE.out _ HAJ.out.kp) Try.underlying105 rfl (by kernel_rfl) ?_)
      refine (EyeCount_any wr F D s5 n (fun k e => Nat.lt_of_lt_of_le (HF3.out k e) HAJ.out.kp.size) HAJ.out.re hn).mono ?_
      rintro e v4 ⟨rfl, hy, hky⟩
      have hcm := count_le s5 n
      generalize hk1 : s5.count n = k2 at hcm ⊢
      generalize hs : s5.int.2 = s6 at hy
      have HK2 := Lib.hid hk1.symm; have HS6 := Lib.hid hs.symm; have HCM2 := Lib.hid (Nat.le_trans hcm hn)
      have hA := HAJ.out.step hy hky HFN.out
      have HOD4 := Lib.hid (row_keeps HOD.out hky (fun kk e hf => by have h1 := (HOD.out.lt kk e).1; have h2 := HF3.out _ hf; omega))
      have hrd4 := (HRD.out.off hky (Nat.le_refl _) (fun ad e _ hf => by have h1 := HAB.out ad e; have h2 := HF3.out _ hf; omega)).more hky.size
      clear hy hky hk1 hs hcm HRD HAJ
      have HA := Lib.hid hA; have HRD := Lib.hid hrd4
      clear hA hrd4
      go_wp2_with fail
      have HNB := Lib.hid (show N < v4.heap.size from Nat.lt_of_lt_of_le HNE.out.2.2.2.1 HA.out.kp.size); have HFBB := Lib.hid (show ∀ k, F k → k < v4.heap.size from fun k e => Nat.lt_of_lt_of_le (HF3.out k e) HA.out.kp.size)
      have HKP := Lib.hid HA.out.kp
      go_loopw [48] (fun q wr => ∃ j : Nat, j ≤ k2 ∧ q = .int .i64 (j : Int) ∧ ∃ A c, AtN v4 F D N 44 wr #[.int .i64 z0, .int .i64 z1, .int .i64 z2, .slice A1 z3.length c1, .slice A j c, .slice none 0 0] (s6.ints j).2 ∧ wr.ownsRow v4.heap.size 4 1 (.slice A j c) j ((s6.ints j).1.map (fun z => Value.bool (z == 1)))) (fun q _ => k2 - (intOf q).toNat)
      case atStart => exact ⟨0, by omega, rfl, none, 0, by rw [ints_zero]; exact HA.out.here, by rw [ints_zero]; exact World.ownsRow_nil _ _ _ _⟩
      case round =>
        obtain ⟨j, hj, rfl, Ai, ci, ha, hv⟩ := hrel
        have HAJ := Lib.hid ha; have HV := Lib.hid hv; have hkb := HCM2.out
        clear ha hv
        by_cases hjk : j < k2
        · have hjk' : (j : Int) < (k2 : Int) := by omega
          have p0 : wr.cell? ⟨E, 0, none⟩ = some (.pointer (some ⟨D, 0, none⟩)) := ((HKE.out _ (HKP.out.trans HAJ.out.kp (fun _ _ e => e))).cell 0).trans rfl
          have q4 : wr.cell? ⟨N, 4, none⟩ = some (.slice Ai j ci) := (HAJ.out.blk.cell 4).trans rfl
          go_wp2_with fail
          refine wp_region_anyDN (TwoCells ⟨N, 4, none⟩ ⟨E, 0, none⟩ (.slice Ai j ci) (.pointer (some ⟨D, 0, none⟩))) 9 (by kernel_rfl) ?_
          refine anyD_takes (by kernel_rfl) (fun _ _ _ _ _ h => h) [0, 1, 2, 3] 6 _ _ (by kernel_rfl) ?_
          simp only [List.filterMap_cons, List.filterMap_nil, List.getElem?_toArray, List.getElem?_cons_succ, List.getElem?_cons_zero]
          show wpQuiet _ _ _ _ (_ :: _ :: _ :: _ :: List.nil) _
          repeat (first | go_big_quiet_skip | (go_big_quiet_want; first | (refine quiet_load 42 (.tmp 50) rfl ⟨N, 4, none⟩ rfl _ (fun W hW => hW.1) (fun _ => by kernel_rfl) ?_; simp only [Act.put, List.setIfInBounds_toArray, List.set_cons_succ, List.set_cons_zero]; go_big_quiet_on) | (refine quiet_load _ (.tmp 52) rfl ⟨E, 0, none⟩ rfl _ (fun W hW => hW.2) (fun _ => by kernel_rfl) ?_; simp only [Act.put, List.setIfInBounds_toArray, List.set_cons_succ, List.set_cons_zero]; go_big_quiet_on) | (go_big_quiet_op; first | go_big_quiet_on | (refine ⟨_, fun _ _ => rfl, ?_⟩; go_big_quiet_on))))
          refine wpQuiet_nil ?_
          refine anyD_only (i := 4) rfl (by kernel_rfl) ⟨q4, p0⟩ ?_
          go_wp2_with fail
          refine (RInt_any wr.drew F D _ (HAJ.out.re.below ((Below.refl _ _).drew))).mono ?_
          rintro e wx ⟨rfl, hx, hkx⟩
          have hkx' : Keeps F wr wx := ((Keeps.refl F wr).drew).trans hkx (fun _ _ e => e)
          have hst := ints_succ s6 j
          generalize (s6.ints j).2.int.1 = x at hst ⊢
          generalize (s6.ints j).2.int.2 = sN at hst hx
          have hax := HAJ.out.step hx hkx' HFN.out
          have hvx := row_keeps HV.out hkx' (fun kk e hf => by have h1 := (HV.out.lt kk e).1; have h2 := HFBB.out _ hf; omega)
          have q4x : wx.cell? ⟨N, 4, none⟩ = some (.slice Ai j ci) := (hax.blk.cell 4).trans rfl
          have p0x : wx.cell? ⟨E, 0, none⟩ = some (.pointer (some ⟨D, 0, none⟩)) := ((HKE.out _ (HKP.out.trans hax.kp (fun _ _ e => e))).cell 0).trans rfl
          have HAX := Lib.hid hax; have HVX := Lib.hid hvx; have HST := Lib.hid hst
          clear hax hvx hst hx hkx hkx' p0 q4
          go_wp2_with fail
          refine anyD_takes (by kernel_rfl) (fun _ _ _ _ _ h => h) [5] 4 _ _ (by kernel_rfl) ?_
          simp only [List.filterMap_cons, List.filterMap_nil, List.getElem?_toArray, List.getElem?_cons_succ, List.getElem?_cons_zero]
          show wpQuiet _ _ _ _ (_ :: List.nil) _
          repeat (first | go_big_quiet_skip | (go_big_quiet_want; first | (fail; simp only [Act.put, List.setIfInBounds_toArray, List.set_cons_succ, List.set_cons_zero]; go_big_quiet_on) | (go_big_quiet_op; first | go_big_quiet_on | (refine ⟨_, fun _ _ => rfl, ?_⟩; go_big_quiet_on))))
          refine wpQuiet_nil ?_
          refine anyD_only (i := 6) rfl (by kernel_rfl) ⟨q4x, p0x⟩ ?_
          go_wp2_with fail
          have hk0 := (Keeps.refl (fun _ => False) wx).alloc (.cells #[.bool (x == 1)] 4)
          have hay := HAX.out.fresh hk0 (fun _ e => e.elim) HNB.out HFBB.out
          have hvq : (wx.alloc (.cells #[.bool (x == 1)] 4)).ownsRow v4.heap.size 4 1 (.slice Ai j ci) j ((s6.ints j).1.map (fun z => Value.bool (z == 1))) := World.ownsRow.alloc HVX.out _
          have hqq := Blk.new wx 4 [.bool (x == 1)].toArray
          have hbq : Below wx.heap.size wx (wx.alloc (.cells #[.bool (x == 1)] 4)) := (Below.refl _ _).alloc (Nat.le_refl _) _
          obtain ⟨i0, hi0, hz0, hz1, hz2⟩ := info_parts bool_info
          have HI0 := Lib.hid (And.intro hi0 (And.intro hz0 (And.intro hz1 hz2)))
          have q4y : (wx.alloc (.cells #[.bool (x == 1)] 4)).cell? ⟨N, 4, none⟩ = some (.slice Ai j ci) := (hay.blk.cell 4).trans rfl
          have p0y : (wx.alloc (.cells #[.bool (x == 1)] 4)).cell? ⟨E, 0, none⟩ = some (.pointer (some ⟨D, 0, none⟩)) := ((HKE.out _ (HKP.out.trans hay.kp (fun _ _ e => e))).cell 0).trans rfl
          have HAY := Lib.hid hay; have HVQ := Lib.hid hvq; have HQQ := Lib.hid hqq; have HBQ := Lib.hid hbq
          clear hi0 hz0 hz1 hz2 hay hvq hqq hbq hk0 q4x p0x
          refine anyD_only (i := 7) rfl (by kernel_rfl) ⟨q4y, p0y⟩ ?_
          clear q4y p0y
          refine wpList_append_any _ rfl (.tmp 51) (.tmp 56) _ rfl v4.heap.size 4 i0 _ 1 1 Try.underlying42 HI0.out.1 HI0.out.2.1 HI0.out.2.2.1 HI0.out.2.2.2 rfl (by omega) _ j _ rfl HVQ.out _ (some ⟨wx.heap.size, 0, none⟩) 1 1 [.bool (x == 1)] rfl (reads_row HQQ.out rfl) (by intro u hu; simp only [List.mem_singleton] at hu; subst hu; rfl) (by simp only [maxLen]; omega) (by omega) (by have := HBQ.out.size; have := HAX.out.kp.size; omega) ?_
          intro v' w' hown' hg' hat'
          obtain ⟨A', c', rfl⟩ := row_shape hown'
          have hko := (Keeps.refl (fun k => (Value.slice Ai j ci).ownBlock = some k) (wx.alloc (.cells #[.bool (x == 1)] 4))).grown hg' (fun kk e => Or.inr e)
          have haf := HAY.out.fresh hko (fun k e => (HVQ.out.lt k e).1) HNB.out HFBB.out
          have q3' : w'.cell? ⟨N, 4, none⟩ = some (.slice Ai j ci) := (haf.blk.cell 4).trans rfl
          have f3' : w'.frozen? ⟨N, 4, none⟩ = false := haf.blk.frozen 4
          simp only [List.getElem_toArray, List.getElem_cons_succ, List.getElem_cons_zero, Act.put, List.setIfInBounds_toArray, List.set_cons_succ, List.set_cons_zero]
          go_wp2_with fail
          refine anyD_takes (by kernel_rfl) (fun _ _ _ _ _ h => h) [8] 1 _ _ (by kernel_rfl) ?_
          simp only [List.filterMap_cons, List.filterMap_nil, List.getElem?_toArray, List.getElem?_cons_succ, List.getElem?_cons_zero]
          show wpQuiet _ _ _ _ (_ :: List.nil) _
          repeat (first | go_big_quiet_skip | (go_big_quiet_want; first | (fail; simp only [Act.put, List.setIfInBounds_toArray, List.set_cons_succ, List.set_cons_zero]; go_big_quiet_on) | (go_big_quiet_op; first | go_big_quiet_on | (refine ⟨_, fun _ _ => rfl, ?_⟩; go_big_quiet_on))))
          refine wpQuiet_nil ?_
          refine anyD_only (i := 9) rfl (by kernel_rfl) ⟨q3', ((HKE.out _ (HKP.out.trans haf.kp (fun _ _ e => e))).cell 0).trans rfl⟩ ?_
          go_wp2_with fail
          refine anyD_end (by kernel_rfl) (by kernel_rfl) ?_
          go_wp2_with fail
          have hfin := haf.put HFN.out 4 (.slice A' (j + 1) c')
          have hvf := row_keeps hown' ((Keeps.refl (fun k => k = N) w').setCell (p := ⟨N, 4, none⟩) rfl (.slice A' (j + 1) c')) (fun kk e e2 => by have h1 := (hown'.lt kk e).1; have h2 := HNB.out; omega)
          have HFIN := Lib.hid hfin; have HVF := Lib.hid hvf
          clear hfin hvf hown' hg' hat' hko haf q3' f3'
          go_roundw
          case rel => exact ⟨j + 1, by omega, by go_num, A', c', by rw [HST.out]; exact HFIN.out, by rw [HST.out, List.map_append]; exact HVF.out⟩
          case measure => simp [intOf]; omega
        · obtain rfl : j = k2 := by omega
          obtain ⟨A', c', e1, hrd, hab⟩ := readsRow_of HV.out
          obtain ⟨rfl, rfl⟩ : Ai = A' ∧ ci = c' := by injection e1 with q1 q2 q3; exact ⟨q1, q3⟩
          have hll : ((s6.ints j).1.map (fun z => z == 1)).length = j := by rw [List.length_map, ints_length]
          have hmm : (s6.ints j).1.map (fun z => Value.bool (z == 1)) = ((s6.ints j).1.map (fun z => z == 1)).map Value.bool := by rw [List.map_map]; rfl
          have hou := HV.out
          rw [hmm] at hrd hou
          generalize hz : (s6.ints j).1.map (fun z => z == 1) = z4 at hrd hll hou
          generalize hs : (s6.ints j).2 = s7 at HAJ
          rw [← hll] at HAJ hrd hou ⊢
          have HOU := Lib.hid hou
          clear hou
          have HUP := Lib.hid hrd; have HABU := Lib.hid (show ∀ ad, Ai = some ad → w3.heap.size ≤ ad.block from fun ad e => Nat.le_trans HA.out.kp.size (hab ad e)); have HZ4 := Lib.hid hz.symm; have HS7 := Lib.hid hs.symm; have HLL2 := Lib.hid hll
          have HOD5 := Lib.hid (row_keeps HOD4.out HAJ.out.kp (fun kk e hf => by have h1 := (HOD4.out.lt kk e).1; have h3 := HNE.out.2.2.2.1; rcases hf with hf | hf; (have h2 := HF3.out _ hf; omega); omega))
          have HRD5 := Lib.hid ((HRD.out.off HAJ.out.kp (Nat.le_refl _) (fun ad e _ hf => by have h1 := HAB.out ad e; have h3 := HNE.out.2.2.2.1; rcases hf with hf | hf; (have h2 := HF3.out _ hf; omega); omega)).more HAJ.out.kp.size)
          have HAKS := Lib.hid HA.out.kp.size
          have hA := HA.out.trans HAJ.out
          clear hrd hab hz hs hll e1 HV hmm HAJ HA HRD HKP
          have HAJ := Lib.hid hA
          go_wp2_with (refine wpList_load_row rfl 105 (.tmp 4) rfl E rfl _ _ _ _ (HKE.out _ HAJ.out.kp) Try.underlying105 rfl (by kernel_rfl) ?_)
          refine (EyeCount_any wr F D s7 n (fun k e => Nat.lt_of_lt_of_le (HF3.out k e) HAJ.out.kp.size) HAJ.out.re hn).mono ?_
          rintro e v5 ⟨rfl, hy, hky⟩
          have hcm := count_le s7 n
          generalize hk1 : s7.count n = k3 at hcm ⊢
          generalize hs : s7.int.2 = s8 at hy
          have HK3 := Lib.hid hk1.symm; have HS8 := Lib.hid hs.symm; have HCM3 := Lib.hid (Nat.le_trans hcm hn)
          have hA5 := HAJ.out.step hy hky HFN.out
          have HOD6 := Lib.hid (row_keeps HOD5.out hky (fun kk e hf => by have h1 := (HOD5.out.lt kk e).1; have h2 := HF3.out _ hf; omega))
          have HOU6 := Lib.hid (row_keeps HOU.out hky (fun kk e hf => by have h1 := (HOU.out.lt kk e).1; have h4 := hA.kp.size; have h5 := HAKS.out; have h2 := HF3.out _ hf; omega))
          have hrd5 := (HRD5.out.off hky (Nat.le_refl _) (fun ad e _ hf => by have h1 := HAB.out ad e; have h2 := HF3.out _ hf; omega)).more hky.size
          have hup5 := (reads_off HUP.out hky (Nat.le_refl _) (fun ad e _ hf => by have h1 := HABU.out ad e; have h2 := HF3.out _ hf; omega)).more hky.size
          clear hy hky hk1 hs hcm HRD5 HAJ hA HUP
          have HA := Lib.hid hA5; have HRD := Lib.hid hrd5; have HUP := Lib.hid hup5
          clear hA5 hrd5 hup5 HNB HFBB hj hjk hkb
          obtain ⟨A2, hA2⟩ : ∃ A2, A2 = Ai := ⟨_, rfl⟩
          obtain ⟨c2, hc2⟩ : ∃ c2, c2 = ci := ⟨_, rfl⟩
          rw [← hA2, ← hc2] at HA
          rw [← hA2] at HUP HABU
          rw [← hA2, ← hc2] at HOU6
          clear hA2 hc2
          go_wp2_with fail
          have HNB := Lib.hid (show N < v5.heap.size from Nat.lt_of_lt_of_le HNE.out.2.2.2.1 HA.out.kp.size); have HFBB := Lib.hid (show ∀ k, F k → k < v5.heap.size from fun k e => Nat.lt_of_lt_of_le (HF3.out k e) HA.out.kp.size)
          have HKP := Lib.hid HA.out.kp
          go_loopw [62] (fun q wr => ∃ j : Nat, j ≤ k3 ∧ q = .int .i64 (j : Int) ∧ ∃ A c, AtN v5 F D N 44 wr #[.int .i64 z0, .int .i64 z1, .int .i64 z2, .slice A1 z3.length c1, .slice A2 z4.length c2, .slice A j c] (s8.ints j).2 ∧ wr.ownsRow v5.heap.size 3 1 (.slice A j c) j ((s8.ints j).1.map (Value.int .i64))) (fun q _ => k3 - (intOf q).toNat)
          case atStart => exact ⟨0, by omega, rfl, none, 0, by rw [ints_zero]; exact HA.out.here, by rw [ints_zero]; exact World.ownsRow_nil _ _ _ _⟩
          case round =>
            obtain ⟨j, hj, rfl, Ai, ci, ha, hv⟩ := hrel
            have HAJ := Lib.hid ha; have HV := Lib.hid hv; have hkb := HCM3.out
            clear ha hv
            by_cases hjk : j < k3
            · have hjk' : (j : Int) < (k3 : Int) := by omega
              have p0 : wr.cell? ⟨E, 0, none⟩ = some (.pointer (some ⟨D, 0, none⟩)) := ((HKE.out _ (HKP.out.trans HAJ.out.kp (fun _ _ e => e))).cell 0).trans rfl
              have q4 : wr.cell? ⟨N, 5, none⟩ = some (.slice Ai j ci) := (HAJ.out.blk.cell 5).trans rfl
              go_wp2_with fail
              refine wp_region_anyDN (TwoCells ⟨N, 5, none⟩ ⟨E, 0, none⟩ (.slice Ai j ci) (.pointer (some ⟨D, 0, none⟩))) 8 (by kernel_rfl) ?_
              refine anyD_takes (by kernel_rfl) (fun _ _ _ _ _ h => h) [0, 1, 2, 3] 5 _ _ (by kernel_rfl) ?_
              simp only [List.filterMap_cons, List.filterMap_nil, List.getElem?_toArray, List.getElem?_cons_succ, List.getElem?_cons_zero]
              show wpQuiet _ _ _ _ (_ :: _ :: _ :: _ :: List.nil) _
              repeat (first | go_big_quiet_skip | (go_big_quiet_want; first | (refine quiet_load 36 (.tmp 64) rfl ⟨N, 5, none⟩ rfl _ (fun W hW => hW.1) (fun _ => by kernel_rfl) ?_; simp only [Act.put, List.setIfInBounds_toArray, List.set_cons_succ, List.set_cons_zero]; go_big_quiet_on) | (refine quiet_load _ (.tmp 66) rfl ⟨E, 0, none⟩ rfl _ (fun W hW => hW.2) (fun _ => by kernel_rfl) ?_; simp only [Act.put, List.setIfInBounds_toArray, List.set_cons_succ, List.set_cons_zero]; go_big_quiet_on) | (go_big_quiet_op; first | go_big_quiet_on | (refine ⟨_, fun _ _ => rfl, ?_⟩; go_big_quiet_on))))
              refine wpQuiet_nil ?_
              refine anyD_only (i := 4) rfl (by kernel_rfl) ⟨q4, p0⟩ ?_
              go_wp2_with fail
              refine (RInt_any wr.drew F D _ (HAJ.out.re.below ((Below.refl _ _).drew))).mono ?_
              rintro e wx ⟨rfl, hx, hkx⟩
              have hkx' : Keeps F wr wx := ((Keeps.refl F wr).drew).trans hkx (fun _ _ e => e)
              have hst := ints_succ s8 j
              generalize (s8.ints j).2.int.1 = x at hst ⊢
              generalize (s8.ints j).2.int.2 = sN at hst hx
              have hax := HAJ.out.step hx hkx' HFN.out
              have hvx := row_keeps HV.out hkx' (fun kk e hf => by have h1 := (HV.out.lt kk e).1; have h2 := HFBB.out _ hf; omega)
              have q4x : wx.cell? ⟨N, 5, none⟩ = some (.slice Ai j ci) := (hax.blk.cell 5).trans rfl
              have p0x : wx.cell? ⟨E, 0, none⟩ = some (.pointer (some ⟨D, 0, none⟩)) := ((HKE.out _ (HKP.out.trans hax.kp (fun _ _ e => e))).cell 0).trans rfl
              have HAX := Lib.hid hax; have HVX := Lib.hid hvx; have HST := Lib.hid hst
              clear hax hvx hst hx hkx hkx' p0 q4
              go_wp2_with fail
              refine anyD_only (i := 5) rfl (by kernel_rfl) ⟨q4x, p0x⟩ ?_
              go_wp2_with fail
              have hk0 := (Keeps.refl (fun _ => False) wx).alloc (.cells #[.int .i64 x] 3)
              have hay := HAX.out.fresh hk0 (fun _ e => e.elim) HNB.out HFBB.out
              have hvq : (wx.alloc (.cells #[.int .i64 x] 3)).ownsRow v5.heap.size 3 1 (.slice Ai j ci) j ((s8.ints j).1.map (Value.int .i64)) := World.ownsRow.alloc HVX.out _
              have hqq := Blk.new wx 3 [.int .i64 x].toArray
              have hbq : Below wx.heap.size wx (wx.alloc (.cells #[.int .i64 x] 3)) := (Below.refl _ _).alloc (Nat.le_refl _) _
              obtain ⟨i0, hi0, hz0, hz1, hz2⟩ := info_parts i64_info
              have HI0 := Lib.hid (And.intro hi0 (And.intro hz0 (And.intro hz1 hz2)))
              have q4y : (wx.alloc (.cells #[.int .i64 x] 3)).cell? ⟨N, 5, none⟩ = some (.slice Ai j ci) := (hay.blk.cell 5).trans rfl
              have p0y : (wx.alloc (.cells #[.int .i64 x] 3)).cell? ⟨E, 0, none⟩ = some (.pointer (some ⟨D, 0, none⟩)) := ((HKE.out _ (HKP.out.trans hay.kp (fun _ _ e => e))).cell 0).trans rfl
              have HAY := Lib.hid hay; have HVQ := Lib.hid hvq; have HQQ := Lib.hid hqq; have HBQ := Lib.hid hbq
              clear hi0 hz0 hz1 hz2 hay hvq hqq hbq hk0 q4x p0x
              refine anyD_only (i := 6) rfl (by kernel_rfl) ⟨q4y, p0y⟩ ?_
              clear q4y p0y
              refine wpList_append_any _ rfl (.tmp 65) (.tmp 69) _ rfl v5.heap.size 3 i0 _ 1 8 Try.underlying36 HI0.out.1 HI0.out.2.1 HI0.out.2.2.1 HI0.out.2.2.2 rfl (by omega) _ j _ rfl HVQ.out _ (some ⟨wx.heap.size, 0, none⟩) 1 1 [.int .i64 x] rfl (reads_row HQQ.out rfl) (by intro u hu; simp only [List.mem_singleton] at hu; subst hu; rfl) (by simp only [maxLen]; omega) (by omega) (by have := HBQ.out.size; have := HAX.out.kp.size; omega) ?_
              intro v' w' hown' hg' hat'
              obtain ⟨A', c', rfl⟩ := row_shape hown'
              have hko := (Keeps.refl (fun k => (Value.slice Ai j ci).ownBlock = some k) (wx.alloc (.cells #[.int .i64 x] 3))).grown hg' (fun kk e => Or.inr e)
              have haf := HAY.out.fresh hko (fun k e => (HVQ.out.lt k e).1) HNB.out HFBB.out
              have q3' : w'.cell? ⟨N, 5, none⟩ = some (.slice Ai j ci) := (haf.blk.cell 5).trans rfl
              have f3' : w'.frozen? ⟨N, 5, none⟩ = false := haf.blk.frozen 5
              simp only [List.getElem_toArray, List.getElem_cons_succ, List.getElem_cons_zero, Act.put, List.setIfInBounds_toArray, List.set_cons_succ, List.set_cons_zero]
              go_wp2_with fail
              refine anyD_takes (by kernel_rfl) (fun _ _ _ _ _ h => h) [7] 1 _ _ (by kernel_rfl) ?_
              simp only [List.filterMap_cons, List.filterMap_nil, List.getElem?_toArray, List.getElem?_cons_succ, List.getElem?_cons_zero]
              show wpQuiet _ _ _ _ (_ :: List.nil) _
              repeat (first | go_big_quiet_skip | (go_big_quiet_want; first | (fail; simp only [Act.put, List.setIfInBounds_toArray, List.set_cons_succ, List.set_cons_zero]; go_big_quiet_on) | (go_big_quiet_op; first | go_big_quiet_on | (refine ⟨_, fun _ _ => rfl, ?_⟩; go_big_quiet_on))))
              refine wpQuiet_nil ?_
              refine anyD_only (i := 8) rfl (by kernel_rfl) ⟨q3', ((HKE.out _ (HKP.out.trans haf.kp (fun _ _ e => e))).cell 0).trans rfl⟩ ?_
              go_wp2_with fail
              refine anyD_end (by kernel_rfl) (by kernel_rfl) ?_
              go_wp2_with fail
              have hfin := haf.put HFN.out 5 (.slice A' (j + 1) c')
              have hvf := row_keeps hown' ((Keeps.refl (fun k => k = N) w').setCell (p := ⟨N, 5, none⟩) rfl (.slice A' (j + 1) c')) (fun kk e e2 => by have h1 := (hown'.lt kk e).1; have h2 := HNB.out; omega)
              have HFIN := Lib.hid hfin; have HVF := Lib.hid hvf
              clear hfin hvf hown' hg' hat' hko haf q3' f3'
              go_roundw
              case rel => exact ⟨j + 1, by omega, by go_num, A', c', by rw [HST.out]; exact HFIN.out, by rw [HST.out, List.map_append]; exact HVF.out⟩
              case measure => simp [intOf]; omega
            · obtain rfl : j = k3 := by omega
              obtain ⟨A', c', e1, hrd, hab⟩ := readsRow_of HV.out
              obtain ⟨rfl, rfl⟩ : Ai = A' ∧ ci = c' := by injection e1 with q1 q2 q3; exact ⟨q1, q3⟩
              have hll := ints_length s8 j
              have hoc := HV.out
              generalize hz : (s8.ints j).1 = z5 at hrd hll hoc
              generalize hs : (s8.ints j).2 = s9 at HAJ
              rw [← hll] at HAJ hrd hoc ⊢
              have HOD7 := row_keeps HOD6.out HAJ.out.kp (fun kk e hf => by have h1 := (HOD6.out.lt kk e).1; have h3 := HNE.out.2.2.2.1; rcases hf with hf | hf; (have h2 := HF3.out _ hf; omega); omega)
              have HOU7 := row_keeps HOU6.out HAJ.out.kp (fun kk e hf => by have h1 := (HOU6.out.lt kk e).1; have h5 := HAKS.out; have h3 := HNE.out.2.2.2.1; rcases hf with hf | hf; (have h2 := HF3.out _ hf; omega); omega)
              have HRD6 := (HRD.out.off HAJ.out.kp (Nat.le_refl _) (fun ad e _ hf => by have h1 := HAB.out ad e; have h3 := HNE.out.2.2.2.1; rcases hf with hf | hf; (have h2 := HF3.out _ hf; omega); omega)).more HAJ.out.kp.size
              have HUP6 := (reads_off HUP.out HAJ.out.kp (Nat.le_refl _) (fun ad e _ hf => by have h1 := HABU.out ad e; have h3 := HNE.out.2.2.2.1; rcases hf with hf | hf; (have h2 := HF3.out _ hf; omega); omega)).more HAJ.out.kp.size
              have habc : ∀ ad, Ai = some ad → w3.heap.size ≤ ad.block := fun ad e => Nat.le_trans HA.out.kp.size (hab ad e)
              have hA := HA.out.trans HAJ.out
              obtain ⟨m, hm⟩ : ∃ m : BookV, m = ⟨z0, z1, z2, z3, z4, z5⟩ := ⟨_, rfl⟩
              have hmb : BookRd wr (fun k => w3.heap.size ≤ k) m A1 A2 Ai := by
                rw [hm]
                exact ⟨HRD6, HUP6, hrd, fun ad e => by rcases e with e | e | e; exact HAB.out ad e.1; exact HABU.out ad e.1; exact habc ad e.1⟩
              have hmo : BookOwn wr w3.heap.size m (.slice A1 m.dir.length c1) (.slice A2 m.up.length c2) (.slice Ai m.commit.length ci) := by
                rw [hm]
                exact ⟨HOD7, row_mono HOU7 HAKS.out, row_mono hoc HA.out.kp.size⟩
              have HMO := Lib.hid hmo
              clear hmo HOD7 HOU7 hoc
              have hst : (⟨b, false⟩ : RS).book n = (m, s9) := by
                rw [hm, ← hz, ← hs, HZ4.out, HZ3.out, HZ2.out, HZ1.out, HZ0.out, HK3.out, HS8.out, HS7.out, HK2.out, HS6.out, HS5.out, HK1.out, HS4.out, HS3.out, HS2.out, HS1.out, HS0.out]; rfl
              have hcost : m.cost ≤ 140737488000000 := by
                have h1 : costH z3 ≤ 65541 * z3.length := by rw [HLL.out, HZ3.out]; exact headsN_cost _ _
                have h2 := HLL.out; have h3 := HLL2.out; have h4 := HCM1.out; have h5 := HCM2.out
                rw [hm]
                unfold BookV.cost
                dsimp only
                omega
              obtain ⟨v6, hv6⟩ : ∃ v6, v6 = wr := ⟨_, rfl⟩
              subst hv6
              obtain ⟨A3, hA3⟩ : ∃ A3, A3 = Ai := ⟨_, rfl⟩
              subst hA3
              obtain ⟨c3, hc3⟩ : ∃ c3, c3 = ci := ⟨_, rfl⟩
              subst hc3
              have HMB := Lib.hid hmb
              clear HA HAJ HRD HUP HRD6 HUP6 hrd hab habc hz hs hll e1 HV hmb HKP hj hjk
              have HA := Lib.hid hA
              clear hA
              have henc := EncodeBook_any v6 (fun k => w3.heap.size ≤ k ∧ k < v6.heap.size) m A1 A2 A3 c1 c2 c3 HMB.out.tight (fun k e => e.2) hcost
              rw [hm] at henc
              dsimp only [bookCells] at henc
              rw [← hm] at henc
              have HENC := Lib.hid henc; have HM := Lib.hid hm; have HST := Lib.hid hst; have HCO := Lib.hid hcost
              clear henc hm hst hcost
              go_wp2_with (refine wpList_load_row rfl 44 (.tmp 5) rfl N rfl _ _ _ _ HA.out.blk Try.underlying44 rfl (by kernel_rfl) ?_)
              refine HENC.out.mono ?_
              rintro e w12 ⟨v', rfl, hf, hb12, _⟩
              have hE12 := (HKE.out _ HA.out.kp).below hb12 (HKE.out _ HA.out.kp).lt
              have hR12 := (HKR.out _ HA.out.kp).below hb12 (HKR.out _ HA.out.kp).lt
              have hN12 := HA.out.blk.below hb12 HA.out.blk.lt
              have p0 : w12.cell? ⟨E, 0, none⟩ = some (.pointer (some ⟨D, 0, none⟩)) := (hE12.cell 0).trans rfl
              have H12 := Lib.hid (HA.out.re.below hb12)
              have hkB := HA.out.kp.below (B := w.heap.size) (fun k e => by rcases e with e | e; exact HFB.out _ e; rw [e]; exact HNE.out.2.2.2.2) HNE.out.2.2.1
              have hb11 : Below w.heap.size w v6 := HB3.out.trans hkB
              have HB12 := Lib.hid (hb11.trans (hb12.mono hb11.size))
              have HRD12 := Lib.hid ((HRD3.out.below hkB).below (hb12.mono hb11.size))
              have hMR : BookRd v6 (fun k => w3.heap.size ≤ k) m A1 A2 A3 := HMB.out
              have HMR := Lib.hid (hMR.below hb12)
              have HMO12 := Lib.hid (HMO.out.below hb12)
              have HR12 := Lib.hid hR12; have HN12 := Lib.hid hN12; have HF := Lib.hid hf
              clear hE12 hR12 hN12 hb11 hkB hf hb12 hMR HENC
              go_wp2_with fail
              refine (Done_any w12 F D s9 H12.out).mono ?_
              obtain ⟨dn, hdn⟩ : ∃ x, x = (!s9.bad && decide (s9.left.length = 0)) := ⟨_, rfl⟩
              obtain ⟨es, hes⟩ : ∃ x, x = WS.book ⟨[], false⟩ m := ⟨_, rfl⟩
              rw [← hdn]
              have hdec : decB b = if (s9.bad = false ∧ s9.left.length = 0) ∧ es.bad = false ∧ es.out = b then (m, true) else (BookV.zero, false) := by
                unfold decB
                dsimp only
                rw [← HBL.out, HST.out, ← hes]
              rw [← hes] at HF ⊢
              have HEL := Lib.hid (show es.out.length ≤ 140737488355328 by rw [hes]; have h1 := book_len m; have h2 := HCO.out; omega)
              have HDN := Lib.hid hdn; have HES := Lib.hid hes; have HDEC := Lib.hid hdec
              clear hdn hes hdec p0
              rintro e w13 ⟨rfl, rfl⟩
              cases dn
              · have hd2 : decB b = (BookV.zero, false) := by
                  rw [HDEC.out, if_neg]
                  intro e
                  have := HDN.out
                  rw [e.1.1, e.1.2] at this
                  simp at this
                have HD2 := Lib.hid hd2; clear hd2
                go_wp2_with (refine wpList_store_row rfl 44 (.tmp 2) (.tmp 92) rfl R zeroBook (by rfl) (by rfl) _ _ HR12.out (by kernel_rfl) rfl (by kernel_rfl) ?_)
                exact decB_none HR12.out HB12.out HD2.out HNE.out.1 (by rfl) (by rfl) (by rfl)
              · cases hbad : es.bad
                · have hfb := HF.out
                  rw [hbad] at hfb
                  simp only [Bool.false_eq_true, if_false] at hfb
                  obtain ⟨Av, cv, rfl, hrv, _⟩ := hfb
                  have HRV := Lib.hid hrv
                  have HBAD := Lib.hid hbad
                  clear hrv hbad
                  have hel : es.out.length ≤ 140737488355328 := HEL.out
                  go_wp2_with fail
                  refine (Equal_any Av _ cv A n c w13 _ _ es.out b hel HRV.out HRD12.out).mono ?_
                  rintro e w14 ⟨rfl, hb14⟩
                  have HR14 := Lib.hid (HR12.out.below hb14 HR12.out.lt); have HN14 := Lib.hid (HN12.out.below hb14 HN12.out.lt); have HB14 := Lib.hid (HB12.out.trans (hb14.mono HB12.out.size))
                  have HMO14 := Lib.hid (HMO12.out.below hb14)
                  clear hb14 hel
                  by_cases heq : es.out = b
                  · have hd2 : decB b = (m, true) := by
                      rw [HDEC.out, if_pos]
                      have := HDN.out
                      simp at this
                      exact ⟨⟨this.1, by rw [this.2]; rfl⟩, HBAD.out, heq⟩
                    rw [decide_eq_true heq]
                    have HD2 := Lib.hid hd2; clear hd2 heq
                    go_wp2_with (first | (refine wpList_load_row rfl 44 (.tmp 5) rfl N rfl _ _ _ _ HN14.out Try.underlying44 rfl (by kernel_rfl) ?_) | (refine wpList_store_row rfl 44 (.tmp 2) (.tmp 93) rfl R _ (by rfl) (by rfl) _ _ HR14.out (by kernel_rfl) (by rfl) (by simp [Value.oneCell']) ?_))
                    exact decB_some HR14.out HB14.out HD2.out HNE.out.1 HNE.out.2.1 HMO14.out _ (by rw [HM.out]) (by rfl) (by rfl) (by rfl)
                  · have hd2 : decB b = (BookV.zero, false) := by rw [HDEC.out, if_neg (fun e => heq e.2.2)]
                    rw [decide_eq_false heq]
                    have HD2 := Lib.hid hd2; clear hd2 heq
                    go_wp2_with (refine wpList_store_row rfl 44 (.tmp 2) (.tmp 92) rfl R zeroBook (by rfl) (by rfl) _ _ HR14.out (by kernel_rfl) rfl (by kernel_rfl) ?_)
                    exact decB_none HR14.out HB14.out HD2.out HNE.out.1 (by rfl) (by rfl) (by rfl)
                · have hd2 : decB b = (BookV.zero, false) := by rw [HDEC.out, if_neg (fun e => by rw [hbad] at e; simp at e)]
                  have HD2 := Lib.hid hd2; clear hd2
                  have HBAD := Lib.hid hbad
                  clear hbad
                  go_wp2_with (refine wpList_store_row rfl 44 (.tmp 2) (.tmp 92) rfl R zeroBook (by rfl) (by rfl) _ _ HR12.out (by kernel_rfl) rfl (by kernel_rfl) ?_)
                  exact decB_none HR12.out HB12.out HD2.out HNE.out.1 (by rfl) (by rfl) (by rfl)
end Go.Proofs.Ytlabebapjhhkaaa
namespace Go.Proofs.Ytlabebapjhhkaaa
def eI (n : Int) : List UInt8 := b4 (n + 2).toNat
def eB (l : List UInt8) : List UInt8 := b2 l.length ++ l
def okI (n : Int) : Prop := -2 ≤ n ∧ n ≤ 2147483645
def okB (l : List UInt8) : Prop := l.length ≤ 65535
theorem eI_len (n : Int) : (eI n).length = 4 := rfl
theorem eB_len (l : List UInt8) : (eB l).length = 2 + l.length := by simp [eB, b2]; omega
theorem w_int {s : WS} {n : Int} (h : (s.int n).bad = false) : s.bad = false ∧ okI n ∧ (s.int n).out = s.out ++ eI n := by
  unfold WS.int at h ⊢
  unfold okI eI
  split at h
  · next h1 => rw [if_pos h1]; exact ⟨h, h1, rfl⟩
  · cases h
theorem w_bytes {s : WS} {l : List UInt8} (h : (s.bytes l).bad = false) : s.bad = false ∧ okB l ∧ (s.bytes l).out = s.out ++ eB l := by
  unfold WS.bytes at h ⊢
  unfold okB eB
  split at h
  · next h1 => rw [if_pos h1]; exact ⟨h, h1, rfl⟩
  · cases h
theorem w_ints {l : List Int} : ∀ {s : WS}, (s.ints l).bad = false → s.bad = false ∧ (∀ x ∈ l, okI x) ∧ (s.ints l).out = s.out ++ l.flatMap eI := by
  induction l with
  | nil => intro s h; exact ⟨h, by simp, by simp [WS.ints]⟩
  | cons x r ih =>
    intro s h
    obtain ⟨h1, h2, h3⟩ := ih (s := s.int x) h
    obtain ⟨h4, h5, h6⟩ := w_int h1
    refine ⟨h4, fun y hy => ?_, ?_⟩
    · rcases List.mem_cons.1 hy with rfl | hy
      · exact h5
      · exact h2 y hy
    · show ((s.int x).ints r).out = _
      rw [h3, h6, List.flatMap_cons, List.append_assoc]
def eH (h : HeadV) : List UInt8 := eB h.id ++ eI h.size
def okH (h : HeadV) : Prop := okB h.id ∧ okI h.size
theorem w_heads {l : List HeadV} : ∀ {s : WS}, (l.foldl WS.head s).bad = false → s.bad = false ∧ (∀ x ∈ l, okH x) ∧ (l.foldl WS.head s).out = s.out ++ l.flatMap eH := by
  induction l with
  | nil => intro s h; exact ⟨h, by simp, by simp⟩
  | cons x r ih =>
    intro s h
    rw [List.foldl_cons] at h ⊢
    obtain ⟨h1, h2, h3⟩ := ih h
    unfold WS.head at h1
    obtain ⟨h4, h5, h6⟩ := w_int h1
    obtain ⟨h7, h8, h9⟩ := w_bytes h4
    refine ⟨h7, fun y hy => ?_, ?_⟩
    · rcases List.mem_cons.1 hy with rfl | hy
      · exact ⟨h8, h5⟩
      · exact h2 y hy
    · rw [h3]
      unfold WS.head
      rw [h6, h9, List.flatMap_cons]
      unfold eH
      simp only [List.append_assoc]
/-! Reading. -/
theorem r_int (n : Int) (rest : List UInt8) (h : okI n) : (⟨eI n ++ rest, false⟩ : RS).int = (n, ⟨rest, false⟩) := int_enc (n, []) rest (by simp) (by unfold okP; rw [if_neg (by simp)]; exact h)
theorem r_bytes (l : List UInt8) (rest : List UInt8) (h : okB l) : (⟨eB l ++ rest, false⟩ : RS).bytes = (l, ⟨rest, false⟩) := by
  by_cases hl : 0 < l.length
  · have := bytes_enc (0, l) rest hl (by unfold okP; rw [if_pos hl]; exact h)
    unfold encP at this
    rw [if_pos hl] at this
    exact this
  · obtain rfl : l = [] := List.eq_nil_of_length_eq_zero (by omega)
    unfold RS.bytes eB b2
    simp
theorem r_ints (l : List Int) (rest : List UInt8) (h : ∀ x ∈ l, okI x) : ∀ k, k ≤ l.length → (⟨l.flatMap eI ++ rest, false⟩ : RS).ints k = (l.take k, ⟨(l.drop k).flatMap eI ++ rest, false⟩) := by
  intro k
  induction k with
  | zero => intro _; rw [RS.ints.eq_def]; simp
  | succ k ih =>
    intro hk
    have h1 := ih (by omega)
    have hlt : k < l.length := by omega
    rw [RS.ints.eq_def]
    dsimp only
    rw [h1]
    dsimp only
    rw [List.drop_eq_getElem_cons hlt, List.flatMap_cons, List.append_assoc, r_int _ _ (h _ (List.getElem_mem hlt)), List.take_succ_eq_append_getElem hlt]
theorem r_ints_all (l : List Int) (rest : List UInt8) (h : ∀ x ∈ l, okI x) : (⟨l.flatMap eI ++ rest, false⟩ : RS).ints l.length = (l, ⟨rest, false⟩) := by
  rw [r_ints l rest h _ (Nat.le_refl _), List.take_length, List.drop_length]
  rfl
theorem r_head (x : HeadV) (rest : List UInt8) (h : okH x) : (⟨eH x ++ rest, false⟩ : RS).head = (x, ⟨rest, false⟩) := by
  unfold RS.head eH
  rw [List.append_assoc, r_bytes _ _ h.1]
  dsimp only
  rw [r_int _ _ h.2]
theorem r_headsN (l : List HeadV) (rest : List UInt8) (h : ∀ x ∈ l, okH x) : ∀ k, k ≤ l.length → (⟨l.flatMap eH ++ rest, false⟩ : RS).headsN k = (l.take k, ⟨(l.drop k).flatMap eH ++ rest, false⟩) := by
  intro k
  induction k with
  | zero => intro _; rw [RS.headsN.eq_def]; simp
  | succ k ih =>
    intro hk
    have h1 := ih (by omega)
    have hlt : k < l.length := by omega
    rw [RS.headsN.eq_def]
    dsimp only
    rw [h1]
    dsimp only
    rw [List.drop_eq_getElem_cons hlt, List.flatMap_cons, List.append_assoc, r_head _ _ (h _ (List.getElem_mem hlt)), List.take_succ_eq_append_getElem hlt]
theorem flat_ge {α : Type} (f : α → List UInt8) (hf : ∀ x, 1 ≤ (f x).length) (l : List α) : l.length ≤ (l.flatMap f).length := by
  induction l with
  | nil => exact Nat.le_refl _
  | cons x r ih => rw [List.flatMap_cons, List.length_append, List.length_cons]; have := hf x; omega
def eO (o : ObjV) : List UInt8 := eB o.id ++ (eI o.size ++ (eB o.share ++ eB o.tag))
def okO (o : ObjV) : Prop := okB o.id ∧ okI o.size ∧ okB o.share ∧ okB o.tag
theorem w_objsF {l : List ObjV} : ∀ {s : WS}, (l.foldl WS.objT s).bad = false → s.bad = false ∧ (∀ x ∈ l, okO x) ∧ (l.foldl WS.objT s).out = s.out ++ l.flatMap eO := by
  induction l with
  | nil => intro s h; exact ⟨h, by simp, by simp⟩
  | cons x r ih =>
    intro s h
    rw [List.foldl_cons] at h ⊢
    obtain ⟨h1, h2, h3⟩ := ih h
    unfold WS.objT WS.obj at h1
    obtain ⟨g1, k1, e1⟩ := w_bytes h1
    obtain ⟨g2, k2, e2⟩ := w_bytes g1
    obtain ⟨g3, k3, e3⟩ := w_int g2
    obtain ⟨g4, k4, e4⟩ := w_bytes g3
    refine ⟨g4, fun y hy => ?_, ?_⟩
    · rcases List.mem_cons.1 hy with rfl | hy
      · exact ⟨k4, k3, k2, k1⟩
      · exact h2 y hy
    · rw [h3]
      unfold WS.objT WS.obj
      rw [e1, e2, e3, e4, List.flatMap_cons]
      unfold eO
      simp only [List.append_assoc]
theorem w_objs {l : List ObjV} {s : WS} (h : (s.objs l).bad = false) : s.bad = false ∧ okI l.length ∧ (∀ x ∈ l, okO x) ∧ (s.objs l).out = s.out ++ (eI l.length ++ l.flatMap eO) := by
  unfold WS.objs at h ⊢
  obtain ⟨h1, h2, h3⟩ := w_objsF h
  obtain ⟨h4, h5, h6⟩ := w_int h1
  exact ⟨h4, h5, h2, by rw [h3, h6, List.append_assoc]⟩
/-- A state's bytes. -/
def StateV.enc (x : StateV) : List UInt8 :=
  [x.epoch, x.decided, x.dealt].flatMap eI ++ ((eI x.objs.length ++ x.objs.flatMap eO) ++ ([x.psession, x.pkind, x.pepoch].flatMap eI ++ (eI x.pobjs.length ++ x.pobjs.flatMap eO)))
structure StateV.ok (x : StateV) : Prop where
  a : ∀ n ∈ [x.epoch, x.decided, x.dealt], okI n
  ol : okI x.objs.length
  o : ∀ y ∈ x.objs, okO y
  p : ∀ n ∈ [x.psession, x.pkind, x.pepoch], okI n
  ql : okI x.pobjs.length
  q : ∀ y ∈ x.pobjs, okO y
theorem state_enc {x : StateV} (h : (WS.state ⟨[], false⟩ x).bad = false) : x.ok ∧ (WS.state ⟨[], false⟩ x).out = x.enc := by
  unfold WS.state at h ⊢
  obtain ⟨h1, ql, q, e1⟩ := w_objs h
  obtain ⟨h2, p, e2⟩ := w_ints h1
  obtain ⟨h3, ol, o, e3⟩ := w_objs h2
  obtain ⟨_, a, e4⟩ := w_ints h3
  refine ⟨⟨a, ol, o, p, ql, q⟩, ?_⟩
  rw [e1, e2, e3, e4]
  unfold StateV.enc
  simp only [List.nil_append, List.append_assoc]
theorem w_int_of {s : WS} {n : Int} (hs : s.bad = false) (h : okI n) : (s.int n).bad = false ∧ (s.int n).out = s.out ++ eI n := by
  unfold WS.int eI
  rw [if_pos (show -2 ≤ n ∧ n ≤ 2147483645 from h)]
  exact ⟨hs, rfl⟩
theorem w_bytes_of {s : WS} {l : List UInt8} (hs : s.bad = false) (h : okB l) : (s.bytes l).bad = false ∧ (s.bytes l).out = s.out ++ eB l := by
  unfold WS.bytes eB
  rw [if_pos (show l.length ≤ 65535 from h)]
  exact ⟨hs, rfl⟩
theorem w_ints_of (l : List Int) : ∀ {s : WS}, s.bad = false → (∀ x ∈ l, okI x) → (s.ints l).bad = false ∧ (s.ints l).out = s.out ++ l.flatMap eI := by
  induction l with
  | nil => intro s hs _; exact ⟨hs, by simp [WS.ints]⟩
  | cons x r ih =>
    intro s hs h
    obtain ⟨h1, h2⟩ := w_int_of hs (h x List.mem_cons_self)
    obtain ⟨h3, h4⟩ := ih h1 (fun y hy => h y (List.mem_cons_of_mem _ hy))
    exact ⟨h3, by show ((s.int x).ints r).out = _; rw [h4, h2, List.flatMap_cons, List.append_assoc]⟩
theorem w_objsF_of (l : List ObjV) : ∀ {s : WS}, s.bad = false → (∀ x ∈ l, okO x) → (l.foldl WS.objT s).bad = false := by
  induction l with
  | nil => intro s hs _; exact hs
  | cons x r ih =>
    intro s hs h
    obtain ⟨k1, k2, k3, k4⟩ := h x List.mem_cons_self
    rw [List.foldl_cons]
    refine ih ?_ (fun y hy => h y (List.mem_cons_of_mem _ hy))
    unfold WS.objT WS.obj
    exact (w_bytes_of (w_bytes_of (w_int_of (w_bytes_of hs k1).1 k2).1 k3).1 k4).1
theorem w_objs_of {l : List ObjV} {s : WS} (hs : s.bad = false) (hl : okI l.length) (h : ∀ x ∈ l, okO x) : (s.objs l).bad = false := by
  unfold WS.objs
  exact w_objsF_of l (w_int_of hs hl).1 h
theorem state_of_ok {x : StateV} (h : x.ok) : (WS.state ⟨[], false⟩ x).bad = false := by
  unfold WS.state
  exact w_objs_of (w_ints_of _ (w_objs_of (w_ints_of _ rfl h.a).1 h.ol h.o) h.p).1 h.ql h.q
theorem r_count (n most : Nat) (rest : List UInt8) (h : okI n) (hm : n ≤ most) : (⟨eI n ++ rest, false⟩ : RS).count most = n := by
  unfold RS.count
  rw [r_int _ _ h]
  dsimp only
  rw [if_neg (by omega)]
  omega
theorem r_objT (o : ObjV) (rest : List UInt8) (h : okO o) : (⟨eO o ++ rest, false⟩ : RS).objT = (o, ⟨rest, false⟩) := by
  unfold RS.objT eO
  simp only [List.append_assoc]
  rw [r_bytes _ _ h.1]
  dsimp only
  rw [r_int _ _ h.2.1]
  dsimp only
  rw [r_bytes _ _ h.2.2.1]
  dsimp only
  rw [r_bytes _ _ h.2.2.2]
theorem r_objsN (l : List ObjV) (rest : List UInt8) (h : ∀ x ∈ l, okO x) : ∀ k, k ≤ l.length → (⟨l.flatMap eO ++ rest, false⟩ : RS).objsN k = (l.take k, ⟨(l.drop k).flatMap eO ++ rest, false⟩) := by
  intro k
  induction k with
  | zero => intro _; rw [objsN_zero]; simp
  | succ k ih =>
    intro hk
    have h1 := ih (by omega)
    have hlt : k < l.length := by omega
    rw [objsN_succ, h1]
    dsimp only
    rw [List.drop_eq_getElem_cons hlt, List.flatMap_cons, List.append_assoc, r_objT _ _ (h _ (List.getElem_mem hlt)), List.take_succ_eq_append_getElem hlt]
theorem r_objs (l : List ObjV) (rest : List UInt8) (most : Nat) (hl : okI l.length) (h : ∀ x ∈ l, okO x) (hm : l.length ≤ most) : (⟨(eI l.length ++ l.flatMap eO) ++ rest, false⟩ : RS).objs most = (l, ⟨rest, false⟩) := by
  unfold RS.objs
  rw [List.append_assoc, r_count _ _ _ hl hm, r_int _ _ hl]
  dsimp only
  rw [r_objsN l rest h _ (Nat.le_refl _), List.take_length, List.drop_length]
  rfl
theorem r_state (x : StateV) (rest : List UInt8) (most : Nat) (h : x.ok) (h1 : x.objs.length ≤ most) (h2 : x.pobjs.length ≤ most) : (⟨x.enc ++ rest, false⟩ : RS).state most = (x, ⟨rest, false⟩) := by
  have a0 := h.a x.epoch (by simp); have a1 := h.a x.decided (by simp); have a2 := h.a x.dealt (by simp)
  have p0 := h.p x.psession (by simp); have p1 := h.p x.pkind (by simp); have p2 := h.p x.pepoch (by simp)
  unfold RS.state StateV.enc
  simp only [List.flatMap_cons, List.flatMap_nil, List.append_nil]
  rw [List.append_assoc, List.append_assoc, r_int _ _ a0]
  dsimp only
  rw [List.append_assoc, r_int _ _ a1]
  dsimp only
  rw [r_int _ _ a2]
  dsimp only
  rw [List.append_assoc, r_objs _ _ most h.ol h.o h1]
  dsimp only
  rw [List.append_assoc, List.append_assoc, r_int _ _ p0]
  dsimp only
  rw [List.append_assoc, r_int _ _ p1]
  dsimp only
  rw [r_int _ _ p2]
  dsimp only
  rw [r_objs _ _ most h.ql h.q h2]
theorem eO_pos (o : ObjV) : 1 ≤ (eO o).length := by unfold eO; simp only [List.length_append, eI_len, eB_len]; omega
theorem state_lens (x : StateV) : x.objs.length ≤ x.enc.length ∧ x.pobjs.length ≤ x.enc.length ∧ 32 ≤ x.enc.length := by
  have h1 := flat_ge eO eO_pos x.objs
  have h2 := flat_ge eO eO_pos x.pobjs
  unfold StateV.enc
  simp only [List.length_append, eI_len, List.flatMap_cons, List.flatMap_nil, List.length_nil]
  omega
/-- What is written is read again. -/
theorem decS_enc {x : StateV} (h : (WS.state ⟨[], false⟩ x).bad = false) : decS (WS.state ⟨[], false⟩ x).out = (x, true) := by
  obtain ⟨hok, he⟩ := state_enc h
  obtain ⟨l1, l2, _⟩ := state_lens x
  have hr := r_state x [] x.enc.length hok l1 l2
  rw [List.append_nil] at hr
  unfold decS
  dsimp only
  rw [he, hr, if_pos ⟨⟨rfl, rfl⟩, h, he⟩]
theorem decS_ok {b : List UInt8} (h : (decS b).2 = true) : (WS.state ⟨[], false⟩ (decS b).1).bad = false ∧ (WS.state ⟨[], false⟩ (decS b).1).out = b := by
  unfold decS at h ⊢
  dsimp only at h ⊢
  split at h
  · next h1 => rw [if_pos h1]; exact h1.2
  · cases h
theorem decS_no {b : List UInt8} (h : (decS b).2 = false) : (decS b).1 = StateV.zero := by
  unfold decS at h ⊢
  dsimp only at h ⊢
  split at h
  · cases h
  · next h1 => rw [if_neg h1]
theorem encS_inj {x y : StateV} (h : (WS.state ⟨[], false⟩ x).bad = false) (h' : (WS.state ⟨[], false⟩ y).bad = false) (e : (WS.state ⟨[], false⟩ x).out = (WS.state ⟨[], false⟩ y).out) : x = y := by
  have h1 := decS_enc h
  rw [e, decS_enc h'] at h1
  exact (Prod.mk.inj h1).1.symm
/-- A book's bytes. -/
def BookV.enc (k : BookV) : List UInt8 :=
  [k.session, k.decided, k.epoch, (k.dir.length : Int)].flatMap eI ++ (k.dir.flatMap eH ++ (eI k.up.length ++ ((k.up.map flagI).flatMap eI ++ (eI k.commit.length ++ k.commit.flatMap eI))))
structure BookV.ok (k : BookV) : Prop where
  a : ∀ n ∈ [k.session, k.decided, k.epoch, (k.dir.length : Int)], okI n
  d : ∀ y ∈ k.dir, okH y
  ul : okI k.up.length
  cl : okI k.commit.length
  c : ∀ y ∈ k.commit, okI y
theorem book_enc {k : BookV} (h : (WS.book ⟨[], false⟩ k).bad = false) : k.ok ∧ (WS.book ⟨[], false⟩ k).out = k.enc := by
  unfold WS.book at h ⊢
  obtain ⟨h1, c, e1⟩ := w_ints h
  obtain ⟨h2, cl, e2⟩ := w_int h1
  obtain ⟨h3, _, e3⟩ := w_ints h2
  obtain ⟨h4, ul, e4⟩ := w_int h3
  obtain ⟨h5, d, e5⟩ := w_heads h4
  obtain ⟨_, a, e6⟩ := w_ints h5
  refine ⟨⟨a, d, ul, cl, c⟩, ?_⟩
  rw [e1, e2, e3, e4, e5, e6]
  unfold BookV.enc
  simp only [List.nil_append, List.append_assoc]
theorem okI_flag (b : Bool) : okI (flagI b) := by cases b <;> (unfold okI flagI; decide)
theorem r_book (k : BookV) (rest : List UInt8) (most : Nat) (h : k.ok) (h1 : k.dir.length ≤ most) (h2 : k.up.length ≤ most) (h3 : k.commit.length ≤ most) : (⟨k.enc ++ rest, false⟩ : RS).book most = (k, ⟨rest, false⟩) := by
  have a0 := h.a k.session (by simp); have a1 := h.a k.decided (by simp); have a2 := h.a k.epoch (by simp); have a3 := h.a k.dir.length (by simp)
  have hf : ∀ x ∈ k.up.map flagI, okI x := fun x hx => by obtain ⟨b, _, rfl⟩ := List.mem_map.1 hx; exact okI_flag b
  have hup : (k.up.map flagI).map (fun z => z == 1) = k.up := by
    rw [List.map_map]
    conv => rhs; rw [← List.map_id k.up]
    refine List.map_congr_left (fun b _ => ?_)
    cases b <;> rfl
  unfold RS.book BookV.enc
  simp only [List.flatMap_cons, List.flatMap_nil, List.append_nil, List.append_assoc]
  rw [r_int _ _ a0]
  dsimp only
  rw [r_int _ _ a1]
  dsimp only
  rw [r_int _ _ a2]
  dsimp only
  rw [r_count _ _ _ a3 h1, r_int _ _ a3]
  dsimp only
  rw [r_headsN k.dir _ h.d _ (Nat.le_refl _), List.take_length, List.drop_length]
  simp only [List.flatMap_nil, List.nil_append]
  rw [r_count _ _ _ h.ul h2, r_int _ _ h.ul]
  dsimp only
  rw [show k.up.length = (k.up.map flagI).length by simp, r_ints_all _ _ hf]
  dsimp only
  rw [r_count _ _ _ h.cl h3, r_int _ _ h.cl]
  dsimp only
  rw [r_ints_all _ _ h.c]
  dsimp only
  rw [hup]
theorem book_lens (k : BookV) : k.dir.length ≤ k.enc.length ∧ k.up.length ≤ k.enc.length ∧ k.commit.length ≤ k.enc.length ∧ 24 ≤ k.enc.length := by
  have h1 := flat_ge eH (fun x => by unfold eH; rw [List.length_append, eI_len]; omega) k.dir
  have h2 := flat_ge eI (fun x => by rw [eI_len]; omega) (k.up.map flagI)
  have h3 := flat_ge eI (fun x => by rw [eI_len]; omega) k.commit
  rw [List.length_map] at h2
  unfold BookV.enc
  simp only [List.length_append, eI_len, List.flatMap_cons, List.flatMap_nil, List.length_nil]
  omega
theorem decB_enc {k : BookV} (h : (WS.book ⟨[], false⟩ k).bad = false) : decB (WS.book ⟨[], false⟩ k).out = (k, true) := by
  obtain ⟨hok, he⟩ := book_enc h
  obtain ⟨l1, l2, l3, _⟩ := book_lens k
  have hr := r_book k [] k.enc.length hok l1 l2 l3
  rw [List.append_nil] at hr
  unfold decB
  dsimp only
  rw [he, hr, if_pos ⟨⟨rfl, rfl⟩, h, he⟩]
theorem decB_ok {b : List UInt8} (h : (decB b).2 = true) : (WS.book ⟨[], false⟩ (decB b).1).bad = false ∧ (WS.book ⟨[], false⟩ (decB b).1).out = b := by
  unfold decB at h ⊢
  dsimp only at h ⊢
  split at h
  · next h1 => rw [if_pos h1]; exact h1.2
  · cases h
theorem decB_no {b : List UInt8} (h : (decB b).2 = false) : (decB b).1 = BookV.zero := by
  unfold decB at h ⊢
  dsimp only at h ⊢
  split at h
  · cases h
  · next h1 => rw [if_neg h1]
end Go.Proofs.Ytlabebapjhhkaaa
