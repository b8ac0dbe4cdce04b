/- The walk of rec's DecodeState, and of slices.Equal. Condition: the bytes are no great number. Printed by mkrec7.py. -/
import Derived.Test.YtinkclcdpcjnfaaDoorRec6
namespace Go.Proofs.YtinkclcdpcjnfaaDoor
open Go.RowKit
theorem Rd.cellsE {w : World} {B n : Nat} {A : Option Addr} {l : List UInt8} (h : Rd w B A n l) (hn : 0 < n) : ∃ b o, A = some ⟨b, o, none⟩ ∧ b < B ∧ ∀ j, j < n → w.cell? ⟨b, o + j, none⟩ = some (.int .u8 (l.getD j 0).toNat) := by
  obtain ⟨ad, e, hb, hc⟩ := h.2 hn
  obtain ⟨b, off, spot⟩ := ad
  have hl := h.len
  have hc0 := hc 0 _ (by rw [List.getElem?_map, List.getElem?_eq_getElem (show 0 < l.length by omega)]; rfl)
  have hsp : spot = none := by simpa [Addr.add] using World.cell?_spot hc0
  subst hsp
  refine ⟨b, off, e, hb, fun j hj => ?_⟩
  have h1 := hc j _ (by rw [List.getElem?_map, List.getElem?_eq_getElem (show j < l.length by omega)]; rfl)
  have ha : (⟨b, off, none⟩ : Addr).add j = ⟨b, off + j, none⟩ := by unfold Addr.add; split <;> simp_all
  rw [ha] at h1
  rw [h1, List.getD_eq_getElem?_getD, List.getElem?_eq_getElem (show j < l.length by omega)]
  rfl
set_option maxRecDepth 100000 in
theorem Equal_any (A1 : Option Addr) (n1 c1 : Nat) (A2 : Option Addr) (n2 c2 : Nat) (w : World) (B1 B2 : Nat) (l1 l2 : List UInt8) (hn : n1 ≤ 140737488355328) (hr1 : Rd w B1 A1 n1 l1) (hr2 : Rd w B2 A2 n2 l2) :
    Calls Tryd.prog 30 #[.slice A1 n1 c1, .slice A2 n2 c2] w fun e w' => e = .returned (.bool (decide (l1 = l2))) ∧ Below w.heap.size w w' := by
  have HL1 := Lib.hid hr1.len
  have HL2 := Lib.hid hr2.len
  by_cases hne : n1 = n2
  · subst hne
    have hall : ∃ b1 o1 b2 o2, (0 < n1 → A1 = some ⟨b1, o1, none⟩ ∧ A2 = some ⟨b2, o2, none⟩ ∧ (∀ j, j < n1 → w.cell? ⟨b1, o1 + j, none⟩ = some (.int .u8 (l1.getD j 0).toNat)) ∧ ∀ j, j < n1 → w.cell? ⟨b2, o2 + j, none⟩ = some (.int .u8 (l2.getD j 0).toNat)) := by
      by_cases h0 : 0 < n1
      · obtain ⟨b1, o1, h1, _, h2⟩ := hr1.cellsE h0
        obtain ⟨b2, o2, h3, _, h4⟩ := hr2.cellsE h0
        exact ⟨b1, o1, b2, o2, fun _ => ⟨h1, h3, h2, h4⟩⟩
      · exact ⟨0, 0, 0, 0, fun h => absurd h h0⟩
    obtain ⟨b1, o1, b2, o2, hall⟩ := hall
    have HA := Lib.hid hall; clear hall hr1 hr2
    go_enter Tryd.func30, Tryd.ntmps30
    go_wp2_with fail
    go_loopw [5, 13] (fun s q wr => ∃ (j : Nat), j ≤ n1 ∧ q = .int .i64 j ∧ l1.take j = l2.take j ∧ ∃ d, wr = w.drewN d) (fun _ q _ => n1 - (intOf q).toNat)
    case atStart => exact ⟨0, by omega, rfl, rfl, 0, rfl⟩
    case round =>
      obtain ⟨j, hj, rfl, htk, d, rfl⟩ := hrel
      have HTK := Lib.hid htk; clear htk
      by_cases hlt : j < n1
      · obtain ⟨rfl, rfl, hc1, hc2⟩ := HA.out (by omega)
        have k1 : (w.drewN d).cell? ⟨b1, o1 + j, none⟩ = some (.int .u8 (l1.getD j 0).toNat) := hc1 j hlt
        have k2 : (w.drewN d).cell? ⟨b2, o2 + j, none⟩ = some (.int .u8 (l2.getD j 0).toNat) := hc2 j hlt
        have hs1 : l1.take (j + 1) = l1.take j ++ [l1.getD j 0] := by rw [List.take_succ_eq_append_getElem (by rw [← HL1.out]; exact hlt), List.getD_eq_getElem?_getD, List.getElem?_eq_getElem (by rw [← HL1.out]; exact hlt)]; rfl
        have hs2 : l2.take (j + 1) = l2.take j ++ [l2.getD j 0] := by rw [List.take_succ_eq_append_getElem (by rw [← HL2.out]; exact hlt), List.getD_eq_getElem?_getD, List.getElem?_eq_getElem (by rw [← HL2.out]; exact hlt)]; rfl
        generalize l1.getD j 0 = x1 at k1 hs1
        generalize l2.getD j 0 = x2 at k2 hs2
        have HS1 := Lib.hid hs1; have HS2 := Lib.hid hs2
        clear hc1 hc2 hs1 hs2
        generalize hW : w.drewN d = W at k1 k2
        have HW := Lib.hid hW; clear hW
        have hlt' : (j : Int) < (n1 : Int) := by omega
        by_cases hx : x1 = x2
        · subst hx
          go_wp2_with fail
          refine wp_region_q (by kernel_rfl) (by kernel_rfl) ?_
          repeat (first | go_big_quiet_skip | (go_big_quiet_want; go_big_quiet_op; first | go_big_quiet_on))
          refine wpQuiet_nil ?_
          go_wp2
          go_roundw
          case rel => exact ⟨j + 1, by omega, by go_num, by rw [HS1.out, HS2.out, HTK.out], d + 1, by rw [← HW.out]; rfl⟩
          case measure => simp [intOf]; omega
        · have hx2 : ((x1.toNat : Int) == (x2.toNat : Int)) = false := by
            have : ¬ x1.toNat = x2.toNat := fun e => hx (UInt8.toNat_inj.1 e)
            simp; omega
          have hx3 : ((x1.toNat : Int) != (x2.toNat : Int)) = true := by rw [bne, hx2]; rfl
          have HNE := Lib.hid (show l1 ≠ l2 from fun e => by
            have h1 := HS1.out
            rw [e, HS2.out] at h1
            exact hx (by simpa using h1.symm))
          clear hx
          go_wp2_with fail
          refine wp_region_q (by kernel_rfl) (by kernel_rfl) ?_
          repeat (first | go_big_quiet_skip | (go_big_quiet_want; go_big_quiet_op; first | go_big_quiet_on))
          refine wpQuiet_nil ?_
          go_wp2
          go_ret
          rw [decide_eq_false HNE.out]
          refine ⟨rfl, ?_⟩
          rw [← HW.out]
          exact ⟨rfl, rfl, rfl, Nat.le_refl _, fun _ _ => rfl⟩
      · obtain rfl : j = n1 := by omega
        have hd : l1 = l2 := by
          have h1 := HTK.out
          rw [List.take_of_length_le (by rw [← HL1.out]; exact Nat.le_refl _), List.take_of_length_le (by rw [← HL2.out]; exact Nat.le_refl _)] at h1
          exact h1
        have HD := Lib.hid hd; clear hd
        go_wp2
        go_ret
        rw [decide_eq_true HD.out]
        exact ⟨rfl, rfl, rfl, rfl, Nat.le_refl _, fun _ _ => rfl⟩
  · have hd : decide (l1 = l2) = false := decide_eq_false (fun e => hne (by rw [HL1.out, HL2.out, e]))
    have HD := Lib.hid hd
    have hne' : ((n1 : Int) == (n2 : Int)) = false := by simp; omega
    have hne2 : ((n1 : Int) != (n2 : Int)) = true := by rw [bne, hne']; rfl
    clear hd
    go_enter Tryd.func30, Tryd.ntmps30
    go_wp2_with fail
    go_wp2
    go_ret
    rw [HD.out]
    exact ⟨rfl, Below.refl _ _⟩
def RS.state (s : RS) (most : Nat) : StateV × RS :=
  let a := s.int
  let b := a.2.int
  let c := b.2.int
  let d := c.2.objs most
  let e := d.2.int
  let f := e.2.int
  let g := f.2.int
  let h := g.2.objs most
  (⟨a.1, b.1, c.1, d.1, e.1, f.1, g.1, h.1⟩, h.2)
def StateV.zero : StateV := ⟨0, 0, 0, [], 0, 0, 0, []⟩
def decS (b : List UInt8) : StateV × Bool :=
  let r := (⟨b, false⟩ : RS).state b.length
  if (r.2.bad = false ∧ r.2.left.length = 0) ∧ (WS.state ⟨[], false⟩ r.1).bad = false ∧ (WS.state ⟨[], false⟩ r.1).out = b then (r.1, true) else (StateV.zero, false)
/-- What a decoding leaves. -/
def DecSPost (w : World) (b : List UInt8) (e : Ending) (w' : World) : Prop := ∃ (Ao Ap : Option Addr) (co cp : Nat),
  e = .returned (.tuple #[.agg (stateCells (decS b).1 Ao Ap co cp), .bool (decS b).2]) ∧ StateRd w' (fun k => w.heap.size ≤ k ∧ k < w'.heap.size) (decS b).1 Ao Ap ∧ Below w.heap.size w w'
/-- F, or the block. -/
def Or1 (F : Nat → Prop) (N : Nat) (k : Nat) : Prop := F k ∨ k = N
structure AtN (w3 : World) (F : Nat → Prop) (D N : Nat) (t : TypeId) (x : World) (cs : Array Value) (s : RS) : Prop where
  blk : Blk x N t cs
  re : ReIs x F D s
  kp : Keeps (Or1 F N) w3 x
section
variable {w3 x y : World} {F : Nat → Prop} {D N : Nat} {t : TypeId} {cs : Array Value} {s s' : RS}
theorem AtN.step (h : AtN w3 F D N t x cs s) (hy : ReIs y F D s') (hk : Keeps F x y) (hN : ¬ F N) : AtN w3 F D N t y cs s' :=
  ⟨h.blk.keeps hk hN, hy, h.kp.trans hk (fun _ _ e => Or.inl e)⟩
theorem AtN.put (h : AtN w3 F D N t x cs s) (hN : ¬ F N) (j : Nat) (v : Value) : AtN w3 F D N t (x.setCell ⟨N, j, none⟩ v) (cs.setIfInBounds j v) s :=
  ⟨h.blk.set_ j v, h.re.keeps ((Keeps.refl (fun k => k = N) x).setCell (p := ⟨N, j, none⟩) rfl v) (fun k e e2 => hN (e2 ▸ e)), h.kp.setCell (p := ⟨N, j, none⟩) (Or.inr rfl) v⟩
theorem ObjsRd.put {S : Nat → Prop} {A : Option Addr} {os : List ObjV} (h : ObjsRd x S A os) (hS : ∀ k, S k → k ≠ N) (j : Nat) (v : Value) : ObjsRd (x.setCell ⟨N, j, none⟩ v) S A os :=
  h.off ((Keeps.refl (fun k => k = N) x).setCell (p := ⟨N, j, none⟩) rfl v) (fun k e e2 => hS k e e2)
theorem ObjsRd.tight {S : Nat → Prop} {A : Option Addr} {os : List ObjV} (h : ObjsRd x S A os) : ObjsRd x (fun k => S k ∧ k < x.heap.size) A os := fun hn => by
  obtain ⟨ad, e, hs, hb, hc⟩ := h hn
  refine ⟨ad, e, ⟨hs, hb⟩, hb, fun i o ho => ?_⟩
  obtain ⟨As, At, cs, ct, c0, c1, c2, c3, h1, h2, h3, h4⟩ := hc i o ho
  refine ⟨As, At, cs, ct, c0, c1, c2, c3, fun ad e h0 => ⟨h1 ad e h0, ?_⟩, fun ad e h0 => ⟨h2 ad e h0, ?_⟩, h3, h4⟩
  · obtain ⟨ad', e', hb, _⟩ := h3.2 h0
    rw [e] at e'; injection e' with e'; rw [e']; exact hb
  · obtain ⟨ad', e', hb, _⟩ := h4.2 h0
    rw [e] at e'; injection e' with e'; rw [e']; exact hb
end
theorem bytes_len1 (s : RS) : s.bytes.1.length ≤ 65535 := by
  unfold RS.bytes
  have h1 := (s.left.getD 0 0).toNat_lt
  have h2 := (s.left.getD 1 0).toNat_lt
  split
  · split
    · simp only [List.length_take]; omega
    · simp
  · simp
theorem objsN_cost (s : RS) (k : Nat) : costO (s.objsN k).1 ≤ 196615 * k := by
  have app : ∀ (a b : List ObjV), costO (a ++ b) = costO a + costO b := by
    intro a b
    induction a with
    | nil => simp [costO]
    | cons x r ih => simp only [List.cons_append, costO, ih]; omega
  induction k with
  | zero => rw [objsN_zero]; exact Nat.le_refl _
  | succ k ih =>
    rw [objsN_succ]
    dsimp only
    rw [app]
    have h1 := bytes_len1 (s.objsN k).2
    have h2 := bytes_len1 (s.objsN k).2.bytes.2.int.2
    have h3 := bytes_len1 (s.objsN k).2.bytes.2.int.2.bytes.2
    simp only [costO, RS.objT]
    omega
theorem objs_cost (s : RS) (most : Nat) : costO (s.objs most).1 ≤ 196615 * most := by
  unfold RS.objs
  have h1 := objsN_cost s.int.2 (s.count most)
  have h2 := count_le s most
  exact Nat.le_trans h1 (Nat.mul_le_mul_left _ h2)
theorem objs_len1 (s : RS) (most : Nat) : (s.objs most).1.length ≤ most := by
  unfold RS.objs
  rw [objsN_length]
  exact count_le s most
theorem state_len (x : StateV) : (WS.state ⟨[], false⟩ x).out.length ≤ x.cost := by
  have h1 := ints_len [x.epoch, x.decided, x.dealt] ⟨[], false⟩
  have h2 := objs_len2 ((⟨[], false⟩ : WS).ints [x.epoch, x.decided, x.dealt]) x.objs
  have h3 := ints_len [x.psession, x.pkind, x.pepoch] (((⟨[], false⟩ : WS).ints [x.epoch, x.decided, x.dealt]).objs x.objs)
  have h4 := objs_len2 ((((⟨[], false⟩ : WS).ints [x.epoch, x.decided, x.dealt]).objs x.objs).ints [x.psession, x.pkind, x.pepoch]) x.pobjs
  unfold WS.state StateV.cost
  simp only [List.length_cons, List.length_nil] at h1 h3
  omega
theorem book_len (k : BookV) : (WS.book ⟨[], false⟩ k).out.length ≤ k.cost := by
  have h1 := ints_len [k.session, k.decided, k.epoch, (k.dir.length : Int)] ⟨[], false⟩
  have h2 := heads_len k.dir ((⟨[], false⟩ : WS).ints [k.session, k.decided, k.epoch, (k.dir.length : Int)])
  have h3 := int_len (k.dir.foldl WS.head ((⟨[], false⟩ : WS).ints [k.session, k.decided, k.epoch, (k.dir.length : Int)])) k.up.length
  have h4 := ints_len (k.up.map flagI) ((k.dir.foldl WS.head ((⟨[], false⟩ : WS).ints [k.session, k.decided, k.epoch, (k.dir.length : Int)])).int k.up.length)
  have h5 := int_len (((k.dir.foldl WS.head ((⟨[], false⟩ : WS).ints [k.session, k.decided, k.epoch, (k.dir.length : Int)])).int k.up.length).ints (k.up.map flagI)) k.commit.length
  have h6 := ints_len k.commit ((((k.dir.foldl WS.head ((⟨[], false⟩ : WS).ints [k.session, k.decided, k.epoch, (k.dir.length : Int)])).int k.up.length).ints (k.up.map flagI)).int k.commit.length)
  unfold WS.book BookV.cost
  simp only [List.length_cons, List.length_nil, List.length_map] at h1 h4
  omega
abbrev zeroState : Array Value := #[.int .i64 0, .int .i64 0, .int .i64 0, .slice none 0 0, .int .i64 0, .int .i64 0, .int .i64 0, .slice none 0 0]
theorem decS_none {w w13 : World} {b : List UInt8} {R : Nat} {a : Act} (hR : Blk w13 R 26 zeroState) (hb : Below w.heap.size w w13) (hd : decS b = (StateV.zero, false)) (hRw : w.heap.size ≤ R)
    (h2 : a.tmps.getD 2 undef = .pointer (some ⟨R, 0, none⟩)) (h3 : a.tmps.getD 3 undef = .bool false) (h0 : a.defers = []) : bodyPost Tryd.prog Tryd.f13 (DecSPost w b) .ret a (w13.setRow R zeroState) := by
  have hR' := setRow_heap w13 R _ zeroState _ _ hR
  have hrow := run_loadVar_row (P := Tryd.prog) (w13.setRow R zeroState) R 26 26 zeroState (0, 0) _ hR' Tryd.underlying26 rfl (by kernel_rfl)
  refine bodyPost_ret (v := .tuple #[.agg zeroState, .bool false]) ?_ h0 ?_
  · rw [results_cell_tmp rfl, h2, h3]
    simp only [asAddr, Sem.run_pure, Result.andThen_ok, hrow]
  · refine ⟨none, none, 0, 0, by rw [hd]; rfl, by rw [hd]; exact ⟨fun h => by simp [StateV.zero] at h, fun h => by simp [StateV.zero] at h⟩, ?_⟩
    exact hb.trans (below_setRow (Below.refl _ _) hRw _)
theorem decS_some {w w13 : World} {b : List UInt8} {m : StateV} {R B : Nat} {a : Act} {old : Array Value} {Ao Ap : Option Addr} {co cp : Nat} (hR : Blk w13 R 26 old) (hb : Below w.heap.size w w13) (hd : decS b = (m, true)) (hRw : w.heap.size ≤ R) (hRB : R < B)
    (hMR : StateRd w13 (fun k => B ≤ k) m Ao Ap) (cs : Array Value) (hcs : cs = stateCells m Ao Ap co cp)
    (h2 : a.tmps.getD 2 undef = .pointer (some ⟨R, 0, none⟩)) (h3 : a.tmps.getD 3 undef = .bool true) (h0 : a.defers = []) : bodyPost Tryd.prog Tryd.f13 (DecSPost w b) .ret a (w13.setRow R cs) := by
  have hR' := setRow_heap w13 R _ cs _ _ hR
  have hcz : cs.size = 8 := by rw [hcs]; rfl
  have hrow := run_loadVar_row (P := Tryd.prog) (w13.setRow R cs) R 26 26 cs (0, 0) _ hR' Tryd.underlying26 rfl (by rw [hcz]; kernel_rfl)
  refine bodyPost_ret (v := .tuple #[.agg cs, .bool true]) ?_ h0 ?_
  · rw [results_cell_tmp rfl, h2, h3]
    simp only [asAddr, Sem.run_pure, Result.andThen_ok, hrow]
  · refine ⟨Ao, Ap, co, cp, by rw [hd, hcs], ?_, hb.trans (below_setRow (Below.refl _ _) hRw _)⟩
    rw [hd]
    have h4 := hMR.off ((Keeps.refl (fun k => k = R) w13).setRow_ rfl cs) (fun k e e2 => by omega)
    exact ⟨h4.objs.tight.weaken (fun k e => ⟨by have := e.1; omega, e.2⟩), h4.pobjs.tight.weaken (fun k e => ⟨by have := e.1; omega, e.2⟩)⟩
set_option maxRecDepth 100000 in
set_option maxHeartbeats 4000000 in
theorem DecodeState_any (w : World) (A : Option Addr) (n c : Nat) (b : List UInt8) (hn : n ≤ 67108864) (hr : Rd w w.heap.size A n b) :
    Calls Tryd.prog 13 #[.slice A n c] w (DecSPost w b) := by
  have hbl := hr.len
  go_enter Tryd.func13, Tryd.ntmps13
  have hb1 : Below w.heap.size w (w.alloc (.cells zeroState 26)) := (Below.refl _ _).alloc (Nat.le_refl _) _
  have hR := Blk.new w 26 zeroState
  have hr1 := hr.below hb1
  have hsz : (w.alloc (.cells zeroState 26)).heap.size = w.heap.size + 1 := by simp
  have HSZ := Lib.hid hsz; have HBL := Lib.hid hbl
  clear hsz hbl
  go_upto_region 1 with (fail)
  obtain ⟨R, hRe⟩ : ∃ R, R = w.heap.size := ⟨_, rfl⟩
  rw [← hRe] at hR HSZ ⊢
  generalize w.alloc (.cells zeroState 26) = w1 at hb1 hR hr1 HSZ ⊢
  have HRE := Lib.hid hRe; clear hRe
  go_wp2_with fail
  refine (Read_any A n c w1 b (by omega) (hr1.more hb1.size)).mono ?_
  rintro e w2 ⟨D, rfl, h2, hb2⟩
  have hR2 := hR.below hb2 (by have := HSZ.out; omega)
  have hb02 := hb1.trans (hb2.mono hb1.size)
  have hr2 := hr1.below (hb2.mono hb1.size)
  have H2 := Lib.hid h2.tight; have HB2 := Lib.hid hb2; have HR2 := Lib.hid hR2; have HB02 := Lib.hid hb02; have HRD2 := Lib.hid hr2
  clear h2 hb2 hR2 hb02 hr2 hR hr1 hb1 hr
  go_upto_region 2 with (fail)
  have hbE : Below w2.heap.size w2 (w2.alloc (.cells #[.pointer (some ⟨D, 0, none⟩), .int .i64 (n : Int)] 67)) := (Below.refl _ _).alloc (Nat.le_refl _) _
  have hE := Blk.new w2 67 #[.pointer (some ⟨D, 0, none⟩), .int .i64 (n : Int)]
  have h3 := H2.out.below hbE
  have hRE2 := HR2.out.below hbE HR2.out.lt
  have hRl := HR2.out.lt
  have hszE : (w2.alloc (.cells #[.pointer (some ⟨D, 0, none⟩), .int .i64 (n : Int)] 67)).heap.size = w2.heap.size + 1 := by simp
  obtain ⟨F, hF⟩ : ∃ F, F = (fun k => w1.heap.size ≤ k ∧ k < w2.heap.size) := ⟨_, rfl⟩
  rw [← hF] at h3
  obtain ⟨E, hEe⟩ : ∃ E, E = w2.heap.size := ⟨_, rfl⟩
  rw [← hEe] at hE hRl hszE hF ⊢
  obtain ⟨wE, hwE⟩ : ∃ wE, wE = w2.alloc (.cells #[.pointer (some ⟨D, 0, none⟩), .int .i64 (n : Int)] 67) := ⟨_, rfl⟩
  rw [← hwE] at h3 hbE hE hRE2 hszE ⊢
  have HB0E := Lib.hid (HB02.out.trans (hbE.mono HB02.out.size)); have HRDE := Lib.hid (HRD2.out.below (hbE.mono HB02.out.size))
  have HFE := Lib.hid (show ¬ F E by rw [hF]; intro e; have := e.2; omega)
  have HFR := Lib.hid (show ¬ F R by rw [hF]; intro e; have := e.1; have := HSZ.out; omega)
  have HFB := Lib.hid (show ∀ k, F k → w.heap.size ≤ k by rw [hF]; intro k e; have := e.1; have := HRE.out; have := HSZ.out; omega)
  have HFU := Lib.hid (show ∀ k, F k → k < E by rw [hF]; intro k e; exact e.2)
  have HE := Lib.hid hE; have H3 := Lib.hid h3; have HRE2 := Lib.hid hRE2; have HSZE := Lib.hid hszE; have HRL := Lib.hid hRl
  clear hbE hE h3 hRE2 hszE hRl hF hEe hwE H2 HB2 HR2 HB02 HRD2
  have p0 : wE.cell? ⟨E, 0, none⟩ = some (.pointer (some ⟨D, 0, none⟩)) := (HE.out.cell 0).trans rfl
  go_wp2_with fail
  clear p0
  obtain ⟨s0, hs0⟩ : ∃ ss : RS, ss = ⟨b, false⟩ := ⟨_, rfl⟩
  rw [← hs0] at H3
  have HS0 := Lib.hid hs0; clear hs0
  refine (RInt_any wE F D s0 H3.out).mono ?_
  rintro e wF ⟨rfl, hy, hky⟩
  obtain ⟨z0, hz0⟩ : ∃ zz, zz = s0.int.1 := ⟨_, rfl⟩
  obtain ⟨s1, hs1⟩ : ∃ ss, ss = s0.int.2 := ⟨_, rfl⟩
  rw [← hz0]
  rw [← hs1] at hy
  have HZ0 := Lib.hid hz0; have HS1 := Lib.hid hs1; have HY := Lib.hid hy; have HKY := Lib.hid hky
  clear hz0 hs1 hy hky H3
  go_upto_region 3 with (fail)
  have hbN : Below wF.heap.size wF (wF.alloc (.cells #[.int .i64 z0, .int .i64 0, .int .i64 0, .slice none 0 0, .int .i64 0, .int .i64 0, .int .i64 0, .slice none 0 0] 26)) := (Below.refl _ _).alloc (Nat.le_refl _) _
  have hN := Blk.new wF 26 #[.int .i64 z0, .int .i64 0, .int .i64 0, .slice none 0 0, .int .i64 0, .int .i64 0, .int .i64 0, .slice none 0 0]
  have hE3 := ((HE.out.keeps HKY.out HFE.out).below hbN (HE.out.keeps HKY.out HFE.out).lt)
  have hR3 := ((HRE2.out.keeps HKY.out HFR.out).below hbN (HRE2.out.keeps HKY.out HFR.out).lt)
  have h3 := HY.out.below hbN
  have hszN : (wF.alloc (.cells #[.int .i64 z0, .int .i64 0, .int .i64 0, .slice none 0 0, .int .i64 0, .int .i64 0, .int .i64 0, .slice none 0 0] 26)).heap.size = wF.heap.size + 1 := by simp
  have hb03 : Below w.heap.size w (wF.alloc (.cells #[.int .i64 z0, .int .i64 0, .int .i64 0, .slice none 0 0, .int .i64 0, .int .i64 0, .int .i64 0, .slice none 0 0] 26)) := (HB0E.out.trans (HKY.out.below HFB.out HB0E.out.size)).trans (hbN.mono (Nat.le_trans HB0E.out.size HKY.out.size))
  have hrd3 : Rd (wF.alloc (.cells #[.int .i64 z0, .int .i64 0, .int .i64 0, .slice none 0 0, .int .i64 0, .int .i64 0, .int .i64 0, .slice none 0 0] 26)) w.heap.size A n b := (HRDE.out.below (HKY.out.below HFB.out HB0E.out.size)).below (hbN.mono (Nat.le_trans HB0E.out.size HKY.out.size))
  have hEl := (HE.out.keeps HKY.out HFE.out).lt
  obtain ⟨N, hNe⟩ : ∃ N, N = wF.heap.size := ⟨_, rfl⟩
  rw [← hNe] at hN hszN hEl ⊢
  obtain ⟨w3, hw3⟩ : ∃ w3, w3 = wF.alloc (.cells #[.int .i64 z0, .int .i64 0, .int .i64 0, .slice none 0 0, .int .i64 0, .int .i64 0, .int .i64 0, .slice none 0 0] 26) := ⟨_, rfl⟩
  rw [← hw3] at hN hE3 hR3 h3 hszN hb03 hrd3 ⊢
  have hFN : ¬ F N := fun e => by have := HFU.out _ e; omega
  have hEN : E ≠ N := by omega
  have hRN : R ≠ N := by have := HRL.out; omega
  have HFN := Lib.hid hFN
  have HE3 := Lib.hid hE3; have HR3 := Lib.hid hR3; have HB3 := Lib.hid hb03; have HRD3 := Lib.hid hrd3
  have HKE := Lib.hid (show ∀ x, Keeps (Or1 F N) w3 x → Blk x E 67 #[.pointer (some ⟨D, 0, none⟩), .int .i64 (n : Int)] from fun x hk => HE3.out.keeps hk (fun e => by rcases e with e | e; exact HFE.out e; exact hEN e))
  have HKR := Lib.hid (show ∀ x, Keeps (Or1 F N) w3 x → Blk x R 26 zeroState from fun x hk => HR3.out.keeps hk (fun e => by rcases e with e | e; exact HFR.out e; exact hRN e))
  have HF3 := Lib.hid (show ∀ k, F k → k < w3.heap.size from fun k e => by have := HFU.out _ e; omega)
  have HNL := Lib.hid (show ∀ k, w3.heap.size ≤ k → k ≠ N from fun k e => by omega)
  have hA3 : AtN w3 F D N 26 w3 #[.int .i64 z0, .int .i64 0, .int .i64 0, .slice none 0 0, .int .i64 0, .int .i64 0, .int .i64 0, .slice none 0 0] s1 := ⟨hN, h3, Keeps.refl _ _⟩
  have HA := Lib.hid hA3
  have HNE := Lib.hid (show w.heap.size ≤ R ∧ R < w3.heap.size ∧ w.heap.size ≤ w3.heap.size ∧ N < w3.heap.size ∧ w.heap.size ≤ N from ⟨by have := HRE.out; omega, by have := HRL.out; omega, hb03.size, by omega, by have := HRL.out; have := HRE.out; omega⟩)
  clear hN hE3 hR3 h3 hszN hb03 hrd3 hbN hw3 hNe hFN hEN hRN hA3 HY HKY HE HRE2 HSZE HRL HRDE HB0E hEl
  have p0 : w3.cell? ⟨E, 0, none⟩ = some (.pointer (some ⟨D, 0, none⟩)) := ((HKE.out _ HA.out.kp).cell 0).trans rfl
  go_wp2_with fail
  refine (RInt_any w3 F D s1 HA.out.re).mono ?_
  rintro e y1 ⟨rfl, hy, hky⟩
  generalize hz : s1.int.1 = z1
  generalize hs : s1.int.2 = s2 at hy
  have HZ1 := Lib.hid hz.symm; have HS2 := Lib.hid hs.symm
  have hA := HA.out.step hy hky HFN.out
  have q : y1.cell? ⟨N, 1, none⟩ = some (.int .i64 0) := (hA.blk.cell 1).trans rfl
  have f : y1.frozen? ⟨N, 1, none⟩ = false := hA.blk.frozen 1
  go_upto_region 4 with (fail)
  have hA2 : AtN w3 F D N 26 (y1.setCell ⟨N, 1, none⟩ (.int .i64 z1)) #[.int .i64 z0, .int .i64 z1, .int .i64 0, .slice none 0 0, .int .i64 0, .int .i64 0, .int .i64 0, .slice none 0 0] s2 := hA.put HFN.out 1 _
  obtain ⟨v1, hv⟩ : ∃ ww, ww = y1.setCell ⟨N, 1, none⟩ (.int .i64 z1) := ⟨_, rfl⟩
  rw [← hv] at hA2 ⊢
  clear hv q f p0 hA hy hky hz hs HA
  have HA := Lib.hid hA2
  clear hA2
  have p0 : v1.cell? ⟨E, 0, none⟩ = some (.pointer (some ⟨D, 0, none⟩)) := ((HKE.out _ HA.out.kp).cell 0).trans rfl
  go_wp2_with fail
  refine (RInt_any v1 F D s2 HA.out.re).mono ?_
  rintro e y2 ⟨rfl, hy, hky⟩
  generalize hz : s2.int.1 = z2
  generalize hs : s2.int.2 = s3 at hy
  have HZ2 := Lib.hid hz.symm; have HS3 := Lib.hid hs.symm
  have hA := HA.out.step hy hky HFN.out
  have q : y2.cell? ⟨N, 2, none⟩ = some (.int .i64 0) := (hA.blk.cell 2).trans rfl
  have f : y2.frozen? ⟨N, 2, none⟩ = false := hA.blk.frozen 2
  go_upto_region 5 with (fail)
  have hA2 : AtN w3 F D N 26 (y2.setCell ⟨N, 2, none⟩ (.int .i64 z2)) #[.int .i64 z0, .int .i64 z1, .int .i64 z2, .slice none 0 0, .int .i64 0, .int .i64 0, .int .i64 0, .slice none 0 0] s3 := hA.put HFN.out 2 _
  obtain ⟨v2, hv⟩ : ∃ ww, ww = y2.setCell ⟨N, 2, none⟩ (.int .i64 z2) := ⟨_, rfl⟩
  rw [← hv] at hA2 ⊢
  clear hv q f p0 hA hy hky hz hs HA
  have HA := Lib.hid hA2
  clear hA2
  have p0 : v2.cell? ⟨E, 0, none⟩ = some (.pointer (some ⟨D, 0, none⟩)) := ((HKE.out _ HA.out.kp).cell 0).trans rfl
  go_wp2_with (refine wpList_load_row rfl 67 (.tmp 4) rfl E rfl _ _ _ _ (HKE.out _ HA.out.kp) Tryd.underlying67 rfl (by kernel_rfl) ?_)
  refine (EyeObjs_any v2 F D s3 n (fun k e => Nat.lt_of_lt_of_le (HF3.out k e) HA.out.kp.size) HA.out.re hn).mono ?_
  rintro e y3 ⟨A3, c3, rfl, hO, hy, hky⟩
  generalize hz : (s3.objs n).1 = z3 at hO ⊢
  generalize hs : (s3.objs n).2 = s4 at hy
  have HO3 := Lib.hid (hO.weaken (S' := fun k => w3.heap.size ≤ k) (fun k e => Nat.le_trans HA.out.kp.size e))
  have HZ3 := Lib.hid hz.symm; have HS4 := Lib.hid hs.symm
  have hA := HA.out.step hy hky HFN.out
  have hO3 := HO3.out
  clear hO
  have q : y3.cell? ⟨N, 3, none⟩ = some (.slice none 0 0) := (hA.blk.cell 3).trans rfl
  have f : y3.frozen? ⟨N, 3, none⟩ = false := hA.blk.frozen 3
  go_upto_region 6 with (fail)
  have hA2 : AtN w3 F D N 26 (y3.setCell ⟨N, 3, none⟩ (.slice A3 z3.length c3)) #[.int .i64 z0, .int .i64 z1, .int .i64 z2, .slice A3 z3.length c3, .int .i64 0, .int .i64 0, .int .i64 0, .slice none 0 0] s4 := hA.put HFN.out 3 _
  have hP3 := hO3.put HNL.out 3 (.slice A3 z3.length c3)
  obtain ⟨v3, hv⟩ : ∃ ww, ww = y3.setCell ⟨N, 3, none⟩ (.slice A3 z3.length c3) := ⟨_, rfl⟩
  rw [← hv] at hA2 hP3 ⊢
  clear hv q f p0 hA hy hky hz hs HA hO3 HO3
  have HA := Lib.hid hA2; have HO3 := Lib.hid hP3
  clear hA2 hP3
  have p0 : v3.cell? ⟨E, 0, none⟩ = some (.pointer (some ⟨D, 0, none⟩)) := ((HKE.out _ HA.out.kp).cell 0).trans rfl
  go_wp2_with fail
  refine (RInt_any v3 F D s4 HA.out.re).mono ?_
  rintro e y4 ⟨rfl, hy, hky⟩
  generalize hz : s4.int.1 = z4
  generalize hs : s4.int.2 = s5 at hy
  have HZ4 := Lib.hid hz.symm; have HS5 := Lib.hid hs.symm
  have hA := HA.out.step hy hky HFN.out
  have hO3 := HO3.out.off hky (fun k e hf => by have := HF3.out _ hf; omega)
  have q : y4.cell? ⟨N, 4, none⟩ = some (.int .i64 0) := (hA.blk.cell 4).trans rfl
  have f : y4.frozen? ⟨N, 4, none⟩ = false := hA.blk.frozen 4
  go_upto_region 7 with (fail)
  have hA2 : AtN w3 F D N 26 (y4.setCell ⟨N, 4, none⟩ (.int .i64 z4)) #[.int .i64 z0, .int .i64 z1, .int .i64 z2, .slice A3 z3.length c3, .int .i64 z4, .int .i64 0, .int .i64 0, .slice none 0 0] s5 := hA.put HFN.out 4 _
  have hP3 := hO3.put HNL.out 4 (.int .i64 z4)
  obtain ⟨v4, hv⟩ : ∃ ww, ww = y4.setCell ⟨N, 4, none⟩ (.int .i64 z4) := ⟨_, rfl⟩
  rw [← hv] at hA2 hP3 ⊢
  clear hv q f p0 hA hy hky hz hs HA hO3 HO3
  have HA := Lib.hid hA2; have HO3 := Lib.hid hP3
  clear hA2 hP3
  have p0 : v4.cell? ⟨E, 0, none⟩ = some (.pointer (some ⟨D, 0, none⟩)) := ((HKE.out _ HA.out.kp).cell 0).trans rfl
  go_wp2_with fail
  refine (RInt_any v4 F D s5 HA.out.re).mono ?_
  rintro e y5 ⟨rfl, hy, hky⟩
  generalize hz : s5.int.1 = z5
  generalize hs : s5.int.2 = s6 at hy
  have HZ5 := Lib.hid hz.symm; have HS6 := Lib.hid hs.symm
  have hA := HA.out.step hy hky HFN.out
  have hO3 := HO3.out.off hky (fun k e hf => by have := HF3.out _ hf; omega)
  have q : y5.cell? ⟨N, 5, none⟩ = some (.int .i64 0) := (hA.blk.cell 5).trans rfl
  have f : y5.frozen? ⟨N, 5, none⟩ = false := hA.blk.frozen 5
  go_upto_region 8 with (fail)
  have hA2 : AtN w3 F D N 26 (y5.setCell ⟨N, 5, none⟩ (.int .i64 z5)) #[.int .i64 z0, .int .i64 z1, .int .i64 z2, .slice A3 z3.length c3, .int .i64 z4, .int .i64 z5, .int .i64 0, .slice none 0 0] s6 := hA.put HFN.out 5 _
  have hP3 := hO3.put HNL.out 5 (.int .i64 z5)
  obtain ⟨v5, hv⟩ : ∃ ww, ww = y5.setCell ⟨N, 5, none⟩ (.int .i64 z5) := ⟨_, rfl⟩
  rw [← hv] at hA2 hP3 ⊢
  clear hv q f p0 hA hy hky hz hs HA hO3 HO3
  have HA := Lib.hid hA2; have HO3 := Lib.hid hP3
  clear hA2 hP3
  have p0 : v5.cell? ⟨E, 0, none⟩ = some (.pointer (some ⟨D, 0, none⟩)) := ((HKE.out _ HA.out.kp).cell 0).trans rfl
  go_wp2_with fail
  refine (RInt_any v5 F D s6 HA.out.re).mono ?_
  rintro e y6 ⟨rfl, hy, hky⟩
  generalize hz : s6.int.1 = z6
  generalize hs : s6.int.2 = s7 at hy
  have HZ6 := Lib.hid hz.symm; have HS7 := Lib.hid hs.symm
  have hA := HA.out.step hy hky HFN.out
  have hO3 := HO3.out.off hky (fun k e hf => by have := HF3.out _ hf; omega)
  have q : y6.cell? ⟨N, 6, none⟩ = some (.int .i64 0) := (hA.blk.cell 6).trans rfl
  have f : y6.frozen? ⟨N, 6, none⟩ = false := hA.blk.frozen 6
  go_upto_region 9 with (fail)
  have hA2 : AtN w3 F D N 26 (y6.setCell ⟨N, 6, none⟩ (.int .i64 z6)) #[.int .i64 z0, .int .i64 z1, .int .i64 z2, .slice A3 z3.length c3, .int .i64 z4, .int .i64 z5, .int .i64 z6, .slice none 0 0] s7 := hA.put HFN.out 6 _
  have hP3 := hO3.put HNL.out 6 (.int .i64 z6)
  obtain ⟨v6, hv⟩ : ∃ ww, ww = y6.setCell ⟨N, 6, none⟩ (.int .i64 z6) := ⟨_, rfl⟩
  rw [← hv] at hA2 hP3 ⊢
  clear hv q f p0 hA hy hky hz hs HA hO3 HO3
  have HA := Lib.hid hA2; have HO3 := Lib.hid hP3
  clear hA2 hP3
  have p0 : v6.cell? ⟨E, 0, none⟩ = some (.pointer (some ⟨D, 0, none⟩)) := ((HKE.out _ HA.out.kp).cell 0).trans rfl
  go_wp2_with (refine wpList_load_row rfl 67 (.tmp 4) rfl E rfl _ _ _ _ (HKE.out _ HA.out.kp) Tryd.underlying67 rfl (by kernel_rfl) ?_)
  refine (EyeObjs_any v6 F D s7 n (fun k e => Nat.lt_of_lt_of_le (HF3.out k e) HA.out.kp.size) HA.out.re hn).mono ?_
  rintro e y7 ⟨A7, c7, rfl, hO, hy, hky⟩
  generalize hz : (s7.objs n).1 = z7 at hO ⊢
  generalize hs : (s7.objs n).2 = s8 at hy
  have HO7 := Lib.hid (hO.weaken (S' := fun k => w3.heap.size ≤ k) (fun k e => Nat.le_trans HA.out.kp.size e))
  have HZ7 := Lib.hid hz.symm; have HS8 := Lib.hid hs.symm
  have hA := HA.out.step hy hky HFN.out
  have hO3 := HO3.out.off hky (fun k e hf => by have := HF3.out _ hf; omega)
  have hO7 := HO7.out
  clear hO
  have q : y7.cell? ⟨N, 7, none⟩ = some (.slice none 0 0) := (hA.blk.cell 7).trans rfl
  have f : y7.frozen? ⟨N, 7, none⟩ = false := hA.blk.frozen 7
  go_upto_region 10 with (fail)
  have hA2 : AtN w3 F D N 26 (y7.setCell ⟨N, 7, none⟩ (.slice A7 z7.length c7)) #[.int .i64 z0, .int .i64 z1, .int .i64 z2, .slice A3 z3.length c3, .int .i64 z4, .int .i64 z5, .int .i64 z6, .slice A7 z7.length c7] s8 := hA.put HFN.out 7 _
  have hP3 := hO3.put HNL.out 7 (.slice A7 z7.length c7)
  have hP7 := hO7.put HNL.out 7 (.slice A7 z7.length c7)
  obtain ⟨v7, hv⟩ : ∃ ww, ww = y7.setCell ⟨N, 7, none⟩ (.slice A7 z7.length c7) := ⟨_, rfl⟩
  rw [← hv] at hA2 hP3 hP7 ⊢
  clear hv q f p0 hA hy hky hz hs HA hO3 hO7 HO3 HO7
  have HA := Lib.hid hA2; have HO3 := Lib.hid hP3; have HO7 := Lib.hid hP7
  clear hA2 hP3 hP7
  obtain ⟨m, hm⟩ : ∃ m : StateV, m = ⟨z0, z1, z2, z3, z4, z5, z6, z7⟩ := ⟨_, rfl⟩
  have hst : (⟨b, false⟩ : RS).state n = (m, s8) := by
    rw [hm, HZ7.out, HZ6.out, HZ5.out, HZ4.out, HZ3.out, HZ2.out, HZ1.out, HZ0.out, HS8.out, HS7.out, HS6.out, HS5.out, HS4.out, HS3.out, HS2.out, HS1.out, HS0.out]; rfl
  have hcost : m.cost ≤ 140737488000000 := by
    have h1 := objs_cost s3 n
    have h2 := objs_cost s7 n
    rw [← HZ3.out] at h1
    rw [← HZ7.out] at h2
    rw [hm]
    unfold StateV.cost
    dsimp only
    omega
  have henc := EncodeState_any v7 (fun k => w3.heap.size ≤ k ∧ k < v7.heap.size) m A3 A7 c3 c7 ⟨by rw [hm]; exact HO3.out.tight, by rw [hm]; exact HO7.out.tight⟩ (fun k e => e.2) hcost
  rw [hm] at henc
  dsimp only [stateCells] at henc
  rw [← hm] at henc
  have HENC := Lib.hid henc; have HM := Lib.hid hm; have HST := Lib.hid hst; have HCO := Lib.hid hcost
  clear henc hm hst hcost HZ0 HZ1 HZ2 HZ3 HZ4 HZ5 HZ6 HZ7 HS0 HS1 HS2 HS3 HS4 HS5 HS6 HS7 HS8
  go_wp2_with (refine wpList_load_row rfl 26 (.tmp 5) rfl N rfl _ _ _ _ HA.out.blk Tryd.underlying26 rfl (by kernel_rfl) ?_)
  refine HENC.out.mono ?_
  rintro e w12 ⟨v', rfl, hf, hb12, _⟩
  have hE12 := (HKE.out _ HA.out.kp).below hb12 (HKE.out _ HA.out.kp).lt
  have hR12 := (HKR.out _ HA.out.kp).below hb12 (HKR.out _ HA.out.kp).lt
  have hN12 := HA.out.blk.below hb12 HA.out.blk.lt
  have p0 : w12.cell? ⟨E, 0, none⟩ = some (.pointer (some ⟨D, 0, none⟩)) := (hE12.cell 0).trans rfl
  have H12 := Lib.hid (HA.out.re.below hb12)
  have hkB := HA.out.kp.below (B := w.heap.size) (fun k e => by rcases e with e | e; exact HFB.out _ e; rw [e]; exact HNE.out.2.2.2.2) HNE.out.2.2.1
  have hb11 : Below w.heap.size w v7 := HB3.out.trans hkB
  have HB12 := Lib.hid (hb11.trans (hb12.mono hb11.size))
  have HRD12 := Lib.hid ((HRD3.out.below hkB).below (hb12.mono hb11.size))
  have hMR : StateRd v7 (fun k => w3.heap.size ≤ k) m A3 A7 := ⟨by rw [HM.out]; exact HO3.out, by rw [HM.out]; exact HO7.out⟩
  have HMR := Lib.hid (hMR.below hb12)
  have HR12 := Lib.hid hR12; have HN12 := Lib.hid hN12; have HF := Lib.hid hf
  clear hE12 hR12 hN12 hb11 hkB hf hb12 hMR HENC
  go_wp2_with fail
  refine (Done_any w12 F D s8 H12.out).mono ?_
  obtain ⟨dn, hdn⟩ : ∃ x, x = (!s8.bad && decide (s8.left.length = 0)) := ⟨_, rfl⟩
  obtain ⟨es, hes⟩ : ∃ x, x = WS.state ⟨[], false⟩ m := ⟨_, rfl⟩
  rw [← hdn]
  have hdec : decS b = if (s8.bad = false ∧ s8.left.length = 0) ∧ es.bad = false ∧ es.out = b then (m, true) else (StateV.zero, false) := by
    unfold decS
    dsimp only
    rw [← HBL.out, HST.out, ← hes]
  rw [← hes] at HF ⊢
  have HEL := Lib.hid (show es.out.length ≤ 140737488355328 by rw [hes]; have h1 := state_len m; have h2 := HCO.out; omega)
  have HDN := Lib.hid hdn; have HES := Lib.hid hes; have HDEC := Lib.hid hdec
  clear hdn hes hdec p0
  rintro e w13 ⟨rfl, rfl⟩
  cases dn
  · have hd2 : decS b = (StateV.zero, false) := by
      rw [HDEC.out, if_neg]
      intro e
      have := HDN.out
      rw [e.1.1, e.1.2] at this
      simp at this
    have HD2 := Lib.hid hd2; clear hd2
    go_wp2_with (refine wpList_store_row rfl 26 (.tmp 2) (.tmp 66) rfl R zeroState (by rfl) (by rfl) _ _ HR12.out (by kernel_rfl) rfl (by kernel_rfl) ?_)
    exact decS_none HR12.out HB12.out HD2.out HNE.out.1 (by rfl) (by rfl) (by rfl)
  · cases hbad : es.bad
    · have hfb := HF.out
      rw [hbad] at hfb
      simp only [Bool.false_eq_true, if_false] at hfb
      obtain ⟨Av, cv, rfl, hrv, _⟩ := hfb
      have HRV := Lib.hid hrv
      have HBAD := Lib.hid hbad
      clear hrv hbad
      have hel : es.out.length ≤ 140737488355328 := HEL.out
      go_wp2_with fail
      refine (Equal_any Av _ cv A n c w13 _ _ es.out b hel HRV.out HRD12.out).mono ?_
      rintro e w14 ⟨rfl, hb14⟩
      have HR14 := Lib.hid (HR12.out.below hb14 HR12.out.lt); have HN14 := Lib.hid (HN12.out.below hb14 HN12.out.lt); have HB14 := Lib.hid (HB12.out.trans (hb14.mono HB12.out.size))
      have HMR14 := Lib.hid (HMR.out.below hb14)
      clear hb14 hel
      by_cases heq : es.out = b
      · have hd2 : decS b = (m, true) := by
          rw [HDEC.out, if_pos]
          have := HDN.out
          simp at this
          exact ⟨⟨this.1, by rw [this.2]; rfl⟩, HBAD.out, heq⟩
        rw [decide_eq_true heq]
        have HD2 := Lib.hid hd2; clear hd2 heq
        go_wp2_with (first | (refine wpList_load_row rfl 26 (.tmp 5) rfl N rfl _ _ _ _ HN14.out Tryd.underlying26 rfl (by kernel_rfl) ?_) | (refine wpList_store_row rfl 26 (.tmp 2) (.tmp 67) rfl R _ (by rfl) (by rfl) _ _ HR14.out (by kernel_rfl) (by rfl) (by simp [Value.oneCell']) ?_))
        exact decS_some HR14.out HB14.out HD2.out HNE.out.1 HNE.out.2.1 HMR14.out _ (by rw [HM.out]) (by rfl) (by rfl) (by rfl)
      · have hd2 : decS b = (StateV.zero, false) := by rw [HDEC.out, if_neg (fun e => heq e.2.2)]
        rw [decide_eq_false heq]
        have HD2 := Lib.hid hd2; clear hd2 heq
        go_wp2_with (refine wpList_store_row rfl 26 (.tmp 2) (.tmp 66) rfl R zeroState (by rfl) (by rfl) _ _ HR14.out (by kernel_rfl) rfl (by kernel_rfl) ?_)
        exact decS_none HR14.out HB14.out HD2.out HNE.out.1 (by rfl) (by rfl) (by rfl)
    · have hd2 : decS b = (StateV.zero, false) := by rw [HDEC.out, if_neg (fun e => by rw [hbad] at e; simp at e)]
      have HD2 := Lib.hid hd2; clear hd2
      have HBAD := Lib.hid hbad
      clear hbad
      go_wp2_with (refine wpList_store_row rfl 26 (.tmp 2) (.tmp 66) rfl R zeroState (by rfl) (by rfl) _ _ HR12.out (by kernel_rfl) rfl (by kernel_rfl) ?_)
      exact decS_none HR12.out HB12.out HD2.out HNE.out.1 (by rfl) (by rfl) (by rfl)
end Go.Proofs.YtinkclcdpcjnfaaDoor

