/- The walk of the eye's lists of objects: what any bytes are read as. Condition: a list has no great number of parts. -/
import Derived.Test.YtinkclcdpcjnfaaDoorRec5
import Derived.Test.YtinkclcdpcjnfaaDoorInv
namespace Go.Proofs.YtinkclcdpcjnfaaDoor
open Go.RowKit
theorem obj_info : (Tryd.prog.info? 47).map (fun i => (i.zero, i.size, i.bytes)) = some (some (.agg #[.string ⟨#[]⟩, .int .i64 0, .slice none 0 0, .slice none 0 0]), 4, 72) := by kernel_rfl
structure ObjP where
  o : ObjV
  As : Option Addr
  At : Option Addr
  cs : Nat
  ct : Nat
def objC (p : ObjP) : List Value := [.string ⟨p.o.id.toArray⟩, .int .i64 p.o.size, .slice p.As p.o.share.length p.cs, .slice p.At p.o.tag.length p.ct]
theorem objC_at (l : List ObjP) : ∀ (i : Nat) (p : ObjP), l[i]? = some p → (l.flatMap objC)[i * 4]? = some (.string ⟨p.o.id.toArray⟩) ∧ (l.flatMap objC)[i * 4 + 1]? = some (.int .i64 p.o.size) ∧
    (l.flatMap objC)[i * 4 + 2]? = some (.slice p.As p.o.share.length p.cs) ∧ (l.flatMap objC)[i * 4 + 3]? = some (.slice p.At p.o.tag.length p.ct) := by
  induction l with
  | nil => intro i h e; cases e
  | cons x r ih =>
    intro i h e
    cases i with
    | zero => injection e with e; subst e; exact ⟨rfl, rfl, rfl, rfl⟩
    | succ i =>
      have h1 := ih i h (by simpa using e)
      rw [List.flatMap_cons]
      unfold objC at h1 ⊢
      rw [show (i + 1) * 4 = i * 4 + 4 by omega, show i * 4 + 4 + 1 = (i * 4 + 1) + 4 by omega, show i * 4 + 4 + 2 = (i * 4 + 2) + 4 by omega, show i * 4 + 4 + 3 = (i * 4 + 3) + 4 by omega]
      exact h1
theorem objC_len (l : List ObjP) : (l.flatMap objC).length = l.length * 4 := by
  induction l with
  | nil => rfl
  | cons x r ih => rw [List.flatMap_cons, List.length_append, ih]; simp [objC]; omega
theorem objsRd_of {w : World} {B : Nat} {S : Nat → Prop} {v : Value} {l : List ObjP} (h : w.ownsRow B 47 4 v l.length (l.flatMap objC)) (hS : ∀ k, B ≤ k → S k) (hr : ∀ p ∈ l, ObjRd w S p.As p.At p.o) :
    ∃ A c, v = .slice A l.length c ∧ ObjsRd w S A (l.map (·.o)) := by
  rcases h.2 with ⟨rfl, e⟩ | ⟨g, cap, cur, rfl, hg, hh, _, _, _, ht⟩
  · have : l = [] := List.eq_nil_of_length_eq_zero e
    subst this
    exact ⟨none, 0, rfl, fun h => by simp at h⟩
  · refine ⟨_, cap, rfl, fun hn => ⟨_, rfl, hS _ hg, lt_of_block hh, fun i x hx => ?_⟩⟩
    rw [List.getElem?_map] at hx
    cases hp : l[i]? with
    | none => rw [hp] at hx; cases hx
    | some p =>
      rw [hp] at hx
      obtain rfl : p.o = x := by simpa using hx
      obtain ⟨h0, h1, h2, h3⟩ := objC_at l i p hp
      have hi : i < l.length := (List.getElem?_eq_some_iff.1 hp).1
      have hcur : ∀ j, j < l.length * 4 → w.cell? ⟨g, j, none⟩ = (l.flatMap objC)[j]? := by
        intro j hj
        rw [cell_of_row w g j cur _ (0, 0) hh, ← ht, List.getElem?_take, if_pos hj, Array.getElem?_toList]
      have ha : (⟨g, 0, none⟩ : Addr).add (i * 4) = ⟨g, i * 4, none⟩ := by unfold Addr.add; split <;> simp_all
      rw [ha]
      exact ⟨p.As, p.At, p.cs, p.ct, (hcur (i * 4) (by omega)).trans h0, (hcur (i * 4 + 1) (by omega)).trans h1, (hcur (i * 4 + 2) (by omega)).trans h2, (hcur (i * 4 + 3) (by omega)).trans h3, hr p (List.mem_of_getElem? hp)⟩
theorem Keeps.setNew {F : Nat → Prop} {a b : World} (h : Keeps F a b) {p : Addr} (hp : a.heap.size ≤ p.block) (u : Value) : Keeps F a (b.setCell p u) :=
  ⟨h.os, h.tape, h.output, by simp only [World.setCell, Array.size_modify]; exact h.size, fun k hk hn => (Below.heap_setCell _ _ _ _ (fun e => by omega)).trans (h.block k hk hn)⟩
theorem Keeps.setRowNew {F : Nat → Prop} {a b : World} (h : Keeps F a b) {g : Nat} (hp : a.heap.size ≤ g) (cs : Array Value) : Keeps F a (b.setRow g cs) :=
  ⟨h.os, h.tape, h.output, by simp only [World.setRow, Array.size_modify]; exact h.size, fun k hk hn => (setRow_other b g k cs (by omega)).trans (h.block k hk hn)⟩
theorem objsN_succ (s : RS) (k : Nat) : s.objsN (k + 1) = ((s.objsN k).1 ++ [(s.objsN k).2.objT.1], (s.objsN k).2.objT.2) := by rw [RS.objsN.eq_def]
theorem objsN_zero (s : RS) : s.objsN 0 = ([], s) := by rw [RS.objsN.eq_def]
def ObjsPost (w : World) (F : Nat → Prop) (D : Nat) (r : List ObjV × RS) (e : Ending) (w' : World) : Prop := ∃ A c, e = .returned (.slice A r.1.length c) ∧ ObjsRd w' (fun k => w.heap.size ≤ k) A r.1 ∧ ReIs w' F D r.2 ∧ Keeps F w w'
theorem wpList_store_row {P : Program} {ops : Array Oper} {rest : List Oper} {o : Oper} {a : Act} {w : World} {Q : Exit → Act → World → Prop} (hgd : o.guard = none) (ty : TypeId) (x y : Operand) (ho : o.op = .store ty x y)
    (g : Nat) (cells : Array Value) (hx : a.eval x = .pointer (some ⟨g, 0, none⟩)) (hy : a.eval y = .agg cells) (t : TypeId) (old : Array Value) (hg : w.heap[g]? = some (.cells old t (0, 0))) (hi : (P.info? ty).map (·.size) = some cells.size)
    (hold : old.size = cells.size) (h1 : cells.all (·.oneCell') = true) (h : wpList P ops Q rest (a.put o.dst undef) (w.setRow g cells)) : wpList P ops Q (o :: rest) a w :=
  wpList_plain hgd fun _ hK => wp_store_row ty x y ho g cells hx hy t old hg hi hold h1 (hK _ _ h)
theorem Keeps.setRow_ {F : Nat → Prop} {a b : World} (h : Keeps F a b) {g : Nat} (hp : F g) (cs : Array Value) : Keeps F a (b.setRow g cs) :=
  ⟨h.os, h.tape, h.output, by simp only [World.setRow, Array.size_modify]; exact h.size, fun k hk hn => (setRow_other b g k cs (fun e => hn (by rw [e]; exact hp))).trans (h.block k hk hn)⟩
theorem ObjRd.app {w w' : World} {B : Nat} {v v' : Value} {As At : Option Addr} {o : ObjV} (h : ObjRd w (fun k => B ≤ k ∧ v.ownBlock ≠ some k) As At o) (hk : Keeps (fun k => v.ownBlock = some k) w w')
    (hv : v'.ownBlock = v.ownBlock ∨ ∃ m, v'.ownBlock = some m ∧ w.heap.size ≤ m) : ObjRd w' (fun k => B ≤ k ∧ v'.ownBlock ≠ some k) As At o := by
  have h' := h.off hk (fun k e e2 => e.2 e2)
  have key : ∀ k, k < w.heap.size → (B ≤ k ∧ v.ownBlock ≠ some k) → (B ≤ k ∧ v'.ownBlock ≠ some k) := fun k hk e => ⟨e.1, fun e2 => by
    rcases hv with e3 | ⟨m, e3, e4⟩
    · exact e.2 (e3 ▸ e2)
    · rw [e3] at e2; injection e2 with e2; omega⟩
  refine ⟨fun ad e h0 => key _ ?_ (h.1 ad e h0), fun ad e h0 => key _ ?_ (h.2.1 ad e h0), h'.2.2⟩
  · obtain ⟨ad', e', hb, _⟩ := h.2.2.1.2 h0
    rw [e] at e'; injection e' with e'; rw [e']; exact hb
  · obtain ⟨ad', e', hb, _⟩ := h.2.2.2.2 h0
    rw [e] at e'; injection e' with e'; rw [e']; exact hb
set_option maxRecDepth 100000 in
set_option maxHeartbeats 4000000 in
theorem EyeObjs_any (w : World) (F : Nat → Prop) (D : Nat) (s : RS) (most : Nat) (hF : ∀ k, F k → k < w.heap.size) (h : ReIs w F D s) (hm : most ≤ 67108864) :
    Calls Tryd.prog 28 #[.agg #[.pointer (some ⟨D, 0, none⟩), .int .i64 (most : Int)]] w (ObjsPost w F D (s.objs most)) := by
  have hb1 : Below w.heap.size w (w.alloc (.cells #[.pointer (some ⟨D, 0, none⟩), .int .i64 (most : Int)] 67)) := (Below.refl _ _).alloc (Nat.le_refl _) _
  have h1 := h.below hb1
  have hbx := Blk.new w 67 #[.pointer (some ⟨D, 0, none⟩), .int .i64 (most : Int)]
  have hsz : (w.alloc (.cells #[.pointer (some ⟨D, 0, none⟩), .int .i64 (most : Int)] 67)).heap.size = w.heap.size + 1 := by simp
  have H1 := Lib.hid h1; have HSZ := Lib.hid hsz
  clear h1 hsz h
  go_enter Tryd.func28, Tryd.ntmps28
  go_upto_region 2 with (fail)
  obtain ⟨b, hb⟩ : ∃ b, b = w.heap.size := ⟨_, rfl⟩
  rw [← hb] at hbx HSZ hF hb1 ⊢
  obtain ⟨w1, hw1⟩ : ∃ w1, w1 = w.alloc (.cells #[.pointer (some ⟨D, 0, none⟩), .int .i64 (most : Int)] 67) := ⟨_, rfl⟩
  rw [← hw1] at H1 hbx HSZ hb1 ⊢
  have hFb : ¬ F b := fun e => Nat.lt_irrefl _ (hF _ e)
  have p0 : w1.cell? ⟨b, 0, none⟩ = some (.pointer (some ⟨D, 0, none⟩)) := (hbx.cell 0).trans rfl
  have hk01 : Keeps F w w1 := Keeps.of_below (by rw [← hb]; exact hb1)
  have HK01 := Lib.hid hk01; have HFB := Lib.hid hFb; have HBX := Lib.hid hbx; have HB := Lib.hid hb
  have HF1 := Lib.hid (show ∀ k, F k → k < w1.heap.size from fun k e => by have := hF k e; have := HSZ.out; omega)
  have HF := Lib.hid hF
  clear hFb hbx hb hw1 hb1 hF hk01
  go_wp2_with (refine wpList_load_row rfl 67 (.tmp 1) rfl b rfl _ _ _ _ HBX.out Tryd.underlying67 rfl (by kernel_rfl) ?_)
  refine (EyeCount_any w1 F D s most HF1.out H1.out hm).mono ?_
  rintro e w2 ⟨rfl, h2, hk2⟩
  have hcnt : s.objs most = s.int.2.objsN (s.count most) := rfl
  have hcm := count_le s most
  generalize s.int.2 = s1 at hcnt h2
  generalize s.count most = k at hcnt hcm ⊢
  have HCNT := Lib.hid hcnt; have H2 := Lib.hid h2; have HK2 := Lib.hid hk2
  clear hcnt h2 hk2 p0
  go_wp2_with fail
  go_loopw [3, 7] (fun v q wr => ∃ j : Nat, j ≤ k ∧ q = .int .i64 (j : Int) ∧ ∃ ps : List ObjP, ps.length = j ∧ ps.map (·.o) = (s1.objsN j).1 ∧ wr.ownsRow w1.heap.size 47 4 v j (ps.flatMap objC) ∧ (∀ p ∈ ps, ObjRd wr (fun k => b ≤ k ∧ v.ownBlock ≠ some k) p.As p.At p.o) ∧ ReIs wr F D (s1.objsN j).2 ∧ Keeps F w1 wr) (fun _ q _ => k - (intOf q).toNat)
  case atStart => exact ⟨0, by omega, rfl, [], rfl, by rw [objsN_zero]; exact List.map_nil, World.ownsRow_nil _ _ _ _, (fun p hp => by cases hp), by rw [objsN_zero]; exact H2.out, HK2.out⟩
  case round =>
    obtain ⟨j, hj, rfl, ps, hps, hmap, hv, hobj, hr, hkp⟩ := hrel
    obtain ⟨A, c, rfl⟩ : ∃ A c, u3 = .slice A j c := by
      rcases hv.2 with ⟨rfl, e⟩ | ⟨g, cap, cur, rfl, _⟩
      · rw [e]; exact ⟨none, 0, rfl⟩
      · exact ⟨_, cap, rfl⟩
    have HV := Lib.hid hv; have HR := Lib.hid hr; have HK := Lib.hid hkp; have HPS := Lib.hid hps; have HMAP := Lib.hid hmap; have HOBJ := Lib.hid hobj
    clear hv hr hkp hps hmap hobj
    by_cases hjk : j < k
    · have hjk' : (j : Int) < (k : Int) := by omega
      go_upto_region 4 with (fail)
      obtain ⟨N, hN⟩ : ∃ N, N = (s1.objsN j).2 := ⟨_, rfl⟩
      rw [← hN] at HR
      have HN := Lib.hid hN
      clear hN
      go_cut [4] (fun s4 wx => ∃ g, s4 = .pointer (some ⟨g, 0, none⟩) ∧ Blk wx g 47 #[.string ⟨N.bytes.1.toArray⟩, .int .i64 N.bytes.2.int.1, .slice none 0 0, .slice none 0 0] ∧ wr.heap.size ≤ g ∧ ReIs wx F D N.bytes.2.int.2 ∧ Keeps F wr wx)
      case first =>
        have p0 : ∀ W, Keeps F wr W → W.cell? ⟨b, 0, none⟩ = some (.pointer (some ⟨D, 0, none⟩)) := fun W hW => (((HBX.out.keeps HK.out HFB.out).keeps hW HFB.out).cell 0).trans rfl
        have HFW := Lib.hid (show ∀ k, F k → k < wr.heap.size from fun k e => Nat.lt_of_lt_of_le (HF1.out k e) HK.out.size)
        refine wp_region_anyN (Keeps F wr) (by kernel_rfl) ?_
        refine anyC_takes (by kernel_rfl) (fun _ _ _ _ _ h => h) [0, 1, 4, 5] 6 _ _ (by kernel_rfl) ?_
        simp only [List.filterMap_cons, List.filterMap_nil, List.getElem?_toArray, List.getElem?_cons_succ, List.getElem?_cons_zero]
        show wpQuiet _ _ _ _ (_ :: _ :: _ :: _ :: List.nil) _
        repeat (first | go_big_quiet_skip | (go_big_quiet_want; first | (refine quiet_load _ _ rfl ⟨b, 0, none⟩ rfl _ (fun W hW => p0 W hW) (fun _ => by kernel_rfl) ?_; simp only [Act.put, List.setIfInBounds_toArray, List.set_cons_succ, List.set_cons_zero]; go_big_quiet_on) | (go_big_quiet_op; first | go_big_quiet_on | (refine ⟨_, fun _ _ => rfl, ?_⟩; go_big_quiet_on))))
        refine wpQuiet_nil ?_
        refine anyC_both (i := 2) (j := 8) rfl rfl (by kernel_rfl) (Keeps.refl F wr).drew ?_ ?_
        · go_wp2_with fail
          refine (RBytes_any wr.drew F D N (HR.out.below ((Below.refl _ _).drew))).mono ?_
          rintro e wx ⟨vx, rfl, ⟨Ax, cx, rfl, hrx, hax⟩, hx, hkx⟩
          have hkx' : Keeps F wr wx := ((Keeps.refl F wr).drew).trans hkx (fun _ _ e => e)
          have HRX := Lib.hid hrx; have HX := Lib.hid hx; have HKX := Lib.hid hkx'; have HAX := Lib.hid hax
          clear hrx hx hkx hkx' hax
          go_wp2_with fail
          have hCx : ∀ W, Keeps F wx W → Keeps F wr W := fun W hW => HKX.out.trans hW (fun _ _ e => e)
          refine anyC_narrow (C' := Keeps F wx) hCx _ _ _ _ ?_
          refine anyC_takes (by kernel_rfl) (fun _ _ _ _ _ h => h) [3] 4 _ _ (by kernel_rfl) ?_
          simp only [List.filterMap_cons, List.filterMap_nil, List.getElem?_toArray, List.getElem?_cons_succ, List.getElem?_cons_zero]
          show wpQuiet _ _ _ _ (_ :: List.nil) _
          repeat (first | go_big_quiet_skip | (go_big_quiet_want; first | (refine quiet_str 27 9 5 (.tmp 11) rfl Ax _ cx N.bytes.1 rfl Tryd.underlying27 Tryd.underlying5 Tryd.underlying9 _ (fun W hW => reads_off HRX.out hW (Nat.le_refl _) (fun ad e _ hf => absurd (HAX.out ad e) (Nat.not_le_of_lt (HFW.out _ hf)))) ?_; simp only [Act.put, List.setIfInBounds_toArray, List.set_cons_succ, List.set_cons_zero]; go_big_quiet_on) | (go_big_quiet_op; first | go_big_quiet_on | (refine ⟨_, fun _ _ => rfl, ?_⟩; go_big_quiet_on))))
          refine wpQuiet_nil ?_
          refine anyC_both (i := 6) (j := 8) rfl rfl (by kernel_rfl) (Keeps.refl F wx) ?_ ?_
          · go_wp2_with fail
            refine (RInt_any wx F D _ HX.out).mono ?_
            rintro e wy ⟨rfl, hy, hky⟩
            have HY := Lib.hid hy; have HKY := Lib.hid hky
            clear hy hky
            go_wp2_with fail
            refine anyC_takes (by kernel_rfl) (fun _ _ _ _ _ h => h) [7] 2 _ _ (by kernel_rfl) ?_
            simp only [List.filterMap_cons, List.filterMap_nil, List.getElem?_toArray, List.getElem?_cons_succ, List.getElem?_cons_zero]
            show wpQuiet _ _ _ _ (_ :: List.nil) _
            repeat (first | go_big_quiet_skip | (go_big_quiet_want; first | (fail; simp only [Act.put, List.setIfInBounds_toArray, List.set_cons_succ, List.set_cons_zero]; go_big_quiet_on) | (go_big_quiet_op; first | go_big_quiet_on | (refine ⟨_, fun _ _ => rfl, ?_⟩; go_big_quiet_on))))
            refine wpQuiet_nil ?_
            refine anyC_only (i := 8) rfl (by kernel_rfl) HKY.out ?_
            go_wp2_with fail
            refine anyC_only (i := 9) rfl (by kernel_rfl) (HKY.out.alloc _) ?_
            go_wp2_with fail
            refine ⟨HKY.out.alloc _, by kernel_rfl, ?_⟩
            go_wp2_with fail
            go_meet
            have hbq : Below wy.heap.size wy (wy.alloc (.cells #[.string ⟨N.bytes.1.toArray⟩, .int .i64 N.bytes.2.int.1, .slice none 0 0, .slice none 0 0] 47)) := (Below.refl _ _).alloc (Nat.le_refl _) _
            exact ⟨_, rfl, Blk.new _ _ _, Nat.le_trans HKX.out.size HKY.out.size, HY.out.below hbq, (hCx _ HKY.out).alloc _⟩
          · go_wp2_with fail
            have hk1 := (Keeps.refl F wx).alloc (.cells #[.string ⟨#[]⟩, .int .i64 0, .slice none 0 0, .slice none 0 0] 47)
            have hb1 := Blk.new wx 47 #[.string ⟨#[]⟩, .int .i64 0, .slice none 0 0, .slice none 0 0]
            have hx1 := HX.out.below ((Below.refl _ wx).alloc (Nat.le_refl _) (.cells #[.string ⟨#[]⟩, .int .i64 0, .slice none 0 0, .slice none 0 0] 47))
            have hfx : ¬ F wx.heap.size := fun e => by have := HFW.out _ e; have := HKX.out.size; omega
            refine anyC_only (i := 6) rfl (by kernel_rfl) hk1 ?_
            go_wp2_with fail
            refine (RInt_any _ F D _ hx1).mono ?_
            rintro e wy ⟨rfl, hy, hky⟩
            have HY := Lib.hid hy; have HKY := Lib.hid (hk1.trans hky (fun _ _ e => e)); have HBY := Lib.hid (hb1.keeps hky hfx)
            clear hy hky hk1 hb1 hx1
            go_wp2_with fail
            refine anyC_takes (by kernel_rfl) (fun _ _ _ _ _ h => h) [7] 1 _ _ (by kernel_rfl) ?_
            simp only [List.filterMap_cons, List.filterMap_nil, List.getElem?_toArray, List.getElem?_cons_succ, List.getElem?_cons_zero]
            show wpQuiet _ _ _ _ (_ :: List.nil) _
            repeat (first | go_big_quiet_skip | (go_big_quiet_want; first | (fail; simp only [Act.put, List.setIfInBounds_toArray, List.set_cons_succ, List.set_cons_zero]; go_big_quiet_on) | (go_big_quiet_op; first | go_big_quiet_on | (refine ⟨_, fun _ _ => rfl, ?_⟩; go_big_quiet_on))))
            refine wpQuiet_nil ?_
            refine anyC_only (i := 9) rfl (by kernel_rfl) HKY.out ?_
            refine wpList_store_row rfl 47 (.tmp 4) (.tmp 16) rfl wx.heap.size #[.string ⟨N.bytes.1.toArray⟩, .int .i64 N.bytes.2.int.1, .slice none 0 0, .slice none 0 0] rfl rfl 47 #[.string ⟨#[]⟩, .int .i64 0, .slice none 0 0, .slice none 0 0] HBY.out (by kernel_rfl) rfl (by first | kernel_rfl | simp [Value.oneCell']) ?_
            go_wp2_with fail
            have hko := HKY.out.setRowNew (Nat.le_refl _) #[.string ⟨N.bytes.1.toArray⟩, .int .i64 N.bytes.2.int.1, .slice none 0 0, .slice none 0 0]
            refine ⟨hko, by kernel_rfl, ?_⟩
            go_wp2_with fail
            go_meet
            exact ⟨_, rfl, Blk.setRow HBY.out _, HKX.out.size, HY.out.keeps ((Keeps.refl (fun k => k = wx.heap.size) wy).setRow_ rfl _) (fun k e e2 => hfx (by rw [← e2]; exact e)), hCx _ hko⟩
        · go_wp2_with fail
          have hk1 := ((Keeps.refl F wr).alloc (.cells #[.string ⟨#[]⟩, .int .i64 0, .slice none 0 0, .slice none 0 0] 47)).drew
          have hb1 := (Blk.new wr 47 #[.string ⟨#[]⟩, .int .i64 0, .slice none 0 0, .slice none 0 0]).drew
          have hx1 := HR.out.below ((Below.refl _ wr).alloc (Nat.le_refl _) (.cells #[.string ⟨#[]⟩, .int .i64 0, .slice none 0 0, .slice none 0 0] 47)).drew
          have hfx : ¬ F wr.heap.size := fun e => by have := HFW.out _ e; omega
          refine anyC_only (i := 2) rfl (by kernel_rfl) hk1 ?_
          go_wp2_with fail
          refine (RBytes_any _ F D _ hx1).mono ?_
          rintro e wx ⟨vx, rfl, ⟨Ax, cx, rfl, hrx, hax⟩, hx, hkx⟩
          have HRX := Lib.hid hrx; have HX := Lib.hid hx; have HKX := Lib.hid (hk1.trans hkx (fun _ _ e => e)); have HBX2 := Lib.hid (hb1.keeps hkx hfx)
          have hlt : wr.heap.size < (wr.alloc (.cells #[.string ⟨#[]⟩, .int .i64 0, .slice none 0 0, .slice none 0 0] 47)).heap.size := by simp
          have HAX := Lib.hid (show ∀ ad, Ax = some ad → wr.heap.size < ad.block from fun ad e => Nat.lt_of_lt_of_le hlt (hax ad e))
          clear hrx hx hkx hax hk1 hb1 hx1
          go_wp2_with fail
          have hCx : ∀ W, Keeps (fun k => F k ∨ k = wr.heap.size) wx W → Keeps F wr W := fun W hW => HKX.out.trans hW (fun i hi e => e.elim id (fun e => by omega))
          refine anyC_narrow (C' := Keeps (fun k => F k ∨ k = wr.heap.size) wx) hCx _ _ _ _ ?_
          refine anyC_takes (by kernel_rfl) (fun _ _ _ _ _ h => h) [3] 3 _ _ (by kernel_rfl) ?_
          simp only [List.filterMap_cons, List.filterMap_nil, List.getElem?_toArray, List.getElem?_cons_succ, List.getElem?_cons_zero]
          show wpQuiet _ _ _ _ (_ :: List.nil) _
          repeat (first | go_big_quiet_skip | (go_big_quiet_want; first | (refine quiet_str 27 9 5 (.tmp 11) rfl Ax _ cx N.bytes.1 rfl Tryd.underlying27 Tryd.underlying5 Tryd.underlying9 _ (fun W hW => reads_off HRX.out hW (Nat.le_refl _) (fun ad e _ hf => by have h1 := HAX.out ad e; rcases hf with hf | hf; (have h2 := HFW.out _ hf; omega); omega)) ?_; simp only [Act.put, List.setIfInBounds_toArray, List.set_cons_succ, List.set_cons_zero]; go_big_quiet_on) | (go_big_quiet_op; first | go_big_quiet_on | (refine ⟨_, fun _ _ => rfl, ?_⟩; go_big_quiet_on))))
          refine wpQuiet_nil ?_
          refine anyC_only (i := 6) rfl (by kernel_rfl) (Keeps.refl _ wx) ?_
          go_wp2_with fail
          refine (RInt_any _ F D _ HX.out).mono ?_
          rintro e wy ⟨rfl, hy, hky⟩
          have HY := Lib.hid hy; have HKY := Lib.hid hky; have HBY := Lib.hid (HBX2.out.keeps hky hfx)
          clear hy hky
          go_wp2_with fail
          refine anyC_takes (by kernel_rfl) (fun _ _ _ _ _ h => h) [7] 1 _ _ (by kernel_rfl) ?_
          simp only [List.filterMap_cons, List.filterMap_nil, List.getElem?_toArray, List.getElem?_cons_succ, List.getElem?_cons_zero]
          show wpQuiet _ _ _ _ (_ :: List.nil) _
          repeat (first | go_big_quiet_skip | (go_big_quiet_want; first | (fail; simp only [Act.put, List.setIfInBounds_toArray, List.set_cons_succ, List.set_cons_zero]; go_big_quiet_on) | (go_big_quiet_op; first | go_big_quiet_on | (refine ⟨_, fun _ _ => rfl, ?_⟩; go_big_quiet_on))))
          refine wpQuiet_nil ?_
          refine anyC_only (i := 9) rfl (by kernel_rfl) (HKY.out.weaken (fun _ _ e => Or.inl e)) ?_
          refine wpList_store_row rfl 47 (.tmp 4) (.tmp 16) rfl wr.heap.size #[.string ⟨N.bytes.1.toArray⟩, .int .i64 N.bytes.2.int.1, .slice none 0 0, .slice none 0 0] rfl rfl 47 #[.string ⟨#[]⟩, .int .i64 0, .slice none 0 0, .slice none 0 0] HBY.out (by kernel_rfl) rfl (by first | kernel_rfl | simp [Value.oneCell']) ?_
          go_wp2_with fail
          have hko := (HKY.out.weaken (F' := fun k => F k ∨ k = wr.heap.size) (fun _ _ e => Or.inl e)).setRow_ (g := wr.heap.size) (Or.inr rfl) #[.string ⟨N.bytes.1.toArray⟩, .int .i64 N.bytes.2.int.1, .slice none 0 0, .slice none 0 0]
          refine ⟨hko, by kernel_rfl, ?_⟩
          go_wp2_with fail
          go_meet
          exact ⟨_, rfl, Blk.setRow HBY.out _, Nat.le_refl _, HY.out.keeps ((Keeps.refl (fun k => k = wr.heap.size) wy).setRow_ rfl _) (fun k e e2 => hfx (by rw [← e2]; exact e)), hCx _ hko⟩
      case rest =>
        obtain ⟨g, rfl, hblk, hge, hre, hkc⟩ := hcut
        have hgF : ¬ F g := fun e => by have := Nat.lt_of_lt_of_le (HF1.out g e) HK.out.size; omega
        have p0 : wc.cell? ⟨b, 0, none⟩ = some (.pointer (some ⟨D, 0, none⟩)) := (((HBX.out.keeps HK.out HFB.out).keeps hkc HFB.out).cell 0).trans rfl
        have HBLK := Lib.hid hblk; have HRE := Lib.hid hre; have HKC := Lib.hid hkc; have HGE := Lib.hid hge; have HGF := Lib.hid hgF
        clear hblk hre hkc hge hgF
        go_wp2_with fail
        refine (RBytes_any wc F D _ HRE.out).mono ?_
        rintro e wd ⟨vs, rfl, ⟨As, cs, rfl, hrs, has⟩, hd, hkd⟩
        have hbd := HBLK.out.keeps hkd HGF.out
        have q2 : wd.cell? ⟨g, 2, none⟩ = some (.slice none 0 0) := (hbd.cell 2).trans rfl
        have f2 : wd.frozen? ⟨g, 2, none⟩ = false := hbd.frozen 2
        have HRS := Lib.hid hrs; have HD := Lib.hid hd; have HKD := Lib.hid hkd; have HBD := Lib.hid hbd
        have HAS := Lib.hid (show ∀ ad, As = some ad → wr.heap.size ≤ ad.block ∧ ad.block ≠ g from fun ad e => by have h1 := has ad e; have h2 := HKC.out.size; have h3 := HBLK.out.lt; omega)
        clear hrs has hd hkd hbd p0
        go_upto_region 6 with (fail)
        have hbb : b ≠ g := fun e => by have h1 := HGE.out; have h2 := (HBX.out.keeps HK.out HFB.out).lt; omega
        obtain ⟨W1, hW1⟩ : ∃ W1, W1 = wd.setCell ⟨g, 2, none⟩ (.slice As N.bytes.2.int.2.bytes.1.length cs) := ⟨_, rfl⟩
        have HBE := Lib.hid (hW1 ▸ HBD.out.set_ 2 _ : Blk W1 g 47 #[.string ⟨N.bytes.1.toArray⟩, .int .i64 N.bytes.2.int.1, .slice As N.bytes.2.int.2.bytes.1.length cs, .slice none 0 0])
        have HD1 := Lib.hid (show ReIs W1 F D N.bytes.2.int.2.bytes.2 from hW1 ▸ HD.out.keeps ((Keeps.refl (fun k => k = g) wd).setCell (p := ⟨g, 2, none⟩) rfl _) (fun k e e2 => HGF.out (by rw [← e2]; exact e)))
        have HK1 := Lib.hid (show Keeps F wr W1 from hW1 ▸ (HKC.out.trans HKD.out (fun _ _ e => e)).setNew (p := ⟨g, 2, none⟩) HGE.out _)
        have HR1 := Lib.hid (show Rd W1 W1.heap.size As N.bytes.2.int.2.bytes.1.length N.bytes.2.int.2.bytes.1 from hW1 ▸ (rd_cell HRS.out ⟨g, 2, none⟩ _ q2 (fun _ e => by cases e)).more (by simp [World.setCell]))
        rw [← hW1]
        clear hW1 q2 f2 HD HBD HRS HKD HBLK HRE HKC
        have p0 : W1.cell? ⟨b, 0, none⟩ = some (.pointer (some ⟨D, 0, none⟩)) := (((HBX.out.keeps HK.out HFB.out).keeps HK1.out HFB.out).cell 0).trans rfl
        go_wp2_with fail
        refine (RBytes_any W1 F D _ HD1.out).mono ?_
        rintro e we ⟨vt, rfl, ⟨At, ct, rfl, hrt, hat⟩, he, hke⟩
        have hbe := HBE.out.keeps hke HGF.out
        have q3 : we.cell? ⟨g, 3, none⟩ = some (.slice none 0 0) := (hbe.cell 3).trans rfl
        have f3 : we.frozen? ⟨g, 3, none⟩ = false := hbe.frozen 3
        have HRT := Lib.hid hrt; have HE := Lib.hid he; have HKE := Lib.hid hke; have HBF := Lib.hid hbe
        have HRS := Lib.hid ((reads_off HR1.out hke (Nat.le_refl _) (fun ad e _ hf => by have h1 := HAS.out ad e; have h2 := Nat.lt_of_lt_of_le (HF1.out _ hf) HK.out.size; omega)).more hke.size)
        have HAT := Lib.hid (show ∀ ad, At = some ad → wr.heap.size ≤ ad.block ∧ ad.block ≠ g from fun ad e => by have h1 := hat ad e; have h2 := HK1.out.size; have h3 := HBE.out.lt; omega)
        clear hrt hat he hke hbe p0
        go_upto_region 7 with (fail)
        obtain ⟨W2, hW2⟩ : ∃ W2, W2 = we.setCell ⟨g, 3, none⟩ (.slice At N.bytes.2.int.2.bytes.2.bytes.1.length ct) := ⟨_, rfl⟩
        have hst : s1.objsN (j + 1) = ((s1.objsN j).1 ++ [N.objT.1], N.objT.2) := by rw [HN.out]; exact objsN_succ s1 j
        obtain ⟨o, ho⟩ : ∃ o, o = N.objT.1 := ⟨_, rfl⟩
        have e1 : N.bytes.1 = o.id := by rw [ho]; rfl
        have e2 : N.bytes.2.int.1 = o.size := by rw [ho]; rfl
        have e3 : N.bytes.2.int.2.bytes.1 = o.share := by rw [ho]; rfl
        have e4 : N.bytes.2.int.2.bytes.2.bytes.1 = o.tag := by rw [ho]; rfl
        have e5 : N.bytes.2.int.2.bytes.2.bytes.2 = N.objT.2 := rfl
        rw [← ho] at hst
        have hbg := HBF.out.set_ 3 (.slice At N.bytes.2.int.2.bytes.2.bytes.1.length ct)
        have he2 : ReIs W2 F D N.objT.2 := hW2 ▸ HE.out.keeps ((Keeps.refl (fun k => k = g) we).setCell (p := ⟨g, 3, none⟩) rfl _) (fun k e e2 => HGF.out (by rw [← e2]; exact e))
        have hk2 : Keeps F wr W2 := hW2 ▸ (HK1.out.trans HKE.out (fun _ _ e => e)).setNew (p := ⟨g, 3, none⟩) HGE.out _
        have hrs := hW2 ▸ (rd_cell HRS.out ⟨g, 3, none⟩ (.slice At N.bytes.2.int.2.bytes.2.bytes.1.length ct) q3 (fun _ e => by cases e)).more (B' := (we.setCell ⟨g, 3, none⟩ (.slice At N.bytes.2.int.2.bytes.2.bytes.1.length ct)).heap.size) (by simp [World.setCell])
        have hrt := hW2 ▸ (rd_cell HRT.out ⟨g, 3, none⟩ (.slice At N.bytes.2.int.2.bytes.2.bytes.1.length ct) q3 (fun _ e => by cases e)).more (B' := (we.setCell ⟨g, 3, none⟩ (.slice At N.bytes.2.int.2.bytes.2.bytes.1.length ct)).heap.size) (by simp [World.setCell])
        rw [← hW2] at hbg ⊢
        rw [e1, e2, e3, e4] at hbg
        rw [e3, e4]
        rw [e3] at hrs
        rw [e4] at hrt
        have hbg' : Blk W2 g 47 (objCells o As At cs ct) := hbg
        have hvw := row_keeps HV.out hk2 (fun kk e hf => by have h1 := (HV.out.lt kk e).1; have h2 := HF1.out _ hf; omega)
        have hbq : Below W2.heap.size W2 (W2.alloc (.cells #[.string ⟨o.id.toArray⟩, .int .i64 o.size, .slice As o.share.length cs, .slice At o.tag.length ct] 47)) := (Below.refl _ _).alloc (Nat.le_refl _) _
        have hvq : (W2.alloc (.cells #[.string ⟨o.id.toArray⟩, .int .i64 o.size, .slice As o.share.length cs, .slice At o.tag.length ct] 47)).ownsRow w1.heap.size 47 4 (.slice A j c) j (ps.flatMap objC) := World.ownsRow.alloc hvw _
        have hq := Blk.new W2 47 [Value.string ⟨o.id.toArray⟩, Value.int .i64 o.size, .slice As o.share.length cs, .slice At o.tag.length ct].toArray
        have HVQ := Lib.hid hvq; have HQ := Lib.hid hq; have HK2 := Lib.hid hk2; have HE2 := Lib.hid he2; have HBG := Lib.hid hbg'; have HBQ := Lib.hid hbq; have HRSA := Lib.hid hrs; have HRTA := Lib.hid hrt; have HST := Lib.hid hst
        clear hst ho e1 e2 e3 e4 e5 hbg he2 hk2 hrs hrt hbg' hvw hbq hvq hq hW2 q3 f3 HE HKE HBF HRS HRT HBE HD1 HK1 HR1
        obtain ⟨i0, hi0, hz0, hz1, hz2⟩ := info_parts obj_info
        have HI0 := Lib.hid (And.intro hi0 (And.intro hz0 (And.intro hz1 hz2)))
        have HW1 := Lib.hid HK.out.size
        clear hi0 hz0 hz1 hz2
        go_wp2_with (first | (refine wpList_load_row rfl 47 (.tmp 4) rfl g rfl _ _ _ _ HBG.out Tryd.underlying47 rfl (by kernel_rfl) ?_) | (at_builtin; refine wpList_append_any _ rfl (.tmp 25) (.tmp 27) _ rfl w1.heap.size 47 i0 _ 4 72 Tryd.underlying22 HI0.out.1 HI0.out.2.1 HI0.out.2.2.1 HI0.out.2.2.2 rfl (by omega) _ j _ rfl HVQ.out _ (some ⟨W2.heap.size, 0, none⟩) 1 1 [.string ⟨o.id.toArray⟩, .int .i64 o.size, .slice As o.share.length cs, .slice At o.tag.length ct] rfl (reads_row HQ.out rfl) (by intro u hu; simp only [List.mem_cons, List.not_mem_nil, or_false] at hu; rcases hu with rfl | rfl | rfl | rfl <;> rfl) (by simp only [maxLen]; omega) (by omega) (by have := HBQ.out.size; have := HW1.out; have := HK2.out.size; omega) ?_; intro v' w' hown' hg' hat'))
        have hko := ((Keeps.refl (fun k => (Value.slice A j c).ownBlock = some k) W2).alloc (.cells #[.string ⟨o.id.toArray⟩, .int .i64 o.size, .slice As o.share.length cs, .slice At o.tag.length ct] 47)).grown hg' (fun kk e => Or.inr e)
        have hkr : Keeps F w1 w' := ((HK.out.trans HK2.out (fun _ _ e => e)).alloc _).grown hg' (fun kk e => Or.inl (HVQ.out.lt kk e).1)
        have hre : ReIs w' F D N.objT.2 := HE2.out.keeps hko (fun k e e2 => by have h1 := (HVQ.out.lt k e2).1; have h2 := HF1.out _ e; omega)
        have hSZ : b ≤ wr.heap.size := by have h1 := HSZ.out; have h2 := HK.out.size; omega
        have hobj : ∀ p ∈ ps ++ [(⟨o, As, At, cs, ct⟩ : ObjP)], ObjRd w' (fun k => b ≤ k ∧ v'.ownBlock ≠ some k) p.As p.At p.o := by
          intro p hp
          refine ObjRd.app (w := W2) (v := .slice A j c) ?_ hko (hat'.elim Or.inl (fun e => Or.inr ⟨_, e, by simp⟩))
          rcases List.mem_append.1 hp with hp | hp
          · exact (HOBJ.out p hp).off HK2.out (fun k e hf => by have h1 := e.1; have h2 := HF.out _ hf; omega)
          · obtain rfl := List.mem_singleton.1 hp
            exact ⟨fun ad e _ => ⟨Nat.le_trans hSZ (HAS.out ad e).1, fun e2 => absurd (HAS.out ad e).1 (Nat.not_le_of_lt (HV.out.lt _ e2).2)⟩, fun ad e _ => ⟨Nat.le_trans hSZ (HAT.out ad e).1, fun e2 => absurd (HAT.out ad e).1 (Nat.not_le_of_lt (HV.out.lt _ e2).2)⟩, HRSA.out, HRTA.out⟩
        have HOBJ2 := Lib.hid hobj; have HKR := Lib.hid hkr; have HRE2 := Lib.hid hre; have HOWN := Lib.hid hown'
        clear hobj hkr hre hown' hg' hat' hko
        go_roundw
        case rel => exact ⟨j + 1, by omega, by go_num, ps ++ [⟨o, As, At, cs, ct⟩], by rw [List.length_append, HPS.out]; rfl, by rw [List.map_append, HMAP.out, HST.out]; rfl, by rw [List.flatMap_append]; exact HOWN.out, HOBJ2.out, by rw [HST.out]; exact HRE2.out, HKR.out⟩
        case measure => simp [intOf]; omega
    · obtain rfl : j = k := by omega
      go_wp2
      go_ret
      rw [HCNT.out]
      have hlen := objsN_length s1 j
      have hv2 : wr.ownsRow w1.heap.size 47 4 (.slice A j c) ps.length (ps.flatMap objC) := by rw [HPS.out]; exact HV.out
      obtain ⟨A', c', e1, e2⟩ := objsRd_of (S := fun k => b ≤ k) hv2 (fun k e => by have := HSZ.out; omega) (fun p hp => (HOBJ.out p hp).weaken (fun _ e => e.1))
      rw [HMAP.out] at e2
      rw [HPS.out] at e1
      obtain ⟨rfl, rfl⟩ : A = A' ∧ c = c' := by injection e1 with q1 q2 q3; exact ⟨q1, q3⟩
      refine ⟨A, c, by rw [hlen]; rfl, by rw [← HB.out]; exact e2, HR.out, HK01.out.trans HK.out (fun _ _ e => e)⟩
end Go.Proofs.YtinkclcdpcjnfaaDoor
