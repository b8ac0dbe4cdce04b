/- The walks of the document's lists, states and books. Condition: what is written is no great thing. Printed by mkrec4.py. -/
import Derived.Test.YtinkclcdpcjnfaaDoorRec3
import Derived.Test.YtinkclcdpcjnfaaDoorBook3
namespace Go.Proofs.YtinkclcdpcjnfaaDoor
open Go.RowKit
def WS.heads (s : WS) (l : List HeadV) : WS := l.foldl WS.head (s.int l.length)
theorem BkIs.skip {F : Nat → Prop} {w w' : World} {D : Nat} {s : WS} (h : BkIs w F D s) (hb : Below w.heap.size w w') : BkIs w' (Off F w w') D s := by
  obtain ⟨v, h1, h2, h3⟩ := h
  exact ⟨v, h1.keeps (Keeps.of_below (F := fun _ => False) hb) (fun e => e) (fun _ _ e => e), ⟨h2, Or.inl h1.cells.lt⟩, fun k hk => ⟨h3 k hk, Or.inl (h1.own.lt k hk).2⟩⟩
/-- Numbers out of a row of the call's own. -/
theorem Put_row (w : World) (F : Nat → Prop) (D : Nat) (s : WS) (xs : List Int) (hu : Up F w) (h : BkIs w F D s) (hs : s.out.length + 4 * xs.length ≤ 140737488355000) (hx : xs.length ≤ 9223372036854775807) :
    Calls Tryd.prog 24 #[.pointer (some ⟨D, 0, none⟩), .slice (some ⟨w.heap.size, 0, none⟩) xs.length xs.length] (w.alloc (.cells (xs.map (Value.int .i64)).toArray 3)) fun e w' => e = .returned (.tuple #[]) ∧ BkIs w' F D (s.ints xs) ∧ Keeps F w w' := by
  have hb : Below w.heap.size w (w.alloc (.cells (xs.map (Value.int .i64)).toArray 3)) := (Below.refl _ _).alloc (Nat.le_refl _) _
  have hB := Blk.new w 3 (xs.map (Value.int .i64)).toArray
  have hsz : (w.alloc (.cells (xs.map (Value.int .i64)).toArray 3)).heap.size = w.heap.size + 1 := by simp
  refine (Put_any _ (Off F w _) D s (some ⟨w.heap.size, 0, none⟩) xs.length xs.length xs (h.skip hb) (fun _ hk => ?_) hs hx).mono fun _ _ ⟨h1, h2, h3⟩ => ⟨h1, (h2.weaken (fun k e => ?_)), Keeps.off hb h3⟩
  · have hB' := hB.keeps hk (fun e => by have := e.2; omega)
    refine ⟨by simp, fun _ => ⟨_, rfl, by rw [hsz]; exact Nat.lt_succ_self _, fun j u hu => ?_⟩⟩
    have ha : (⟨w.heap.size, 0, none⟩ : Addr).add j = ⟨w.heap.size, j, none⟩ := by unfold Addr.add; split <;> simp_all
    rw [ha, hB'.cell j, List.getElem?_toArray]
    exact hu
  · rcases e with e | e
    · exact e.1
    · exact hu k (by omega)
theorem Put_in (w : World) (F : Nat → Prop) (D : Nat) (s : WS) (A : Option Addr) (n c : Nat) (xs : List Int) (hu : Up F w) (h : BkIs w F D s) (hr : Reads w w.heap.size 1 A n (xs.map (Value.int .i64))) (hoff : ∀ ad, A = some ad → 0 < n → ¬ F ad.block) (hs : s.out.length + 4 * n ≤ 140737488355000) (hx : n ≤ 9223372036854775807) :
    Calls Tryd.prog 24 #[.pointer (some ⟨D, 0, none⟩), .slice A n c] w fun e w' => e = .returned (.tuple #[]) ∧ BkIs w' F D (s.ints xs) ∧ Keeps F w w' :=
  (Put_any w F D s A n c xs h (fun _ hk => reads_off hr hk (Nat.le_refl _) hoff) hs hx).mono fun _ _ ⟨h1, h2, h3⟩ => ⟨h1, h2.weaken hu.grown, h3⟩
theorem Lay_up (w : World) (F : Nat → Prop) (D : Nat) (s : WS) (A : Option Addr) (n c : Nat) (l : List UInt8) (hu : Up F w) (h : BkIs w F D s) (hn : n ≤ 140737488351232) (hr : Rd w w.heap.size A n l) (hs : s.out.length + 65537 ≤ 140737488355328) :
    Calls Tryd.prog 41 #[.pointer (some ⟨D, 0, none⟩), .slice A n c] w fun e w' => e = .returned (.tuple #[]) ∧ BkIs w' F D (s.bytes l) ∧ Keeps F w w' :=
  (Lay_any w F D s A n c l h hn hr hs).mono fun _ _ ⟨h1, h2, h3⟩ => ⟨h1, h2.weaken hu.grown, h3⟩
theorem RefInts_any (w : World) (F : Nat → Prop) (D : Nat) (s : WS) (A : Option Addr) (n c : Nat) (xs : List Int) (hu : Up F w) (h : BkIs w F D s) (hr : Reads w w.heap.size 1 A n (xs.map (Value.int .i64))) (hoff : ∀ ad, A = some ad → 0 < n → ¬ F ad.block) (hs : s.out.length + 4 * n + 4 ≤ 140737488355000) (hx : n ≤ 9223372036854775807) :
    Calls Tryd.prog 35 #[.pointer (some ⟨D, 0, none⟩), .slice A n c] w fun e w' => e = .returned (.tuple #[]) ∧ BkIs w' F D (s.list xs) ∧ Keeps F w w' := by
  have hln : xs.length = n := by have := hr.1; simpa using this
  have HLN := Lib.hid hln
  have hl2 := int_len s n
  clear hln
  go_enter Tryd.func35, Tryd.ntmps35
  go_wp2_with fail
  refine (Put_row w F D s [(n : Int)] hu h (by simp; omega) (by simp)).mono ?_
  rintro e w1 ⟨rfl, h1, hk1⟩
  go_wp2_with fail
  refine (Put_in w1 F D (s.int n) A n c xs (hu.keeps hk1) h1 (reads_off hr hk1 (Nat.le_refl _) hoff |>.more hk1.size) hoff (by omega) hx).mono ?_
  rintro e w2 ⟨rfl, h2, hk2⟩
  have H2 := Lib.hid h2; have HK2 := Lib.hid (hk1.trans hk2 (fun _ _ e => e))
  clear h2 hk2 hk1 h1 h hr
  go_wp2
  go_end0
  refine ⟨rfl, ?_, HK2.out⟩
  unfold WS.list
  rw [HLN.out]
  exact H2.out
theorem costH_mem (l : List HeadV) : ∀ (j : Nat) (hj : j < l.length), l[j].id.length ≤ costH l := by
  induction l with
  | nil => intro j hj; cases hj
  | cons x r ih =>
    intro j hj
    cases j with
    | zero => simp only [List.getElem_cons_zero, costH]; omega
    | succ j => simp only [List.getElem_cons_succ, costH]; have := ih j (by simpa using hj); omega
set_option maxRecDepth 100000 in
theorem RefHeads_any (w : World) (F : Nat → Prop) (D : Nat) (s : WS) (A : Option Addr) (c : Nat) (hs_ : List HeadV) (hu : Up F w) (h : BkIs w F D s) (hr : HeadsRd w w.heap.size A hs_) (hoff : ∀ ad, A = some ad → ad.block < w.heap.size → 0 < hs_.length → ¬ F ad.block) (hs : s.out.length + costH hs_ + 70000 ≤ 140737488355000) (hx : hs_.length ≤ 9223372036854775807) :
    Calls Tryd.prog 34 #[.pointer (some ⟨D, 0, none⟩), .slice A hs_.length c] w fun e w' => e = .returned (.tuple #[]) ∧ BkIs w' F D (s.heads hs_) ∧ Keeps F w w' := by
  go_enter Tryd.func34, Tryd.ntmps34
  go_wp2_with fail
  refine (Put_row w F D s [(hs_.length : Int)] hu h (by simp; omega) (by simp)).mono ?_
  rintro e w1 ⟨rfl, h1, hk1⟩
  have hl2 := int_len s hs_.length
  have h1' : BkIs w1 F D (s.int hs_.length) := h1
  generalize hs1 : s.int hs_.length = s1 at h1' hl2
  have HS1 := Lib.hid hs1; have H1 := Lib.hid h1'; have HK1 := Lib.hid hk1; have HU := Lib.hid hu; have HR := Lib.hid hr; have HOFF := Lib.hid hoff
  clear hs1 h1 h1' hk1 hu hr hoff h
  go_wp2_with fail
  go_loopw [4] (fun q wr => ∃ j : Nat, j ≤ hs_.length ∧ q = .int .i64 (j : Int) ∧ BkIs wr F D ((hs_.take j).foldl WS.head s1) ∧ Keeps F w wr) (fun q _ => hs_.length - (intOf q).toNat)
  case atStart => exact ⟨0, by omega, rfl, H1.out, HK1.out⟩
  case round =>
    obtain ⟨j, hj, rfl, hw, hk⟩ := hrel
    have HW := Lib.hid hw; have HK := Lib.hid hk
    clear hw hk
    by_cases hjn : j < hs_.length
    · have hjn' : (j : Int) < (hs_.length : Int) := by omega
      have hrr := HR.out.off HK.out (Nat.le_refl _) (fun ad e hB => HOFF.out ad e hB (by omega))
      obtain ⟨ad, rfl, hadB, hc⟩ := hrr (by omega)
      obtain ⟨c0, c1⟩ := hc j _ (List.getElem?_eq_getElem hjn)
      have hst := heads_snoc s1 hs_ j hjn
      have hlen := heads_len (hs_.take j) s1
      have hlen2 := costH_take hs_ j
      have hcj : ∃ x, x = hs_[j] := ⟨_, rfl⟩
      have hxl : hs_[j].id.length ≤ costH hs_ := costH_mem hs_ j hjn
      generalize hs_[j] = x at c0 c1 hst hxl
      have HST := Lib.hid hst
      clear hst hrr hc hcj
      go_wp2_with (refine wpList_bytes rfl 9 27 5 (.tmp 21) rfl x.id rfl Tryd.underlying9 Tryd.underlying27 Tryd.underlying5 ?_; intro cc W hbW hlW hrW)
      have hiW := HW.out.skip hbW
      have huW := (HU.out.keeps HK.out).off hbW
      refine (Lay_up W _ D _ _ _ cc x.id huW hiW (by omega) hrW (by omega)).mono ?_
      rintro e wy ⟨rfl, hy, hky⟩
      have hlen3 := bytes_len2 (List.foldl WS.head s1 (hs_.take j)) x.id
      have hky' := Keeps.off hbW hky
      have hnF : ¬ F ad.block := HOFF.out ad rfl hadB (by omega)
      have c1' : wy.cell? ⟨(ad.add (j * 2)).block, (ad.add (j * 2)).off + 1, none⟩ = some (.int .i64 x.size) := (World.cell?_of_block (a := ⟨(ad.add (j * 2)).block, (ad.add (j * 2)).off + 1, none⟩) (by show _ = wr.heap[(ad.add (j * 2)).block]?; rw [block_of_add]; exact hky'.block _ (Nat.lt_of_lt_of_le hadB HK.out.size) hnF)).trans c1
      have HY := Lib.hid (hy.weaken (G := F) (fun k e => e.1)); have HKY := Lib.hid (HK.out.trans hky' (fun _ _ e => e))
      clear hy hky hky' huW hbW hiW hlW hrW c0 c1 hnF
      go_wp2_with fail
      refine (Put_row wy F D _ [x.size] (HU.out.keeps HKY.out) HY.out (by simp; omega) (by simp)).mono ?_
      rintro e wz ⟨rfl, hz, hkz⟩
      have HZ := Lib.hid (show BkIs wz F D ((List.foldl WS.head s1 (hs_.take j)).head x) from hz); have HKZ := Lib.hid (HKY.out.trans hkz (fun _ _ e => e))
      clear hz hkz c1' hlen hlen2 hlen3
      go_wp2_with fail
      go_roundw
      case rel => exact ⟨j + 1, by omega, by go_num, by rw [← HST.out]; exact HZ.out, HKZ.out⟩
      case measure => simp [intOf]; omega
    · obtain rfl : j = hs_.length := by omega
      have h9 := HW.out
      rw [List.take_length] at h9
      have H9 := Lib.hid h9
      clear h9
      go_wp2
      go_end0
      refine ⟨rfl, ?_, HK.out⟩
      unfold WS.heads
      rw [HS1.out]
      exact H9.out
theorem heads_len2 (s : WS) (l : List HeadV) : (s.heads l).out.length ≤ s.out.length + (4 + costH l) := by
  have h1 := heads_len l (s.int l.length)
  have h2 := int_len s l.length
  unfold WS.heads
  omega
theorem BkIs.weaken' {w : World} {F G : Nat → Prop} {D : Nat} {s : WS} (h : BkIs w F D s) (hn : ∀ k, F k → G k) : BkIs w G D s := h.weaken hn
/-- What a message's bytes are, to the document. -/
def RefPost (w : World) (s : WS) (e : Ending) (w' : World) : Prop := ∃ v', e = .returned (.tuple #[v', .bool (!s.bad)]) ∧ Fresh w' w.heap.size v' s.out ∧ Below w.heap.size w w'
theorem Keeps.cell {F : Nat → Prop} {w w' : World} (hk : Keeps F w w') (p : Addr) (hb : p.block < w.heap.size) (hn : ¬ F p.block) : w'.cell? p = w.cell? p := World.cell?_of_block (hk.block _ hb hn)
theorem costO_mem (l : List ObjV) : ∀ (j : Nat) (hj : j < l.length), l[j].id.length + l[j].share.length + l[j].tag.length ≤ costO l := by
  induction l with
  | nil => intro j hj; cases hj
  | cons x r ih =>
    intro j hj
    cases j with
    | zero => simp only [List.getElem_cons_zero, costO]; omega
    | succ j => simp only [List.getElem_cons_succ, costO]; have := ih j (by simpa using hj); omega
set_option maxRecDepth 100000 in
set_option maxHeartbeats 4000000 in
theorem RefObjs_any (w : World) (F S : Nat → Prop) (D : Nat) (s : WS) (A : Option Addr) (c : Nat) (os : List ObjV) (hu : Up F w) (h : BkIs w F D s) (hr : ObjsRd w S A os) (hS : ∀ k, S k → ¬ F k) (hs : s.out.length + costO os + 300000 ≤ 140737488351232) :
    Calls Tryd.prog 25 #[.pointer (some ⟨D, 0, none⟩), .slice A os.length c] w fun e w' => e = .returned (.tuple #[]) ∧ BkIs w' F D (s.objs os) ∧ Keeps F w w' := by
  have hx : os.length ≤ 9223372036854775807 := by have := costO_ge os; omega
  go_enter Tryd.func25, Tryd.ntmps25
  go_wp2_with fail
  refine (Put_row w F D s [(os.length : Int)] hu h (by simp; omega) (by simp)).mono ?_
  rintro e w1 ⟨rfl, h1, hk1⟩
  have hl2 := int_len s os.length
  have h1' : BkIs w1 F D (s.int os.length) := h1
  generalize hs1 : s.int os.length = s1 at h1' hl2
  have HS1 := Lib.hid hs1; have H1 := Lib.hid h1'; have HK1 := Lib.hid hk1; have HU := Lib.hid hu; have HR := Lib.hid hr; have HS := Lib.hid hS
  clear hs1 h1 h1' hk1 hu hr hS h
  go_wp2_with fail
  go_loopw [4] (fun q wr => ∃ j : Nat, j ≤ os.length ∧ q = .int .i64 (j : Int) ∧ BkIs wr F D ((os.take j).foldl WS.objT s1) ∧ Keeps F w wr) (fun q _ => os.length - (intOf q).toNat)
  case atStart => exact ⟨0, by omega, rfl, H1.out, HK1.out⟩
  case round =>
    obtain ⟨j, hj, rfl, hw, hk⟩ := hrel
    have HW := Lib.hid hw; have HK := Lib.hid hk
    clear hw hk
    by_cases hjn : j < os.length
    · have hjn' : (j : Int) < (os.length : Int) := by omega
      obtain ⟨ad, rfl, hadS, hadB, hc⟩ := (HR.out.off HK.out HS.out) (by omega)
      obtain ⟨As, At, cs, ct, c0, c1, c2, c3, hsA, hsT, hrA, hrT⟩ := hc j _ (List.getElem?_eq_getElem hjn)
      have hst := objs_snoc s1 os j hjn
      have hlen := objs_len (os.take j) s1
      have hlen2 := costO_take os j
      have hxl := costO_mem os j hjn
      generalize os[j] = x at c0 c1 c2 c3 hst hxl hsA hsT hrA hrT
      generalize List.foldl WS.objT s1 (os.take j) = s2 at HW hst hlen
      have HST := Lib.hid hst; have HSA := Lib.hid hsA; have HST2 := Lib.hid hsT; have HRA := Lib.hid hrA; have HRT := Lib.hid hrT; have HADS := Lib.hid hadS; have HADB := Lib.hid hadB
      have hnF : ¬ F ad.block := HS.out _ hadS
      have HNF := Lib.hid hnF
      have hd1 := bytes_len2 s2 x.id
      have hd2 := int_len (s2.bytes x.id) x.size
      have hd3 := bytes_len2 ((s2.bytes x.id).int x.size) x.share
      clear hst hc hsA hsT hrA hrT hadS hadB hnF
      go_wp2_with (refine wpList_bytes rfl 9 27 5 (.tmp 21) rfl x.id rfl Tryd.underlying9 Tryd.underlying27 Tryd.underlying5 ?_; intro cc W hbW hlW hrW)
      have hiW := HW.out.skip hbW
      have huW := (HU.out.keeps HK.out).off hbW
      refine (Lay_up W _ D _ _ _ cc x.id huW hiW (by omega) hrW (by omega)).mono ?_
      rintro e wy ⟨rfl, hy, hky⟩
      have hky' := Keeps.off hbW hky
      have c1' := (hky'.cell ⟨(ad.add (j * 4)).block, (ad.add (j * 4)).off + 1, none⟩ (by show (ad.add (j * 4)).block < _; rw [block_of_add]; exact HADB.out) (by show ¬ F (ad.add (j * 4)).block; rw [block_of_add]; exact HNF.out)).trans c1
      have HY := Lib.hid (hy.weaken (G := F) (fun k e => e.1)); have HKY := Lib.hid hky'
      clear hy hky hky' huW hbW hiW hlW hrW c0 c1
      go_wp2_with fail
      refine (Put_row wy F D _ [x.size] (HU.out.keeps (HK.out.trans HKY.out (fun _ _ e => e))) HY.out (by simp; omega) (by simp)).mono ?_
      rintro e wz ⟨rfl, hz, hkz⟩
      have HZ := Lib.hid (show BkIs wz F D ((s2.bytes x.id).int x.size) from hz); have HKZ := Lib.hid (HKY.out.trans hkz (fun _ _ e => e))
      clear hz hkz c1'
      have c2' := (HKZ.out.cell ⟨(ad.add (j * 4)).block, (ad.add (j * 4)).off + 2, none⟩ (by show (ad.add (j * 4)).block < _; rw [block_of_add]; exact HADB.out) (by show ¬ F (ad.add (j * 4)).block; rw [block_of_add]; exact HNF.out)).trans c2
      clear c2
      go_wp2_with fail
      have hrr : Rd wz wr.heap.size As x.share.length x.share := reads_off HRA.out HKZ.out (Nat.le_refl _) (fun ad e h0 => HS.out _ (HSA.out ad e h0))
      refine (Lay_up wz F D _ As _ cs x.share (HU.out.keeps (HK.out.trans HKZ.out (fun _ _ e => e))) HZ.out (by omega) (hrr.more HKZ.out.size) (by omega)).mono ?_
      rintro e wu ⟨rfl, hu2, hku⟩
      have HV := Lib.hid (show BkIs wu F D (s2.obj x) from hu2); have HKV := Lib.hid (HKZ.out.trans hku (fun _ _ e => e))
      clear hu2 hku c2' hrr HZ HKZ HY HKY
      have c3' := (HKV.out.cell ⟨(ad.add (j * 4)).block, (ad.add (j * 4)).off + 3, none⟩ (by show (ad.add (j * 4)).block < _; rw [block_of_add]; exact HADB.out) (by show ¬ F (ad.add (j * 4)).block; rw [block_of_add]; exact HNF.out)).trans c3
      clear c3
      go_wp2_with fail
      have hrr : Rd wu wr.heap.size At x.tag.length x.tag := reads_off HRT.out HKV.out (Nat.le_refl _) (fun ad e h0 => HS.out _ (HST2.out ad e h0))
      have hd4 := obj_len2 s2 x
      refine (Lay_up wu F D _ At _ ct x.tag (HU.out.keeps (HK.out.trans HKV.out (fun _ _ e => e))) HV.out (by omega) (hrr.more HKV.out.size) (by omega)).mono ?_
      rintro e wv ⟨rfl, hv, hkv⟩
      have HZ := Lib.hid (show BkIs wv F D (s2.objT x) from hv); have HKZ := Lib.hid (HK.out.trans (HKV.out.trans hkv (fun _ _ e => e)) (fun _ _ e => e))
      clear hv hkv c3' hrr hd1 hd2 hd3 hd4 hlen hlen2 hxl HV HKV
      go_wp2_with fail
      go_roundw
      case rel => exact ⟨j + 1, by omega, by go_num, by rw [← HST.out]; exact HZ.out, HKZ.out⟩
      case measure => simp [intOf]; omega
    · obtain rfl : j = os.length := by omega
      have h9 := HW.out
      rw [List.take_length] at h9
      have H9 := Lib.hid h9
      clear h9
      go_wp2
      go_end0
      refine ⟨rfl, ?_, HK.out⟩
      unfold WS.objs
      rw [HS1.out]
      exact H9.out
set_option maxRecDepth 100000 in
set_option maxHeartbeats 4000000 in
theorem RefState_any (w : World) (S : Nat → Prop) (x : StateV) (Ao Ap : Option Addr) (co cp : Nat) (hr : StateRd w S x Ao Ap) (hS : ∀ k, S k → k < w.heap.size) (hs : x.cost ≤ 140737488000000) :
    Calls Tryd.prog 10 #[.agg (stateCells x Ao Ap co cp)] w (RefPost w (WS.state ⟨[], false⟩ x)) := by
  go_enter Tryd.func10, Tryd.ntmps10
  go_upto_region 1 with (fail)
  have hb1 : Below w.heap.size w (w.alloc (.cells (stateCells x Ao Ap co cp) 26)) := (Below.refl _ _).alloc (Nat.le_refl _) _
  have hM := Blk.new w 26 (stateCells x Ao Ap co cp)
  have hr1 := hr.below hb1
  have hsz : (w.alloc (.cells (stateCells x Ao Ap co cp) 26)).heap.size = w.heap.size + 1 := by simp
  obtain ⟨M, hMe⟩ : ∃ M, M = w.heap.size := ⟨_, rfl⟩
  rw [← hMe] at hM hsz ⊢
  generalize w.alloc (.cells (stateCells x Ao Ap co cp) 26) = w1 at hb1 hM hr1 hsz ⊢
  have HME := Lib.hid hMe; clear hMe
  have HSZ := Lib.hid hsz; clear hsz
  go_upto_region 2 with (fail)
  have hb3 : Below w1.heap.size w1 (w1.alloc (.cells #[.slice none 0 0, .bool false] 63)) := (Below.refl _ _).alloc (Nat.le_refl _) _
  have hBK := Blk.new w1 63 #[.slice none 0 0, .bool false]
  have h3 : BkIs (w1.alloc (.cells #[.slice none 0 0, .bool false] 63)) (fun k => w1.heap.size ≤ k) w1.heap.size ⟨[], false⟩ :=
    ⟨.slice none 0 0, ⟨hBK, Own.nil_ _ _, fun _ e => by cases e⟩, Nat.le_refl _, fun _ e => by cases e⟩
  have hM3 := hM.alloc (.cells #[.slice none 0 0, .bool false] 63)
  have hr3 := hr1.below hb3
  have hb03 := hb1.trans (hb3.mono (by have := HME.out; have := HSZ.out; omega))
  have hu3 : Up (fun k => w1.heap.size ≤ k) (w1.alloc (.cells #[.slice none 0 0, .bool false] 63)) := fun k hk => by simp at hk; omega
  obtain ⟨D, hDe⟩ : ∃ D, D = w1.heap.size := ⟨_, rfl⟩
  rw [← hDe] at h3 hu3 ⊢
  generalize w1.alloc (.cells #[.slice none 0 0, .bool false] 63) = w3 at h3 hM3 hr3 hb03 hu3 ⊢
  obtain ⟨F, hF⟩ : ∃ F : Nat → Prop, F = fun k => D ≤ k := ⟨_, rfl⟩
  rw [← hF] at h3 hu3
  have hFM : ¬ F M := by rw [hF]; intro e; have := HSZ.out; omega
  have hFS : ∀ k, S k → ¬ F k := by rw [hF]; intro k hk e; have := hS k hk; have := HME.out; have := HSZ.out; omega
  have hFB' : ∀ k, F k → w.heap.size ≤ k := by rw [hF]; intro k e; have := HME.out; have := HSZ.out; omega
  have h3l : w.heap.size ≤ w3.heap.size := hb03.size
  have HS := Lib.hid hs
  unfold StateV.cost at hs
  have H3 := Lib.hid h3; have HU := Lib.hid hu3; have HM3 := Lib.hid hM3; have HR3 := Lib.hid hr3; have HB03 := Lib.hid hb03; have HFM := Lib.hid hFM; have HFS := Lib.hid hFS; have HFB' := Lib.hid hFB'
  have HK3 := Lib.hid (Keeps.refl F w3)
  clear h3 hu3 hM3 hr3 hb03 hFM hFS hFB' hF hDe hb3 hb1 hM hr1 hr hBK hS
  have hl3 : (⟨[], false⟩ : WS).out.length ≤ 0 := Nat.le_refl _
  obtain ⟨s3, hs3⟩ : ∃ ss, ss = (⟨[], false⟩ : WS) := ⟨_, rfl⟩
  rw [← hs3] at H3 hl3
  have HS3 := Lib.hid hs3
  clear hs3
  have m0 : w3.cell? ⟨M, 0, none⟩ = some (stateCells x Ao Ap co cp)[0] := ((HM3.out.keeps HK3.out HFM.out).cell 0).trans rfl
  have m1 : w3.cell? ⟨M, 1, none⟩ = some (stateCells x Ao Ap co cp)[1] := ((HM3.out.keeps HK3.out HFM.out).cell 1).trans rfl
  have m2 : w3.cell? ⟨M, 2, none⟩ = some (stateCells x Ao Ap co cp)[2] := ((HM3.out.keeps HK3.out HFM.out).cell 2).trans rfl
  simp only [List.getElem_toArray, List.getElem_cons_succ, List.getElem_cons_zero] at m0 m1 m2
  go_wp2_with fail
  refine (Put_row w3 F D s3 [x.epoch, x.decided, x.dealt] (HU.out.keeps HK3.out) H3.out (by simp; omega) (by simp)).mono ?_
  rintro e w4 ⟨rfl, h4, hk4⟩
  have H4 := Lib.hid h4; have HK4 := Lib.hid (HK3.out.trans hk4 (fun _ _ e => e))
  clear h4 hk4 m0 m1 m2
  have hl4 : (s3.ints [x.epoch, x.decided, x.dealt]).out.length ≤ s3.out.length + 12 := ints_len [x.epoch, x.decided, x.dealt] s3
  obtain ⟨s4, hs4⟩ : ∃ ss, ss = (s3.ints [x.epoch, x.decided, x.dealt]) := ⟨_, rfl⟩
  have h4' : BkIs w4 F D s4 := by rw [hs4]; exact H4.out
  rw [← hs4] at hl4
  clear H4
  have H4 := Lib.hid h4'
  have HS4 := Lib.hid hs4
  clear hs4 h4'
  have m3 : w4.cell? ⟨M, 3, none⟩ = some (stateCells x Ao Ap co cp)[3] := ((HM3.out.keeps HK4.out HFM.out).cell 3).trans rfl
  simp only [List.getElem_toArray, List.getElem_cons_succ, List.getElem_cons_zero] at m3
  go_wp2_with fail
  refine (RefObjs_any w4 F S D s4 Ao co x.objs (HU.out.keeps HK4.out) H4.out (HR3.out.off HK4.out HFS.out).objs HFS.out (by omega)).mono ?_
  rintro e w5 ⟨rfl, h5, hk5⟩
  have H5 := Lib.hid h5; have HK5 := Lib.hid (HK4.out.trans hk5 (fun _ _ e => e))
  clear h5 hk5 m3
  have hl5 : (s4.objs x.objs).out.length ≤ s4.out.length + (4 + costO x.objs) := objs_len2 s4 x.objs
  obtain ⟨s5, hs5⟩ : ∃ ss, ss = (s4.objs x.objs) := ⟨_, rfl⟩
  have h5' : BkIs w5 F D s5 := by rw [hs5]; exact H5.out
  rw [← hs5] at hl5
  clear H5
  have H5 := Lib.hid h5'
  have HS5 := Lib.hid hs5
  clear hs5 h5'
  have m4 : w5.cell? ⟨M, 4, none⟩ = some (stateCells x Ao Ap co cp)[4] := ((HM3.out.keeps HK5.out HFM.out).cell 4).trans rfl
  have m5 : w5.cell? ⟨M, 5, none⟩ = some (stateCells x Ao Ap co cp)[5] := ((HM3.out.keeps HK5.out HFM.out).cell 5).trans rfl
  have m6 : w5.cell? ⟨M, 6, none⟩ = some (stateCells x Ao Ap co cp)[6] := ((HM3.out.keeps HK5.out HFM.out).cell 6).trans rfl
  simp only [List.getElem_toArray, List.getElem_cons_succ, List.getElem_cons_zero] at m4 m5 m6
  go_wp2_with fail
  refine (Put_row w5 F D s5 [x.psession, x.pkind, x.pepoch] (HU.out.keeps HK5.out) H5.out (by simp; omega) (by simp)).mono ?_
  rintro e w6 ⟨rfl, h6, hk6⟩
  have H6 := Lib.hid h6; have HK6 := Lib.hid (HK5.out.trans hk6 (fun _ _ e => e))
  clear h6 hk6 m4 m5 m6
  have hl6 : (s5.ints [x.psession, x.pkind, x.pepoch]).out.length ≤ s5.out.length + 12 := ints_len [x.psession, x.pkind, x.pepoch] s5
  obtain ⟨s6, hs6⟩ : ∃ ss, ss = (s5.ints [x.psession, x.pkind, x.pepoch]) := ⟨_, rfl⟩
  have h6' : BkIs w6 F D s6 := by rw [hs6]; exact H6.out
  rw [← hs6] at hl6
  clear H6
  have H6 := Lib.hid h6'
  have HS6 := Lib.hid hs6
  clear hs6 h6'
  have m7 : w6.cell? ⟨M, 7, none⟩ = some (stateCells x Ao Ap co cp)[7] := ((HM3.out.keeps HK6.out HFM.out).cell 7).trans rfl
  simp only [List.getElem_toArray, List.getElem_cons_succ, List.getElem_cons_zero] at m7
  go_wp2_with fail
  refine (RefObjs_any w6 F S D s6 Ap cp x.pobjs (HU.out.keeps HK6.out) H6.out (HR3.out.off HK6.out HFS.out).pobjs HFS.out (by omega)).mono ?_
  rintro e w7 ⟨rfl, h7, hk7⟩
  have H7 := Lib.hid h7; have HK7 := Lib.hid (HK6.out.trans hk7 (fun _ _ e => e))
  clear h7 hk7 m7
  have hl7 : (s6.objs x.pobjs).out.length ≤ s6.out.length + (4 + costO x.pobjs) := objs_len2 s6 x.pobjs
  obtain ⟨s7, hs7⟩ : ∃ ss, ss = (s6.objs x.pobjs) := ⟨_, rfl⟩
  have h7' : BkIs w7 F D s7 := by rw [hs7]; exact H7.out
  rw [← hs7] at hl7
  clear H7
  have H7 := Lib.hid h7'
  have HS7 := Lib.hid hs7
  clear hs7 h7'
  obtain ⟨v, hv, hFD, hFv⟩ := H7.out
  have c0 := hv.c0
  have c1 := hv.c1
  have hms : s7 = WS.state ⟨[], false⟩ x := by
    rw [HS7.out, HS6.out, HS5.out, HS4.out, HS3.out]
    rfl
  have hbF := HB03.out.trans (HK7.out.below HFB'.out h3l)
  obtain ⟨Av, cv, rfl⟩ := hv.own.shape
  have hfr : Fresh w7.drew w.heap.size (.slice Av s7.out.length cv) s7.out := ⟨Av, cv, rfl, hv.own.rd.drew, fun ad e => by
    obtain ⟨_, _, _, hcap⟩ := hv.own.cap
    subst e
    exact HFB'.out _ (hFv _ (by obtain ⟨_, _, g, hg⟩ := hcap ad rfl; rw [hg]; rfl))⟩
  have hfin : RefPost w (WS.state ⟨[], false⟩ x) (.returned (.tuple #[.slice Av s7.out.length cv, .bool (!s7.bad)])) w7.drew := by
    rw [← hms]
    exact ⟨_, rfl, hfr, hbF.drew⟩
  have HFIN := Lib.hid hfin
  clear hv hbF hms hfr hfin
  go_wp2_with fail
  refine wp_region_q (by kernel_rfl) (by kernel_rfl) ?_
  repeat (first | go_big_quiet_skip | (go_big_quiet_want; go_big_quiet_op; first | go_big_quiet_on))
  refine wpQuiet_nil ?_
  go_wp2
  go_ret2
  exact HFIN.out
set_option maxRecDepth 100000 in
set_option maxHeartbeats 4000000 in
theorem RefDir_any (w : World) (S : Nat → Prop) (k : BookV) (Ad Au Ac : Option Addr) (cd cu cc : Nat) (hr : BookRd w S k Ad Au Ac) (hS : ∀ k, S k → k < w.heap.size) (hs : k.cost ≤ 140737488000000) :
    Calls Tryd.prog 15 #[.agg (bookCells k Ad Au Ac cd cu cc)] w (RefPost w (WS.book ⟨[], false⟩ k)) := by
  go_enter Tryd.func15, Tryd.ntmps15
  go_upto_region 1 with (fail)
  have hb1 : Below w.heap.size w (w.alloc (.cells (bookCells k Ad Au Ac cd cu cc) 39)) := (Below.refl _ _).alloc (Nat.le_refl _) _
  have hM := Blk.new w 39 (bookCells k Ad Au Ac cd cu cc)
  have hr1 := hr.below hb1
  have hsz : (w.alloc (.cells (bookCells k Ad Au Ac cd cu cc) 39)).heap.size = w.heap.size + 1 := by simp
  obtain ⟨M, hMe⟩ : ∃ M, M = w.heap.size := ⟨_, rfl⟩
  rw [← hMe] at hM hsz ⊢
  generalize w.alloc (.cells (bookCells k Ad Au Ac cd cu cc) 39) = w1 at hb1 hM hr1 hsz ⊢
  have HME := Lib.hid hMe; clear hMe
  have HSZ := Lib.hid hsz; clear hsz
  go_upto_region 2 with (fail)
  have hb3 : Below w1.heap.size w1 (w1.alloc (.cells #[.slice none 0 0, .bool false] 63)) := (Below.refl _ _).alloc (Nat.le_refl _) _
  have hBK := Blk.new w1 63 #[.slice none 0 0, .bool false]
  have h3 : BkIs (w1.alloc (.cells #[.slice none 0 0, .bool false] 63)) (fun k => w1.heap.size ≤ k) w1.heap.size ⟨[], false⟩ :=
    ⟨.slice none 0 0, ⟨hBK, Own.nil_ _ _, fun _ e => by cases e⟩, Nat.le_refl _, fun _ e => by cases e⟩
  have hM3 := hM.alloc (.cells #[.slice none 0 0, .bool false] 63)
  have hr3 := hr1.below hb3
  have hb03 := hb1.trans (hb3.mono (by have := HME.out; have := HSZ.out; omega))
  have hu3 : Up (fun k => w1.heap.size ≤ k) (w1.alloc (.cells #[.slice none 0 0, .bool false] 63)) := fun k hk => by simp at hk; omega
  obtain ⟨D, hDe⟩ : ∃ D, D = w1.heap.size := ⟨_, rfl⟩
  rw [← hDe] at h3 hu3 ⊢
  generalize w1.alloc (.cells #[.slice none 0 0, .bool false] 63) = w3 at h3 hM3 hr3 hb03 hu3 ⊢
  obtain ⟨F, hF⟩ : ∃ F : Nat → Prop, F = fun k => D ≤ k := ⟨_, rfl⟩
  rw [← hF] at h3 hu3
  have hFM : ¬ F M := by rw [hF]; intro e; have := HSZ.out; omega
  have hFS : ∀ k, S k → ¬ F k := by rw [hF]; intro k hk e; have := hS k hk; have := HME.out; have := HSZ.out; omega
  have hFB' : ∀ k, F k → w.heap.size ≤ k := by rw [hF]; intro k e; have := HME.out; have := HSZ.out; omega
  have h3l : w.heap.size ≤ w3.heap.size := hb03.size
  have HS := Lib.hid hs
  unfold BookV.cost at hs
  have H3 := Lib.hid h3; have HU := Lib.hid hu3; have HM3 := Lib.hid hM3; have HR3 := Lib.hid hr3; have HB03 := Lib.hid hb03; have HFM := Lib.hid hFM; have HFS := Lib.hid hFS; have HFB' := Lib.hid hFB'
  have HK3 := Lib.hid (Keeps.refl F w3)
  clear h3 hu3 hM3 hr3 hb03 hFM hFS hFB' hF hDe hb3 hb1 hM hr1 hr hBK hS
  have hl3 : (⟨[], false⟩ : WS).out.length ≤ 0 := Nat.le_refl _
  obtain ⟨s3, hs3⟩ : ∃ ss, ss = (⟨[], false⟩ : WS) := ⟨_, rfl⟩
  rw [← hs3] at H3 hl3
  have HS3 := Lib.hid hs3
  clear hs3
  have m0 : w3.cell? ⟨M, 0, none⟩ = some (bookCells k Ad Au Ac cd cu cc)[0] := ((HM3.out.keeps HK3.out HFM.out).cell 0).trans rfl
  have m1 : w3.cell? ⟨M, 1, none⟩ = some (bookCells k Ad Au Ac cd cu cc)[1] := ((HM3.out.keeps HK3.out HFM.out).cell 1).trans rfl
  have m2 : w3.cell? ⟨M, 2, none⟩ = some (bookCells k Ad Au Ac cd cu cc)[2] := ((HM3.out.keeps HK3.out HFM.out).cell 2).trans rfl
  simp only [List.getElem_toArray, List.getElem_cons_succ, List.getElem_cons_zero] at m0 m1 m2
  go_wp2_with fail
  refine (Put_row w3 F D s3 [k.session, k.decided, k.epoch] (HU.out.keeps HK3.out) H3.out (by simp; omega) (by simp)).mono ?_
  rintro e w4 ⟨rfl, h4, hk4⟩
  have H4 := Lib.hid h4; have HK4 := Lib.hid (HK3.out.trans hk4 (fun _ _ e => e))
  clear h4 hk4 m0 m1 m2
  have hl4 : (s3.ints [k.session, k.decided, k.epoch]).out.length ≤ s3.out.length + 12 := ints_len [k.session, k.decided, k.epoch] s3
  obtain ⟨s4, hs4⟩ : ∃ ss, ss = (s3.ints [k.session, k.decided, k.epoch]) := ⟨_, rfl⟩
  have h4' : BkIs w4 F D s4 := by rw [hs4]; exact H4.out
  rw [← hs4] at hl4
  clear H4
  have H4 := Lib.hid h4'
  have HS4 := Lib.hid hs4
  clear hs4 h4'
  have m3 : w4.cell? ⟨M, 3, none⟩ = some (bookCells k Ad Au Ac cd cu cc)[3] := ((HM3.out.keeps HK4.out HFM.out).cell 3).trans rfl
  simp only [List.getElem_toArray, List.getElem_cons_succ, List.getElem_cons_zero] at m3
  go_wp2_with fail
  have hrr := HR3.out.off HK4.out HFS.out
  refine (RefHeads_any w4 F D s4 Ad cd k.dir (HU.out.keeps HK4.out) H4.out hrr.dir (fun ad e _ h0 => HFS.out _ (hrr.inS ad (Or.inl ⟨e, h0⟩))) (by omega) (by have := costH_ge k.dir; omega)).mono ?_
  clear hrr
  rintro e w5 ⟨rfl, h5, hk5⟩
  have H5 := Lib.hid h5; have HK5 := Lib.hid (HK4.out.trans hk5 (fun _ _ e => e))
  clear h5 hk5 m3
  have hl5 : (s4.heads k.dir).out.length ≤ s4.out.length + (4 + costH k.dir) := heads_len2 s4 k.dir
  obtain ⟨s5, hs5⟩ : ∃ ss, ss = (s4.heads k.dir) := ⟨_, rfl⟩
  have h5' : BkIs w5 F D s5 := by rw [hs5]; exact H5.out
  rw [← hs5] at hl5
  clear H5
  have H5 := Lib.hid h5'
  have HS5 := Lib.hid hs5
  clear hs5 h5'
  have m4 : w5.cell? ⟨M, 4, none⟩ = some (bookCells k Ad Au Ac cd cu cc)[4] := ((HM3.out.keeps HK5.out HFM.out).cell 4).trans rfl
  simp only [List.getElem_toArray, List.getElem_cons_succ, List.getElem_cons_zero] at m4
  go_wp2_with fail
  refine (Put_row w5 F D s5 [(k.up.length : Int)] (HU.out.keeps HK5.out) H5.out (by simp; omega) (by simp)).mono ?_
  rintro e w6 ⟨rfl, h6, hk6⟩
  have H6 := Lib.hid h6; have HK6 := Lib.hid (HK5.out.trans hk6 (fun _ _ e => e))
  clear h6 hk6 m4
  have hl6 : (s5.int k.up.length).out.length ≤ s5.out.length + 4 := int_len s5 _
  obtain ⟨s6, hs6⟩ : ∃ ss, ss = (s5.int k.up.length) := ⟨_, rfl⟩
  have h6' : BkIs w6 F D s6 := by rw [hs6]; exact H6.out
  rw [← hs6] at hl6
  clear H6
  have H6 := Lib.hid h6'
  have HS6 := Lib.hid hs6
  clear hs6 h6'
  go_wp2_with fail
  go_loopw [5, 6] (fun q _ wr => ∃ j : Nat, j ≤ k.up.length ∧ q = .int .i64 (j : Int) ∧ BkIs wr F D (s6.ints ((k.up.map flagI).take j)) ∧ Keeps F w3 wr) (fun q _ _ => k.up.length - (intOf q).toNat)
  case atStart => exact ⟨0, by omega, rfl, H6.out, HK6.out⟩
  case' round =>
    obtain ⟨j, hj, rfl, hw, hk⟩ := hrel
    have HW := Lib.hid hw; have HK := Lib.hid hk
    clear hw hk
    have m4 : wr.cell? ⟨M, 4, none⟩ = some (.slice Au k.up.length cu) := ((HM3.out.keeps HK.out HFM.out).cell 4).trans rfl
    by_cases hjn : j < k.up.length
    · have hjn' : (j : Int) < (k.up.length : Int) := by omega
      obtain ⟨ad, u, rfl, _, hx, hc⟩ := Reads.at_ (HR3.out.off HK.out HFS.out).up hjn
      rw [List.getElem?_map, List.getElem?_eq_getElem hjn] at hx
      simp only [Option.map_some, Option.some.injEq] at hx
      have hjl : j < (k.up.map flagI).length := by simpa using hjn
      have hst := ints_snoc s6 (k.up.map flagI) j hjl
      rw [List.getElem_map] at hst
      have hlen := ints_len ((k.up.map flagI).take j) s6
      rw [List.length_take, List.length_map] at hlen
      generalize k.up[j] = x at hx hst
      subst hx
      have HST := Lib.hid hst
      clear hst
      cases x
      · go_wp2_with fail
        refine (Put_row wr F D _ [(0 : Int)] (HU.out.keeps HK.out) HW.out (by simp; omega) (by simp)).mono ?_
        rintro e wy ⟨rfl, hy, hky⟩
        have HY := Lib.hid (show BkIs wy F D (s6.ints ((k.up.map flagI).take (j + 1))) by rw [← HST.out]; exact hy); have HKY := Lib.hid (HK.out.trans hky (fun _ _ e => e))
        clear hy hky hlen
        go_wp2_with fail
        go_roundw
        case rel => exact ⟨j + 1, by omega, by go_num, HY.out, HKY.out⟩
        case measure => simp [intOf]; omega
      · go_wp2_with fail
        refine (Put_row wr F D _ [(1 : Int)] (HU.out.keeps HK.out) HW.out (by simp; omega) (by simp)).mono ?_
        rintro e wy ⟨rfl, hy, hky⟩
        have HY := Lib.hid (show BkIs wy F D (s6.ints ((k.up.map flagI).take (j + 1))) by rw [← HST.out]; exact hy); have HKY := Lib.hid (HK.out.trans hky (fun _ _ e => e))
        clear hy hky hlen
        go_wp2_with fail
        go_roundw
        case rel => exact ⟨j + 1, by omega, by go_num, HY.out, HKY.out⟩
        case measure => simp [intOf]; omega
  obtain rfl : j = k.up.length := by omega
  have hw7 := HW.out
  rw [List.take_of_length_le (by simp)] at hw7
  have H7 := Lib.hid hw7
  have HK7 := Lib.hid HK.out
  obtain ⟨w7, hwr⟩ : ∃ wx, wx = wr := ⟨_, rfl⟩
  subst hwr
  clear hw7 HW HK hj hjn
  have hl7 : (s6.ints (k.up.map flagI)).out.length ≤ s6.out.length + 4 * k.up.length := (by have := ints_len (k.up.map flagI) s6; rwa [List.length_map] at this)
  obtain ⟨s7, hs7⟩ : ∃ ss, ss = (s6.ints (k.up.map flagI)) := ⟨_, rfl⟩
  have h7' : BkIs w7 F D s7 := by rw [hs7]; exact H7.out
  rw [← hs7] at hl7
  clear H7
  have H7 := Lib.hid h7'
  have HS7 := Lib.hid hs7
  clear hs7 h7'
  have m5 : w7.cell? ⟨M, 5, none⟩ = some (bookCells k Ad Au Ac cd cu cc)[5] := ((HM3.out.keeps HK7.out HFM.out).cell 5).trans rfl
  simp only [List.getElem_toArray, List.getElem_cons_succ, List.getElem_cons_zero] at m5 m4
  go_wp2_with fail
  have hrr := HR3.out.off HK7.out HFS.out
  refine (RefInts_any w7 F D s7 Ac _ cc k.commit (HU.out.keeps HK7.out) H7.out hrr.commit (fun ad e h0 => HFS.out _ (hrr.inS ad (Or.inr (Or.inr ⟨e, h0⟩)))) (by omega) (by omega)).mono ?_
  clear hrr
  rintro e w8 ⟨rfl, h8, hk8⟩
  have H8 := Lib.hid h8; have HK8 := Lib.hid (HK7.out.trans hk8 (fun _ _ e => e))
  clear h8 hk8 m5 m4
  have hl8 : (s7.list k.commit).out.length ≤ s7.out.length + (4 + 4 * k.commit.length) := wlist_len s7 k.commit
  obtain ⟨s8, hs8⟩ : ∃ ss, ss = (s7.list k.commit) := ⟨_, rfl⟩
  have h8' : BkIs w8 F D s8 := by rw [hs8]; exact H8.out
  rw [← hs8] at hl8
  clear H8
  have H8 := Lib.hid h8'
  have HS8 := Lib.hid hs8
  clear hs8 h8'
  obtain ⟨v, hv, hFD, hFv⟩ := H8.out
  have c0 := hv.c0
  have c1 := hv.c1
  have hms : s8 = WS.book ⟨[], false⟩ k := by
    rw [HS8.out, HS7.out, HS6.out, HS5.out, HS4.out, HS3.out]
    rfl
  have hbF := HB03.out.trans (HK8.out.below HFB'.out h3l)
  obtain ⟨Av, cv, rfl⟩ := hv.own.shape
  have hfr : Fresh w8.drew w.heap.size (.slice Av s8.out.length cv) s8.out := ⟨Av, cv, rfl, hv.own.rd.drew, fun ad e => by
    obtain ⟨_, _, _, hcap⟩ := hv.own.cap
    subst e
    exact HFB'.out _ (hFv _ (by obtain ⟨_, _, g, hg⟩ := hcap ad rfl; rw [hg]; rfl))⟩
  have hfin : RefPost w (WS.book ⟨[], false⟩ k) (.returned (.tuple #[.slice Av s8.out.length cv, .bool (!s8.bad)])) w8.drew := by
    rw [← hms]
    exact ⟨_, rfl, hfr, hbF.drew⟩
  have HFIN := Lib.hid hfin
  clear hv hbF hms hfr hfin
  go_wp2_with fail
  refine wp_region_q (by kernel_rfl) (by kernel_rfl) ?_
  repeat (first | go_big_quiet_skip | (go_big_quiet_want; go_big_quiet_op; first | go_big_quiet_on))
  refine wpQuiet_nil ?_
  go_wp2
  go_ret2
  exact HFIN.out
end Go.Proofs.YtinkclcdpcjnfaaDoor
