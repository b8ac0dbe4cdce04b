/- The pen's objects walked. Condition: what is written is no great thing. -/
import Derived.Test.YtinkclcdpcjnfaaDoorRec1
namespace Go.Proofs.YtinkclcdpcjnfaaDoor
open Go.RowKit
def HeadsRd (w : World) (B : Nat) (A : Option Addr) (hs : List HeadV) : Prop :=
  0 < hs.length → ∃ ad, A = some ad ∧ ad.block < B ∧ ∀ (i : Nat) (h : HeadV), hs[i]? = some h →
    w.cell? (ad.add (i * 2)) = some (.string ⟨h.id.toArray⟩) ∧ w.cell? ⟨(ad.add (i * 2)).block, (ad.add (i * 2)).off + 1, none⟩ = some (.int .i64 h.size)
theorem HeadsRd.off {w w' : World} {F : Nat → Prop} {B : Nat} {A : Option Addr} {hs : List HeadV} (h : HeadsRd w B A hs) (hk : Keeps F w w') (hB : B ≤ w.heap.size) (hoff : ∀ ad, A = some ad → ad.block < B → ¬ F ad.block) : HeadsRd w' B A hs := by
  intro hn
  obtain ⟨ad, e, hb, hc⟩ := h hn
  refine ⟨ad, e, hb, fun i x hx => ?_⟩
  obtain ⟨c0, c1⟩ := hc i x hx
  have hbl := hk.block _ (Nat.lt_of_lt_of_le hb hB) (hoff ad e hb)
  exact ⟨(World.cell?_of_block (a := ad.add (i * 2)) (by rw [block_of_add]; exact hbl)).trans c0, (World.cell?_of_block (a := ⟨(ad.add (i * 2)).block, (ad.add (i * 2)).off + 1, none⟩) (by show _ = w.heap[(ad.add (i * 2)).block]?; rw [block_of_add]; exact hbl)).trans c1⟩
theorem rd_off {w w' : World} {F : Nat → Prop} {B n : Nat} {A : Option Addr} {l : List UInt8} (h : Rd w B A n l) (hk : Keeps F w w') (hB : B ≤ w.heap.size) (hoff : ∀ ad, A = some ad → ad.block < B → ¬ F ad.block) : Rd w' B A n l := by
  refine ⟨h.1, fun hn => ?_⟩
  obtain ⟨ad, e, hb, hc⟩ := h.2 hn
  exact ⟨ad, e, hb, fun j u hu => (World.cell?_of_block (a := ad.add j) (by rw [block_of_add]; exact hk.block _ (Nat.lt_of_lt_of_le hb hB) (hoff ad e hb))).trans (hc j u hu)⟩
theorem reads_off2 {w w' : World} {F : Nat → Prop} {B n : Nat} {A : Option Addr} {xs : List Value} (h : Reads w B 1 A n xs) (hk : Keeps F w w') (hB : B ≤ w.heap.size) (hoff : ∀ ad, A = some ad → ad.block < B → ¬ F ad.block) : Reads w' B 1 A n xs := by
  refine ⟨h.1, fun hn => ?_⟩
  obtain ⟨ad, e, hb, hc⟩ := h.2 hn
  exact ⟨ad, e, hb, fun j u hu => (World.cell?_of_block (a := ad.add j) (by rw [block_of_add]; exact hk.block _ (Nat.lt_of_lt_of_le hb hB) (hoff ad e hb))).trans (hc j u hu)⟩
theorem wlist_len (s : WS) (l : List Int) : (s.list l).out.length ≤ s.out.length + (4 + 4 * l.length) := by
  have h1 := ints_len l (s.int l.length)
  have h2 := int_len s l.length
  unfold WS.list
  omega
theorem heads_snoc (s : WS) (l : List HeadV) (j : Nat) (hj : j < l.length) : ((l.take j).foldl WS.head s).head l[j] = (l.take (j + 1)).foldl WS.head s := by
  rw [List.take_succ_eq_append_getElem hj, List.foldl_append]
  rfl
/-- What an encoding leaves. -/
def EncPost (w : World) (s : WS) (e : Ending) (w' : World) : Prop := ∃ v', e = .returned (.tuple #[v', .bool (!s.bad)]) ∧ Fresh w' w.heap.size v' (if s.bad then [] else s.out) ∧ Below w.heap.size w w' ∧ WrB w' v'
abbrev objCells (o : ObjV) (As At : Option Addr) (cs ct : Nat) : Array Value := #[.string ⟨o.id.toArray⟩, .int .i64 o.size, .slice As o.share.length cs, .slice At o.tag.length ct]
theorem objs_snoc (s : WS) (l : List ObjV) (j : Nat) (hj : j < l.length) : ((l.take j).foldl WS.objT s).objT l[j] = (l.take (j + 1)).foldl WS.objT s := by
  rw [List.take_succ_eq_append_getElem hj, List.foldl_append]
  rfl
set_option maxRecDepth 100000 in
theorem PenObj_any (w : World) (F : Nat → Prop) (D : Nat) (s : WS) (o : ObjV) (As At : Option Addr) (cs ct : Nat) (hu : Up F w) (h : WrIs w F D s) (hr : Rd w w.heap.size As o.share.length o.share)
    (hoff : ∀ ad, As = some ad → 0 < o.share.length → ¬ F ad.block) (hs : s.out.length + 131080 ≤ 140737488355328) :
    Calls Tryd.prog 38 #[.agg #[.pointer (some ⟨D, 0, none⟩)], .agg (objCells o As At cs ct)] w fun e w' => e = .returned (.tuple #[]) ∧ WrIs w' F D (s.obj o) ∧ Keeps F w w' := by
  have hb1 : Below w.heap.size w ((w.alloc (.cells #[.pointer (some ⟨D, 0, none⟩)] 57)).alloc (.cells (objCells o As At cs ct) 47)) := ((Below.refl _ _).alloc (Nat.le_refl _) _).alloc (by simp) _
  have hP := (Blk.new w 57 #[.pointer (some ⟨D, 0, none⟩)]).alloc (.cells (objCells o As At cs ct) 47)
  have hO : Blk ((w.alloc (.cells #[.pointer (some ⟨D, 0, none⟩)] 57)).alloc (.cells (objCells o As At cs ct) 47)) (w.heap.size + 1) 47 (objCells o As At cs ct) := Blk.new' (by simp)
  have h1 := h.skip hb1
  have hu1 := hu.off hb1
  have hr1 := (hr.below hb1).more hb1.size
  have hsz : ((w.alloc (.cells #[.pointer (some ⟨D, 0, none⟩)] 57)).alloc (.cells (objCells o As At cs ct) 47)).heap.size = w.heap.size + 2 := by simp
  have hd2 := bytes_len2 s o.id
  have hd3 := int_len (s.bytes o.id) o.size
  have HP := Lib.hid hP; have HO := Lib.hid hO; have H1 := Lib.hid h1; have HU1 := Lib.hid hu1; have HR1 := Lib.hid hr1; have HSZ := Lib.hid hsz; have HB1 := Lib.hid hb1; have HOFF := Lib.hid hoff
  clear hP hO h1 hu1 hr1 hsz hb1 hoff h hu hr
  go_enter Tryd.func38, Tryd.ntmps38
  go_upto_region 1 with (fail)
  obtain ⟨b, hb⟩ : ∃ b, b = w.heap.size := ⟨_, rfl⟩
  rw [← hb] at HP HO HSZ ⊢
  have HBE := Lib.hid hb; clear hb
  obtain ⟨w1, hw1⟩ : ∃ w1, w1 = (w.alloc (.cells #[.pointer (some ⟨D, 0, none⟩)] 57)).alloc (.cells (objCells o As At cs ct) 47) := ⟨_, rfl⟩
  rw [← hw1] at HP HO H1 HU1 HR1 HSZ HB1 ⊢
  obtain ⟨G, hG⟩ : ∃ G, G = Off F w w1 := ⟨_, rfl⟩
  have HGP := Lib.hid (show ¬ G b by rw [hG]; intro e; have := e.2; have := HSZ.out; have := HBE.out; omega)
  have HGO := Lib.hid (show ¬ G (b + 1) by rw [hG]; intro e; have := e.2; have := HSZ.out; have := HBE.out; omega)
  have HGF := Lib.hid (show ∀ k, G k → F k by rw [hG]; intro k e; exact e.1)
  rw [← hG] at H1 HU1
  have HFIN := Lib.hid (show ∀ w2, Keeps G w1 w2 → Keeps F w w2 from fun w2 hk => by rw [hG] at hk; exact Keeps.off HB1.out hk)
  clear hw1 hG HB1
  have p0 : w1.cell? ⟨b, 0, none⟩ = some (.pointer (some ⟨D, 0, none⟩)) := (HP.out.cell 0).trans rfl
  have q0 : w1.cell? ⟨b + 1, 0, none⟩ = some (.string ⟨o.id.toArray⟩) := (HO.out.cell 0).trans rfl
  go_wp2_with (refine wpList_bytes rfl 9 27 5 (.tmp 7) rfl o.id rfl Tryd.underlying9 Tryd.underlying27 Tryd.underlying5 ?_; intro cc W hbW hlW hrW)
  clear p0 q0
  refine (WBytes_up W _ D s _ _ cc o.id (HU1.out.off hbW) (H1.out.skip hbW) hrW (fun ad e _ hg => by injection e with e; subst e; have := hg.2; dsimp only at this; omega) (by omega)).mono ?_
  rintro e w2 ⟨rfl, h2, hk2⟩
  have HK2 := Lib.hid (Keeps.off hbW hk2); have H2 := Lib.hid (h2.weaken (G := G) (fun k e => e.1))
  clear hbW hlW hrW h2 hk2
  have p0 : w2.cell? ⟨b, 0, none⟩ = some (.pointer (some ⟨D, 0, none⟩)) := ((HP.out.keeps HK2.out HGP.out).cell 0).trans rfl
  have q1 : w2.cell? ⟨b + 1, 1, none⟩ = some (.int .i64 o.size) := ((HO.out.keeps HK2.out HGO.out).cell 1).trans rfl
  go_wp2_with fail
  clear p0 q1
  refine (WInt_up w2 G D _ o.size (HU1.out.keeps HK2.out) H2.out (by omega)).mono ?_
  rintro e w3 ⟨rfl, h3, hk3⟩
  have HK3 := Lib.hid (HK2.out.trans hk3 (fun _ _ e => e)); have H3 := Lib.hid h3
  clear h3 hk3
  have p0 : w3.cell? ⟨b, 0, none⟩ = some (.pointer (some ⟨D, 0, none⟩)) := ((HP.out.keeps HK3.out HGP.out).cell 0).trans rfl
  have q2 : w3.cell? ⟨b + 1, 2, none⟩ = some (.slice As o.share.length cs) := ((HO.out.keeps HK3.out HGO.out).cell 2).trans rfl
  go_wp2_with fail
  clear p0 q2
  have hrr : Rd w3 w1.heap.size As o.share.length o.share := reads_off HR1.out HK3.out (Nat.le_refl _) (fun ad e h0 hg => HOFF.out ad e h0 (HGF.out _ hg))
  refine (WBytes_up w3 G D _ As _ cs o.share (HU1.out.keeps HK3.out) H3.out (hrr.more HK3.out.size) (fun ad e h0 hg => HOFF.out ad e h0 (HGF.out _ hg)) (by omega)).mono ?_
  rintro e w4 ⟨rfl, h4, hk4⟩
  have HK4 := Lib.hid (HK3.out.trans hk4 (fun _ _ e => e)); have H4 := Lib.hid (h4.weaken HGF.out)
  clear h4 hk4 hrr
  go_wp2
  go_end0
  exact ⟨rfl, H4.out, HFIN.out _ HK4.out⟩
theorem obj_len2 (s : WS) (o : ObjV) : (s.obj o).out.length ≤ s.out.length + 131078 := by
  have h1 := bytes_len2 s o.id
  have h2 := int_len (s.bytes o.id) o.size
  have h3 := bytes_len2 ((s.bytes o.id).int o.size) o.share
  unfold WS.obj; omega
/-- An object's slices, read; its blocks lie in S. -/
def ObjRd (w : World) (S : Nat → Prop) (As At : Option Addr) (o : ObjV) : Prop :=
  (∀ ad, As = some ad → 0 < o.share.length → S ad.block) ∧ (∀ ad, At = some ad → 0 < o.tag.length → S ad.block) ∧ Rd w w.heap.size As o.share.length o.share ∧ Rd w w.heap.size At o.tag.length o.tag
/-- A list of objects, read; all blocks lie in S. -/
def ObjsRd (w : World) (S : Nat → Prop) (A : Option Addr) (os : List ObjV) : Prop :=
  0 < os.length → ∃ ad, A = some ad ∧ S ad.block ∧ ad.block < w.heap.size ∧ ∀ (i : Nat) (o : ObjV), os[i]? = some o → ∃ (As At : Option Addr) (cs ct : Nat),
    w.cell? (ad.add (i * 4)) = some (.string ⟨o.id.toArray⟩) ∧ w.cell? ⟨(ad.add (i * 4)).block, (ad.add (i * 4)).off + 1, none⟩ = some (.int .i64 o.size) ∧
    w.cell? ⟨(ad.add (i * 4)).block, (ad.add (i * 4)).off + 2, none⟩ = some (.slice As o.share.length cs) ∧ w.cell? ⟨(ad.add (i * 4)).block, (ad.add (i * 4)).off + 3, none⟩ = some (.slice At o.tag.length ct) ∧ ObjRd w S As At o
theorem ObjRd.off {w w' : World} {F S : Nat → Prop} {As At : Option Addr} {o : ObjV} (h : ObjRd w S As At o) (hk : Keeps F w w') (hS : ∀ k, S k → ¬ F k) : ObjRd w' S As At o :=
  ⟨h.1, h.2.1, Rd.more (reads_off h.2.2.1 hk (Nat.le_refl _) (fun ad e h0 => hS _ (h.1 ad e h0))) hk.size, Rd.more (reads_off h.2.2.2 hk (Nat.le_refl _) (fun ad e h0 => hS _ (h.2.1 ad e h0))) hk.size⟩
theorem ObjRd.weaken {w : World} {S S' : Nat → Prop} {As At : Option Addr} {o : ObjV} (h : ObjRd w S As At o) (hS : ∀ k, S k → S' k) : ObjRd w S' As At o :=
  ⟨fun ad e h0 => hS _ (h.1 ad e h0), fun ad e h0 => hS _ (h.2.1 ad e h0), h.2.2⟩
theorem ObjsRd.weaken {w : World} {S S' : Nat → Prop} {A : Option Addr} {os : List ObjV} (h : ObjsRd w S A os) (hS : ∀ k, S k → S' k) : ObjsRd w S' A os := fun hn => by
  obtain ⟨ad, e, hs, hb, hc⟩ := h hn
  refine ⟨ad, e, hS _ hs, hb, fun i o ho => ?_⟩
  obtain ⟨As, At, cs, ct, c0, c1, c2, c3, hr⟩ := hc i o ho
  exact ⟨As, At, cs, ct, c0, c1, c2, c3, hr.weaken hS⟩
theorem ObjsRd.off {w w' : World} {F S : Nat → Prop} {A : Option Addr} {os : List ObjV} (h : ObjsRd w S A os) (hk : Keeps F w w') (hS : ∀ k, S k → ¬ F k) : ObjsRd w' S A os := fun hn => by
  obtain ⟨ad, e, hs, hb, hc⟩ := h hn
  have hbl := hk.block _ hb (hS _ hs)
  refine ⟨ad, e, hs, Nat.lt_of_lt_of_le hb hk.size, fun i o ho => ?_⟩
  obtain ⟨As, At, cs, ct, c0, c1, c2, c3, hr⟩ := hc i o ho
  have hx : ∀ j, w'.cell? ⟨(ad.add (i * 4)).block, j, none⟩ = w.cell? ⟨(ad.add (i * 4)).block, j, none⟩ := fun j => World.cell?_of_block (a := ⟨(ad.add (i * 4)).block, j, none⟩) (by show _ = w.heap[(ad.add (i * 4)).block]?; rw [block_of_add]; exact hbl)
  exact ⟨As, At, cs, ct, (World.cell?_of_block (a := ad.add (i * 4)) (by rw [block_of_add]; exact hbl)).trans c0, (hx _).trans c1, (hx _).trans c2, (hx _).trans c3, hr.off hk hS⟩
set_option maxRecDepth 100000 in
set_option maxHeartbeats 4000000 in
theorem PenObjs_any (w : World) (F S : Nat → Prop) (D : Nat) (s : WS) (A : Option Addr) (c : Nat) (os : List ObjV) (hu : Up F w) (h : WrIs w F D s) (hr : ObjsRd w S A os) (hS : ∀ k, S k → ¬ F k) (hn : os.length ≤ 9223372036854775807)
    (hs : s.out.length + costO os + 300000 ≤ 140737488355328) :
    Calls Tryd.prog 22 #[.agg #[.pointer (some ⟨D, 0, none⟩)], .slice A os.length c] w fun e w' => e = .returned (.tuple #[]) ∧ WrIs w' F D (s.objs os) ∧ Keeps F w w' := by
  have hb1 : Below w.heap.size w (w.alloc (.cells #[.pointer (some ⟨D, 0, none⟩)] 57)) := (Below.refl _ _).alloc (Nat.le_refl _) _
  have hP := Blk.new w 57 #[.pointer (some ⟨D, 0, none⟩)]
  have h1 := h.skip hb1
  have hu1 := hu.off hb1
  have hr1 := hr.off (Keeps.of_below (F := fun _ => False) hb1) (fun _ _ e => e)
  have hsz : (w.alloc (.cells #[.pointer (some ⟨D, 0, none⟩)] 57)).heap.size = w.heap.size + 1 := by simp
  have hd2 := int_len s (os.length : Int)
  have HP := Lib.hid hP; have H1 := Lib.hid h1; have HU1 := Lib.hid hu1; have HR := Lib.hid hr1; have HSZ := Lib.hid hsz; have HB1 := Lib.hid hb1; have HS := Lib.hid hS
  clear hP h1 hu1 hr1 hsz hb1 hS h hu hr
  go_enter Tryd.func22, Tryd.ntmps22
  go_upto_region 1 with (fail)
  obtain ⟨b, hb⟩ : ∃ b, b = w.heap.size := ⟨_, rfl⟩
  rw [← hb] at HP HSZ ⊢
  have HBE := Lib.hid hb; clear hb
  obtain ⟨w1, hw1⟩ : ∃ w1, w1 = w.alloc (.cells #[.pointer (some ⟨D, 0, none⟩)] 57) := ⟨_, rfl⟩
  rw [← hw1] at HP H1 HU1 HR HSZ HB1 ⊢
  obtain ⟨G, hG⟩ : ∃ G, G = Off F w w1 := ⟨_, rfl⟩
  have HGP := Lib.hid (show ¬ G b by rw [hG]; intro e; have := e.2; have := HSZ.out; have := HBE.out; omega)
  have HGF := Lib.hid (show ∀ k, G k → F k by rw [hG]; intro k e; exact e.1)
  have HSG := Lib.hid (show ∀ k, S k → ¬ G k from fun k e e2 => HS.out k e (HGF.out k e2))
  rw [← hG] at H1 HU1
  have HFIN := Lib.hid (show ∀ w2, Keeps G w1 w2 → Keeps F w w2 from fun w2 hk => by rw [hG] at hk; exact Keeps.off HB1.out hk)
  clear hw1 hG HB1 HS HSZ HBE
  have p0 : w1.cell? ⟨b, 0, none⟩ = some (.pointer (some ⟨D, 0, none⟩)) := (HP.out.cell 0).trans rfl
  go_wp2_with fail
  clear p0
  refine (WInt_up w1 G D s (os.length : Int) HU1.out H1.out (by omega)).mono ?_
  rintro e w2 ⟨rfl, h2, hk2⟩
  have HK2 := Lib.hid hk2; have H2 := Lib.hid h2
  clear h2 hk2
  go_wp2_with fail
  go_loopw [13] (fun q wr => ∃ j : Nat, j ≤ os.length ∧ q = .int .i64 (j : Int) ∧ WrIs wr G D ((os.take j).foldl WS.objT (s.int os.length)) ∧ Keeps G w1 wr) (fun q _ => os.length - (intOf q).toNat)
  case atStart => exact ⟨0, by omega, rfl, H2.out, HK2.out⟩
  case round =>
    obtain ⟨j, hj, rfl, hw, hk⟩ := hrel
    have HW := Lib.hid hw; have HK := Lib.hid hk
    clear hw hk
    by_cases hjn : j < os.length
    · have hjn' : (j : Int) < (os.length : Int) := by omega
      obtain ⟨ad, rfl, _, _, hc⟩ := (HR.out.off HK.out HSG.out) (by omega)
      obtain ⟨As, At, cs, ct, c0, c1, c2, c3, hsA, hsT, hrA, hrT⟩ := hc j _ (List.getElem?_eq_getElem hjn)
      have hst := objs_snoc (s.int os.length) os j hjn
      have hlen := objs_len (os.take j) (s.int os.length)
      have hlen2 := costO_take os j
      generalize os[j] = x at c0 c1 c2 c3 hsA hsT hrA hrT hst
      have HST := Lib.hid hst
      have hbx := Blk.new wr 47 (objCells x As At cs ct)
      have hbb : Below wr.heap.size wr (wr.alloc (.cells (objCells x As At cs ct) 47)) := (Below.refl _ _).alloc (Nat.le_refl _) _
      have hpb := (HP.out.keeps HK.out HGP.out)
      have hpW := hpb.alloc (.cells (objCells x As At cs ct) 47)
      have hiW := HW.out.skip hbb
      have huW := (HU1.out.keeps HK.out).off hbb
      have hsz : (wr.alloc (.cells (objCells x As At cs ct) 47)).heap.size = wr.heap.size + 1 := by simp
      have hrA' := (hrA.below hbb).more hbb.size
      have hrT' := (hrT.below hbb).more hbb.size
      have HBX := Lib.hid hbx; have HBB := Lib.hid hbb; have HPW := Lib.hid hpW; have HIW := Lib.hid hiW; have HUW := Lib.hid huW; have HSZ := Lib.hid hsz; have HRA := Lib.hid hrA'; have HRT := Lib.hid hrT'
      have HSA := Lib.hid hsA; have HST2 := Lib.hid hsT; have HPL := Lib.hid hpb.lt
      clear hbx hbb hpb hpW hiW huW hsz hrA hrT hrA' hrT' hsA hsT hst hc
      go_wp2_with (first | (refine wpList_load_row rfl 57 (.tmp 2) rfl b rfl _ _ _ _ HPW.out Tryd.underlying57 rfl (by kernel_rfl) ?_) | (refine wpList_load_row rfl 47 (.tmp 5) rfl wr.heap.size rfl _ _ _ _ HBX.out Tryd.underlying47 rfl (by kernel_rfl) ?_))
      clear c0 c1 c2 c3
      obtain ⟨W, hW⟩ : ∃ W, W = wr.alloc (.cells (objCells x As At cs ct) 47) := ⟨_, rfl⟩
      rw [← hW] at HBX HBB HPW HIW HUW HSZ HRA HRT ⊢
      clear hW
      have hSW : ∀ k, S k → ¬ Off G wr W k := fun k e e2 => HSG.out k e e2.1
      refine (PenObj_any W _ D _ x As At cs ct HUW.out HIW.out HRA.out (fun ad e h0 => hSW _ (HSA.out ad e h0)) (by omega)).mono ?_
      rintro e wy ⟨rfl, hy, hky⟩
      have hd4 := obj_len2 ((os.take j).foldl WS.objT (s.int os.length)) x
      have p0 : wy.cell? ⟨b, 0, none⟩ = some (.pointer (some ⟨D, 0, none⟩)) := ((HPW.out.keeps hky (fun hg => HGP.out hg.1)).cell 0).trans rfl
      have q3 : wy.cell? ⟨wr.heap.size, 3, none⟩ = some (.slice At x.tag.length ct) := ((HBX.out.keeps hky (fun hg => by have := hg.2; have := HSZ.out; omega)).cell 3).trans rfl
      have hrr : Rd wy W.heap.size At x.tag.length x.tag := reads_off HRT.out hky (Nat.le_refl _) (fun ad e h0 => hSW _ (HST2.out ad e h0))
      have HRR := Lib.hid (hrr.more hky.size); have HY := Lib.hid hy; have HKY := Lib.hid hky; have HSW := Lib.hid hSW
      clear hrr hy hky hSW HRA HRT HBX HPW
      go_wp2_with fail
      clear p0 q3
      refine (WBytes_up wy _ D _ At _ ct x.tag (HUW.out.keeps HKY.out) HY.out HRR.out (fun ad e h0 => HSW.out _ (HST2.out ad e h0)) (by omega)).mono ?_
      rintro e wz ⟨rfl, hz, hkz⟩
      have HZ := Lib.hid (hz.weaken (G := G) (fun k e => e.1)); have HKZ := Lib.hid (HK.out.trans (Keeps.off HBB.out (HKY.out.trans hkz (fun _ _ e => e))) (fun _ _ e => e))
      clear hz hkz hlen hlen2 hd4
      go_wp2_with fail
      go_roundw
      case rel => exact ⟨j + 1, by omega, by go_num, by rw [← HST.out]; exact HZ.out, HKZ.out⟩
      case measure => simp [intOf]; omega
    · obtain rfl : j = os.length := by omega
      go_wp2
      go_end0
      have h4 := HW.out.weaken HGF.out
      rw [List.take_length] at h4
      exact ⟨rfl, h4, HFIN.out _ HK.out⟩
end Go.Proofs.YtinkclcdpcjnfaaDoor
