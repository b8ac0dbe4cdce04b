/- The walk of wire's Encode. Condition: what is written is no great thing. Printed by mkenc.py. -/
import Derived.Test.YtoekmgpnmhknoaaWire1
namespace Go.Proofs.Ytoekmgpnmhknoaa
open Go.RowKit
def HeadsRd (w : World) (B : Nat) (A : Option Addr) (hs : List HeadV) : Prop :=
  0 < hs.length → ∃ ad, A = some ad ∧ ad.block < B ∧ ∀ (i : Nat) (h : HeadV), hs[i]? = some h →
    w.cell? (ad.add (i * 2)) = some (.string ⟨h.id.toArray⟩) ∧ w.cell? ⟨(ad.add (i * 2)).block, (ad.add (i * 2)).off + 1, none⟩ = some (.int .i64 h.size)
theorem HeadsRd.off {w w' : World} {F : Nat → Prop} {B : Nat} {A : Option Addr} {hs : List HeadV} (h : HeadsRd w B A hs) (hk : Keeps F w w') (hB : B ≤ w.heap.size) (hoff : ∀ ad, A = some ad → ad.block < B → ¬ F ad.block) : HeadsRd w' B A hs := by
  intro hn
  obtain ⟨ad, e, hb, hc⟩ := h hn
  refine ⟨ad, e, hb, fun i x hx => ?_⟩
  obtain ⟨c0, c1⟩ := hc i x hx
  have hbl := hk.block _ (Nat.lt_of_lt_of_le hb hB) (hoff ad e hb)
  exact ⟨(World.cell?_of_block (a := ad.add (i * 2)) (by rw [block_of_add]; exact hbl)).trans c0, (World.cell?_of_block (a := ⟨(ad.add (i * 2)).block, (ad.add (i * 2)).off + 1, none⟩) (by show _ = w.heap[(ad.add (i * 2)).block]?; rw [block_of_add]; exact hbl)).trans c1⟩
structure MsgRd (w : World) (B : Nat) (m : MsgV) (Ah Ad Ap Ax : Option Addr) : Prop where
  heads : HeadsRd w B Ah m.heads
  dealers : Reads w B 1 Ad m.dealers.length (m.dealers.map (Value.int .i64))
  parts : Reads w B 1 Ap m.parts.length (m.parts.map (Value.int .i64))
  data : Rd w B Ax m.data.length m.data
theorem rd_off {w w' : World} {F : Nat → Prop} {B n : Nat} {A : Option Addr} {l : List UInt8} (h : Rd w B A n l) (hk : Keeps F w w') (hB : B ≤ w.heap.size) (hoff : ∀ ad, A = some ad → ad.block < B → ¬ F ad.block) : Rd w' B A n l := by
  refine ⟨h.1, fun hn => ?_⟩
  obtain ⟨ad, e, hb, hc⟩ := h.2 hn
  exact ⟨ad, e, hb, fun j u hu => (World.cell?_of_block (a := ad.add j) (by rw [block_of_add]; exact hk.block _ (Nat.lt_of_lt_of_le hb hB) (hoff ad e hb))).trans (hc j u hu)⟩
theorem reads_off2 {w w' : World} {F : Nat → Prop} {B n : Nat} {A : Option Addr} {xs : List Value} (h : Reads w B 1 A n xs) (hk : Keeps F w w') (hB : B ≤ w.heap.size) (hoff : ∀ ad, A = some ad → ad.block < B → ¬ F ad.block) : Reads w' B 1 A n xs := by
  refine ⟨h.1, fun hn => ?_⟩
  obtain ⟨ad, e, hb, hc⟩ := h.2 hn
  exact ⟨ad, e, hb, fun j u hu => (World.cell?_of_block (a := ad.add j) (by rw [block_of_add]; exact hk.block _ (Nat.lt_of_lt_of_le hb hB) (hoff ad e hb))).trans (hc j u hu)⟩
theorem MsgRd.off {w w' : World} {F : Nat → Prop} {B : Nat} {m : MsgV} {Ah Ad Ap Ax : Option Addr} (h : MsgRd w B m Ah Ad Ap Ax) (hk : Keeps F w w') (hB : B ≤ w.heap.size) (hF : ∀ k, k < B → ¬ F k) : MsgRd w' B m Ah Ad Ap Ax :=
  ⟨h.heads.off hk hB (fun _ _ e => hF _ e), reads_off2 h.dealers hk hB (fun _ _ e => hF _ e), reads_off2 h.parts hk hB (fun _ _ e => hF _ e), rd_off h.data hk hB (fun _ _ e => hF _ e)⟩
theorem MsgRd.below {w w' : World} {B : Nat} {m : MsgV} {Ah Ad Ap Ax : Option Addr} (h : MsgRd w B m Ah Ad Ap Ax) (hb : Below B w w') (hB : B ≤ w.heap.size) : MsgRd w' B m Ah Ad Ap Ax :=
  h.off (F := fun k => B ≤ k) ⟨hb.os, hb.tape, hb.output, hb.size, fun k _ hn => hb.block k (by omega)⟩ hB (fun k h1 h2 => by omega)
abbrev msgCells (m : MsgV) (Ah Ad Ap Ax : Option Addr) (ch cd cp cx : Nat) : Array Value :=
  #[.int .i64 m.kind, .int .i64 m.from_, .int .i64 m.to_, .int .i64 m.session, .int .i64 m.decided, .int .i64 m.commit, .int .i64 m.epoch, .slice Ah m.heads.length ch, .string ⟨m.id.toArray⟩, .int .i64 m.size, .int .i64 m.sort, .int .i64 m.target, .slice Ad m.dealers.length cd, .slice Ap m.parts.length cp, .int .i64 m.code, .slice Ax m.data.length cx]
theorem list_len (s : WS) (l : List Int) : (s.list l).out.length ≤ s.out.length + (4 + 4 * l.length) := by
  have h1 := ints_len l (s.int l.length)
  have h2 := int_len s l.length
  unfold WS.list
  omega
theorem heads_snoc (s : WS) (l : List HeadV) (j : Nat) (hj : j < l.length) : ((l.take j).foldl WS.head s).head l[j] = (l.take (j + 1)).foldl WS.head s := by
  rw [List.take_succ_eq_append_getElem hj, List.foldl_append]
  rfl
/-- What an encoding leaves. -/
def EncPost (w : World) (s : WS) (e : Ending) (w' : World) : Prop := ∃ v', e = .returned (.tuple #[v', .bool (!s.bad)]) ∧ Fresh w' w.heap.size v' (if s.bad then [] else s.out) ∧ Below w.heap.size w w' ∧ WrB w' v'
set_option maxRecDepth 100000 in
set_option maxHeartbeats 4000000 in
theorem Encode_any (w : World) (m : MsgV) (Ah Ad Ap Ax : Option Addr) (ch cd cp cx : Nat) (hr : MsgRd w w.heap.size m Ah Ad Ap Ax) (hs : m.cost ≤ 140737488200000) (hn1 : m.heads.length ≤ 9223372036854775807) :
    Calls Try.prog 21 #[.agg (msgCells m Ah Ad Ap Ax ch cd cp cx)] w (EncPost w (WS.msg ⟨[], false⟩ m)) := by
  go_enter Try.func21, Try.ntmps21
  go_wp2_with fail
  have hb1 : Below w.heap.size w (w.alloc (.cells (msgCells m Ah Ad Ap Ax ch cd cp cx) 31)) := (Below.refl _ _).alloc (Nat.le_refl _) _
  have hM := Blk.new w 31 (msgCells m Ah Ad Ap Ax ch cd cp cx)
  have hr1 := hr.below hb1 (Nat.le_refl _)
  have hsz : (w.alloc (.cells (msgCells m Ah Ad Ap Ax ch cd cp cx) 31)).heap.size = w.heap.size + 1 := by simp
  obtain ⟨M, hMe⟩ : ∃ M, M = w.heap.size := ⟨_, rfl⟩
  rw [← hMe] at hM hsz ⊢
  generalize w.alloc (.cells (msgCells m Ah Ad Ap Ax ch cd cp cx) 31) = w1 at hb1 hM hr1 hsz ⊢
  have HME := Lib.hid hMe; clear hMe
  refine (WNew_any w1).mono ?_
  rintro e w2 ⟨D, rfl, hw2, hb2⟩
  have hM2 := hM.below hb2 (by omega)
  have hb2' : Below w.heap.size w1 w2 := hb2.mono (by have := HME.out; omega)
  have hr2 := hr1.below hb2' (by have := HME.out; omega)
  have hb02 := hb1.trans hb2'
  have hb3 : Below w2.heap.size w2 (w2.alloc (.cells #[.pointer (some ⟨D, 0, none⟩)] 69)) := (Below.refl _ _).alloc (Nat.le_refl _) _
  have hP3 := Blk.new w2 69 #[.pointer (some ⟨D, 0, none⟩)]
  have hM3 := hM2.alloc (.cells #[.pointer (some ⟨D, 0, none⟩)] 69)
  have h3 := hw2.skip hb3
  have hu2 : Up (fun k => w1.heap.size ≤ k) w2 := fun k hk => Nat.le_trans hb2.size hk
  have hu3 := hu2.off hb3
  have hr3 := hr2.below (hb3.mono hb02.size) hb02.size
  have hb03 := hb02.trans (hb3.mono hb02.size)
  have hsz3 : (w2.alloc (.cells #[.pointer (some ⟨D, 0, none⟩)] 69)).heap.size = w2.heap.size + 1 := by simp
  have hM2l : M < w2.heap.size := hM2.lt
  have hb2s := hb2.size
  go_upto_region 2 with (fail)
  obtain ⟨P, hPe⟩ : ∃ P, P = w2.heap.size := ⟨_, rfl⟩
  rw [← hPe] at hP3 hsz3 hM2l hb2s ⊢
  obtain ⟨w3, hw3⟩ : ∃ w3, w3 = w2.alloc (.cells #[.pointer (some ⟨D, 0, none⟩)] 69) := ⟨_, rfl⟩
  rw [← hw3] at h3 hu3 hb3 hP3 hM3 hr3 hb03 hsz3 ⊢
  obtain ⟨F, hF⟩ : ∃ F, F = Off (fun k => w1.heap.size ≤ k) w2 w3 := ⟨_, rfl⟩
  have hFP : ¬ F P := by rw [hF]; intro e; have := e.2; omega
  have hFM : ¬ F M := by rw [hF]; intro e; have := e.1; omega
  have hFB : ∀ k, k < w.heap.size → ¬ F k := by rw [hF]; intro k hk e; have := e.1; have := HME.out; omega
  have hFB' : ∀ k, F k → w.heap.size ≤ k := by rw [hF]; intro k e; have := e.1; have := HME.out; omega
  rw [← hF] at h3 hu3
  have h3l : w.heap.size ≤ w3.heap.size := hb03.size
  have HS := Lib.hid hs
  unfold MsgV.cost at hs
  have H3 := Lib.hid h3; have HU := Lib.hid hu3; have HP3 := Lib.hid hP3; have HM3 := Lib.hid hM3; have HR3 := Lib.hid hr3; have HB03 := Lib.hid hb03; have HFP := Lib.hid hFP; have HFM := Lib.hid hFM; have HFB := Lib.hid hFB; have HFB' := Lib.hid hFB'
  have HK3 := Lib.hid (Keeps.refl F w3)
  clear h3 hu3 hP3 hM3 hr3 hb03 hFP hFM hFB hFB' hF hw3 hPe hsz3 hb3 hu2 hw2 hb2 hr2 hb02 hb1 hsz hM hM2 hr1 hb2' hr hM2l hb2s
  have hl3 : (⟨[], false⟩ : WS).out.length ≤ 0 := Nat.le_refl _

  obtain ⟨s3, hs3⟩ : ∃ x, x = (⟨[], false⟩ : WS) := ⟨_, rfl⟩
  rw [← hs3] at H3 hl3
  have HS3 := Lib.hid hs3
  clear hs3
  have m0 : w3.cell? ⟨M, 0, none⟩ = some (msgCells m Ah Ad Ap Ax ch cd cp cx)[0] := ((HM3.out.keeps HK3.out HFM.out).cell 0).trans rfl
  have m1 : w3.cell? ⟨M, 1, none⟩ = some (msgCells m Ah Ad Ap Ax ch cd cp cx)[1] := ((HM3.out.keeps HK3.out HFM.out).cell 1).trans rfl
  have m2 : w3.cell? ⟨M, 2, none⟩ = some (msgCells m Ah Ad Ap Ax ch cd cp cx)[2] := ((HM3.out.keeps HK3.out HFM.out).cell 2).trans rfl
  have m3 : w3.cell? ⟨M, 3, none⟩ = some (msgCells m Ah Ad Ap Ax ch cd cp cx)[3] := ((HM3.out.keeps HK3.out HFM.out).cell 3).trans rfl
  have m4 : w3.cell? ⟨M, 4, none⟩ = some (msgCells m Ah Ad Ap Ax ch cd cp cx)[4] := ((HM3.out.keeps HK3.out HFM.out).cell 4).trans rfl
  have m5 : w3.cell? ⟨M, 5, none⟩ = some (msgCells m Ah Ad Ap Ax ch cd cp cx)[5] := ((HM3.out.keeps HK3.out HFM.out).cell 5).trans rfl
  have m6 : w3.cell? ⟨M, 6, none⟩ = some (msgCells m Ah Ad Ap Ax ch cd cp cx)[6] := ((HM3.out.keeps HK3.out HFM.out).cell 6).trans rfl
  simp only [List.getElem_toArray, List.getElem_cons_succ, List.getElem_cons_zero] at m0 m1 m2 m3 m4 m5 m6
  have p0 : w3.cell? ⟨P, 0, none⟩ = some (.pointer (some ⟨D, 0, none⟩)) := ((HP3.out.keeps HK3.out HFP.out).cell 0).trans rfl
  have hR := Blk.new w3 3 #[.int .i64 m.kind, .int .i64 m.from_, .int .i64 m.to_, .int .i64 m.session, .int .i64 m.decided, .int .i64 m.commit, .int .i64 m.epoch]
  have hbR : Below w3.heap.size w3 (w3.alloc (.cells #[.int .i64 m.kind, .int .i64 m.from_, .int .i64 m.to_, .int .i64 m.session, .int .i64 m.decided, .int .i64 m.commit, .int .i64 m.epoch] 3)) := (Below.refl _ _).alloc (Nat.le_refl _) _
  have hi := H3.out.skip hbR
  have hui := (HU.out.keeps HK3.out).off hbR
  have hszR : (w3.alloc (.cells #[.int .i64 m.kind, .int .i64 m.from_, .int .i64 m.to_, .int .i64 m.session, .int .i64 m.decided, .int .i64 m.commit, .int .i64 m.epoch] 3)).heap.size = w3.heap.size + 1 := by simp
  have HR := Lib.hid hR; have HBR := Lib.hid hbR; have HI := Lib.hid hi; have HUI := Lib.hid hui; have HSZR := Lib.hid hszR
  clear hR hbR hi hui hszR
  go_wp2_with fail
  obtain ⟨R, hRe⟩ : ∃ R, R = w3.heap.size := ⟨_, rfl⟩
  rw [← hRe] at HR HSZR ⊢
  obtain ⟨wR, hwR⟩ : ∃ wR, wR = w3.alloc (.cells #[.int .i64 m.kind, .int .i64 m.from_, .int .i64 m.to_, .int .i64 m.session, .int .i64 m.decided, .int .i64 m.commit, .int .i64 m.epoch] 3) := ⟨_, rfl⟩
  rw [← hwR] at HR HBR HI HUI HSZR ⊢
  obtain ⟨G, hG⟩ : ∃ G, G = Off F w3 wR := ⟨_, rfl⟩
  have hGR : ¬ G R := by rw [hG]; intro e; have := e.2; have := HSZR.out; omega
  rw [← hG] at HI HUI
  have hGF : ∀ k, G k → F k := by rw [hG]; exact fun k e => e.1
  have hfin : ∀ wx, Keeps G wR wx → Keeps F w3 wx := fun wx hk => by rw [hG] at hk; exact Keeps.off HBR.out hk
  have HGR := Lib.hid hGR; have HGF := Lib.hid hGF; have HFIN := Lib.hid hfin; have HRE := Lib.hid hRe
  clear hGR hGF hfin hG hwR hRe p0 m0 m1 m2 m3 m4 m5 m6
  obtain ⟨L, hL⟩ : ∃ L : List Int, L = [m.kind, m.from_, m.to_, m.session, m.decided, m.commit, m.epoch] := ⟨_, rfl⟩
  have hLn : L.length = 7 := by rw [hL]; rfl
  have hRow : Blk wR R 3 (L.map (Value.int .i64)).toArray := by rw [hL]; exact HR.out
  have HL := Lib.hid hL; have HLN := Lib.hid hLn; have HROW := Lib.hid hRow
  clear hL hLn hRow
  go_loopw [29] (fun q wr => ∃ j : Nat, j ≤ 7 ∧ q = .int .i64 (j : Int) ∧ WrIs wr G D (s3.ints (L.take j)) ∧ Keeps G wR wr) (fun q _ => 7 - (intOf q).toNat)
  case atStart => exact ⟨0, by omega, rfl, HI.out, Keeps.refl _ _⟩
  case' round =>
    obtain ⟨j, hj, rfl, hw, hk⟩ := hrel
    have HW := Lib.hid hw; have HK := Lib.hid hk
    clear hw hk
    by_cases hjn : j < 7
    · have hjn' : (j : Int) < (7 : Int) := by omega
      have hjl : j < L.length := by rw [HLN.out]; exact hjn
      have hrc : wr.cell? ⟨R, j, none⟩ = some (.int .i64 L[j]) := ((HROW.out.keeps HK.out HGR.out).cell j).trans (by rw [List.getElem?_toArray, List.getElem?_map, List.getElem?_eq_getElem hjl]; rfl)
      have hst := ints_snoc s3 L j hjl
      have hlen := ints_len (L.take j) s3
      rw [List.length_take] at hlen
      generalize L[j] = x at hrc hst
      have HST := Lib.hid hst
      have p0 : wr.cell? ⟨P, 0, none⟩ = some (.pointer (some ⟨D, 0, none⟩)) := (((HP3.out.keeps HK3.out HFP.out).keeps (HFIN.out _ HK.out) HFP.out).cell 0).trans rfl
      clear hst
      go_wp2_with fail
      refine (WInt_up wr G D _ x (HUI.out.keeps HK.out) HW.out (by omega)).mono ?_
      rintro e wy ⟨rfl, hy, hky⟩
      rw [HST.out] at hy
      have HY := Lib.hid hy; have HKY := Lib.hid (HK.out.trans hky (fun _ _ e => e))
      clear hy hky hlen
      go_wp2_with fail
      go_roundw
      case rel => exact ⟨j + 1, by omega, by go_num, HY.out, HKY.out⟩
      case measure => simp [intOf]; omega
  obtain rfl : j = 7 := by omega
  have hL2 : L.take 7 = [m.kind, m.from_, m.to_, m.session, m.decided, m.commit, m.epoch] := by rw [HL.out]; rfl
  have hw4 := HW.out.weaken HGF.out
  rw [hL2] at hw4
  have H4 := Lib.hid hw4
  have HK4 := Lib.hid (HK3.out.trans (HFIN.out _ HK.out) (fun _ _ e => e))
  obtain ⟨w4, hwr⟩ : ∃ wx, wx = wr := ⟨_, rfl⟩
  subst hwr
  clear hL2 hw4 HW HK HROW HR HGR HGF HFIN HI HUI HBR HRE HSZR HL HLN
  clear hj hjn
  have hl4 : (s3.ints [m.kind, m.from_, m.to_, m.session, m.decided, m.commit, m.epoch]).out.length ≤ s3.out.length + 28 := ints_len [m.kind, m.from_, m.to_, m.session, m.decided, m.commit, m.epoch] s3
  obtain ⟨s4, hs4⟩ : ∃ x, x = (s3.ints [m.kind, m.from_, m.to_, m.session, m.decided, m.commit, m.epoch]) := ⟨_, rfl⟩
  rw [← hs4] at H4 hl4
  have HS4 := Lib.hid hs4
  clear hs4

  have m7 : w4.cell? ⟨M, 7, none⟩ = some (msgCells m Ah Ad Ap Ax ch cd cp cx)[7] := ((HM3.out.keeps HK4.out HFM.out).cell 7).trans rfl
  simp only [List.getElem_toArray, List.getElem_cons_succ, List.getElem_cons_zero] at m7
  have p0 : w4.cell? ⟨P, 0, none⟩ = some (.pointer (some ⟨D, 0, none⟩)) := ((HP3.out.keeps HK4.out HFP.out).cell 0).trans rfl
  go_wp2_with fail
  clear p0 m7
  refine (WInt_up w4 F D s4 (m.heads.length : Int) (HU.out.keeps HK4.out) H4.out (by omega)).mono ?_
  rintro e w5 ⟨rfl, h5, hk5⟩
  have H5 := Lib.hid h5; have HK5 := Lib.hid (HK4.out.trans hk5 (fun _ _ e => e))
  clear h5 hk5
  have hl5 : (s4.int (m.heads.length : Int)).out.length ≤ s4.out.length + 4 := int_len s4 (m.heads.length : Int)
  obtain ⟨s5, hs5⟩ : ∃ x, x = (s4.int (m.heads.length : Int)) := ⟨_, rfl⟩
  rw [← hs5] at H5 hl5
  have HS5 := Lib.hid hs5
  clear hs5

  have m7 : w5.cell? ⟨M, 7, none⟩ = some (msgCells m Ah Ad Ap Ax ch cd cp cx)[7] := ((HM3.out.keeps HK5.out HFM.out).cell 7).trans rfl
  simp only [List.getElem_toArray, List.getElem_cons_succ, List.getElem_cons_zero] at m7
  have p0 : w5.cell? ⟨P, 0, none⟩ = some (.pointer (some ⟨D, 0, none⟩)) := ((HP3.out.keeps HK5.out HFP.out).cell 0).trans rfl
  go_wp2_with fail
  clear p0 m7
  go_loopw [47] (fun q wr => ∃ j : Nat, j ≤ m.heads.length ∧ q = .int .i64 (j : Int) ∧ WrIs wr F D ((m.heads.take j).foldl WS.head s5) ∧ Keeps F w3 wr) (fun q _ => m.heads.length - (intOf q).toNat)
  case atStart => exact ⟨0, by omega, rfl, H5.out, HK5.out⟩
  case' round =>
    obtain ⟨j, hj, rfl, hw, hk⟩ := hrel
    have HW := Lib.hid hw; have HK := Lib.hid hk
    clear hw hk
    by_cases hjn : j < m.heads.length
    · have hjn' : (j : Int) < (m.heads.length : Int) := by omega
      have hrr := HR3.out.heads.off HK.out h3l (fun _ _ e => HFB.out _ e)
      obtain ⟨ad, rfl, _, hc⟩ := hrr (by omega)
      obtain ⟨c0, c1⟩ := hc j _ (List.getElem?_eq_getElem hjn)
      have hst := heads_snoc s5 m.heads j hjn
      have hlen := heads_len (m.heads.take j) s5
      have hlen2 := costH_take m.heads j
      generalize m.heads[j] = x at c0 c1 hst
      have HST := Lib.hid hst
      have p0 : wr.cell? ⟨P, 0, none⟩ = some (.pointer (some ⟨D, 0, none⟩)) := ((HP3.out.keeps HK.out HFP.out).cell 0).trans rfl
      have hPl : P < wr.heap.size := (HP3.out.keeps HK.out HFP.out).lt
      clear hst hrr hc
      have hbx := Blk.new wr 45 #[.string ⟨x.id.toArray⟩, .int .i64 x.size]
      have hbb : Below wr.heap.size wr (wr.alloc (.cells #[.string ⟨x.id.toArray⟩, .int .i64 x.size] 45)) := (Below.refl _ _).alloc (Nat.le_refl _) _
      have HBX := Lib.hid hbx; have HBB := Lib.hid hbb
      have hPH : P ≠ wr.heap.size := by omega
      clear hbx hbb
      go_wp2_with (refine wpList_bytes rfl 9 29 5 (.tmp 54) rfl x.id rfl Try.underlying9 Try.underlying29 Try.underlying5 ?_; intro cc W hbW hlW hrW)
      clear p0 c0 c1
      have hbW' := HBB.out.trans (hbW.mono HBB.out.size)
      have hiW := HW.out.skip hbW'
      have huW := (HU.out.keeps HK.out).off hbW'
      have hbxW := HBX.out.below hbW (by simp)
      have hpW : Blk W P 69 #[.pointer (some ⟨D, 0, none⟩)] := (HP3.out.keeps HK.out HFP.out).below hbW' hPl
      have hsz : (wr.alloc (.cells #[.string ⟨x.id.toArray⟩, .int .i64 x.size] 45)).heap.size = wr.heap.size + 1 := by simp
      simp only [hsz] at hlW hrW ⊢
      refine (WBytes_up W _ D _ _ _ _ x.id huW hiW hrW (fun ad e _ hg => by injection e with e; subst e; have := hg.2; dsimp only at this; omega) (by omega)).mono ?_
      rintro e wy ⟨rfl, hy, hky⟩
      have hlen3 := bytes_len2 (List.foldl WS.head s5 (m.heads.take j)) x.id
      have hbxy := hbxW.keeps hky (fun hg => by have := hg.2; omega)
      have hpy := hpW.keeps hky (fun hg => HFP.out hg.1)
      have q1 : wy.cell? ⟨wr.heap.size, 1, none⟩ = some (.int .i64 x.size) := (hbxy.cell 1).trans rfl
      have p0 : wy.cell? ⟨P, 0, none⟩ = some (.pointer (some ⟨D, 0, none⟩)) := (hpy.cell 0).trans rfl
      have HY := Lib.hid hy; have HKY := Lib.hid hky; have HUW := Lib.hid huW; have HBW := Lib.hid hbW'
      clear hy hky huW hbW hbW' hiW hbxW hpW hbxy hpy hsz hlW hrW
      go_wp2_with fail
      refine (WInt_up wy _ D _ x.size (HUW.out.keeps HKY.out) HY.out (by omega)).mono ?_
      rintro e wz ⟨rfl, hz, hkz⟩
      have HZ := Lib.hid (hz.weaken (fun k e => e.1)); have HKZ := Lib.hid (HK.out.trans (Keeps.off HBW.out (HKY.out.trans hkz (fun _ _ e => e))) (fun _ _ e => e))
      clear hz hkz q1 p0 hlen hlen2 hlen3
      go_wp2_with fail
      go_roundw
      case rel => exact ⟨j + 1, by omega, by go_num, by rw [← HST.out]; exact HZ.out, HKZ.out⟩
      case measure => simp [intOf]; omega
  obtain rfl : j = m.heads.length := by omega
  have hw6 := HW.out
  rw [List.take_length] at hw6
  have H6 := Lib.hid hw6
  have HK6 := Lib.hid HK.out
  obtain ⟨w6, hwr⟩ : ∃ wx, wx = wr := ⟨_, rfl⟩
  subst hwr
  clear hw6 HW HK hj hjn
  have hl6 : (m.heads.foldl WS.head s5).out.length ≤ s5.out.length + costH m.heads := heads_len m.heads s5
  obtain ⟨s6, hs6⟩ : ∃ x, x = (m.heads.foldl WS.head s5) := ⟨_, rfl⟩
  rw [← hs6] at H6 hl6
  have HS6 := Lib.hid hs6
  clear hs6

  have m8 : w6.cell? ⟨M, 8, none⟩ = some (msgCells m Ah Ad Ap Ax ch cd cp cx)[8] := ((HM3.out.keeps HK6.out HFM.out).cell 8).trans rfl
  simp only [List.getElem_toArray, List.getElem_cons_succ, List.getElem_cons_zero] at m8
  have p0 : w6.cell? ⟨P, 0, none⟩ = some (.pointer (some ⟨D, 0, none⟩)) := ((HP3.out.keeps HK6.out HFP.out).cell 0).trans rfl
  go_wp2_with (refine wpList_bytes rfl 9 29 5 (.tmp 66) rfl m.id rfl Try.underlying9 Try.underlying29 Try.underlying5 ?_; intro cc W hbW hlW hrW)
  clear p0 m8
  have hiW := H6.out.skip hbW
  have huW := (HU.out.keeps HK6.out).off hbW
  refine (WBytes_up W _ D s6 _ _ cc m.id huW hiW hrW (fun ad e _ hg => by injection e with e; subst e; have := hg.2; dsimp only at this; omega) (by omega)).mono ?_
  rintro e w7 ⟨rfl, h7, hk7⟩
  have H7 := Lib.hid (h7.weaken (fun k e => e.1)); have HK7 := Lib.hid (HK6.out.trans (Keeps.off hbW hk7) (fun _ _ e => e))
  clear h7 hk7 hiW huW hbW hlW hrW
  have hl7 : (s6.bytes m.id).out.length ≤ s6.out.length + (2 + m.id.length) := bytes_len s6 m.id
  obtain ⟨s7, hs7⟩ : ∃ x, x = (s6.bytes m.id) := ⟨_, rfl⟩
  rw [← hs7] at H7 hl7
  have HS7 := Lib.hid hs7
  clear hs7

  have m9 : w7.cell? ⟨M, 9, none⟩ = some (msgCells m Ah Ad Ap Ax ch cd cp cx)[9] := ((HM3.out.keeps HK7.out HFM.out).cell 9).trans rfl
  have m10 : w7.cell? ⟨M, 10, none⟩ = some (msgCells m Ah Ad Ap Ax ch cd cp cx)[10] := ((HM3.out.keeps HK7.out HFM.out).cell 10).trans rfl
  have m11 : w7.cell? ⟨M, 11, none⟩ = some (msgCells m Ah Ad Ap Ax ch cd cp cx)[11] := ((HM3.out.keeps HK7.out HFM.out).cell 11).trans rfl
  simp only [List.getElem_toArray, List.getElem_cons_succ, List.getElem_cons_zero] at m9 m10 m11
  have p0 : w7.cell? ⟨P, 0, none⟩ = some (.pointer (some ⟨D, 0, none⟩)) := ((HP3.out.keeps HK7.out HFP.out).cell 0).trans rfl
  have hR := Blk.new w7 3 #[.int .i64 m.size, .int .i64 m.sort, .int .i64 m.target]
  have hbR : Below w7.heap.size w7 (w7.alloc (.cells #[.int .i64 m.size, .int .i64 m.sort, .int .i64 m.target] 3)) := (Below.refl _ _).alloc (Nat.le_refl _) _
  have hi := H7.out.skip hbR
  have hui := (HU.out.keeps HK7.out).off hbR
  have hszR : (w7.alloc (.cells #[.int .i64 m.size, .int .i64 m.sort, .int .i64 m.target] 3)).heap.size = w7.heap.size + 1 := by simp
  have HR := Lib.hid hR; have HBR := Lib.hid hbR; have HI := Lib.hid hi; have HUI := Lib.hid hui; have HSZR := Lib.hid hszR
  clear hR hbR hi hui hszR
  go_wp2_with fail
  obtain ⟨R, hRe⟩ : ∃ R, R = w7.heap.size := ⟨_, rfl⟩
  rw [← hRe] at HR HSZR ⊢
  obtain ⟨wR, hwR⟩ : ∃ wR, wR = w7.alloc (.cells #[.int .i64 m.size, .int .i64 m.sort, .int .i64 m.target] 3) := ⟨_, rfl⟩
  rw [← hwR] at HR HBR HI HUI HSZR ⊢
  obtain ⟨G, hG⟩ : ∃ G, G = Off F w7 wR := ⟨_, rfl⟩
  have hGR : ¬ G R := by rw [hG]; intro e; have := e.2; have := HSZR.out; omega
  rw [← hG] at HI HUI
  have hGF : ∀ k, G k → F k := by rw [hG]; exact fun k e => e.1
  have hfin : ∀ wx, Keeps G wR wx → Keeps F w7 wx := fun wx hk => by rw [hG] at hk; exact Keeps.off HBR.out hk
  have HGR := Lib.hid hGR; have HGF := Lib.hid hGF; have HFIN := Lib.hid hfin; have HRE := Lib.hid hRe
  clear hGR hGF hfin hG hwR hRe p0 m9 m10 m11
  obtain ⟨L, hL⟩ : ∃ L : List Int, L = [m.size, m.sort, m.target] := ⟨_, rfl⟩
  have hLn : L.length = 3 := by rw [hL]; rfl
  have hRow : Blk wR R 3 (L.map (Value.int .i64)).toArray := by rw [hL]; exact HR.out
  have HL := Lib.hid hL; have HLN := Lib.hid hLn; have HROW := Lib.hid hRow
  clear hL hLn hRow
  go_loopw [77] (fun q wr => ∃ j : Nat, j ≤ 3 ∧ q = .int .i64 (j : Int) ∧ WrIs wr G D (s7.ints (L.take j)) ∧ Keeps G wR wr) (fun q _ => 3 - (intOf q).toNat)
  case atStart => exact ⟨0, by omega, rfl, HI.out, Keeps.refl _ _⟩
  case' round =>
    obtain ⟨j, hj, rfl, hw, hk⟩ := hrel
    have HW := Lib.hid hw; have HK := Lib.hid hk
    clear hw hk
    by_cases hjn : j < 3
    · have hjn' : (j : Int) < (3 : Int) := by omega
      have hjl : j < L.length := by rw [HLN.out]; exact hjn
      have hrc : wr.cell? ⟨R, j, none⟩ = some (.int .i64 L[j]) := ((HROW.out.keeps HK.out HGR.out).cell j).trans (by rw [List.getElem?_toArray, List.getElem?_map, List.getElem?_eq_getElem hjl]; rfl)
      have hst := ints_snoc s7 L j hjl
      have hlen := ints_len (L.take j) s7
      rw [List.length_take] at hlen
      generalize L[j] = x at hrc hst
      have HST := Lib.hid hst
      have p0 : wr.cell? ⟨P, 0, none⟩ = some (.pointer (some ⟨D, 0, none⟩)) := (((HP3.out.keeps HK7.out HFP.out).keeps (HFIN.out _ HK.out) HFP.out).cell 0).trans rfl
      clear hst
      go_wp2_with fail
      refine (WInt_up wr G D _ x (HUI.out.keeps HK.out) HW.out (by omega)).mono ?_
      rintro e wy ⟨rfl, hy, hky⟩
      rw [HST.out] at hy
      have HY := Lib.hid hy; have HKY := Lib.hid (HK.out.trans hky (fun _ _ e => e))
      clear hy hky hlen
      go_wp2_with fail
      go_roundw
      case rel => exact ⟨j + 1, by omega, by go_num, HY.out, HKY.out⟩
      case measure => simp [intOf]; omega
  obtain rfl : j = 3 := by omega
  have hL2 : L.take 3 = [m.size, m.sort, m.target] := by rw [HL.out]; rfl
  have hw8 := HW.out.weaken HGF.out
  rw [hL2] at hw8
  have H8 := Lib.hid hw8
  have HK8 := Lib.hid (HK7.out.trans (HFIN.out _ HK.out) (fun _ _ e => e))
  obtain ⟨w8, hwr⟩ : ∃ wx, wx = wr := ⟨_, rfl⟩
  subst hwr
  clear hL2 hw8 HW HK HROW HR HGR HGF HFIN HI HUI HBR HRE HSZR HL HLN
  clear hj hjn
  have hl8 : (s7.ints [m.size, m.sort, m.target]).out.length ≤ s7.out.length + 12 := ints_len [m.size, m.sort, m.target] s7
  obtain ⟨s8, hs8⟩ : ∃ x, x = (s7.ints [m.size, m.sort, m.target]) := ⟨_, rfl⟩
  rw [← hs8] at H8 hl8
  have HS8 := Lib.hid hs8
  clear hs8

  have m12 : w8.cell? ⟨M, 12, none⟩ = some (msgCells m Ah Ad Ap Ax ch cd cp cx)[12] := ((HM3.out.keeps HK8.out HFM.out).cell 12).trans rfl
  simp only [List.getElem_toArray, List.getElem_cons_succ, List.getElem_cons_zero] at m12
  have p0 : w8.cell? ⟨P, 0, none⟩ = some (.pointer (some ⟨D, 0, none⟩)) := ((HP3.out.keeps HK8.out HFP.out).cell 0).trans rfl
  go_wp2_with fail
  clear p0 m12
  have hrr := reads_off2 HR3.out.dealers HK8.out h3l (fun _ _ e => HFB.out _ e)
  refine (PenInts_any w8 F D s8 Ad _ cd m.dealers (HU.out.keeps HK8.out) H8.out (by omega) (hrr.more (Nat.le_trans h3l HK8.out.size)) (fun ad e h0 => by obtain ⟨ad', e', hB, _⟩ := hrr.2 h0; rw [e] at e'; injection e' with e'; subst e'; exact HFB.out _ hB) (by omega)).mono ?_
  clear hrr
  rintro e w9 ⟨rfl, h9, hk9⟩
  have H9 := Lib.hid h9; have HK9 := Lib.hid (HK8.out.trans hk9 (fun _ _ e => e))
  clear h9 hk9
  have hl9 : (s8.list m.dealers).out.length ≤ s8.out.length + (4 + 4 * m.dealers.length) := list_len s8 m.dealers
  obtain ⟨s9, hs9⟩ : ∃ x, x = (s8.list m.dealers) := ⟨_, rfl⟩
  rw [← hs9] at H9 hl9
  have HS9 := Lib.hid hs9
  clear hs9

  have m13 : w9.cell? ⟨M, 13, none⟩ = some (msgCells m Ah Ad Ap Ax ch cd cp cx)[13] := ((HM3.out.keeps HK9.out HFM.out).cell 13).trans rfl
  simp only [List.getElem_toArray, List.getElem_cons_succ, List.getElem_cons_zero] at m13
  have p0 : w9.cell? ⟨P, 0, none⟩ = some (.pointer (some ⟨D, 0, none⟩)) := ((HP3.out.keeps HK9.out HFP.out).cell 0).trans rfl
  go_wp2_with fail
  clear p0 m13
  have hrr := reads_off2 HR3.out.parts HK9.out h3l (fun _ _ e => HFB.out _ e)
  refine (PenInts_any w9 F D s9 Ap _ cp m.parts (HU.out.keeps HK9.out) H9.out (by omega) (hrr.more (Nat.le_trans h3l HK9.out.size)) (fun ad e h0 => by obtain ⟨ad', e', hB, _⟩ := hrr.2 h0; rw [e] at e'; injection e' with e'; subst e'; exact HFB.out _ hB) (by omega)).mono ?_
  clear hrr
  rintro e w10 ⟨rfl, h10, hk10⟩
  have H10 := Lib.hid h10; have HK10 := Lib.hid (HK9.out.trans hk10 (fun _ _ e => e))
  clear h10 hk10
  have hl10 : (s9.list m.parts).out.length ≤ s9.out.length + (4 + 4 * m.parts.length) := list_len s9 m.parts
  obtain ⟨s10, hs10⟩ : ∃ x, x = (s9.list m.parts) := ⟨_, rfl⟩
  rw [← hs10] at H10 hl10
  have HS10 := Lib.hid hs10
  clear hs10

  have m14 : w10.cell? ⟨M, 14, none⟩ = some (msgCells m Ah Ad Ap Ax ch cd cp cx)[14] := ((HM3.out.keeps HK10.out HFM.out).cell 14).trans rfl
  simp only [List.getElem_toArray, List.getElem_cons_succ, List.getElem_cons_zero] at m14
  have p0 : w10.cell? ⟨P, 0, none⟩ = some (.pointer (some ⟨D, 0, none⟩)) := ((HP3.out.keeps HK10.out HFP.out).cell 0).trans rfl
  go_wp2_with fail
  clear p0 m14
  refine (WInt_up w10 F D s10 m.code (HU.out.keeps HK10.out) H10.out (by omega)).mono ?_
  rintro e w11 ⟨rfl, h11, hk11⟩
  have H11 := Lib.hid h11; have HK11 := Lib.hid (HK10.out.trans hk11 (fun _ _ e => e))
  clear h11 hk11
  have hl11 : (s10.int m.code).out.length ≤ s10.out.length + 4 := int_len s10 m.code
  obtain ⟨s11, hs11⟩ : ∃ x, x = (s10.int m.code) := ⟨_, rfl⟩
  rw [← hs11] at H11 hl11
  have HS11 := Lib.hid hs11
  clear hs11

  have m15 : w11.cell? ⟨M, 15, none⟩ = some (msgCells m Ah Ad Ap Ax ch cd cp cx)[15] := ((HM3.out.keeps HK11.out HFM.out).cell 15).trans rfl
  simp only [List.getElem_toArray, List.getElem_cons_succ, List.getElem_cons_zero] at m15
  have p0 : w11.cell? ⟨P, 0, none⟩ = some (.pointer (some ⟨D, 0, none⟩)) := ((HP3.out.keeps HK11.out HFP.out).cell 0).trans rfl
  go_wp2_with fail
  clear p0 m15
  have hrr := rd_off HR3.out.data HK11.out h3l (fun _ _ e => HFB.out _ e)
  refine (WBytes_up w11 F D s11 Ax _ cx m.data (HU.out.keeps HK11.out) H11.out (hrr.more (Nat.le_trans h3l HK11.out.size)) (fun ad e h0 => by obtain ⟨ad', e', hB, _⟩ := hrr.2 h0; rw [e] at e'; injection e' with e'; subst e'; exact HFB.out _ hB) (by omega)).mono ?_
  clear hrr
  rintro e w12 ⟨rfl, h12, hk12⟩
  have H12 := Lib.hid h12; have HK12 := Lib.hid (HK11.out.trans hk12 (fun _ _ e => e))
  clear h12 hk12
  have hl12 : (s11.bytes m.data).out.length ≤ s11.out.length + (2 + m.data.length) := bytes_len s11 m.data
  obtain ⟨s12, hs12⟩ : ∃ x, x = (s11.bytes m.data) := ⟨_, rfl⟩
  rw [← hs12] at H12 hl12
  have HS12 := Lib.hid hs12
  clear hs12

  have p0 : w12.cell? ⟨P, 0, none⟩ = some (.pointer (some ⟨D, 0, none⟩)) := ((HP3.out.keeps HK12.out HFP.out).cell 0).trans rfl
  go_wp2_with fail
  clear p0
  obtain ⟨v, hv, hFD, _⟩ := H12.out
  refine (WOut_own w12 D v s12 hv (by omega)).mono ?_
  rintro e w13 ⟨v', rfl, hf, hb, hwb⟩
  have hms : s12 = WS.msg ⟨[], false⟩ m := by
    rw [HS12.out, HS11.out, HS10.out, HS9.out, HS8.out, HS7.out, HS6.out, HS5.out, HS4.out, HS3.out]
    rfl
  rw [hms] at hf ⊢
  have hbF := HB03.out.trans (HK12.out.below HFB'.out h3l)
  have hfin : EncPost w (WS.msg ⟨[], false⟩ m) (.returned (.tuple #[v', .bool (!(WS.msg ⟨[], false⟩ m).bad)])) w13 := ⟨_, rfl, hf.mono hbF.size, hbF.trans (hb.mono hbF.size), hwb⟩
  have HFIN := Lib.hid hfin
  clear hf hb hv hbF hms hfin
  go_wp2
  go_ret2
  exact HFIN.out
end Go.Proofs.Ytoekmgpnmhknoaa
