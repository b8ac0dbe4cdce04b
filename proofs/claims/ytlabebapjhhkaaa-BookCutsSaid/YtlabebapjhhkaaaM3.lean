/- States and books as data; their bytes written. Conditions stand with each theorem. -/
import Derived.Test.YtlabebapjhhkaaaM2
import Derived.Lib.ConvBytes
namespace Go.Proofs.Ytlabebapjhhkaaa
open Go.RowKit
structure HeadV where
  id : List UInt8
  size : Int
structure ObjV where
  id : List UInt8
  size : Int
  share : List UInt8
  tag : List UInt8
structure StateV where
  epoch : Int
  decided : Int
  dealt : Int
  objs : List ObjV
  psession : Int
  pkind : Int
  pepoch : Int
  pobjs : List ObjV
structure BookV where
  session : Int
  decided : Int
  epoch : Int
  dir : List HeadV
  up : List Bool
  commit : List Int
def flagI (b : Bool) : Int := if b then 1 else 0
def WS.ints (s : WS) (l : List Int) : WS := l.foldl WS.int s
def WS.list (s : WS) (l : List Int) : WS := (s.int l.length).ints l
def WS.head (s : WS) (h : HeadV) : WS := (s.bytes h.id).int h.size
def WS.obj (s : WS) (o : ObjV) : WS := ((s.bytes o.id).int o.size).bytes o.share
def WS.objT (s : WS) (o : ObjV) : WS := (s.obj o).bytes o.tag
def WS.objs (s : WS) (l : List ObjV) : WS := l.foldl WS.objT (s.int l.length)
def WS.state (s : WS) (x : StateV) : WS := (((s.ints [x.epoch, x.decided, x.dealt]).objs x.objs).ints [x.psession, x.pkind, x.pepoch]).objs x.pobjs
def WS.book (s : WS) (k : BookV) : WS := ((((k.dir.foldl WS.head (s.ints [k.session, k.decided, k.epoch, (k.dir.length : Int)])).int k.up.length).ints (k.up.map flagI)).int k.commit.length).ints k.commit
theorem int_len (s : WS) (n : Int) : (s.int n).out.length ≤ s.out.length + 4 := by
  unfold WS.int
  split
  · have : (b4 (n + 2).toNat).length = 4 := rfl
    simp only [List.length_append, this]; omega
  · show s.out.length ≤ _; omega
theorem bytes_len (s : WS) (l : List UInt8) : (s.bytes l).out.length ≤ s.out.length + (2 + l.length) := by
  unfold WS.bytes
  split
  · simp [b2]; omega
  · show s.out.length ≤ _; omega
theorem bytes_len2 (s : WS) (l : List UInt8) : (s.bytes l).out.length ≤ s.out.length + 65537 := by
  unfold WS.bytes
  split
  · simp [b2]; omega
  · show s.out.length ≤ _; omega
theorem ints_len (l : List Int) : ∀ (s : WS), (s.ints l).out.length ≤ s.out.length + 4 * l.length := by
  induction l with
  | nil => intro s; exact Nat.le_refl _
  | cons x r ih =>
    intro s
    have h1 := ih (s.int x)
    have h2 := int_len s x
    show ((s.int x).ints r).out.length ≤ _
    simp only [List.length_cons]; omega
/-- What heads cost. -/
def costH : List HeadV → Nat
  | [] => 0
  | h :: r => 6 + h.id.length + costH r
theorem heads_len (l : List HeadV) : ∀ (s : WS), (l.foldl WS.head s).out.length ≤ s.out.length + costH l := by
  induction l with
  | nil => intro s; exact Nat.le_refl _
  | cons x r ih =>
    intro s
    have h1 := ih (s.head x)
    have h2 := int_len (s.bytes x.id) x.size
    have h3 := bytes_len s x.id
    rw [List.foldl_cons]
    unfold WS.head at h1 ⊢
    simp only [costH]; omega
theorem costH_take (l : List HeadV) : ∀ i, costH (l.take i) ≤ costH l := by
  induction l with
  | nil => intro i; simp [costH]
  | cons x r ih =>
    intro i
    cases i with
    | zero => simp [costH]
    | succ i => rw [List.take_succ_cons]; simp only [costH]; have := ih i; omega
/-- What objects cost. -/
def costO : List ObjV → Nat
  | [] => 0
  | o :: r => 10 + o.id.length + o.share.length + o.tag.length + costO r
theorem obj_len (s : WS) (o : ObjV) : (s.obj o).out.length ≤ s.out.length + (8 + o.id.length + o.share.length) := by
  have h1 := bytes_len s o.id
  have h2 := int_len (s.bytes o.id) o.size
  have h3 := bytes_len ((s.bytes o.id).int o.size) o.share
  unfold WS.obj; omega
theorem objs_len (l : List ObjV) : ∀ (s : WS), (l.foldl WS.objT s).out.length ≤ s.out.length + costO l := by
  induction l with
  | nil => intro s; exact Nat.le_refl _
  | cons x r ih =>
    intro s
    have h1 := ih (s.objT x)
    have h2 := obj_len s x
    have h3 := bytes_len (s.obj x) x.tag
    rw [List.foldl_cons]
    unfold WS.objT at h1 ⊢
    simp only [costO]; omega
theorem costO_take (l : List ObjV) : ∀ i, costO (l.take i) ≤ costO l := by
  induction l with
  | nil => intro i; simp [costO]
  | cons x r ih =>
    intro i
    cases i with
    | zero => simp [costO]
    | succ i => rw [List.take_succ_cons]; simp only [costO]; have := ih i; omega
def StateV.cost (x : StateV) : Nat := 32 + costO x.objs + costO x.pobjs
def BookV.cost (k : BookV) : Nat := 24 + costH k.dir + 4 * k.up.length + 4 * k.commit.length
/-! What a call may touch: F holds all that is new. -/
def Up (F : Nat → Prop) (w : World) : Prop := ∀ k, w.heap.size ≤ k → F k
theorem Up.keeps {F G : Nat → Prop} {w w' : World} (h : Up F w) (hk : Keeps G w w') : Up F w' := fun k hk2 => h k (Nat.le_trans hk.size hk2)
theorem Up.below {F : Nat → Prop} {w w' : World} {B : Nat} (h : Up F w) (hk : Below B w w') : Up F w' := fun k hk2 => h k (Nat.le_trans hk.size hk2)
theorem Up.grown {F : Nat → Prop} {w : World} (h : Up F w) : ∀ k, Grown F w k → F k := fun k e => by
  rcases e with e | e
  · exact e
  · exact h k e
/-- All of F but what was made between two worlds. -/
def Off (F : Nat → Prop) (w w' : World) (k : Nat) : Prop := F k ∧ (k < w.heap.size ∨ w'.heap.size ≤ k)
theorem Up.off {F : Nat → Prop} {w w' : World} {B : Nat} (h : Up F w) (hb : Below B w w') : Up (Off F w w') w' := fun k hk => ⟨h k (Nat.le_trans hb.size hk), Or.inr hk⟩
theorem WrIs.skip {F : Nat → Prop} {w w' : World} {D : Nat} {s : WS} (h : WrIs w F D s) (hb : Below w.heap.size w w') : WrIs w' (Off F w w') D s := by
  have h' := h.below hb
  obtain ⟨v, h1, h2, h3⟩ := h
  obtain ⟨v', h1', h2', h3'⟩ := h'
  refine ⟨v, h1.keeps (Keeps.of_below (F := fun _ => False) hb) (fun e => e) (fun _ _ e => e), ⟨h2, Or.inl h1.cells.lt⟩, fun k hk => ⟨h3 k hk, Or.inl (h1.own.lt k hk).2⟩⟩
theorem Keeps.off {F : Nat → Prop} {w w' w'' : World} (hb : Below w.heap.size w w') (hk : Keeps (Off F w w') w' w'') : Keeps F w w'' :=
  (Keeps.of_below (F := F) hb).trans hk (fun _ _ e => e.1)
theorem WInt_up (w : World) (F : Nat → Prop) (D : Nat) (s : WS) (n : Int) (hu : Up F w) (h : WrIs w F D s) (hs : s.out.length + 4 ≤ 140737488355328) :
    Calls Try.prog 95 #[.pointer (some ⟨D, 0, none⟩), .int .i64 n] w fun e w' => e = .returned (.tuple #[]) ∧ WrIs w' F D (s.int n) ∧ Keeps F w w' :=
  (WInt_any w F D s n h hs).mono fun _ _ ⟨h1, h2, h3⟩ => ⟨h1, h2.weaken hu.grown, h3⟩
theorem WBytes_up (w : World) (F : Nat → Prop) (D : Nat) (s : WS) (A2 : Option Addr) (n c2 : Nat) (l : List UInt8) (hu : Up F w) (h : WrIs w F D s) (hr : Rd w w.heap.size A2 n l) (hoff : ∀ ad, A2 = some ad → 0 < n → ¬ F ad.block) (hs : s.out.length + 65537 ≤ 140737488355328) :
    Calls Try.prog 94 #[.pointer (some ⟨D, 0, none⟩), .slice A2 n c2] w fun e w' => e = .returned (.tuple #[]) ∧ WrIs w' F D (s.bytes l) ∧ Keeps F w w' :=
  (WBytes_any w F D s A2 n c2 l h (fun W hk => by
    refine ⟨hr.1, fun hn => ?_⟩
    obtain ⟨ad, e, hB, hc⟩ := hr.2 hn
    exact ⟨ad, e, hB, fun j u hu => (World.cell?_of_block (a := ad.add j) (by rw [block_of_add]; exact hk.block _ hB (hoff ad e hn))).trans (hc j u hu)⟩) hs).mono fun _ _ ⟨h1, h2, h3⟩ => ⟨h1, h2.weaken hu.grown, h3⟩
/-! A string's bytes. -/
theorem run_bytes_str {P : Program} (w : World) (s d e : TypeId) (l : List UInt8) {u : TypeDesc} (hs : P.underlying s = some u) (hd : P.underlying d = some (.slice e)) (he : P.underlying e = some (.int .u8)) :
    ∃ c W, (convert s d (.string ⟨l.toArray⟩)).run P w = .ok (.slice (some ⟨w.heap.size, 0, none⟩) l.length c) W ∧ Below w.heap.size w W ∧ w.heap.size < W.heap.size ∧ Rd W W.heap.size (some ⟨w.heap.size, 0, none⟩) l.length l := by
  have h := Lib.run_convert_string_bytes (P := P) w s d e ⟨l.toArray⟩ hs hd he
  refine ⟨_, _, h, ⟨rfl, rfl, rfl, by rw [Lib.bytesWorld_size]; omega, fun k hk => Lib.bytesWorld_at_old w e _ k hk⟩, by rw [Lib.bytesWorld_size]; omega, ⟨by simp, fun hn => ⟨_, rfl, by rw [Lib.bytesWorld_size]; exact Nat.lt_succ_self _, fun j u hu => ?_⟩⟩⟩
  have ha : (⟨w.heap.size, 0, none⟩ : Addr).add j = ⟨w.heap.size, j, none⟩ := by unfold Addr.add; split <;> simp_all
  have hj : j < l.length := by have := (List.getElem?_eq_some_iff.1 hu).1; simpa using this
  rw [ha, Lib.bytesWorld_cell w e ⟨l.toArray⟩ j hj]
  rw [List.getElem?_map, List.getElem?_eq_getElem hj] at hu
  simp only [Option.map_some, Option.some.injEq] at hu
  rw [← hu]
  simp [B8, List.getD_eq_getElem?_getD, List.getElem?_eq_getElem hj]
theorem wpList_bytes {P : Program} {ops : Array Oper} {Q : Exit → Act → World → Prop} {rest : List Oper} {o : Oper} {a : Act} {w : World} (hgd : o.guard = none) (s d e : TypeId) (x : Operand) (ho : o.op = .convert s d x) (l : List UInt8) (hx : a.eval x = .string ⟨l.toArray⟩) {u : TypeDesc} (hs : P.underlying s = some u) (hd : P.underlying d = some (.slice e)) (he : P.underlying e = some (.int .u8))
    (h : ∀ c W, Below w.heap.size w W → w.heap.size < W.heap.size → Rd W W.heap.size (some ⟨w.heap.size, 0, none⟩) l.length l → wpList P ops Q rest (a.put o.dst (.slice (some ⟨w.heap.size, 0, none⟩) l.length c)) W) : wpList P ops Q (o :: rest) a w := by
  obtain ⟨c, W, hr, h1, h2, h3⟩ := run_bytes_str (P := P) w s d e l hs hd he
  refine wpList_plain hgd fun K hK => ?_
  unfold Oper.wp execOp
  simp only [ho, hx, Sem.run_bind, hr, Result.andThen_ok, Sem.run_pure, Oper.upon]
  exact hK _ _ (h c W h1 h2 h3)
theorem reads_off {w w' : World} {F : Nat → Prop} {B n : Nat} {A : Option Addr} {xs : List Value} (h : Reads w B 1 A n xs) (hk : Keeps F w w') (hB : B ≤ w.heap.size) (hoff : ∀ ad, A = some ad → 0 < n → ¬ F ad.block) : Reads w' B 1 A n xs := by
  refine ⟨h.1, fun hn => ?_⟩
  obtain ⟨ad, e, hb, hc⟩ := h.2 hn
  exact ⟨ad, e, hb, fun j u hu => (World.cell?_of_block (a := ad.add j) (by rw [block_of_add]; exact hk.block _ (Nat.lt_of_lt_of_le hb hB) (hoff ad e hn))).trans (hc j u hu)⟩
theorem ints_snoc (s : WS) (l : List Int) (j : Nat) (hj : j < l.length) : (s.ints (l.take j)).int l[j] = s.ints (l.take (j + 1)) := by
  unfold WS.ints
  rw [List.take_succ_eq_append_getElem hj, List.foldl_append]
  rfl
set_option maxRecDepth 100000 in
theorem PenInts_any (w : World) (F : Nat → Prop) (D : Nat) (s : WS) (A : Option Addr) (n c : Nat) (ns : List Int) (hu : Up F w) (h : WrIs w F D s) (hn : n ≤ 9223372036854775807) (hr : Reads w w.heap.size 1 A n (ns.map (Value.int .i64))) (hoff : ∀ ad, A = some ad → 0 < n → ¬ F ad.block) (hs : s.out.length + 4 * n + 4 ≤ 140737488355328) :
    Calls Try.prog 93 #[.agg #[.pointer (some ⟨D, 0, none⟩)], .slice A n c] w fun e w' => e = .returned (.tuple #[]) ∧ WrIs w' F D (s.ints ns) ∧ Keeps F w w' := by
  have hln : ns.length = n := by have := hr.1; simpa using this
  go_enter Try.func93, Try.ntmps93
  go_wp2_with fail
  have hb1 : Below w.heap.size w (w.alloc (.cells #[.pointer (some ⟨D, 0, none⟩)] 130)) := (Below.refl _ _).alloc (Nat.le_refl _) _
  have h1 := h.skip hb1
  have hu1 := hu.off hb1
  have hbx := Blk.new w 130 #[.pointer (some ⟨D, 0, none⟩)]
  have hr1 : Reads (w.alloc (.cells #[.pointer (some ⟨D, 0, none⟩)] 130)) w.heap.size 1 A n (ns.map (Value.int .i64)) := Reads.alloc hr (Nat.le_refl _) _
  have hsz : (w.alloc (.cells #[.pointer (some ⟨D, 0, none⟩)] 130)).heap.size = w.heap.size + 1 := by simp
  obtain ⟨b, hb⟩ : ∃ b, b = w.heap.size := ⟨_, rfl⟩
  rw [← hb] at hbx hsz ⊢
  obtain ⟨w1, hw1⟩ : ∃ w1, w1 = w.alloc (.cells #[.pointer (some ⟨D, 0, none⟩)] 130) := ⟨_, rfl⟩
  rw [← hw1] at h1 hu1 hbx hr1 hsz hb1 ⊢
  obtain ⟨G, hG⟩ : ∃ G, G = Off F w w1 := ⟨_, rfl⟩
  have hGb : ¬ G b := by rw [hG]; intro e; have := e.2; omega
  have hGF : ∀ k, G k → F k := fun k e => by rw [hG] at e; exact e.1
  rw [← hG] at h1 hu1
  have hfin : ∀ w2, Keeps G w1 w2 → Keeps F w w2 := fun w2 hk => by rw [hG] at hk; exact Keeps.off hb1 hk
  clear hw1 hG
  have HU := Lib.hid hu; have HK2 := Lib.hid (Keeps.refl G w1); have HFIN := Lib.hid hfin; have HR1 := Lib.hid hr1; have HOFF := Lib.hid hoff; have HGF := Lib.hid hGF; have HGB := Lib.hid hGb; have HBX := Lib.hid hbx; have HU1 := Lib.hid hu1
  have H2 := Lib.hid h1; have HLN := Lib.hid hln; have HB := Lib.hid hb
  clear hu hfin hr hr1 hoff hGF hGb hbx h h1 hu1 hb1 hln hb
  go_wp2_with fail
  go_loopw [8] (fun q wr => ∃ j : Nat, j ≤ n ∧ q = .int .i64 (j : Int) ∧ WrIs wr G D (s.ints (ns.take j)) ∧ Keeps G w1 wr) (fun q _ => n - (intOf q).toNat)
  case atStart => exact ⟨0, by omega, rfl, H2.out, HK2.out⟩
  case round =>
    obtain ⟨j, hj, rfl, hw, hk⟩ := hrel
    have HW := Lib.hid hw; have HK := Lib.hid hk
    clear hw hk
    by_cases hjn : j < n
    · have hjn' : (j : Int) < (n : Int) := by omega
      have hjl : j < ns.length := by rw [HLN.out]; exact hjn
      have hrr := reads_off HR1.out HK.out (by have := HB.out; omega) (fun ad e h0 => fun hg => HOFF.out ad e h0 (HGF.out _ hg))
      obtain ⟨ad, u, rfl, _, hx, hc⟩ := Reads.at_ hrr hjn
      rw [List.getElem?_map, List.getElem?_eq_getElem hjl] at hx
      simp only [Option.map_some, Option.some.injEq] at hx
      have hst := ints_snoc s ns j hjl
      have hlen := ints_len (ns.take j) s
      rw [List.length_take] at hlen
      generalize ns[j] = x at hx hst
      subst hx
      have HST := Lib.hid hst
      have p0 : wr.cell? ⟨b, 0, none⟩ = some (.pointer (some ⟨D, 0, none⟩)) := ((HBX.out.keeps HK.out HGB.out).cell 0).trans rfl
      clear hrr hst
      go_wp2_with fail
      refine (WInt_up wr G D _ x (HU1.out.keeps HK.out) HW.out (by omega)).mono ?_
      rintro e w3 ⟨rfl, h3, hk3⟩
      rw [HST.out] at h3
      have H3 := Lib.hid h3; have HK3 := Lib.hid (HK.out.trans hk3 (fun _ _ e => e))
      clear h3 hk3 hlen
      go_wp2_with fail
      go_roundw
      case rel => exact ⟨j + 1, by omega, by go_num, H3.out, HK3.out⟩
      case measure => simp [intOf]; omega
    · obtain rfl : j = n := by omega
      go_wp2
      go_end0
      refine ⟨rfl, ?_, HFIN.out _ HK.out⟩
      have h4 := HW.out.weaken HGF.out
      rw [List.take_of_length_le (by rw [HLN.out]; exact Nat.le_refl _)] at h4
      exact h4
end Go.Proofs.Ytlabebapjhhkaaa
namespace Go.Proofs.Ytlabebapjhhkaaa
open Go.RowKit
def HeadsRd (w : World) (B : Nat) (A : Option Addr) (hs : List HeadV) : Prop :=
  0 < hs.length → ∃ ad, A = some ad ∧ ad.block < B ∧ ∀ (i : Nat) (h : HeadV), hs[i]? = some h →
    w.cell? (ad.add (i * 2)) = some (.string ⟨h.id.toArray⟩) ∧ w.cell? ⟨(ad.add (i * 2)).block, (ad.add (i * 2)).off + 1, none⟩ = some (.int .i64 h.size)
theorem HeadsRd.off {w w' : World} {F : Nat → Prop} {B : Nat} {A : Option Addr} {hs : List HeadV} (h : HeadsRd w B A hs) (hk : Keeps F w w') (hB : B ≤ w.heap.size) (hoff : ∀ ad, A = some ad → ad.block < B → ¬ F ad.block) : HeadsRd w' B A hs := by
  intro hn
  obtain ⟨ad, e, hb, hc⟩ := h hn
  refine ⟨ad, e, hb, fun i x hx => ?_⟩
  obtain ⟨c0, c1⟩ := hc i x hx
  have hbl := hk.block _ (Nat.lt_of_lt_of_le hb hB) (hoff ad e hb)
  exact ⟨(World.cell?_of_block (a := ad.add (i * 2)) (by rw [block_of_add]; exact hbl)).trans c0, (World.cell?_of_block (a := ⟨(ad.add (i * 2)).block, (ad.add (i * 2)).off + 1, none⟩) (by show _ = w.heap[(ad.add (i * 2)).block]?; rw [block_of_add]; exact hbl)).trans c1⟩
theorem reads_off2 {w w' : World} {F : Nat → Prop} {B n : Nat} {A : Option Addr} {xs : List Value} (h : Reads w B 1 A n xs) (hk : Keeps F w w') (hB : B ≤ w.heap.size) (hoff : ∀ ad, A = some ad → ad.block < B → ¬ F ad.block) : Reads w' B 1 A n xs := by
  refine ⟨h.1, fun hn => ?_⟩
  obtain ⟨ad, e, hb, hc⟩ := h.2 hn
  exact ⟨ad, e, hb, fun j u hu => (World.cell?_of_block (a := ad.add j) (by rw [block_of_add]; exact hk.block _ (Nat.lt_of_lt_of_le hb hB) (hoff ad e hb))).trans (hc j u hu)⟩
theorem wlist_len (s : WS) (l : List Int) : (s.list l).out.length ≤ s.out.length + (4 + 4 * l.length) := by
  have h1 := ints_len l (s.int l.length)
  have h2 := int_len s l.length
  unfold WS.list
  omega
theorem heads_snoc (s : WS) (l : List HeadV) (j : Nat) (hj : j < l.length) : ((l.take j).foldl WS.head s).head l[j] = (l.take (j + 1)).foldl WS.head s := by
  rw [List.take_succ_eq_append_getElem hj, List.foldl_append]
  rfl
/-- What an encoding leaves. -/
def EncPost (w : World) (s : WS) (e : Ending) (w' : World) : Prop := ∃ v', e = .returned (.tuple #[v', .bool (!s.bad)]) ∧ Fresh w' w.heap.size v' (if s.bad then [] else s.out) ∧ Below w.heap.size w w' ∧ WrB w' v'
abbrev objCells (o : ObjV) (As At : Option Addr) (cs ct : Nat) : Array Value := #[.string ⟨o.id.toArray⟩, .int .i64 o.size, .slice As o.share.length cs, .slice At o.tag.length ct]
theorem objs_snoc (s : WS) (l : List ObjV) (j : Nat) (hj : j < l.length) : ((l.take j).foldl WS.objT s).objT l[j] = (l.take (j + 1)).foldl WS.objT s := by
  rw [List.take_succ_eq_append_getElem hj, List.foldl_append]
  rfl
theorem obj_len2 (s : WS) (o : ObjV) : (s.obj o).out.length ≤ s.out.length + 131078 := by
  have h1 := bytes_len2 s o.id
  have h2 := int_len (s.bytes o.id) o.size
  have h3 := bytes_len2 ((s.bytes o.id).int o.size) o.share
  unfold WS.obj; omega
/-- An object's slices, read; its blocks lie in S. -/
def ObjRd (w : World) (S : Nat → Prop) (As At : Option Addr) (o : ObjV) : Prop :=
  (∀ ad, As = some ad → 0 < o.share.length → S ad.block) ∧ (∀ ad, At = some ad → 0 < o.tag.length → S ad.block) ∧ Rd w w.heap.size As o.share.length o.share ∧ Rd w w.heap.size At o.tag.length o.tag
/-- A list of objects, read; all blocks lie in S. -/
def ObjsRd (w : World) (S : Nat → Prop) (A : Option Addr) (os : List ObjV) : Prop :=
  0 < os.length → ∃ ad, A = some ad ∧ S ad.block ∧ ad.block < w.heap.size ∧ ∀ (i : Nat) (o : ObjV), os[i]? = some o → ∃ (As At : Option Addr) (cs ct : Nat),
    w.cell? (ad.add (i * 4)) = some (.string ⟨o.id.toArray⟩) ∧ w.cell? ⟨(ad.add (i * 4)).block, (ad.add (i * 4)).off + 1, none⟩ = some (.int .i64 o.size) ∧
    w.cell? ⟨(ad.add (i * 4)).block, (ad.add (i * 4)).off + 2, none⟩ = some (.slice As o.share.length cs) ∧ w.cell? ⟨(ad.add (i * 4)).block, (ad.add (i * 4)).off + 3, none⟩ = some (.slice At o.tag.length ct) ∧ ObjRd w S As At o
theorem ObjRd.off {w w' : World} {F S : Nat → Prop} {As At : Option Addr} {o : ObjV} (h : ObjRd w S As At o) (hk : Keeps F w w') (hS : ∀ k, S k → ¬ F k) : ObjRd w' S As At o :=
  ⟨h.1, h.2.1, Rd.more (reads_off h.2.2.1 hk (Nat.le_refl _) (fun ad e h0 => hS _ (h.1 ad e h0))) hk.size, Rd.more (reads_off h.2.2.2 hk (Nat.le_refl _) (fun ad e h0 => hS _ (h.2.1 ad e h0))) hk.size⟩
theorem ObjRd.weaken {w : World} {S S' : Nat → Prop} {As At : Option Addr} {o : ObjV} (h : ObjRd w S As At o) (hS : ∀ k, S k → S' k) : ObjRd w S' As At o :=
  ⟨fun ad e h0 => hS _ (h.1 ad e h0), fun ad e h0 => hS _ (h.2.1 ad e h0), h.2.2⟩
theorem ObjsRd.weaken {w : World} {S S' : Nat → Prop} {A : Option Addr} {os : List ObjV} (h : ObjsRd w S A os) (hS : ∀ k, S k → S' k) : ObjsRd w S' A os := fun hn => by
  obtain ⟨ad, e, hs, hb, hc⟩ := h hn
  refine ⟨ad, e, hS _ hs, hb, fun i o ho => ?_⟩
  obtain ⟨As, At, cs, ct, c0, c1, c2, c3, hr⟩ := hc i o ho
  exact ⟨As, At, cs, ct, c0, c1, c2, c3, hr.weaken hS⟩
theorem ObjsRd.off {w w' : World} {F S : Nat → Prop} {A : Option Addr} {os : List ObjV} (h : ObjsRd w S A os) (hk : Keeps F w w') (hS : ∀ k, S k → ¬ F k) : ObjsRd w' S A os := fun hn => by
  obtain ⟨ad, e, hs, hb, hc⟩ := h hn
  have hbl := hk.block _ hb (hS _ hs)
  refine ⟨ad, e, hs, Nat.lt_of_lt_of_le hb hk.size, fun i o ho => ?_⟩
  obtain ⟨As, At, cs, ct, c0, c1, c2, c3, hr⟩ := hc i o ho
  have hx : ∀ j, w'.cell? ⟨(ad.add (i * 4)).block, j, none⟩ = w.cell? ⟨(ad.add (i * 4)).block, j, none⟩ := fun j => World.cell?_of_block (a := ⟨(ad.add (i * 4)).block, j, none⟩) (by show _ = w.heap[(ad.add (i * 4)).block]?; rw [block_of_add]; exact hbl)
  exact ⟨As, At, cs, ct, (World.cell?_of_block (a := ad.add (i * 4)) (by rw [block_of_add]; exact hbl)).trans c0, (hx _).trans c1, (hx _).trans c2, (hx _).trans c3, hr.off hk hS⟩
end Go.Proofs.Ytlabebapjhhkaaa
namespace Go.Proofs.Ytlabebapjhhkaaa
open Go.RowKit
abbrev stateCells (x : StateV) (Ao Ap : Option Addr) (co cp : Nat) : Array Value :=
  #[.int .i64 x.epoch, .int .i64 x.decided, .int .i64 x.dealt, .slice Ao x.objs.length co, .int .i64 x.psession, .int .i64 x.pkind, .int .i64 x.pepoch, .slice Ap x.pobjs.length cp]
structure StateRd (w : World) (S : Nat → Prop) (x : StateV) (Ao Ap : Option Addr) : Prop where
  objs : ObjsRd w S Ao x.objs
  pobjs : ObjsRd w S Ap x.pobjs
theorem StateRd.off {w w' : World} {F S : Nat → Prop} {x : StateV} {Ao Ap : Option Addr} (h : StateRd w S x Ao Ap) (hk : Keeps F w w') (hS : ∀ k, S k → ¬ F k) : StateRd w' S x Ao Ap := ⟨h.objs.off hk hS, h.pobjs.off hk hS⟩
theorem StateRd.below {w w' : World} {S : Nat → Prop} {x : StateV} {Ao Ap : Option Addr} (h : StateRd w S x Ao Ap) (hb : Below w.heap.size w w') : StateRd w' S x Ao Ap := h.off (Keeps.of_below (F := fun _ => False) hb) (fun _ _ e => e)
theorem StateRd.weaken {w : World} {S S' : Nat → Prop} {x : StateV} {Ao Ap : Option Addr} (h : StateRd w S x Ao Ap) (hS : ∀ k, S k → S' k) : StateRd w S' x Ao Ap := ⟨h.objs.weaken hS, h.pobjs.weaken hS⟩
theorem objs_len2 (s : WS) (l : List ObjV) : (s.objs l).out.length ≤ s.out.length + (4 + costO l) := by
  have h1 := objs_len l (s.int l.length)
  have h2 := int_len s l.length
  unfold WS.objs; omega
theorem costO_ge (l : List ObjV) : l.length ≤ costO l := by
  induction l with
  | nil => exact Nat.le_refl _
  | cons x r ih => simp only [List.length_cons, costO]; omega
theorem reads_row {w : World} {q : Nat} {t : TypeId} {cs : List Value} {size n : Nat} (h : Blk w q t cs.toArray) (hn : cs.length = n * size) : Reads w w.heap.size size (some ⟨q, 0, none⟩) n cs := by
  refine ⟨hn, fun _ => ⟨_, rfl, h.lt, fun j u hu => ?_⟩⟩
  have ha : (⟨q, 0, none⟩ : Addr).add j = ⟨q, j, none⟩ := by unfold Addr.add; split <;> simp_all
  rw [ha, h.cell j, List.getElem?_toArray]
  exact hu
theorem HeadsRd.more {w : World} {B B' : Nat} {A : Option Addr} {hs : List HeadV} (h : HeadsRd w B A hs) (hB : B ≤ B') : HeadsRd w B' A hs := fun hn => by
  obtain ⟨ad, e, hb, hc⟩ := h hn
  exact ⟨ad, e, by omega, hc⟩
abbrev bookCells (k : BookV) (Ad Au Ac : Option Addr) (cd cu cc : Nat) : Array Value :=
  #[.int .i64 k.session, .int .i64 k.decided, .int .i64 k.epoch, .slice Ad k.dir.length cd, .slice Au k.up.length cu, .slice Ac k.commit.length cc]
structure BookRd (w : World) (S : Nat → Prop) (k : BookV) (Ad Au Ac : Option Addr) : Prop where
  dir : HeadsRd w w.heap.size Ad k.dir
  up : Reads w w.heap.size 1 Au k.up.length (k.up.map Value.bool)
  commit : Reads w w.heap.size 1 Ac k.commit.length (k.commit.map (Value.int .i64))
  inS : ∀ ad, (Ad = some ad ∧ 0 < k.dir.length ∨ Au = some ad ∧ 0 < k.up.length ∨ Ac = some ad ∧ 0 < k.commit.length) → S ad.block
theorem BookRd.off {w w' : World} {F S : Nat → Prop} {k : BookV} {Ad Au Ac : Option Addr} (h : BookRd w S k Ad Au Ac) (hk : Keeps F w w') (hS : ∀ k, S k → ¬ F k) : BookRd w' S k Ad Au Ac :=
  ⟨fun hn => (HeadsRd.more (h.dir.off hk (Nat.le_refl _) (fun ad e _ => hS _ (h.inS ad (Or.inl ⟨e, hn⟩)))) hk.size) hn,
    (reads_off h.up hk (Nat.le_refl _) (fun ad e h0 => hS _ (h.inS ad (Or.inr (Or.inl ⟨e, h0⟩))))).more hk.size,
    (reads_off h.commit hk (Nat.le_refl _) (fun ad e h0 => hS _ (h.inS ad (Or.inr (Or.inr ⟨e, h0⟩))))).more hk.size, h.inS⟩
theorem BookRd.below {w w' : World} {S : Nat → Prop} {k : BookV} {Ad Au Ac : Option Addr} (h : BookRd w S k Ad Au Ac) (hb : Below w.heap.size w w') : BookRd w' S k Ad Au Ac := h.off (Keeps.of_below (F := fun _ => False) hb) (fun _ _ e => e)
theorem costH_ge (l : List HeadV) : l.length ≤ costH l := by
  induction l with
  | nil => exact Nat.le_refl _
  | cons x r ih => simp only [List.length_cons, costH]; omega
set_option maxRecDepth 100000 in
theorem flag_any (w : World) (b : Bool) : Calls Try.prog 96 #[.bool b] w fun e w' => e = .returned (.int .i64 (flagI b)) ∧ w' = w := by
  go_enter Try.func96, Try.ntmps96
  cases b
  · go_wp2
    go_ret
    exact ⟨rfl, rfl⟩
  · go_wp2
    go_ret
    exact ⟨rfl, rfl⟩
set_option maxRecDepth 100000 in
set_option maxHeartbeats 4000000 in
theorem EncodeBook_any (w : World) (S : Nat → Prop) (k : BookV) (Ad Au Ac : Option Addr) (cd cu cc : Nat) (hr : BookRd w S k Ad Au Ac) (hS : ∀ k, S k → k < w.heap.size) (hs : k.cost ≤ 140737488000000) :
    Calls Try.prog 69 #[.agg (bookCells k Ad Au Ac cd cu cc)] w (EncPost w (WS.book ⟨[], false⟩ k)) := by
  go_enter Try.func69, Try.ntmps69
  go_wp2_with fail
  have hb1 : Below w.heap.size w (w.alloc (.cells (bookCells k Ad Au Ac cd cu cc) 44)) := (Below.refl _ _).alloc (Nat.le_refl _) _
  have hM := Blk.new w 44 (bookCells k Ad Au Ac cd cu cc)
  have hr1 := hr.below hb1
  have hsz : (w.alloc (.cells (bookCells k Ad Au Ac cd cu cc) 44)).heap.size = w.heap.size + 1 := by simp
  obtain ⟨M, hMe⟩ : ∃ M, M = w.heap.size := ⟨_, rfl⟩
  rw [← hMe] at hM hsz ⊢
  generalize w.alloc (.cells (bookCells k Ad Au Ac cd cu cc) 44) = w1 at hb1 hM hr1 hsz ⊢
  have HME := Lib.hid hMe; clear hMe
  refine (WNew_any w1).mono ?_
  rintro e w2 ⟨D, rfl, hw2, hb2⟩
  have hM2 := hM.below hb2 (by omega)
  have hb2' : Below w.heap.size w1 w2 := hb2.mono (by have := HME.out; omega)
  have hr2 := hr1.below hb2
  have hb02 := hb1.trans hb2'
  have hb3 : Below w2.heap.size w2 (w2.alloc (.cells #[.pointer (some ⟨D, 0, none⟩)] 130)) := (Below.refl _ _).alloc (Nat.le_refl _) _
  have hP3 := Blk.new w2 130 #[.pointer (some ⟨D, 0, none⟩)]
  have hM3 := hM2.alloc (.cells #[.pointer (some ⟨D, 0, none⟩)] 130)
  have h3 := hw2.skip hb3
  have hu2 : Up (fun k => w1.heap.size ≤ k) w2 := fun k hk => Nat.le_trans hb2.size hk
  have hu3 := hu2.off hb3
  have hr3 := hr2.below hb3
  have hb03 := hb02.trans (hb3.mono hb02.size)
  have hsz3 : (w2.alloc (.cells #[.pointer (some ⟨D, 0, none⟩)] 130)).heap.size = w2.heap.size + 1 := by simp
  have hM2l : M < w2.heap.size := hM2.lt
  have hb2s := hb2.size
  go_upto_region 2 with (fail)
  obtain ⟨P, hPe⟩ : ∃ P, P = w2.heap.size := ⟨_, rfl⟩
  rw [← hPe] at hP3 hsz3 hM2l hb2s ⊢
  obtain ⟨w3, hw3⟩ : ∃ w3, w3 = w2.alloc (.cells #[.pointer (some ⟨D, 0, none⟩)] 130) := ⟨_, rfl⟩
  rw [← hw3] at h3 hu3 hb3 hP3 hM3 hr3 hb03 hsz3 ⊢
  obtain ⟨F, hF⟩ : ∃ F, F = Off (fun k => w1.heap.size ≤ k) w2 w3 := ⟨_, rfl⟩
  have hFP : ¬ F P := by rw [hF]; intro e; have := e.2; omega
  have hFM : ¬ F M := by rw [hF]; intro e; have := e.1; omega
  have hFS : ∀ k, S k → ¬ F k := by rw [hF]; intro k hk e; have := hS k hk; have := e.1; have := HME.out; omega
  have hFB' : ∀ k, F k → w.heap.size ≤ k := by rw [hF]; intro k e; have := e.1; have := HME.out; omega
  rw [← hF] at h3 hu3
  have h3l : w.heap.size ≤ w3.heap.size := hb03.size
  have HS := Lib.hid hs
  unfold BookV.cost at hs
  have hge1 := costH_ge k.dir
  have H3 := Lib.hid h3; have HU := Lib.hid hu3; have HP3 := Lib.hid hP3; have HM3 := Lib.hid hM3; have HR3 := Lib.hid hr3; have HB03 := Lib.hid hb03; have HFP := Lib.hid hFP; have HFM := Lib.hid hFM; have HFS := Lib.hid hFS; have HFB' := Lib.hid hFB'
  have HK3 := Lib.hid (Keeps.refl F w3)
  clear h3 hu3 hP3 hM3 hr3 hb03 hFP hFM hFS hFB' hF hw3 hPe hsz3 hb3 hu2 hw2 hb2 hr2 hb02 hb1 hsz hM hM2 hr1 hb2' hr hM2l hb2s hS
  have hl3 : (⟨[], false⟩ : WS).out.length ≤ 0 := Nat.le_refl _
  obtain ⟨s3, hs3⟩ : ∃ ss, ss = (⟨[], false⟩ : WS) := ⟨_, rfl⟩
  rw [← hs3] at H3 hl3
  have HS3 := Lib.hid hs3
  clear hs3
  have m0 : w3.cell? ⟨M, 0, none⟩ = some (bookCells k Ad Au Ac cd cu cc)[0] := ((HM3.out.keeps HK3.out HFM.out).cell 0).trans rfl
  have m1 : w3.cell? ⟨M, 1, none⟩ = some (bookCells k Ad Au Ac cd cu cc)[1] := ((HM3.out.keeps HK3.out HFM.out).cell 1).trans rfl
  have m2 : w3.cell? ⟨M, 2, none⟩ = some (bookCells k Ad Au Ac cd cu cc)[2] := ((HM3.out.keeps HK3.out HFM.out).cell 2).trans rfl
  have m3 : w3.cell? ⟨M, 3, none⟩ = some (bookCells k Ad Au Ac cd cu cc)[3] := ((HM3.out.keeps HK3.out HFM.out).cell 3).trans rfl
  simp only [List.getElem_toArray, List.getElem_cons_succ, List.getElem_cons_zero] at m0 m1 m2 m3
  go_wp2_with (first | (refine wpList_load_row rfl 130 (.tmp 4) rfl P rfl _ _ _ _ (HP3.out.keeps HK3.out HFP.out) Try.underlying130 rfl (by kernel_rfl) ?_) | fail)
  clear m0 m1 m2 m3
  have hR := Blk.new w3 3 #[.int .i64 k.session, .int .i64 k.decided, .int .i64 k.epoch, .int .i64 (k.dir.length : Int)]
  have hbR : Below w3.heap.size w3 (w3.alloc (.cells #[.int .i64 k.session, .int .i64 k.decided, .int .i64 k.epoch, .int .i64 (k.dir.length : Int)] 3)) := (Below.refl _ _).alloc (Nat.le_refl _) _
  have hi := H3.out.skip hbR
  have hui := (HU.out.keeps HK3.out).off hbR
  have hszR : (w3.alloc (.cells #[.int .i64 k.session, .int .i64 k.decided, .int .i64 k.epoch, .int .i64 (k.dir.length : Int)] 3)).heap.size = w3.heap.size + 1 := by simp
  have hrow : Reads (w3.alloc (.cells #[.int .i64 k.session, .int .i64 k.decided, .int .i64 k.epoch, .int .i64 (k.dir.length : Int)] 3)) (w3.alloc (.cells #[.int .i64 k.session, .int .i64 k.decided, .int .i64 k.epoch, .int .i64 (k.dir.length : Int)] 3)).heap.size 1 (some ⟨w3.heap.size, 0, none⟩) 4 (([k.session, k.decided, k.epoch, (k.dir.length : Int)]).map (Value.int .i64)) := reads_row (cs := ([k.session, k.decided, k.epoch, (k.dir.length : Int)]).map (Value.int .i64)) hR rfl
  refine (PenInts_any _ (Off F w3 (w3.alloc (.cells #[.int .i64 k.session, .int .i64 k.decided, .int .i64 k.epoch, .int .i64 (k.dir.length : Int)] 3))) D s3 (some ⟨w3.heap.size, 0, none⟩) 4 4 [k.session, k.decided, k.epoch, (k.dir.length : Int)] hui hi (by omega) hrow (fun ad e _ hg => by injection e with e; subst e; have := hg.2; dsimp only at this; omega) (by omega)).mono ?_
  rintro e w4 ⟨rfl, h4, hk4⟩
  have H4 := Lib.hid (h4.weaken (G := F) (fun k e => e.1)); have HK4 := Lib.hid (HK3.out.trans (Keeps.off hbR hk4) (fun _ _ e => e))
  clear h4 hk4 hrow hszR hui hi hbR hR
  have hl4 : (s3.ints [k.session, k.decided, k.epoch, (k.dir.length : Int)]).out.length ≤ s3.out.length + 16 := ints_len [k.session, k.decided, k.epoch, (k.dir.length : Int)] s3
  obtain ⟨s4, hs4⟩ : ∃ ss, ss = (s3.ints [k.session, k.decided, k.epoch, (k.dir.length : Int)]) := ⟨_, rfl⟩
  rw [← hs4] at H4 hl4
  have HS4 := Lib.hid hs4
  clear hs4
  have m3 : w4.cell? ⟨M, 3, none⟩ = some (bookCells k Ad Au Ac cd cu cc)[3] := ((HM3.out.keeps HK4.out HFM.out).cell 3).trans rfl
  simp only [List.getElem_toArray, List.getElem_cons_succ, List.getElem_cons_zero] at m3
  go_wp2_with fail
  clear m3
  go_loopw [26] (fun q wr => ∃ j : Nat, j ≤ k.dir.length ∧ q = .int .i64 (j : Int) ∧ WrIs wr F D ((k.dir.take j).foldl WS.head s4) ∧ Keeps F w3 wr) (fun q _ => k.dir.length - (intOf q).toNat)
  case atStart => exact ⟨0, by omega, rfl, H4.out, HK4.out⟩
  case' round =>
    obtain ⟨j, hj, rfl, hw, hk⟩ := hrel
    have HW := Lib.hid hw; have HK := Lib.hid hk
    clear hw hk
    by_cases hjn : j < k.dir.length
    · have hjn' : (j : Int) < (k.dir.length : Int) := by omega
      obtain ⟨ad, rfl, _, hc⟩ := (HR3.out.off HK.out HFS.out).dir (by omega)
      obtain ⟨c0, c1⟩ := hc j _ (List.getElem?_eq_getElem hjn)
      have hst := heads_snoc s4 k.dir j hjn
      have hlen := heads_len (k.dir.take j) s4
      have hlen2 := costH_take k.dir j
      generalize k.dir[j] = x at c0 c1 hst
      have HST := Lib.hid hst
      have p0 : wr.cell? ⟨P, 0, none⟩ = some (.pointer (some ⟨D, 0, none⟩)) := ((HP3.out.keeps HK.out HFP.out).cell 0).trans rfl
      have hPl : P < wr.heap.size := (HP3.out.keeps HK.out HFP.out).lt
      clear hst hc
      have hbx := Blk.new wr 35 #[.string ⟨x.id.toArray⟩, .int .i64 x.size]
      have hbb : Below wr.heap.size wr (wr.alloc (.cells #[.string ⟨x.id.toArray⟩, .int .i64 x.size] 35)) := (Below.refl _ _).alloc (Nat.le_refl _) _
      have HBX := Lib.hid hbx; have HBB := Lib.hid hbb
      have hPH : P ≠ wr.heap.size := by omega
      clear hbx hbb
      go_wp2_with (refine wpList_bytes rfl 9 64 5 (.tmp 33) rfl x.id rfl Try.underlying9 Try.underlying64 Try.underlying5 ?_; intro cc W hbW hlW hrW)
      clear p0 c0 c1
      have hbW' := HBB.out.trans (hbW.mono HBB.out.size)
      have hiW := HW.out.skip hbW'
      have huW := (HU.out.keeps HK.out).off hbW'
      have hbxW := HBX.out.below hbW (by simp)
      have hpW : Blk W P 130 #[.pointer (some ⟨D, 0, none⟩)] := (HP3.out.keeps HK.out HFP.out).below hbW' hPl
      have hsz : (wr.alloc (.cells #[.string ⟨x.id.toArray⟩, .int .i64 x.size] 35)).heap.size = wr.heap.size + 1 := by simp
      simp only [hsz] at hlW hrW ⊢
      refine (WBytes_up W _ D _ _ _ _ x.id huW hiW hrW (fun ad e _ hg => by injection e with e; subst e; have := hg.2; dsimp only at this; omega) (by omega)).mono ?_
      rintro e wy ⟨rfl, hy, hky⟩
      have hlen3 := bytes_len2 (List.foldl WS.head s4 (k.dir.take j)) x.id
      have hbxy := hbxW.keeps hky (fun hg => by have := hg.2; omega)
      have hpy := hpW.keeps hky (fun hg => HFP.out hg.1)
      have q1 : wy.cell? ⟨wr.heap.size, 1, none⟩ = some (.int .i64 x.size) := (hbxy.cell 1).trans rfl
      have p0 : wy.cell? ⟨P, 0, none⟩ = some (.pointer (some ⟨D, 0, none⟩)) := (hpy.cell 0).trans rfl
      have HY := Lib.hid hy; have HKY := Lib.hid hky; have HUW := Lib.hid huW; have HBW := Lib.hid hbW'
      clear hy hky huW hbW hbW' hiW hbxW hpW hbxy hpy hsz hlW hrW
      go_wp2_with fail
      refine (WInt_up wy _ D _ x.size (HUW.out.keeps HKY.out) HY.out (by omega)).mono ?_
      rintro e wz ⟨rfl, hz, hkz⟩
      have HZ := Lib.hid (hz.weaken (G := F) (fun k e => e.1)); have HKZ := Lib.hid (HK.out.trans (Keeps.off HBW.out (HKY.out.trans hkz (fun _ _ e => e))) (fun _ _ e => e))
      clear hz hkz q1 p0 hlen hlen2 hlen3
      go_wp2_with fail
      go_roundw
      case rel => exact ⟨j + 1, by omega, by go_num, by rw [← HST.out]; exact HZ.out, HKZ.out⟩
      case measure => simp [intOf]; omega
  obtain rfl : j = k.dir.length := by omega
  have hw5 := HW.out
  rw [List.take_length] at hw5
  have H5 := Lib.hid hw5
  have HK5 := Lib.hid HK.out
  obtain ⟨w5, hwr⟩ : ∃ wx, wx = wr := ⟨_, rfl⟩
  subst hwr
  clear hw5 HW HK hj hjn
  have hl5 : (k.dir.foldl WS.head s4).out.length ≤ s4.out.length + costH k.dir := heads_len k.dir s4
  obtain ⟨s5, hs5⟩ : ∃ ss, ss = (k.dir.foldl WS.head s4) := ⟨_, rfl⟩
  rw [← hs5] at H5 hl5
  have HS5 := Lib.hid hs5
  clear hs5
  have m4 : w5.cell? ⟨M, 4, none⟩ = some (bookCells k Ad Au Ac cd cu cc)[4] := ((HM3.out.keeps HK5.out HFM.out).cell 4).trans rfl
  simp only [List.getElem_toArray, List.getElem_cons_succ, List.getElem_cons_zero] at m4
  have p0 : w5.cell? ⟨P, 0, none⟩ = some (.pointer (some ⟨D, 0, none⟩)) := ((HP3.out.keeps HK5.out HFP.out).cell 0).trans rfl
  go_wp2_with fail
  clear p0 m4
  refine (WInt_up w5 F D s5 (k.up.length : Int) (HU.out.keeps HK5.out) H5.out (by omega)).mono ?_
  rintro e w6 ⟨rfl, h6, hk6⟩
  have H6 := Lib.hid h6; have HK6 := Lib.hid (HK5.out.trans hk6 (fun _ _ e => e))
  clear h6 hk6
  have hl6 : (s5.int (k.up.length : Int)).out.length ≤ s5.out.length + 4 := int_len s5 (k.up.length : Int)
  obtain ⟨s6, hs6⟩ : ∃ ss, ss = (s5.int (k.up.length : Int)) := ⟨_, rfl⟩
  rw [← hs6] at H6 hl6
  have HS6 := Lib.hid hs6
  clear hs6
  have m4 : w6.cell? ⟨M, 4, none⟩ = some (bookCells k Ad Au Ac cd cu cc)[4] := ((HM3.out.keeps HK6.out HFM.out).cell 4).trans rfl
  simp only [List.getElem_toArray, List.getElem_cons_succ, List.getElem_cons_zero] at m4
  go_wp2_with fail
  clear m4
  go_loopw [51] (fun q wr => ∃ j : Nat, j ≤ k.up.length ∧ q = .int .i64 (j : Int) ∧ WrIs wr F D (s6.ints ((k.up.map flagI).take j)) ∧ Keeps F w3 wr) (fun q _ => k.up.length - (intOf q).toNat)
  case atStart => exact ⟨0, by omega, rfl, H6.out, HK6.out⟩
  case' round =>
    obtain ⟨j, hj, rfl, hw, hk⟩ := hrel
    have HW := Lib.hid hw; have HK := Lib.hid hk
    clear hw hk
    by_cases hjn : j < k.up.length
    · have hjn' : (j : Int) < (k.up.length : Int) := by omega
      obtain ⟨ad, u, rfl, _, hx, hc⟩ := Reads.at_ (HR3.out.off HK.out HFS.out).up hjn
      rw [List.getElem?_map, List.getElem?_eq_getElem hjn] at hx
      simp only [Option.map_some, Option.some.injEq] at hx
      have hjl : j < (k.up.map flagI).length := by simpa using hjn
      have hst := ints_snoc s6 (k.up.map flagI) j hjl
      rw [List.getElem_map] at hst
      have hlen := ints_len ((k.up.map flagI).take j) s6
      rw [List.length_take, List.length_map] at hlen
      generalize k.up[j] = x at hx hst
      subst hx
      have HST := Lib.hid hst
      have p0 : wr.cell? ⟨P, 0, none⟩ = some (.pointer (some ⟨D, 0, none⟩)) := ((HP3.out.keeps HK.out HFP.out).cell 0).trans rfl
      clear hst
      go_wp2_with fail
      refine wp_region_qt 4 (by kernel_rfl) (by kernel_rfl) ?_
      simp only [List.take_succ_cons, List.take_zero, List.drop_succ_cons, List.drop_zero]
      repeat (first | go_big_quiet_skip | (go_big_quiet_want; go_big_quiet_op; first | go_big_quiet_on | (apply Exists.intro; refine ⟨?_, ?_⟩; (exact flag_any _ _); go_big_quiet_on)))
      refine wpQuiet_nil ?_
      go_wp2_with fail
      refine (WInt_up _ F D _ (flagI x) (HU.out.keeps HK.out.drew) (HW.out.below (Below.refl _ wr).drew) (by omega)).mono ?_
      rintro e wy ⟨rfl, hy, hky⟩
      rw [HST.out] at hy
      have HY := Lib.hid hy; have HKY := Lib.hid (HK.out.drew.trans hky (fun _ _ e => e))
      clear hy hky hlen
      go_wp2_with fail
      go_roundw
      case rel => exact ⟨j + 1, by omega, by go_num, HY.out, HKY.out⟩
      case measure => simp [intOf]; omega
  obtain rfl : j = k.up.length := by omega
  have hw7 := HW.out
  rw [List.take_of_length_le (by simp)] at hw7
  have H7 := Lib.hid hw7
  have HK7 := Lib.hid HK.out
  obtain ⟨w7, hwr⟩ : ∃ wx, wx = wr := ⟨_, rfl⟩
  subst hwr
  clear hw7 HW HK hj hjn
  have hl7 : (s6.ints (k.up.map flagI)).out.length ≤ s6.out.length + 4 * k.up.length := (by have := ints_len (k.up.map flagI) s6; rwa [List.length_map] at this)
  obtain ⟨s7, hs7⟩ : ∃ ss, ss = (s6.ints (k.up.map flagI)) := ⟨_, rfl⟩
  rw [← hs7] at H7 hl7
  have HS7 := Lib.hid hs7
  clear hs7
  have m5 : w7.cell? ⟨M, 5, none⟩ = some (bookCells k Ad Au Ac cd cu cc)[5] := ((HM3.out.keeps HK7.out HFM.out).cell 5).trans rfl
  simp only [List.getElem_toArray, List.getElem_cons_succ, List.getElem_cons_zero] at m5
  have p0 : w7.cell? ⟨P, 0, none⟩ = some (.pointer (some ⟨D, 0, none⟩)) := ((HP3.out.keeps HK7.out HFP.out).cell 0).trans rfl
  go_wp2_with fail
  clear p0 m5
  refine (WInt_up w7 F D s7 (k.commit.length : Int) (HU.out.keeps HK7.out) H7.out (by omega)).mono ?_
  rintro e w8 ⟨rfl, h8, hk8⟩
  have H8 := Lib.hid h8; have HK8 := Lib.hid (HK7.out.trans hk8 (fun _ _ e => e))
  clear h8 hk8
  have hl8 : (s7.int (k.commit.length : Int)).out.length ≤ s7.out.length + 4 := int_len s7 (k.commit.length : Int)
  obtain ⟨s8, hs8⟩ : ∃ ss, ss = (s7.int (k.commit.length : Int)) := ⟨_, rfl⟩
  rw [← hs8] at H8 hl8
  have HS8 := Lib.hid hs8
  clear hs8
  have m5 : w8.cell? ⟨M, 5, none⟩ = some (bookCells k Ad Au Ac cd cu cc)[5] := ((HM3.out.keeps HK8.out HFM.out).cell 5).trans rfl
  simp only [List.getElem_toArray, List.getElem_cons_succ, List.getElem_cons_zero] at m5
  go_wp2_with (first | (refine wpList_load_row rfl 130 (.tmp 4) rfl P rfl _ _ _ _ (HP3.out.keeps HK8.out HFP.out) Try.underlying130 rfl (by kernel_rfl) ?_) | fail)
  clear m5
  refine (PenInts_any w8 F D s8 Ac _ cc k.commit (HU.out.keeps HK8.out) H8.out (by omega) (HR3.out.off HK8.out HFS.out).commit (fun ad e h0 => HFS.out _ (HR3.out.inS ad (Or.inr (Or.inr ⟨e, h0⟩)))) (by omega)).mono ?_
  rintro e w9 ⟨rfl, h9, hk9⟩
  have H9 := Lib.hid h9; have HK9 := Lib.hid (HK8.out.trans hk9 (fun _ _ e => e))
  clear h9 hk9
  have hl9 : (s8.ints k.commit).out.length ≤ s8.out.length + 4 * k.commit.length := ints_len k.commit s8
  obtain ⟨s9, hs9⟩ : ∃ ss, ss = (s8.ints k.commit) := ⟨_, rfl⟩
  rw [← hs9] at H9 hl9
  have HS9 := Lib.hid hs9
  clear hs9
  have p0 : w9.cell? ⟨P, 0, none⟩ = some (.pointer (some ⟨D, 0, none⟩)) := ((HP3.out.keeps HK9.out HFP.out).cell 0).trans rfl
  go_wp2_with fail
  clear p0
  obtain ⟨v, hv, hFD, _⟩ := H9.out
  refine (WOut_own w9 D v s9 hv (by omega)).mono ?_
  rintro e wE ⟨v', rfl, hf, hb, hwb⟩
  have hms : s9 = WS.book ⟨[], false⟩ k := by
    rw [HS9.out, HS8.out, HS7.out, HS6.out, HS5.out, HS4.out, HS3.out]
    rfl
  rw [hms] at hf ⊢
  have hbF := HB03.out.trans (HK9.out.below HFB'.out h3l)
  have hfin : EncPost w (WS.book ⟨[], false⟩ k) (.returned (.tuple #[v', .bool (!(WS.book ⟨[], false⟩ k).bad)])) wE := ⟨_, rfl, hf.mono hbF.size, hbF.trans (hb.mono hbF.size), hwb⟩
  have HFIN := Lib.hid hfin
  clear hf hb hv hbF hms hfin
  go_wp2
  go_ret2
  exact HFIN.out
end Go.Proofs.Ytlabebapjhhkaaa
namespace Go.Proofs.Ytlabebapjhhkaaa
open Go.RowKit
def WS.heads (s : WS) (l : List HeadV) : WS := l.foldl WS.head (s.int l.length)
theorem BkIs.skip {F : Nat → Prop} {w w' : World} {D : Nat} {s : WS} (h : BkIs w F D s) (hb : Below w.heap.size w w') : BkIs w' (Off F w w') D s := by
  obtain ⟨v, h1, h2, h3⟩ := h
  exact ⟨v, h1.keeps (Keeps.of_below (F := fun _ => False) hb) (fun e => e) (fun _ _ e => e), ⟨h2, Or.inl h1.cells.lt⟩, fun k hk => ⟨h3 k hk, Or.inl (h1.own.lt k hk).2⟩⟩
/-- Numbers out of a row of the call's own. -/
theorem Put_row (w : World) (F : Nat → Prop) (D : Nat) (s : WS) (xs : List Int) (hu : Up F w) (h : BkIs w F D s) (hs : s.out.length + 4 * xs.length ≤ 140737488355000) (hx : xs.length ≤ 9223372036854775807) :
    Calls Try.prog 58 #[.pointer (some ⟨D, 0, none⟩), .slice (some ⟨w.heap.size, 0, none⟩) xs.length xs.length] (w.alloc (.cells (xs.map (Value.int .i64)).toArray 3)) fun e w' => e = .returned (.tuple #[]) ∧ BkIs w' F D (s.ints xs) ∧ Keeps F w w' := by
  have hb : Below w.heap.size w (w.alloc (.cells (xs.map (Value.int .i64)).toArray 3)) := (Below.refl _ _).alloc (Nat.le_refl _) _
  have hB := Blk.new w 3 (xs.map (Value.int .i64)).toArray
  have hsz : (w.alloc (.cells (xs.map (Value.int .i64)).toArray 3)).heap.size = w.heap.size + 1 := by simp
  refine (Put_any _ (Off F w _) D s (some ⟨w.heap.size, 0, none⟩) xs.length xs.length xs (h.skip hb) (fun _ hk => ?_) hs hx).mono fun _ _ ⟨h1, h2, h3⟩ => ⟨h1, (h2.weaken (fun k e => ?_)), Keeps.off hb h3⟩
  · have hB' := hB.keeps hk (fun e => by have := e.2; omega)
    refine ⟨by simp, fun _ => ⟨_, rfl, by rw [hsz]; exact Nat.lt_succ_self _, fun j u hu => ?_⟩⟩
    have ha : (⟨w.heap.size, 0, none⟩ : Addr).add j = ⟨w.heap.size, j, none⟩ := by unfold Addr.add; split <;> simp_all
    rw [ha, hB'.cell j, List.getElem?_toArray]
    exact hu
  · rcases e with e | e
    · exact e.1
    · exact hu k (by omega)
theorem Put_in (w : World) (F : Nat → Prop) (D : Nat) (s : WS) (A : Option Addr) (n c : Nat) (xs : List Int) (hu : Up F w) (h : BkIs w F D s) (hr : Reads w w.heap.size 1 A n (xs.map (Value.int .i64))) (hoff : ∀ ad, A = some ad → 0 < n → ¬ F ad.block) (hs : s.out.length + 4 * n ≤ 140737488355000) (hx : n ≤ 9223372036854775807) :
    Calls Try.prog 58 #[.pointer (some ⟨D, 0, none⟩), .slice A n c] w fun e w' => e = .returned (.tuple #[]) ∧ BkIs w' F D (s.ints xs) ∧ Keeps F w w' :=
  (Put_any w F D s A n c xs h (fun _ hk => reads_off hr hk (Nat.le_refl _) hoff) hs hx).mono fun _ _ ⟨h1, h2, h3⟩ => ⟨h1, h2.weaken hu.grown, h3⟩
theorem Lay_up (w : World) (F : Nat → Prop) (D : Nat) (s : WS) (A : Option Addr) (n c : Nat) (l : List UInt8) (hu : Up F w) (h : BkIs w F D s) (hn : n ≤ 140737488351232) (hr : Rd w w.heap.size A n l) (hs : s.out.length + 65537 ≤ 140737488355328) :
    Calls Try.prog 87 #[.pointer (some ⟨D, 0, none⟩), .slice A n c] w fun e w' => e = .returned (.tuple #[]) ∧ BkIs w' F D (s.bytes l) ∧ Keeps F w w' :=
  (Lay_any w F D s A n c l h hn hr hs).mono fun _ _ ⟨h1, h2, h3⟩ => ⟨h1, h2.weaken hu.grown, h3⟩
theorem RefInts_any (w : World) (F : Nat → Prop) (D : Nat) (s : WS) (A : Option Addr) (n c : Nat) (xs : List Int) (hu : Up F w) (h : BkIs w F D s) (hr : Reads w w.heap.size 1 A n (xs.map (Value.int .i64))) (hoff : ∀ ad, A = some ad → 0 < n → ¬ F ad.block) (hs : s.out.length + 4 * n + 4 ≤ 140737488355000) (hx : n ≤ 9223372036854775807) :
    Calls Try.prog 60 #[.pointer (some ⟨D, 0, none⟩), .slice A n c] w fun e w' => e = .returned (.tuple #[]) ∧ BkIs w' F D (s.list xs) ∧ Keeps F w w' := by
  have hln : xs.length = n := by have := hr.1; simpa using this
  have HLN := Lib.hid hln
  have hl2 := int_len s n
  clear hln
  go_enter Try.func60, Try.ntmps60
  go_wp2_with fail
  refine (Put_row w F D s [(n : Int)] hu h (by simp; omega) (by simp)).mono ?_
  rintro e w1 ⟨rfl, h1, hk1⟩
  go_wp2_with fail
  refine (Put_in w1 F D (s.int n) A n c xs (hu.keeps hk1) h1 (reads_off hr hk1 (Nat.le_refl _) hoff |>.more hk1.size) hoff (by omega) hx).mono ?_
  rintro e w2 ⟨rfl, h2, hk2⟩
  have H2 := Lib.hid h2; have HK2 := Lib.hid (hk1.trans hk2 (fun _ _ e => e))
  clear h2 hk2 hk1 h1 h hr
  go_wp2
  go_end0
  refine ⟨rfl, ?_, HK2.out⟩
  unfold WS.list
  rw [HLN.out]
  exact H2.out
theorem costH_mem (l : List HeadV) : ∀ (j : Nat) (hj : j < l.length), l[j].id.length ≤ costH l := by
  induction l with
  | nil => intro j hj; cases hj
  | cons x r ih =>
    intro j hj
    cases j with
    | zero => simp only [List.getElem_cons_zero, costH]; omega
    | succ j => simp only [List.getElem_cons_succ, costH]; have := ih j (by simpa using hj); omega
set_option maxRecDepth 100000 in
theorem RefHeads_any (w : World) (F : Nat → Prop) (D : Nat) (s : WS) (A : Option Addr) (c : Nat) (hs_ : List HeadV) (hu : Up F w) (h : BkIs w F D s) (hr : HeadsRd w w.heap.size A hs_) (hoff : ∀ ad, A = some ad → ad.block < w.heap.size → 0 < hs_.length → ¬ F ad.block) (hs : s.out.length + costH hs_ + 70000 ≤ 140737488355000) (hx : hs_.length ≤ 9223372036854775807) :
    Calls Try.prog 59 #[.pointer (some ⟨D, 0, none⟩), .slice A hs_.length c] w fun e w' => e = .returned (.tuple #[]) ∧ BkIs w' F D (s.heads hs_) ∧ Keeps F w w' := by
  go_enter Try.func59, Try.ntmps59
  go_wp2_with fail
  refine (Put_row w F D s [(hs_.length : Int)] hu h (by simp; omega) (by simp)).mono ?_
  rintro e w1 ⟨rfl, h1, hk1⟩
  have hl2 := int_len s hs_.length
  have h1' : BkIs w1 F D (s.int hs_.length) := h1
  generalize hs1 : s.int hs_.length = s1 at h1' hl2
  have HS1 := Lib.hid hs1; have H1 := Lib.hid h1'; have HK1 := Lib.hid hk1; have HU := Lib.hid hu; have HR := Lib.hid hr; have HOFF := Lib.hid hoff
  clear hs1 h1 h1' hk1 hu hr hoff h
  go_wp2_with fail
  go_loopw [4] (fun q wr => ∃ j : Nat, j ≤ hs_.length ∧ q = .int .i64 (j : Int) ∧ BkIs wr F D ((hs_.take j).foldl WS.head s1) ∧ Keeps F w wr) (fun q _ => hs_.length - (intOf q).toNat)
  case atStart => exact ⟨0, by omega, rfl, H1.out, HK1.out⟩
  case round =>
    obtain ⟨j, hj, rfl, hw, hk⟩ := hrel
    have HW := Lib.hid hw; have HK := Lib.hid hk
    clear hw hk
    by_cases hjn : j < hs_.length
    · have hjn' : (j : Int) < (hs_.length : Int) := by omega
      have hrr := HR.out.off HK.out (Nat.le_refl _) (fun ad e hB => HOFF.out ad e hB (by omega))
      obtain ⟨ad, rfl, hadB, hc⟩ := hrr (by omega)
      obtain ⟨c0, c1⟩ := hc j _ (List.getElem?_eq_getElem hjn)
      have hst := heads_snoc s1 hs_ j hjn
      have hlen := heads_len (hs_.take j) s1
      have hlen2 := costH_take hs_ j
      have hcj : ∃ x, x = hs_[j] := ⟨_, rfl⟩
      have hxl : hs_[j].id.length ≤ costH hs_ := costH_mem hs_ j hjn
      generalize hs_[j] = x at c0 c1 hst hxl
      have HST := Lib.hid hst
      clear hst hrr hc hcj
      go_wp2_with (refine wpList_bytes rfl 9 64 5 (.tmp 21) rfl x.id rfl Try.underlying9 Try.underlying64 Try.underlying5 ?_; intro cc W hbW hlW hrW)
      have hiW := HW.out.skip hbW
      have huW := (HU.out.keeps HK.out).off hbW
      refine (Lay_up W _ D _ _ _ cc x.id huW hiW (by omega) hrW (by omega)).mono ?_
      rintro e wy ⟨rfl, hy, hky⟩
      have hlen3 := bytes_len2 (List.foldl WS.head s1 (hs_.take j)) x.id
      have hky' := Keeps.off hbW hky
      have hnF : ¬ F ad.block := HOFF.out ad rfl hadB (by omega)
      have c1' : wy.cell? ⟨(ad.add (j * 2)).block, (ad.add (j * 2)).off + 1, none⟩ = some (.int .i64 x.size) := (World.cell?_of_block (a := ⟨(ad.add (j * 2)).block, (ad.add (j * 2)).off + 1, none⟩) (by show _ = wr.heap[(ad.add (j * 2)).block]?; rw [block_of_add]; exact hky'.block _ (Nat.lt_of_lt_of_le hadB HK.out.size) hnF)).trans c1
      have HY := Lib.hid (hy.weaken (G := F) (fun k e => e.1)); have HKY := Lib.hid (HK.out.trans hky' (fun _ _ e => e))
      clear hy hky hky' huW hbW hiW hlW hrW c0 c1 hnF
      go_wp2_with fail
      refine (Put_row wy F D _ [x.size] (HU.out.keeps HKY.out) HY.out (by simp; omega) (by simp)).mono ?_
      rintro e wz ⟨rfl, hz, hkz⟩
      have HZ := Lib.hid (show BkIs wz F D ((List.foldl WS.head s1 (hs_.take j)).head x) from hz); have HKZ := Lib.hid (HKY.out.trans hkz (fun _ _ e => e))
      clear hz hkz c1' hlen hlen2 hlen3
      go_wp2_with fail
      go_roundw
      case rel => exact ⟨j + 1, by omega, by go_num, by rw [← HST.out]; exact HZ.out, HKZ.out⟩
      case measure => simp [intOf]; omega
    · obtain rfl : j = hs_.length := by omega
      have h9 := HW.out
      rw [List.take_length] at h9
      have H9 := Lib.hid h9
      clear h9
      go_wp2
      go_end0
      refine ⟨rfl, ?_, HK.out⟩
      unfold WS.heads
      rw [HS1.out]
      exact H9.out
theorem heads_len2 (s : WS) (l : List HeadV) : (s.heads l).out.length ≤ s.out.length + (4 + costH l) := by
  have h1 := heads_len l (s.int l.length)
  have h2 := int_len s l.length
  unfold WS.heads
  omega
theorem BkIs.weaken' {w : World} {F G : Nat → Prop} {D : Nat} {s : WS} (h : BkIs w F D s) (hn : ∀ k, F k → G k) : BkIs w G D s := h.weaken hn
/-- What a message's bytes are, to the document. -/
def RefPost (w : World) (s : WS) (e : Ending) (w' : World) : Prop := ∃ v', e = .returned (.tuple #[v', .bool (!s.bad)]) ∧ Fresh w' w.heap.size v' s.out ∧ Below w.heap.size w w'
theorem Keeps.cell {F : Nat → Prop} {w w' : World} (hk : Keeps F w w') (p : Addr) (hb : p.block < w.heap.size) (hn : ¬ F p.block) : w'.cell? p = w.cell? p := World.cell?_of_block (hk.block _ hb hn)
theorem costO_mem (l : List ObjV) : ∀ (j : Nat) (hj : j < l.length), l[j].id.length + l[j].share.length + l[j].tag.length ≤ costO l := by
  induction l with
  | nil => intro j hj; cases hj
  | cons x r ih =>
    intro j hj
    cases j with
    | zero => simp only [List.getElem_cons_zero, costO]; omega
    | succ j => simp only [List.getElem_cons_succ, costO]; have := ih j (by simpa using hj); omega
set_option maxRecDepth 100000 in
set_option maxHeartbeats 4000000 in
theorem RefDir_any (w : World) (S : Nat → Prop) (k : BookV) (Ad Au Ac : Option Addr) (cd cu cc : Nat) (hr : BookRd w S k Ad Au Ac) (hS : ∀ k, S k → k < w.heap.size) (hs : k.cost ≤ 140737488000000) :
    Calls Try.prog 36 #[.agg (bookCells k Ad Au Ac cd cu cc)] w (RefPost w (WS.book ⟨[], false⟩ k)) := by
  go_enter Try.func36, Try.ntmps36
  go_upto_region 1 with (fail)
  have hb1 : Below w.heap.size w (w.alloc (.cells (bookCells k Ad Au Ac cd cu cc) 44)) := (Below.refl _ _).alloc (Nat.le_refl _) _
  have hM := Blk.new w 44 (bookCells k Ad Au Ac cd cu cc)
  have hr1 := hr.below hb1
  have hsz : (w.alloc (.cells (bookCells k Ad Au Ac cd cu cc) 44)).heap.size = w.heap.size + 1 := by simp
  obtain ⟨M, hMe⟩ : ∃ M, M = w.heap.size := ⟨_, rfl⟩
  rw [← hMe] at hM hsz ⊢
  generalize w.alloc (.cells (bookCells k Ad Au Ac cd cu cc) 44) = w1 at hb1 hM hr1 hsz ⊢
  have HME := Lib.hid hMe; clear hMe
  have HSZ := Lib.hid hsz; clear hsz
  go_upto_region 2 with (fail)
  have hb3 : Below w1.heap.size w1 (w1.alloc (.cells #[.slice none 0 0, .bool false] 92)) := (Below.refl _ _).alloc (Nat.le_refl _) _
  have hBK := Blk.new w1 92 #[.slice none 0 0, .bool false]
  have h3 : BkIs (w1.alloc (.cells #[.slice none 0 0, .bool false] 92)) (fun k => w1.heap.size ≤ k) w1.heap.size ⟨[], false⟩ :=
    ⟨.slice none 0 0, ⟨hBK, Own.nil_ _ _, fun _ e => by cases e⟩, Nat.le_refl _, fun _ e => by cases e⟩
  have hM3 := hM.alloc (.cells #[.slice none 0 0, .bool false] 92)
  have hr3 := hr1.below hb3
  have hb03 := hb1.trans (hb3.mono (by have := HME.out; have := HSZ.out; omega))
  have hu3 : Up (fun k => w1.heap.size ≤ k) (w1.alloc (.cells #[.slice none 0 0, .bool false] 92)) := fun k hk => by simp at hk; omega
  obtain ⟨D, hDe⟩ : ∃ D, D = w1.heap.size := ⟨_, rfl⟩
  rw [← hDe] at h3 hu3 ⊢
  generalize w1.alloc (.cells #[.slice none 0 0, .bool false] 92) = w3 at h3 hM3 hr3 hb03 hu3 ⊢
  obtain ⟨F, hF⟩ : ∃ F : Nat → Prop, F = fun k => D ≤ k := ⟨_, rfl⟩
  rw [← hF] at h3 hu3
  have hFM : ¬ F M := by rw [hF]; intro e; have := HSZ.out; omega
  have hFS : ∀ k, S k → ¬ F k := by rw [hF]; intro k hk e; have := hS k hk; have := HME.out; have := HSZ.out; omega
  have hFB' : ∀ k, F k → w.heap.size ≤ k := by rw [hF]; intro k e; have := HME.out; have := HSZ.out; omega
  have h3l : w.heap.size ≤ w3.heap.size := hb03.size
  have HS := Lib.hid hs
  unfold BookV.cost at hs
  have H3 := Lib.hid h3; have HU := Lib.hid hu3; have HM3 := Lib.hid hM3; have HR3 := Lib.hid hr3; have HB03 := Lib.hid hb03; have HFM := Lib.hid hFM; have HFS := Lib.hid hFS; have HFB' := Lib.hid hFB'
  have HK3 := Lib.hid (Keeps.refl F w3)
  clear h3 hu3 hM3 hr3 hb03 hFM hFS hFB' hF hDe hb3 hb1 hM hr1 hr hBK hS
  have hl3 : (⟨[], false⟩ : WS).out.length ≤ 0 := Nat.le_refl _
  obtain ⟨s3, hs3⟩ : ∃ ss, ss = (⟨[], false⟩ : WS) := ⟨_, rfl⟩
  rw [← hs3] at H3 hl3
  have HS3 := Lib.hid hs3
  clear hs3
  have m0 : w3.cell? ⟨M, 0, none⟩ = some (bookCells k Ad Au Ac cd cu cc)[0] := ((HM3.out.keeps HK3.out HFM.out).cell 0).trans rfl
  have m1 : w3.cell? ⟨M, 1, none⟩ = some (bookCells k Ad Au Ac cd cu cc)[1] := ((HM3.out.keeps HK3.out HFM.out).cell 1).trans rfl
  have m2 : w3.cell? ⟨M, 2, none⟩ = some (bookCells k Ad Au Ac cd cu cc)[2] := ((HM3.out.keeps HK3.out HFM.out).cell 2).trans rfl
  simp only [List.getElem_toArray, List.getElem_cons_succ, List.getElem_cons_zero] at m0 m1 m2
  go_wp2_with fail
  refine (Put_row w3 F D s3 [k.session, k.decided, k.epoch] (HU.out.keeps HK3.out) H3.out (by simp; omega) (by simp)).mono ?_
  rintro e w4 ⟨rfl, h4, hk4⟩
  have H4 := Lib.hid h4; have HK4 := Lib.hid (HK3.out.trans hk4 (fun _ _ e => e))
  clear h4 hk4 m0 m1 m2
  have hl4 : (s3.ints [k.session, k.decided, k.epoch]).out.length ≤ s3.out.length + 12 := ints_len [k.session, k.decided, k.epoch] s3
  obtain ⟨s4, hs4⟩ : ∃ ss, ss = (s3.ints [k.session, k.decided, k.epoch]) := ⟨_, rfl⟩
  have h4' : BkIs w4 F D s4 := by rw [hs4]; exact H4.out
  rw [← hs4] at hl4
  clear H4
  have H4 := Lib.hid h4'
  have HS4 := Lib.hid hs4
  clear hs4 h4'
  have m3 : w4.cell? ⟨M, 3, none⟩ = some (bookCells k Ad Au Ac cd cu cc)[3] := ((HM3.out.keeps HK4.out HFM.out).cell 3).trans rfl
  simp only [List.getElem_toArray, List.getElem_cons_succ, List.getElem_cons_zero] at m3
  go_wp2_with fail
  have hrr := HR3.out.off HK4.out HFS.out
  refine (RefHeads_any w4 F D s4 Ad cd k.dir (HU.out.keeps HK4.out) H4.out hrr.dir (fun ad e _ h0 => HFS.out _ (hrr.inS ad (Or.inl ⟨e, h0⟩))) (by omega) (by have := costH_ge k.dir; omega)).mono ?_
  clear hrr
  rintro e w5 ⟨rfl, h5, hk5⟩
  have H5 := Lib.hid h5; have HK5 := Lib.hid (HK4.out.trans hk5 (fun _ _ e => e))
  clear h5 hk5 m3
  have hl5 : (s4.heads k.dir).out.length ≤ s4.out.length + (4 + costH k.dir) := heads_len2 s4 k.dir
  obtain ⟨s5, hs5⟩ : ∃ ss, ss = (s4.heads k.dir) := ⟨_, rfl⟩
  have h5' : BkIs w5 F D s5 := by rw [hs5]; exact H5.out
  rw [← hs5] at hl5
  clear H5
  have H5 := Lib.hid h5'
  have HS5 := Lib.hid hs5
  clear hs5 h5'
  have m4 : w5.cell? ⟨M, 4, none⟩ = some (bookCells k Ad Au Ac cd cu cc)[4] := ((HM3.out.keeps HK5.out HFM.out).cell 4).trans rfl
  simp only [List.getElem_toArray, List.getElem_cons_succ, List.getElem_cons_zero] at m4
  go_wp2_with fail
  refine (Put_row w5 F D s5 [(k.up.length : Int)] (HU.out.keeps HK5.out) H5.out (by simp; omega) (by simp)).mono ?_
  rintro e w6 ⟨rfl, h6, hk6⟩
  have H6 := Lib.hid h6; have HK6 := Lib.hid (HK5.out.trans hk6 (fun _ _ e => e))
  clear h6 hk6 m4
  have hl6 : (s5.int k.up.length).out.length ≤ s5.out.length + 4 := int_len s5 _
  obtain ⟨s6, hs6⟩ : ∃ ss, ss = (s5.int k.up.length) := ⟨_, rfl⟩
  have h6' : BkIs w6 F D s6 := by rw [hs6]; exact H6.out
  rw [← hs6] at hl6
  clear H6
  have H6 := Lib.hid h6'
  have HS6 := Lib.hid hs6
  clear hs6 h6'
  go_wp2_with fail
  go_loopw [5, 6] (fun q _ wr => ∃ j : Nat, j ≤ k.up.length ∧ q = .int .i64 (j : Int) ∧ BkIs wr F D (s6.ints ((k.up.map flagI).take j)) ∧ Keeps F w3 wr) (fun q _ _ => k.up.length - (intOf q).toNat)
  case atStart => exact ⟨0, by omega, rfl, H6.out, HK6.out⟩
  case' round =>
    obtain ⟨j, hj, rfl, hw, hk⟩ := hrel
    have HW := Lib.hid hw; have HK := Lib.hid hk
    clear hw hk
    have m4 : wr.cell? ⟨M, 4, none⟩ = some (.slice Au k.up.length cu) := ((HM3.out.keeps HK.out HFM.out).cell 4).trans rfl
    by_cases hjn : j < k.up.length
    · have hjn' : (j : Int) < (k.up.length : Int) := by omega
      obtain ⟨ad, u, rfl, _, hx, hc⟩ := Reads.at_ (HR3.out.off HK.out HFS.out).up hjn
      rw [List.getElem?_map, List.getElem?_eq_getElem hjn] at hx
      simp only [Option.map_some, Option.some.injEq] at hx
      have hjl : j < (k.up.map flagI).length := by simpa using hjn
      have hst := ints_snoc s6 (k.up.map flagI) j hjl
      rw [List.getElem_map] at hst
      have hlen := ints_len ((k.up.map flagI).take j) s6
      rw [List.length_take, List.length_map] at hlen
      generalize k.up[j] = x at hx hst
      subst hx
      have HST := Lib.hid hst
      clear hst
      cases x
      · go_wp2_with fail
        refine (Put_row wr F D _ [(0 : Int)] (HU.out.keeps HK.out) HW.out (by simp; omega) (by simp)).mono ?_
        rintro e wy ⟨rfl, hy, hky⟩
        have HY := Lib.hid (show BkIs wy F D (s6.ints ((k.up.map flagI).take (j + 1))) by rw [← HST.out]; exact hy); have HKY := Lib.hid (HK.out.trans hky (fun _ _ e => e))
        clear hy hky hlen
        go_wp2_with fail
        go_roundw
        case rel => exact ⟨j + 1, by omega, by go_num, HY.out, HKY.out⟩
        case measure => simp [intOf]; omega
      · go_wp2_with fail
        refine (Put_row wr F D _ [(1 : Int)] (HU.out.keeps HK.out) HW.out (by simp; omega) (by simp)).mono ?_
        rintro e wy ⟨rfl, hy, hky⟩
        have HY := Lib.hid (show BkIs wy F D (s6.ints ((k.up.map flagI).take (j + 1))) by rw [← HST.out]; exact hy); have HKY := Lib.hid (HK.out.trans hky (fun _ _ e => e))
        clear hy hky hlen
        go_wp2_with fail
        go_roundw
        case rel => exact ⟨j + 1, by omega, by go_num, HY.out, HKY.out⟩
        case measure => simp [intOf]; omega
  obtain rfl : j = k.up.length := by omega
  have hw7 := HW.out
  rw [List.take_of_length_le (by simp)] at hw7
  have H7 := Lib.hid hw7
  have HK7 := Lib.hid HK.out
  obtain ⟨w7, hwr⟩ : ∃ wx, wx = wr := ⟨_, rfl⟩
  subst hwr
  clear hw7 HW HK hj hjn
  have hl7 : (s6.ints (k.up.map flagI)).out.length ≤ s6.out.length + 4 * k.up.length := (by have := ints_len (k.up.map flagI) s6; rwa [List.length_map] at this)
  obtain ⟨s7, hs7⟩ : ∃ ss, ss = (s6.ints (k.up.map flagI)) := ⟨_, rfl⟩
  have h7' : BkIs w7 F D s7 := by rw [hs7]; exact H7.out
  rw [← hs7] at hl7
  clear H7
  have H7 := Lib.hid h7'
  have HS7 := Lib.hid hs7
  clear hs7 h7'
  have m5 : w7.cell? ⟨M, 5, none⟩ = some (bookCells k Ad Au Ac cd cu cc)[5] := ((HM3.out.keeps HK7.out HFM.out).cell 5).trans rfl
  simp only [List.getElem_toArray, List.getElem_cons_succ, List.getElem_cons_zero] at m5 m4
  go_wp2_with fail
  have hrr := HR3.out.off HK7.out HFS.out
  refine (RefInts_any w7 F D s7 Ac _ cc k.commit (HU.out.keeps HK7.out) H7.out hrr.commit (fun ad e h0 => HFS.out _ (hrr.inS ad (Or.inr (Or.inr ⟨e, h0⟩)))) (by omega) (by omega)).mono ?_
  clear hrr
  rintro e w8 ⟨rfl, h8, hk8⟩
  have H8 := Lib.hid h8; have HK8 := Lib.hid (HK7.out.trans hk8 (fun _ _ e => e))
  clear h8 hk8 m5 m4
  have hl8 : (s7.list k.commit).out.length ≤ s7.out.length + (4 + 4 * k.commit.length) := wlist_len s7 k.commit
  obtain ⟨s8, hs8⟩ : ∃ ss, ss = (s7.list k.commit) := ⟨_, rfl⟩
  have h8' : BkIs w8 F D s8 := by rw [hs8]; exact H8.out
  rw [← hs8] at hl8
  clear H8
  have H8 := Lib.hid h8'
  have HS8 := Lib.hid hs8
  clear hs8 h8'
  obtain ⟨v, hv, hFD, hFv⟩ := H8.out
  have c0 := hv.c0
  have c1 := hv.c1
  have hms : s8 = WS.book ⟨[], false⟩ k := by
    rw [HS8.out, HS7.out, HS6.out, HS5.out, HS4.out, HS3.out]
    rfl
  have hbF := HB03.out.trans (HK8.out.below HFB'.out h3l)
  obtain ⟨Av, cv, rfl⟩ := hv.own.shape
  have hfr : Fresh w8.drew w.heap.size (.slice Av s8.out.length cv) s8.out := ⟨Av, cv, rfl, hv.own.rd.drew, fun ad e => by
    obtain ⟨_, _, _, hcap⟩ := hv.own.cap
    subst e
    exact HFB'.out _ (hFv _ (by obtain ⟨_, _, g, hg⟩ := hcap ad rfl; rw [hg]; rfl))⟩
  have hfin : RefPost w (WS.book ⟨[], false⟩ k) (.returned (.tuple #[.slice Av s8.out.length cv, .bool (!s8.bad)])) w8.drew := by
    rw [← hms]
    exact ⟨_, rfl, hfr, hbF.drew⟩
  have HFIN := Lib.hid hfin
  clear hv hbF hms hfr hfin
  go_wp2_with fail
  refine wp_region_q (by kernel_rfl) (by kernel_rfl) ?_
  repeat (first | go_big_quiet_skip | (go_big_quiet_want; go_big_quiet_op; first | go_big_quiet_on))
  refine wpQuiet_nil ?_
  go_wp2
  go_ret2
  exact HFIN.out
end Go.Proofs.Ytlabebapjhhkaaa
