/- Messages as data, what is written of them; a string's bytes; the pen's list of numbers walked. No conditions but sizes. -/
import Derived.Test.YtoekmgpnmhknoaaWord1
import Derived.Lib.ConvBytes
namespace Go.Proofs.Ytoekmgpnmhknoaa
open Go.RowKit
structure HeadV where
  id : List UInt8
  size : Int
structure MsgV where
  kind : Int
  from_ : Int
  to_ : Int
  session : Int
  decided : Int
  commit : Int
  epoch : Int
  heads : List HeadV
  id : List UInt8
  size : Int
  sort : Int
  target : Int
  dealers : List Int
  parts : List Int
  code : Int
  data : List UInt8
def WS.ints (s : WS) (l : List Int) : WS := l.foldl WS.int s
def WS.list (s : WS) (l : List Int) : WS := (s.int l.length).ints l
def WS.head (s : WS) (h : HeadV) : WS := (s.bytes h.id).int h.size
def WS.heads (s : WS) (l : List HeadV) : WS := l.foldl WS.head (s.int l.length)
def WS.msg (s : WS) (m : MsgV) : WS :=
  (((((((s.ints [m.kind, m.from_, m.to_, m.session, m.decided, m.commit, m.epoch]).heads m.heads).bytes m.id).ints [m.size, m.sort, m.target]).list m.dealers).list m.parts).int m.code).bytes m.data
theorem int_len (s : WS) (n : Int) : (s.int n).out.length ≤ s.out.length + 4 := by
  unfold WS.int
  split
  · have : (b4 (n + 2).toNat).length = 4 := rfl
    simp only [List.length_append, this]; omega
  · show s.out.length ≤ _; omega
theorem bytes_len (s : WS) (l : List UInt8) : (s.bytes l).out.length ≤ s.out.length + (2 + l.length) := by
  unfold WS.bytes
  split
  · simp [b2]; omega
  · show s.out.length ≤ _; omega
theorem bytes_len2 (s : WS) (l : List UInt8) : (s.bytes l).out.length ≤ s.out.length + 65537 := by
  unfold WS.bytes
  split
  · simp [b2]; omega
  · show s.out.length ≤ _; omega
theorem ints_len (l : List Int) : ∀ (s : WS), (s.ints l).out.length ≤ s.out.length + 4 * l.length := by
  induction l with
  | nil => intro s; exact Nat.le_refl _
  | cons x r ih =>
    intro s
    have h1 := ih (s.int x)
    have h2 := int_len s x
    show ((s.int x).ints r).out.length ≤ _
    simp only [List.length_cons]; omega
/-- What heads cost. -/
def costH : List HeadV → Nat
  | [] => 0
  | h :: r => 6 + h.id.length + costH r
theorem heads_len (l : List HeadV) : ∀ (s : WS), (l.foldl WS.head s).out.length ≤ s.out.length + costH l := by
  induction l with
  | nil => intro s; exact Nat.le_refl _
  | cons x r ih =>
    intro s
    have h1 := ih (s.head x)
    have h2 := int_len (s.bytes x.id) x.size
    have h3 := bytes_len s x.id
    rw [List.foldl_cons]
    unfold WS.head at h1 ⊢
    simp only [costH]; omega
theorem costH_take (l : List HeadV) : ∀ i, costH (l.take i) ≤ costH l := by
  induction l with
  | nil => intro i; simp [costH]
  | cons x r ih =>
    intro i
    cases i with
    | zero => simp [costH]
    | succ i => rw [List.take_succ_cons]; simp only [costH]; have := ih i; omega
def MsgV.cost (m : MsgV) : Nat := 60 + costH m.heads + m.id.length + 4 * m.dealers.length + 4 * m.parts.length + m.data.length
/-! What a call may touch: F holds all that is new. -/
def Up (F : Nat → Prop) (w : World) : Prop := ∀ k, w.heap.size ≤ k → F k
theorem Up.keeps {F G : Nat → Prop} {w w' : World} (h : Up F w) (hk : Keeps G w w') : Up F w' := fun k hk2 => h k (Nat.le_trans hk.size hk2)
theorem Up.below {F : Nat → Prop} {w w' : World} {B : Nat} (h : Up F w) (hk : Below B w w') : Up F w' := fun k hk2 => h k (Nat.le_trans hk.size hk2)
theorem Up.grown {F : Nat → Prop} {w : World} (h : Up F w) : ∀ k, Grown F w k → F k := fun k e => by
  rcases e with e | e
  · exact e
  · exact h k e
/-- All of F but what was made between two worlds. -/
def Off (F : Nat → Prop) (w w' : World) (k : Nat) : Prop := F k ∧ (k < w.heap.size ∨ w'.heap.size ≤ k)
theorem Up.off {F : Nat → Prop} {w w' : World} {B : Nat} (h : Up F w) (hb : Below B w w') : Up (Off F w w') w' := fun k hk => ⟨h k (Nat.le_trans hb.size hk), Or.inr hk⟩
theorem WrIs.skip {F : Nat → Prop} {w w' : World} {D : Nat} {s : WS} (h : WrIs w F D s) (hb : Below w.heap.size w w') : WrIs w' (Off F w w') D s := by
  have h' := h.below hb
  obtain ⟨v, h1, h2, h3⟩ := h
  obtain ⟨v', h1', h2', h3'⟩ := h'
  refine ⟨v, h1.keeps (Keeps.of_below (F := fun _ => False) hb) (fun e => e) (fun _ _ e => e), ⟨h2, Or.inl h1.cells.lt⟩, fun k hk => ⟨h3 k hk, Or.inl (h1.own.lt k hk).2⟩⟩
theorem Keeps.off {F : Nat → Prop} {w w' w'' : World} (hb : Below w.heap.size w w') (hk : Keeps (Off F w w') w' w'') : Keeps F w w'' :=
  (Keeps.of_below (F := F) hb).trans hk (fun _ _ e => e.1)
theorem WInt_up (w : World) (F : Nat → Prop) (D : Nat) (s : WS) (n : Int) (hu : Up F w) (h : WrIs w F D s) (hs : s.out.length + 4 ≤ 140737488355328) :
    Calls Try.prog 29 #[.pointer (some ⟨D, 0, none⟩), .int .i64 n] w fun e w' => e = .returned (.tuple #[]) ∧ WrIs w' F D (s.int n) ∧ Keeps F w w' :=
  (WInt_any w F D s n h hs).mono fun _ _ ⟨h1, h2, h3⟩ => ⟨h1, h2.weaken hu.grown, h3⟩
theorem WBytes_up (w : World) (F : Nat → Prop) (D : Nat) (s : WS) (A2 : Option Addr) (n c2 : Nat) (l : List UInt8) (hu : Up F w) (h : WrIs w F D s) (hr : Rd w w.heap.size A2 n l) (hoff : ∀ ad, A2 = some ad → 0 < n → ¬ F ad.block) (hs : s.out.length + 65537 ≤ 140737488355328) :
    Calls Try.prog 30 #[.pointer (some ⟨D, 0, none⟩), .slice A2 n c2] w fun e w' => e = .returned (.tuple #[]) ∧ WrIs w' F D (s.bytes l) ∧ Keeps F w w' :=
  (WBytes_any w F D s A2 n c2 l h (fun W hk => by
    refine ⟨hr.1, fun hn => ?_⟩
    obtain ⟨ad, e, hB, hc⟩ := hr.2 hn
    exact ⟨ad, e, hB, fun j u hu => (World.cell?_of_block (a := ad.add j) (by rw [block_of_add]; exact hk.block _ hB (hoff ad e hn))).trans (hc j u hu)⟩) hs).mono fun _ _ ⟨h1, h2, h3⟩ => ⟨h1, h2.weaken hu.grown, h3⟩
/-! A string's bytes. -/
theorem run_bytes_str {P : Program} (w : World) (s d e : TypeId) (l : List UInt8) {u : TypeDesc} (hs : P.underlying s = some u) (hd : P.underlying d = some (.slice e)) (he : P.underlying e = some (.int .u8)) :
    ∃ c W, (convert s d (.string ⟨l.toArray⟩)).run P w = .ok (.slice (some ⟨w.heap.size, 0, none⟩) l.length c) W ∧ Below w.heap.size w W ∧ w.heap.size < W.heap.size ∧ Rd W W.heap.size (some ⟨w.heap.size, 0, none⟩) l.length l := by
  have h := Lib.run_convert_string_bytes (P := P) w s d e ⟨l.toArray⟩ hs hd he
  refine ⟨_, _, h, ⟨rfl, rfl, rfl, by rw [Lib.bytesWorld_size]; omega, fun k hk => Lib.bytesWorld_at_old w e _ k hk⟩, by rw [Lib.bytesWorld_size]; omega, ⟨by simp, fun hn => ⟨_, rfl, by rw [Lib.bytesWorld_size]; exact Nat.lt_succ_self _, fun j u hu => ?_⟩⟩⟩
  have ha : (⟨w.heap.size, 0, none⟩ : Addr).add j = ⟨w.heap.size, j, none⟩ := by unfold Addr.add; split <;> simp_all
  have hj : j < l.length := by have := (List.getElem?_eq_some_iff.1 hu).1; simpa using this
  rw [ha, Lib.bytesWorld_cell w e ⟨l.toArray⟩ j hj]
  rw [List.getElem?_map, List.getElem?_eq_getElem hj] at hu
  simp only [Option.map_some, Option.some.injEq] at hu
  rw [← hu]
  simp [B8, List.getD_eq_getElem?_getD, List.getElem?_eq_getElem hj]
theorem wpList_bytes {P : Program} {ops : Array Oper} {Q : Exit → Act → World → Prop} {rest : List Oper} {o : Oper} {a : Act} {w : World} (hgd : o.guard = none) (s d e : TypeId) (x : Operand) (ho : o.op = .convert s d x) (l : List UInt8) (hx : a.eval x = .string ⟨l.toArray⟩) {u : TypeDesc} (hs : P.underlying s = some u) (hd : P.underlying d = some (.slice e)) (he : P.underlying e = some (.int .u8))
    (h : ∀ c W, Below w.heap.size w W → w.heap.size < W.heap.size → Rd W W.heap.size (some ⟨w.heap.size, 0, none⟩) l.length l → wpList P ops Q rest (a.put o.dst (.slice (some ⟨w.heap.size, 0, none⟩) l.length c)) W) : wpList P ops Q (o :: rest) a w := by
  obtain ⟨c, W, hr, h1, h2, h3⟩ := run_bytes_str (P := P) w s d e l hs hd he
  refine wpList_plain hgd fun K hK => ?_
  unfold Oper.wp execOp
  simp only [ho, hx, Sem.run_bind, hr, Result.andThen_ok, Sem.run_pure, Oper.upon]
  exact hK _ _ (h c W h1 h2 h3)
theorem reads_off {w w' : World} {F : Nat → Prop} {B n : Nat} {A : Option Addr} {xs : List Value} (h : Reads w B 1 A n xs) (hk : Keeps F w w') (hB : B ≤ w.heap.size) (hoff : ∀ ad, A = some ad → 0 < n → ¬ F ad.block) : Reads w' B 1 A n xs := by
  refine ⟨h.1, fun hn => ?_⟩
  obtain ⟨ad, e, hb, hc⟩ := h.2 hn
  exact ⟨ad, e, hb, fun j u hu => (World.cell?_of_block (a := ad.add j) (by rw [block_of_add]; exact hk.block _ (Nat.lt_of_lt_of_le hb hB) (hoff ad e hn))).trans (hc j u hu)⟩
theorem ints_snoc (s : WS) (l : List Int) (j : Nat) (hj : j < l.length) : (s.ints (l.take j)).int l[j] = s.ints (l.take (j + 1)) := by
  unfold WS.ints
  rw [List.take_succ_eq_append_getElem hj, List.foldl_append]
  rfl
set_option maxRecDepth 100000 in
theorem PenInts_any (w : World) (F : Nat → Prop) (D : Nat) (s : WS) (A : Option Addr) (n c : Nat) (ns : List Int) (hu : Up F w) (h : WrIs w F D s) (hn : n ≤ 9223372036854775807) (hr : Reads w w.heap.size 1 A n (ns.map (Value.int .i64))) (hoff : ∀ ad, A = some ad → 0 < n → ¬ F ad.block) (hs : s.out.length + 4 * n + 4 ≤ 140737488355328) :
    Calls Try.prog 31 #[.agg #[.pointer (some ⟨D, 0, none⟩)], .slice A n c] w fun e w' => e = .returned (.tuple #[]) ∧ WrIs w' F D (s.list ns) ∧ Keeps F w w' := by
  have hln : ns.length = n := by have := hr.1; simpa using this
  go_enter Try.func31, Try.ntmps31
  go_wp2_with fail
  have hb1 : Below w.heap.size w (w.alloc (.cells #[.pointer (some ⟨D, 0, none⟩)] 69)) := (Below.refl _ _).alloc (Nat.le_refl _) _
  have h1 := h.skip hb1
  have hu1 := hu.off hb1
  have hbx := Blk.new w 69 #[.pointer (some ⟨D, 0, none⟩)]
  have hr1 : Reads (w.alloc (.cells #[.pointer (some ⟨D, 0, none⟩)] 69)) w.heap.size 1 A n (ns.map (Value.int .i64)) := Reads.alloc hr (Nat.le_refl _) _
  have hsz : (w.alloc (.cells #[.pointer (some ⟨D, 0, none⟩)] 69)).heap.size = w.heap.size + 1 := by simp
  obtain ⟨b, hb⟩ : ∃ b, b = w.heap.size := ⟨_, rfl⟩
  rw [← hb] at hbx hsz ⊢
  obtain ⟨w1, hw1⟩ : ∃ w1, w1 = w.alloc (.cells #[.pointer (some ⟨D, 0, none⟩)] 69) := ⟨_, rfl⟩
  rw [← hw1] at h1 hu1 hbx hr1 hsz hb1 ⊢
  obtain ⟨G, hG⟩ : ∃ G, G = Off F w w1 := ⟨_, rfl⟩
  have hGb : ¬ G b := by rw [hG]; intro e; have := e.2; omega
  have hGF : ∀ k, G k → F k := fun k e => by rw [hG] at e; exact e.1
  rw [← hG] at h1 hu1
  have hfin : ∀ w2, Keeps G w1 w2 → Keeps F w w2 := fun w2 hk => by rw [hG] at hk; exact Keeps.off hb1 hk
  clear hw1 hG
  refine (WInt_up w1 G D s n hu1 h1 (by omega)).mono ?_
  rintro e w2 ⟨rfl, h2, hk2⟩
  have hbx2 := hbx.keeps hk2 hGb
  have hwl := hu1.keeps hk2
  have HU := Lib.hid hu; have HK2 := Lib.hid hk2; have HFIN := Lib.hid hfin; have HR1 := Lib.hid hr1; have HOFF := Lib.hid hoff; have HGF := Lib.hid hGF; have HGB := Lib.hid hGb; have HBX := Lib.hid hbx; have HU1 := Lib.hid hu1
  have p0 : w2.cell? ⟨b, 0, none⟩ = some (.pointer (some ⟨D, 0, none⟩)) := (hbx2.cell 0).trans rfl
  have H2 := Lib.hid h2; have HLN := Lib.hid hln; have HB := Lib.hid hb
  clear hu hk2 hfin hr hr1 hoff hGF hGb hbx hbx2 h h1 hu1 h2 hb1 hwl hln hb
  go_wp2_with fail
  go_loopw [13] (fun q wr => ∃ j : Nat, j ≤ n ∧ q = .int .i64 (j : Int) ∧ WrIs wr G D ((s.int n).ints (ns.take j)) ∧ Keeps G w1 wr) (fun q _ => n - (intOf q).toNat)
  case atStart => exact ⟨0, by omega, rfl, H2.out, HK2.out⟩
  case round =>
    obtain ⟨j, hj, rfl, hw, hk⟩ := hrel
    have HW := Lib.hid hw; have HK := Lib.hid hk
    clear hw hk p0
    by_cases hjn : j < n
    · have hjn' : (j : Int) < (n : Int) := by omega
      have hjl : j < ns.length := by rw [HLN.out]; exact hjn
      have hrr := reads_off HR1.out HK.out (by have := HB.out; omega) (fun ad e h0 => fun hg => HOFF.out ad e h0 (HGF.out _ hg))
      obtain ⟨ad, u, rfl, _, hx, hc⟩ := Reads.at_ hrr hjn
      rw [List.getElem?_map, List.getElem?_eq_getElem hjl] at hx
      simp only [Option.map_some, Option.some.injEq] at hx
      have hst := ints_snoc (s.int n) ns j hjl
      have hlen := ints_len (ns.take j) (s.int n)
      have hlen2 := int_len s n
      rw [List.length_take] at hlen
      generalize ns[j] = x at hx hst
      subst hx
      have HST := Lib.hid hst
      have p0 : wr.cell? ⟨b, 0, none⟩ = some (.pointer (some ⟨D, 0, none⟩)) := ((HBX.out.keeps HK.out HGB.out).cell 0).trans rfl
      clear hrr hst
      go_wp2_with fail
      refine (WInt_up wr G D _ x (HU1.out.keeps HK.out) HW.out (by omega)).mono ?_
      rintro e w3 ⟨rfl, h3, hk3⟩
      rw [HST.out] at h3
      have H3 := Lib.hid h3; have HK3 := Lib.hid (HK.out.trans hk3 (fun _ _ e => e))
      clear h3 hk3 hlen hlen2
      go_wp2_with fail
      go_roundw
      case rel => exact ⟨j + 1, by omega, by go_num, H3.out, HK3.out⟩
      case measure => simp [intOf]; omega
    · obtain rfl : j = n := by omega
      go_wp2
      go_end0
      refine ⟨rfl, ?_, HFIN.out _ HK.out⟩
      have h4 := HW.out.weaken HGF.out
      rw [List.take_of_length_le (by rw [HLN.out]; exact Nat.le_refl _)] at h4
      unfold WS.list
      rw [HLN.out]
      exact h4
end Go.Proofs.Ytoekmgpnmhknoaa
