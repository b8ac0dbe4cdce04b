/- The walk of wire's Decode. Condition: the bytes are no great number. Printed by mkdec.py. -/
import Derived.Test.YtoekmgpnmhknoaaWire4
namespace Go.Proofs.Ytoekmgpnmhknoaa
open Go.RowKit
def RS.msg (s : RS) (most : Nat) : MsgV × RS :=
  let a := s.ints 7
  let h := a.2.heads most
  let i := h.2.bytes
  let b := i.2.ints 3
  let d := b.2.list most
  let p := d.2.list most
  let c := p.2.int
  let x := c.2.bytes
  (⟨a.1.getD 0 0, a.1.getD 1 0, a.1.getD 2 0, a.1.getD 3 0, a.1.getD 4 0, a.1.getD 5 0, a.1.getD 6 0, h.1, i.1, b.1.getD 0 0, b.1.getD 1 0, b.1.getD 2 0, d.1, p.1, c.1, x.1⟩, x.2)
def MsgV.zero : MsgV := ⟨0, 0, 0, 0, 0, 0, 0, [], [], 0, 0, 0, [], [], 0, []⟩
def decode (b : List UInt8) : MsgV × Bool :=
  let r := (⟨b, false⟩ : RS).msg b.length
  if (r.2.bad = false ∧ r.2.left.length = 0) ∧ (WS.msg ⟨[], false⟩ r.1).bad = false ∧ (WS.msg ⟨[], false⟩ r.1).out = b then (r.1, true) else (MsgV.zero, false)
/-- What a decoding leaves. -/
def DecPost (w : World) (b : List UInt8) (e : Ending) (w' : World) : Prop := ∃ (Ah Ad Ap Ax : Option Addr) (ch cd cp cx : Nat),
  e = .returned (.tuple #[.agg (msgCells (decode b).1 Ah Ad Ap Ax ch cd cp cx), .bool (decode b).2]) ∧ MsgRd w' w'.heap.size (decode b).1 Ah Ad Ap Ax ∧
  (∀ ad, (Ah = some ad ∨ Ad = some ad ∨ Ap = some ad ∨ Ax = some ad) → w.heap.size ≤ ad.block) ∧ Below w.heap.size w w'
theorem row_set (pre suf : List Value) (xs : List Int) (x : Int) (j : Nat) (hx : xs.length = j) (hj : j < suf.length) :
    (pre ++ (xs.map (Value.int .i64) ++ suf.drop j)).set (pre.length + j) (.int .i64 x) = pre ++ ((xs ++ [x]).map (Value.int .i64) ++ suf.drop (j + 1)) := by
  rw [List.set_append_right _ _ (by omega), Nat.add_sub_cancel_left, List.set_append_right _ _ (by simp; omega)]
  congr 1
  rw [List.length_map, hx, Nat.sub_self, List.drop_eq_getElem_cons hj, List.set_cons_zero, List.map_append, List.append_assoc]
  rfl
theorem Blk.row_set {w : World} {N j : Nat} {t : TypeId} {pre suf : List Value} {xs : List Int} (h : Blk w N t (pre ++ (xs.map (Value.int .i64) ++ suf.drop j)).toArray) (x : Int) (hx : xs.length = j) (hj : j < suf.length) :
    Blk (w.setCell ⟨N, pre.length + j, none⟩ (.int .i64 x)) N t (pre ++ ((xs ++ [x]).map (Value.int .i64) ++ suf.drop (j + 1))).toArray := by
  have := h.set_ (pre.length + j) (.int .i64 x)
  rw [List.setIfInBounds_toArray, Go.Proofs.Ytoekmgpnmhknoaa.row_set pre suf xs x j hx hj] at this
  exact this
theorem ReIs.setCell {w : World} {F : Nat → Prop} {D : Nat} {s : RS} (h : ReIs w F D s) (p : Addr) (u : Value) (hp : ¬ F p.block) : ReIs (w.setCell p u) F D s :=
  h.keeps (G := fun k => k = p.block) ((Keeps.refl (fun k => k = p.block) w).setCell (p := p) rfl u) (fun _ e e2 => hp (e2 ▸ e))
/-- F, or the message. -/
def Or1 (F : Nat → Prop) (N : Nat) (k : Nat) : Prop := F k ∨ k = N
theorem seven {l : List Int} (h : l.length = 7) : l = [l.getD 0 0, l.getD 1 0, l.getD 2 0, l.getD 3 0, l.getD 4 0, l.getD 5 0, l.getD 6 0] := by
  match l, h with
  | [_, _, _, _, _, _, _], _ => rfl
theorem three {l : List Int} (h : l.length = 3) : l = [l.getD 0 0, l.getD 1 0, l.getD 2 0] := by
  match l, h with
  | [_, _, _], _ => rfl
theorem HeadsRd.setn {w : World} {B0 : Nat} {A : Option Addr} {hs : List HeadV} (h : HeadsRd w w.heap.size A hs) (N j : Nat) (hN : N < B0) (v : Value) (hnew : ∀ ad, A = some ad → B0 ≤ ad.block) (hsz : (w.setCell ⟨N, j, none⟩ v).heap.size = w.heap.size) : HeadsRd (w.setCell ⟨N, j, none⟩ v) (w.setCell ⟨N, j, none⟩ v).heap.size A hs := by
  rw [hsz]
  exact h.off (F := fun k => k = N) ((Keeps.refl (fun k => k = N) w).setCell (p := ⟨N, j, none⟩) rfl v) (Nat.le_refl _) (fun ad e _ e2 => by have := hnew ad e; omega)
theorem reads_setn {w : World} {B0 n : Nat} {A : Option Addr} {xs : List Value} (h : Reads w w.heap.size 1 A n xs) (N j : Nat) (hN : N < B0) (v : Value) (hnew : ∀ ad, A = some ad → B0 ≤ ad.block) (hsz : (w.setCell ⟨N, j, none⟩ v).heap.size = w.heap.size) : Reads (w.setCell ⟨N, j, none⟩ v) (w.setCell ⟨N, j, none⟩ v).heap.size 1 A n xs := by
  rw [hsz]
  exact reads_off2 h (F := fun k => k = N) ((Keeps.refl (fun k => k = N) w).setCell (p := ⟨N, j, none⟩) rfl v) (Nat.le_refl _) (fun ad e _ e2 => by have := hnew ad e; omega)
theorem rd_setn {w : World} {B0 n : Nat} {A : Option Addr} {l : List UInt8} (h : Rd w w.heap.size A n l) (N j : Nat) (hN : N < B0) (v : Value) (hnew : ∀ ad, A = some ad → B0 ≤ ad.block) (hsz : (w.setCell ⟨N, j, none⟩ v).heap.size = w.heap.size) : Rd (w.setCell ⟨N, j, none⟩ v) (w.setCell ⟨N, j, none⟩ v).heap.size A n l := by
  rw [hsz]
  exact rd_off h (F := fun k => k = N) ((Keeps.refl (fun k => k = N) w).setCell (p := ⟨N, j, none⟩) rfl v) (Nat.le_refl _) (fun ad e _ e2 => by have := hnew ad e; omega)
theorem HeadsRd.more {w : World} {B B' : Nat} {A : Option Addr} {hs : List HeadV} (h : HeadsRd w B A hs) (hB : B ≤ B') : HeadsRd w B' A hs := fun hn => by
  obtain ⟨ad, e, hb, hc⟩ := h hn
  exact ⟨ad, e, Nat.lt_of_lt_of_le hb hB, hc⟩
theorem MsgRd.more {w : World} {B B' : Nat} {m : MsgV} {Ah Ad Ap Ax : Option Addr} (h : MsgRd w B m Ah Ad Ap Ax) (hB : B ≤ B') : MsgRd w B' m Ah Ad Ap Ax := ⟨h.heads.more hB, h.dealers.more hB, h.parts.more hB, h.data.more hB⟩
theorem bytes_len1 (s : RS) : s.bytes.1.length ≤ 65535 := by
  unfold RS.bytes
  have h1 := (s.left.getD 0 0).toNat_lt
  have h2 := (s.left.getD 1 0).toNat_lt
  split
  · split
    · simp only [List.length_take]; omega
    · simp
  · simp
theorem list_len1 (s : RS) (n : Nat) : (s.list n).1.length ≤ n := by
  unfold RS.list
  split
  · simp
  · rw [ints_length]; omega
theorem heads_len1 (s : RS) (n : Nat) : (s.heads n).1.length ≤ n := by
  unfold RS.heads
  split
  · simp
  · rw [headsN_length]; omega
theorem headsN_cost (s : RS) (k : Nat) : costH (s.headsN k).1 ≤ 65541 * k := by
  have app : ∀ (a b : List HeadV), costH (a ++ b) = costH a + costH b := by
    intro a b
    induction a with
    | nil => simp [costH]
    | cons x r ih => simp only [List.cons_append, costH, ih]; omega
  induction k with
  | zero => unfold RS.headsN; exact Nat.le_refl _
  | succ k ih =>
    rw [RS.headsN.eq_def]
    dsimp only
    rw [app]
    have h1 := bytes_len1 (s.headsN k).2
    simp only [costH, RS.head]
    omega
theorem heads_cost1 (s : RS) (n : Nat) : costH (s.heads n).1 ≤ 65541 * (s.heads n).1.length := by
  unfold RS.heads
  split
  · simp [costH]
  · rw [headsN_length]; exact headsN_cost _ _
theorem wpList_store_row {P : Program} {ops : Array Oper} {rest : List Oper} {o : Oper} {a : Act} {w : World} {Q : Exit → Act → World → Prop} (hgd : o.guard = none) (ty : TypeId) (x y : Operand) (ho : o.op = .store ty x y)
    (g : Nat) (cells : Array Value) (hx : a.eval x = .pointer (some ⟨g, 0, none⟩)) (hy : a.eval y = .agg cells) (t : TypeId) (old : Array Value) (hg : w.heap[g]? = some (.cells old t (0, 0))) (hi : (P.info? ty).map (·.size) = some cells.size)
    (hold : old.size = cells.size) (h1 : cells.all (·.oneCell') = true) (h : wpList P ops Q rest (a.put o.dst undef) (w.setRow g cells)) : wpList P ops Q (o :: rest) a w :=
  wpList_plain hgd fun _ hK => wp_store_row ty x y ho g cells hx hy t old hg hi hold h1 (hK _ _ h)
abbrev zeroMsg : Array Value := #[.int .i64 0, .int .i64 0, .int .i64 0, .int .i64 0, .int .i64 0, .int .i64 0, .int .i64 0, .slice none 0 0, .string ⟨#[]⟩, .int .i64 0, .int .i64 0, .int .i64 0, .slice none 0 0, .slice none 0 0, .int .i64 0, .slice none 0 0]
theorem Rd.keeps_b {w w3 w11 w13 : World} {A : Option Addr} {n : Nat} {b : List UInt8} {G : Nat → Prop} (h : Rd w3 w.heap.size A n b) (hk : Keeps G w3 w11) (hb : Below w11.heap.size w11 w13) (hl : w.heap.size ≤ w3.heap.size) (hG : ∀ k, k < w.heap.size → ¬ G k) : Rd w13 w.heap.size A n b :=
  (rd_off h hk hl (fun _ _ e => hG _ e)).below (hb.mono (Nat.le_trans hl hk.size))
theorem dec_none {w w13 : World} {b : List UInt8} {R : Nat} {a : Act} (hR : Blk w13 R 31 zeroMsg) (hb : Below w.heap.size w w13) (hd : decode b = (MsgV.zero, false)) (hRw : w.heap.size ≤ R)
    (h2 : a.tmps.getD 2 undef = .pointer (some ⟨R, 0, none⟩)) (h3 : a.tmps.getD 3 undef = .bool false) (h0 : a.defers = []) : bodyPost Try.prog Try.f24 (DecPost w b) .ret a (w13.setRow R zeroMsg) := by
  have hR' := setRow_heap w13 R _ zeroMsg _ _ hR
  have hrow := run_loadVar_row (P := Try.prog) (w13.setRow R zeroMsg) R 31 31 zeroMsg (0, 0) _ hR' Try.underlying31 rfl (by kernel_rfl)
  refine bodyPost_ret (v := .tuple #[.agg zeroMsg, .bool false]) ?_ h0 ?_
  · rw [results_cell_tmp rfl, h2, h3]
    simp only [asAddr, Sem.run_pure, Result.andThen_ok, hrow]
  · refine ⟨none, none, none, none, 0, 0, 0, 0, by rw [hd]; rfl, by rw [hd]; exact ⟨fun h => by simp [MsgV.zero] at h, ⟨rfl, fun h => by simp [MsgV.zero] at h⟩, ⟨rfl, fun h => by simp [MsgV.zero] at h⟩, ⟨rfl, fun h => by simp [MsgV.zero] at h⟩⟩, (fun _ e => by rcases e with e | e | e | e <;> cases e), ?_⟩
    exact hb.trans (below_setRow (Below.refl _ _) hRw _)
theorem dec_some {w w13 : World} {b : List UInt8} {m : MsgV} {R : Nat} {a : Act} {old : Array Value} {Ah Ad Ap Ax : Option Addr} {ch cd cp cx : Nat} (hR : Blk w13 R 31 old) (hb : Below w.heap.size w w13) (hd : decode b = (m, true)) (hRw : w.heap.size ≤ R)
    (hMR : MsgRd w13 w13.heap.size m Ah Ad Ap Ax) (hfr : ∀ ad, (Ah = some ad ∨ Ad = some ad ∨ Ap = some ad ∨ Ax = some ad) → R < ad.block) (cs : Array Value) (hcs : cs = msgCells m Ah Ad Ap Ax ch cd cp cx)
    (h2 : a.tmps.getD 2 undef = .pointer (some ⟨R, 0, none⟩)) (h3 : a.tmps.getD 3 undef = .bool true) (h0 : a.defers = []) : bodyPost Try.prog Try.f24 (DecPost w b) .ret a (w13.setRow R cs) := by
  have hR' := setRow_heap w13 R _ cs _ _ hR
  have hcz : cs.size = 16 := by rw [hcs]; rfl
  have hrow := run_loadVar_row (P := Try.prog) (w13.setRow R cs) R 31 31 cs (0, 0) _ hR' Try.underlying31 rfl (by rw [hcz]; kernel_rfl)
  have hk : Keeps (fun k => k = R) w13 (w13.setRow R cs) := ⟨rfl, rfl, rfl, by simp, fun k _ hn => setRow_other w13 R k cs hn⟩
  have hsz : (w13.setRow R cs).heap.size = w13.heap.size := by simp
  refine bodyPost_ret (v := .tuple #[.agg cs, .bool true]) ?_ h0 ?_
  · rw [results_cell_tmp rfl, h2, h3]
    simp only [asAddr, Sem.run_pure, Result.andThen_ok, hrow]
  · refine ⟨Ah, Ad, Ap, Ax, ch, cd, cp, cx, by rw [hd, hcs], ?_, fun ad e => by have := hfr ad e; omega, hb.trans (below_setRow (Below.refl _ _) hRw _)⟩
    rw [hd, hsz]
    exact ⟨hMR.heads.off hk (Nat.le_refl _) (fun ad e _ e2 => by have := hfr ad (Or.inl e); omega), reads_off2 hMR.dealers hk (Nat.le_refl _) (fun ad e _ e2 => by have := hfr ad (Or.inr (Or.inl e)); omega),
      reads_off2 hMR.parts hk (Nat.le_refl _) (fun ad e _ e2 => by have := hfr ad (Or.inr (Or.inr (Or.inl e))); omega), rd_off hMR.data hk (Nat.le_refl _) (fun ad e _ e2 => by have := hfr ad (Or.inr (Or.inr (Or.inr e))); omega)⟩
set_option maxRecDepth 100000 in
set_option maxHeartbeats 4000000 in
theorem Decode_any (w : World) (A : Option Addr) (n c : Nat) (b : List UInt8) (hn : n ≤ 67108864) (hr : Rd w w.heap.size A n b) :
    Calls Try.prog 24 #[.slice A n c] w (DecPost w b) := by
  have hbl := hr.len
  go_enter Try.func24, Try.ntmps24
  have hb1 : Below w.heap.size w (w.alloc (.cells zeroMsg 31)) := (Below.refl _ _).alloc (Nat.le_refl _) _
  have hR := Blk.new w 31 zeroMsg
  have hr1 := hr.below hb1
  have hsz : (w.alloc (.cells zeroMsg 31)).heap.size = w.heap.size + 1 := by simp
  have HSZ := Lib.hid hsz; have HBL := Lib.hid hbl
  clear hsz hbl
  go_upto_region 1 with (fail)
  obtain ⟨R, hRe⟩ : ∃ R, R = w.heap.size := ⟨_, rfl⟩
  rw [← hRe] at hR HSZ ⊢
  generalize w.alloc (.cells zeroMsg 31) = w1 at hb1 hR hr1 HSZ ⊢
  have HRE := Lib.hid hRe; clear hRe
  go_wp2_with fail
  refine (Read_any A n c w1 b (by omega) (hr1.more hb1.size)).mono ?_
  rintro e w2 ⟨D, rfl, h2, hb2⟩
  have hR2 := hR.below hb2 (by have := HSZ.out; omega)
  have hb02 := hb1.trans (hb2.mono hb1.size)
  have hr2 := hr1.below (hb2.mono hb1.size)
  have H2 := Lib.hid h2; have HB2 := Lib.hid hb2; have HR2 := Lib.hid hR2; have HB02 := Lib.hid hb02; have HRD2 := Lib.hid hr2
  clear h2 hb2 hR2 hb02 hr2 hR hr1 hb1 hr
  go_upto_region 3 with (fail)
  have hbE : Below w2.heap.size w2 ((w2.alloc (.cells #[.pointer (some ⟨D, 0, none⟩), .int .i64 (n : Int)] 75)).alloc (.cells zeroMsg 31)) := ((Below.refl _ _).alloc (Nat.le_refl _) _).alloc (by simp) _
  have hE := (Blk.new w2 75 #[.pointer (some ⟨D, 0, none⟩), .int .i64 (n : Int)]).alloc (.cells zeroMsg 31)
  have hN := Blk.new' (w := w2.alloc (.cells #[.pointer (some ⟨D, 0, none⟩), .int .i64 (n : Int)] 75)) (g := w2.heap.size + 1) (t := 31) (cs := zeroMsg) (by simp)
  have h3 := H2.out.skip hbE
  have hu3 : Up (Off (fun k => w1.heap.size ≤ k) w2 _) _ := Up.off (fun k hk => Nat.le_trans HB2.out.size hk) hbE
  have hR3 := HR2.out.below hbE HR2.out.lt
  have hb03 := HB02.out.trans (hbE.mono HB02.out.size)
  have hrd3 := HRD2.out.below (hbE.mono HB02.out.size)
  have hsz3 : ((w2.alloc (.cells #[.pointer (some ⟨D, 0, none⟩), .int .i64 (n : Int)] 75)).alloc (.cells zeroMsg 31)).heap.size = w2.heap.size + 2 := by simp
  have hRl := HR2.out.lt
  have h12 := HB2.out.size
  obtain ⟨E, hEe⟩ : ∃ E, E = w2.heap.size := ⟨_, rfl⟩
  rw [← hEe] at hE hN hsz3 hRl h12 ⊢
  obtain ⟨N, hNe⟩ : ∃ N, N = E + 1 := ⟨_, rfl⟩
  rw [← hNe] at hN ⊢
  obtain ⟨w3, hw3⟩ : ∃ w3, w3 = (w2.alloc (.cells #[.pointer (some ⟨D, 0, none⟩), .int .i64 (n : Int)] 75)).alloc (.cells zeroMsg 31) := ⟨_, rfl⟩
  rw [← hw3] at h3 hu3 hbE hE hN hR3 hb03 hrd3 hsz3 ⊢
  obtain ⟨F, hF⟩ : ∃ F, F = Off (fun k => w1.heap.size ≤ k) w2 w3 := ⟨_, rfl⟩
  have hFE : ¬ F E := by rw [hF]; intro e; have := e.2; omega
  have hFN : ¬ F N := by rw [hF]; intro e; have := e.2; omega
  have hFR : ¬ F R := by rw [hF]; intro e; have := e.1; have := HSZ.out; omega
  have hFB : ∀ k, k < w.heap.size → ¬ F k := by rw [hF]; intro k hk e; have := e.1; have := HRE.out; have := HSZ.out; omega
  have hFB' : ∀ k, F k → w.heap.size ≤ k := by rw [hF]; intro k e; have := e.1; have := HRE.out; have := HSZ.out; omega
  rw [← hF] at h3 hu3
  have h3l : w.heap.size ≤ w3.heap.size := hb03.size
  have hEN : E ≠ N := by omega
  have hRN : R ≠ N := by omega
  have hNB : w.heap.size ≤ N := by have := HRE.out; omega
  have hN3 : N < w3.heap.size := hN.lt
  have hR3l : R < w3.heap.size := hR3.lt
  have H3 := Lib.hid h3; have HU := Lib.hid hu3; have HE3 := Lib.hid hE; have HN3 := Lib.hid hN; have HR3 := Lib.hid hR3; have HB03 := Lib.hid hb03; have HRD3 := Lib.hid hrd3; have HFE := Lib.hid hFE; have HFN := Lib.hid hFN; have HFR := Lib.hid hFR; have HFB := Lib.hid hFB; have HFB' := Lib.hid hFB'
  have HK3 := Lib.hid (Keeps.refl (Or1 F N) w3)
  clear h3 hu3 hE hN hR3 hb03 hrd3 hFE hFN hFR hFB hFB' hF hw3 hEe hNe hsz3 hbE H2 HB2 HR2 HB02 HRD2 hRl h12
  obtain ⟨s3, hs3⟩ : ∃ x, x = (⟨b, false⟩ : RS) := ⟨_, rfl⟩
  rw [← hs3] at H3
  have HS3 := Lib.hid hs3
  clear hs3

  obtain ⟨F3, hF3⟩ : ∃ X, X = F := ⟨_, rfl⟩
  have HF3 : Hid (∀ k, F3 k → F k) := Lib.hid (by rw [hF3]; exact fun _ e => e)
  have HU3 := HU
  rw [← hF3] at HU3 H3
  clear hF3
  have hR := Blk.new w3 76 #[.pointer (some ⟨N, 0, none⟩), .pointer (some ⟨N, 1, none⟩), .pointer (some ⟨N, 2, none⟩), .pointer (some ⟨N, 3, none⟩), .pointer (some ⟨N, 4, none⟩), .pointer (some ⟨N, 5, none⟩), .pointer (some ⟨N, 6, none⟩)]
  have hbR : Below w3.heap.size w3 (w3.alloc (.cells #[.pointer (some ⟨N, 0, none⟩), .pointer (some ⟨N, 1, none⟩), .pointer (some ⟨N, 2, none⟩), .pointer (some ⟨N, 3, none⟩), .pointer (some ⟨N, 4, none⟩), .pointer (some ⟨N, 5, none⟩), .pointer (some ⟨N, 6, none⟩)] 76)) := (Below.refl _ _).alloc (Nat.le_refl _) _
  have hi := H3.out.skip hbR
  have hui := (HU3.out).off hbR
  have hszR : (w3.alloc (.cells #[.pointer (some ⟨N, 0, none⟩), .pointer (some ⟨N, 1, none⟩), .pointer (some ⟨N, 2, none⟩), .pointer (some ⟨N, 3, none⟩), .pointer (some ⟨N, 4, none⟩), .pointer (some ⟨N, 5, none⟩), .pointer (some ⟨N, 6, none⟩)] 76)).heap.size = w3.heap.size + 1 := by simp
  have hnn := HN3.out.alloc (.cells #[.pointer (some ⟨N, 0, none⟩), .pointer (some ⟨N, 1, none⟩), .pointer (some ⟨N, 2, none⟩), .pointer (some ⟨N, 3, none⟩), .pointer (some ⟨N, 4, none⟩), .pointer (some ⟨N, 5, none⟩), .pointer (some ⟨N, 6, none⟩)] 76)
  have hNl : N < w3.heap.size := HN3.out.lt
  have HR := Lib.hid hR; have HBR := Lib.hid hbR; have HI := Lib.hid hi; have HSZR := Lib.hid hszR; have HNN := Lib.hid hnn
  clear hR hbR hi hui hszR hnn
  go_wp2_with fail
  obtain ⟨Q, hQe⟩ : ∃ Q, Q = w3.heap.size := ⟨_, rfl⟩
  rw [← hQe] at HR HSZR hNl ⊢
  obtain ⟨wR, hwR⟩ : ∃ wR, wR = w3.alloc (.cells #[.pointer (some ⟨N, 0, none⟩), .pointer (some ⟨N, 1, none⟩), .pointer (some ⟨N, 2, none⟩), .pointer (some ⟨N, 3, none⟩), .pointer (some ⟨N, 4, none⟩), .pointer (some ⟨N, 5, none⟩), .pointer (some ⟨N, 6, none⟩)] 76) := ⟨_, rfl⟩
  rw [← hwR] at HR HBR HI HSZR HNN ⊢
  obtain ⟨G, hG⟩ : ∃ G, G = Off F3 w3 wR := ⟨_, rfl⟩
  have hGQ : ¬ G Q := by rw [hG]; intro e; have := e.2; have := HSZR.out; omega
  rw [← hG] at HI
  have hGF : ∀ k, G k → F3 k := by rw [hG]; exact fun k e => e.1
  have hfin : ∀ wx, Keeps (Or1 G N) wR wx → Keeps (Or1 F N) w3 wx := fun wx hk => HK3.out.trans ((Keeps.of_below (F := Or1 F N) HBR.out).trans hk (fun _ _ e => by
    rcases e with e | e
    · exact Or.inl (HF3.out _ (hGF _ e))
    · exact Or.inr e)) (fun _ _ e => e)
  have hGN : ¬ G N := fun e => HFN.out (HF3.out _ (hGF _ e))
  have hQN : Q ≠ N := by omega
  have HGQ := Lib.hid hGQ; have HGF := Lib.hid hGF; have HFIN := Lib.hid hfin; have HGN := Lib.hid hGN; have HQE := Lib.hid hQe
  clear hGQ hGF hfin hG hwR hQe hGN
  obtain ⟨pre, hpre⟩ : ∃ l : List Value, l = [] := ⟨_, rfl⟩
  obtain ⟨suf, hsuf⟩ : ∃ l : List Value, l = [.int .i64 0, .int .i64 0, .int .i64 0, .int .i64 0, .int .i64 0, .int .i64 0, .int .i64 0, .slice none 0 0, .string ⟨#[]⟩, .int .i64 0, .int .i64 0, .int .i64 0, .slice none 0 0, .slice none 0 0, .int .i64 0, .slice none 0 0] := ⟨_, rfl⟩
  have hpl : pre.length = 0 := by rw [hpre]; rfl
  have hsl : 7 ≤ suf.length := by rw [hsuf]; decide
  have hn0 : Blk wR N 31 (pre ++ (([] : List Int).map (Value.int .i64) ++ suf.drop 0)).toArray := by rw [hpre, hsuf]; exact HNN.out
  have h00 : s3.ints 0 = ([], s3) := by unfold RS.ints; rfl
  have HPRE := Lib.hid hpre; have HSUF := Lib.hid hsuf; have HN0 := Lib.hid hn0; have HPL := Lib.hid hpl; have HSL := Lib.hid hsl; have H00 := Lib.hid h00
  clear hpre hsuf hn0 hpl hsl h00
  go_loopw [26] (fun q wr => ∃ j : Nat, j ≤ 7 ∧ q = .int .i64 (j : Int) ∧ ReIs wr G D (s3.ints j).2 ∧ Keeps (Or1 G N) wR wr ∧ Blk wr N 31 (pre ++ ((s3.ints j).1.map (Value.int .i64) ++ suf.drop j)).toArray) (fun q _ => 7 - (intOf q).toNat)
  case atStart => exact ⟨0, by omega, rfl, by rw [H00.out]; exact HI.out, Keeps.refl _ _, by rw [H00.out]; exact HN0.out⟩
  case' round =>
    obtain ⟨j, hj, rfl, hw, hk, hnb⟩ := hrel
    have HW := Lib.hid hw; have HK := Lib.hid hk; have HNB := Lib.hid hnb
    clear hw hk hnb
    by_cases hjn : j < 7
    · have hjn' : (j : Int) < (7 : Int) := by omega
      have hQr := HR.out.keeps HK.out (fun e => by rcases e with e | e; exact HGQ.out e; exact hQN e)
      have hQc : wr.cell? ⟨Q, j, none⟩ = some (.pointer (some ⟨N, pre.length + j, none⟩)) := by
        rw [hQr.cell j, HPL.out]
        clear hjn'
        match j, hjn with
        | 0, _ => rfl
        | 1, _ => rfl
        | 2, _ => rfl
        | 3, _ => rfl
        | 4, _ => rfl
        | 5, _ => rfl
        | 6, _ => rfl
      have p0 : wr.cell? ⟨E, 0, none⟩ = some (.pointer (some ⟨D, 0, none⟩)) := ((HE3.out.keeps (HFIN.out _ HK.out) (fun e => by rcases e with e | e; exact HFE.out e; exact hEN e)).cell 0).trans rfl
      have hst : (s3.ints (j + 1)).1 = (s3.ints j).1 ++ [(s3.ints j).2.int.1] ∧ (s3.ints (j + 1)).2 = (s3.ints j).2.int.2 := by
        rw [RS.ints.eq_def]; exact ⟨rfl, rfl⟩
      have hxl := ints_length s3 j
      have HST := Lib.hid hst; have HXL := Lib.hid hxl
      clear hst hQr hxl
      go_wp2_with fail
      refine (RInt_any wr G D _ HW.out).mono ?_
      rintro e wy ⟨rfl, hy, hky⟩
      have hnb := HNB.out.keeps hky HGN.out
      have hst := HST.out
      generalize (s3.ints j).2.int.1 = x at hst ⊢
      generalize (s3.ints j).2.int.2 = s_ at hst hy
      have hjs : j < suf.length := Nat.lt_of_lt_of_le hjn HSL.out
      have hold : wy.cell? ⟨N, pre.length + j, none⟩ = some suf[j] := by
        rw [hnb.cell, List.getElem?_toArray, List.getElem?_append_right (by omega), Nat.add_sub_cancel_left, List.getElem?_append_right (by rw [List.length_map, HXL.out]; exact Nat.le_refl _), List.length_map, HXL.out, Nat.sub_self, List.getElem?_drop, Nat.add_zero, List.getElem?_eq_getElem hjs]
      have hfz : wy.frozen? ⟨N, pre.length + j, none⟩ = false := hnb.frozen _
      have hone : ∃ v0, suf[j] = v0 := ⟨_, rfl⟩
      have hnx := hnb.row_set x HXL.out hjs
      have hyx := hy.setCell ⟨N, pre.length + j, none⟩ (.int .i64 x) HGN.out
      have hkx : Keeps (Or1 G N) wR (wy.setCell ⟨N, pre.length + j, none⟩ (.int .i64 x)) := (HK.out.trans (hky.weaken (F' := Or1 G N) (fun _ _ e => Or.inl e)) (fun _ _ e => e)).setCell (p := ⟨N, pre.length + j, none⟩) (Or.inr rfl) _
      rw [← hst.1] at hnx
      rw [← hst.2] at hyx
      have HNX := Lib.hid hnx; have HYX := Lib.hid hyx; have HKX := Lib.hid hkx
      generalize suf[j] = v0 at hold
      clear HST hst hnb hy hky hnx hyx hkx hone hjs p0
      go_wp2_with fail
      go_roundw
      case rel => exact ⟨j + 1, by omega, by go_num, HYX.out, HKX.out, HNX.out⟩
      case measure => simp [intOf]; omega
  obtain rfl : j = 7 := by omega

  have hxl := ints_length s3 7
  obtain ⟨L4, hL4⟩ : ∃ x, x = (s3.ints 7).1 := ⟨_, rfl⟩
  obtain ⟨s4, hs4⟩ : ∃ x, x = (s3.ints 7).2 := ⟨_, rfl⟩
  rw [← hL4] at hxl
  have hnb := HNB.out
  rw [← hL4] at hnb
  have hw := HW.out
  rw [← hs4] at hw
  have hlit := seven hxl
  have HN4 : Hid (Blk wr N 31 #[(.int .i64 (L4.getD 0 0)), (.int .i64 (L4.getD 1 0)), (.int .i64 (L4.getD 2 0)), (.int .i64 (L4.getD 3 0)), (.int .i64 (L4.getD 4 0)), (.int .i64 (L4.getD 5 0)), (.int .i64 (L4.getD 6 0)), .slice none 0 0, .string ⟨#[]⟩, .int .i64 0, .int .i64 0, .int .i64 0, .slice none 0 0, .slice none 0 0, .int .i64 0, .slice none 0 0]) := Lib.hid (by rw [HPRE.out, HSUF.out, hlit] at hnb; exact hnb)
  have H4 := Lib.hid (hw.weaken HGF.out)
  have HK4 := Lib.hid (HFIN.out _ HK.out)
  have HL4 := Lib.hid hL4; have HS4 := Lib.hid hs4
  have HU4 := Lib.hid (HU3.out.keeps ((Keeps.of_below (F := Or1 F3 N) HBR.out).trans HK.out (fun _ _ e => by rcases e with e | e; exact Or.inl (HGF.out _ e); exact Or.inr e)))
  have hst0 : Keeps (Or1 F3 N) w3 wr := (Keeps.of_below (F := Or1 F3 N) HBR.out).trans HK.out (fun _ _ e => by rcases e with e | e; exact Or.inl (HGF.out _ e); exact Or.inr e)
  obtain ⟨w4, hwr⟩ : ∃ wx, wx = wr := ⟨_, rfl⟩
  subst hwr
  obtain ⟨F4, hF4⟩ : ∃ X, X = F3 := ⟨_, rfl⟩
  have HF4 : Hid (∀ k, F4 k → F k) := Lib.hid (by rw [hF4]; exact HF3.out)
  rw [← hF4] at H4 HU4
  have hstep4 : Keeps (Or1 F3 N) w3 w4 := hst0
  clear hxl hL4 hs4 hnb hw hlit HNB HW HK HPRE HSUF HN0 HPL HSL H00 HGF HFIN HGN HGQ HQE HR HBR HI HSZR HNN hst0 hstep4 hF4 hj hjn hQN hNl

  have p0 : w4.cell? ⟨E, 0, none⟩ = some (.pointer (some ⟨D, 0, none⟩)) := ((HE3.out.keeps HK4.out (fun e => by rcases e with e | e; exact HFE.out e; exact hEN e)).cell 0).trans rfl
  have p1 : w4.cell? ⟨E, 1, none⟩ = some (.int .i64 (n : Int)) := ((HE3.out.keeps HK4.out (fun e => by rcases e with e | e; exact HFE.out e; exact hEN e)).cell 1).trans rfl
  go_wp2_with fail
  refine (EyeHeads_any w4 F4 D s4 n HU4.out H4.out hn).mono ?_
  rintro e wy ⟨vy, rfl, ⟨Ah, ch, rfl, hrd, hnew⟩, hre, hky, hlt⟩
  obtain ⟨s5, hs5⟩ : ∃ x, x = (s4.heads n).2 := ⟨_, rfl⟩
  obtain ⟨Lh, hLh⟩ : ∃ x, x = (s4.heads n).1 := ⟨_, rfl⟩
  rw [← hs5] at hre
  rw [← hLh] at hrd ⊢
  rw [← hLh] at hre hlt
  have HS5 := Lib.hid hs5; have HLh := Lib.hid hLh
  obtain ⟨F5, hF5⟩ : ∃ X, X = Ex F4 (.slice Ah Lh.length ch) := ⟨_, rfl⟩
  rw [← hF5] at hre
  have hNi : N < w4.heap.size := HN4.out.lt
  have hny := HN4.out.keeps hky (fun e => HFN.out (HF4.out _ e))
  have hold : wy.cell? ⟨N, 7, none⟩ = some (.slice none 0 0) := (hny.cell 7).trans rfl
  have hfz : wy.frozen? ⟨N, 7, none⟩ = false := hny.frozen _
  have HNY := Lib.hid hny; have HRE := Lib.hid hre; have HKY := Lib.hid hky; have HLT := Lib.hid hlt; have HRD := Lib.hid hrd; have HNEW := Lib.hid hnew; have HFK := Lib.hid hF5
  clear hs5 hLh hny hre hky hlt hrd hnew hF5 p0 p1
  go_upto_region 9 with (fail)
  have H5 := Lib.hid (HRE.out.setCell ⟨N, 7, none⟩ (.slice Ah Lh.length ch) (fun e => HFN.out (HF4.out _ (by have h9 := HFK.out; rw [h9] at e; exact e.1))))
  have HN5 : Hid (Blk (wy.setCell ⟨N, 7, none⟩ (.slice Ah Lh.length ch)) N 31 #[(.int .i64 (L4.getD 0 0)), (.int .i64 (L4.getD 1 0)), (.int .i64 (L4.getD 2 0)), (.int .i64 (L4.getD 3 0)), (.int .i64 (L4.getD 4 0)), (.int .i64 (L4.getD 5 0)), (.int .i64 (L4.getD 6 0)), (.slice Ah Lh.length ch), .string ⟨#[]⟩, .int .i64 0, .int .i64 0, .int .i64 0, .slice none 0 0, .slice none 0 0, .int .i64 0, .slice none 0 0]) := Lib.hid (HNY.out.set_ 7 (.slice Ah Lh.length ch))
  have HSTEP : Hid (Keeps (Or1 F4 N) w4 (wy.setCell ⟨N, 7, none⟩ (.slice Ah Lh.length ch))) := Lib.hid ((HKY.out.weaken (F' := Or1 F4 N) (fun _ _ e => Or.inl e)).setCell (p := ⟨N, 7, none⟩) (Or.inr rfl) _)
  have hszy : (wy.setCell ⟨N, 7, none⟩ (.slice Ah Lh.length ch)).heap.size = wy.heap.size := by simp [World.setCell]
  have HRDK := Lib.hid (HRD.out.setn N 7 (by omega) _ HNEW.out hszy)
  obtain ⟨w5, hwk⟩ : ∃ X, X = wy.setCell ⟨N, 7, none⟩ (.slice Ah Lh.length ch) := ⟨_, rfl⟩
  rw [← hwk] at H5 HN5 HSTEP hszy HRDK ⊢
  have HK5 := Lib.hid (HK4.out.trans HSTEP.out (fun _ _ e => by rcases e with e | e; exact Or.inl (HF4.out _ e); exact Or.inr e))
  have HF5 : Hid (∀ k, F5 k → F k) := Lib.hid (fun k e => HF4.out _ (by have h9 := HFK.out; rw [h9] at e; exact e.1))
  have HU5 : Hid (Up F5 w5) := Lib.hid (fun k hk => by
    have h9 := HFK.out
    rw [h9]
    exact ⟨HU4.out.keeps HSTEP.out k hk, fun e => by have := HLT.out k e; omega⟩)
  have HOh : Hid (∀ ad, Ah = some ad → ¬ Or1 F5 N ad.block ∧ R < ad.block) := Lib.hid (fun ad e => by
    have h8 := HNEW.out ad e
    refine ⟨fun hf => ?_, by have := HK4.out.size; omega⟩
    rcases hf with hf | hf
    · have h9 := HFK.out
      rw [h9] at hf
      exact hf.2 (by rw [e]; rfl)
    · omega)
  have HBh_5 := Lib.hid (Nat.le_refl w5.heap.size)
  have HRh_5 := HRDK
  obtain ⟨F_h, hFx⟩ : ∃ X, X = F5 := ⟨_, rfl⟩
  have HSh_5 : Hid (∀ k, F5 k → F_h k) := Lib.hid (by rw [hFx]; exact fun _ e => e)
  rw [← hFx] at HOh
  have hstep5 : Keeps (Or1 F4 N) w4 w5 := HSTEP.out
  clear hstep5
  clear hszy hwk hFx hNi hold hfz HNY HRE HKY HLT HRD HNEW HFK HRDK HSTEP

  have p0 : w5.cell? ⟨E, 0, none⟩ = some (.pointer (some ⟨D, 0, none⟩)) := ((HE3.out.keeps HK5.out (fun e => by rcases e with e | e; exact HFE.out e; exact hEN e)).cell 0).trans rfl
  have p1 : w5.cell? ⟨E, 1, none⟩ = some (.int .i64 (n : Int)) := ((HE3.out.keeps HK5.out (fun e => by rcases e with e | e; exact HFE.out e; exact hEN e)).cell 1).trans rfl
  go_wp2_with fail
  refine (RBytes_any w5 F5 D s5 H5.out).mono ?_
  rintro e wy ⟨vy, rfl, ⟨Ay, cy, rfl, hrd, _⟩, hre, hky⟩
  obtain ⟨s6, hs6⟩ : ∃ x, x = s5.bytes.2 := ⟨_, rfl⟩
  obtain ⟨Li, hLi⟩ : ∃ x, x = s5.bytes.1 := ⟨_, rfl⟩
  rw [← hs6] at hre
  rw [← hLi] at hrd ⊢
  have HS6 := Lib.hid hs6; have HLi := Lib.hid hLi
  have hNi : N < w5.heap.size := HN5.out.lt
  have hny := HN5.out.keeps hky (fun e => HFN.out (HF5.out _ e))
  have hold : wy.cell? ⟨N, 8, none⟩ = some (.string ⟨#[]⟩) := (hny.cell 8).trans rfl
  have hfz : wy.frozen? ⟨N, 8, none⟩ = false := hny.frozen _
  have HNY := Lib.hid hny; have HRE := Lib.hid hre; have HKY := Lib.hid hky; have HRD := Lib.hid hrd
  clear hs6 hLi hny hre hky hrd p0 p1
  go_upto_region 10 with (refine wpList_str rfl 29 9 5 (.tmp 41) rfl Ay _ cy Li rfl Try.underlying29 Try.underlying5 Try.underlying9 _ HRD.out ?_)
  have H6 := Lib.hid (HRE.out.setCell ⟨N, 8, none⟩ (.string ⟨Li.toArray⟩) (fun e => HFN.out (HF5.out _ e)))
  have HN6 : Hid (Blk (wy.setCell ⟨N, 8, none⟩ (.string ⟨Li.toArray⟩)) N 31 #[(.int .i64 (L4.getD 0 0)), (.int .i64 (L4.getD 1 0)), (.int .i64 (L4.getD 2 0)), (.int .i64 (L4.getD 3 0)), (.int .i64 (L4.getD 4 0)), (.int .i64 (L4.getD 5 0)), (.int .i64 (L4.getD 6 0)), (.slice Ah Lh.length ch), (.string ⟨Li.toArray⟩), .int .i64 0, .int .i64 0, .int .i64 0, .slice none 0 0, .slice none 0 0, .int .i64 0, .slice none 0 0]) := Lib.hid (HNY.out.set_ 8 (.string ⟨Li.toArray⟩))
  have HSTEP : Hid (Keeps (Or1 F5 N) w5 (wy.setCell ⟨N, 8, none⟩ (.string ⟨Li.toArray⟩))) := Lib.hid ((HKY.out.weaken (F' := Or1 F5 N) (fun _ _ e => Or.inl e)).setCell (p := ⟨N, 8, none⟩) (Or.inr rfl) _)
  have hszy : (wy.setCell ⟨N, 8, none⟩ (.string ⟨Li.toArray⟩)).heap.size = wy.heap.size := by simp [World.setCell]
  obtain ⟨w6, hwk⟩ : ∃ X, X = wy.setCell ⟨N, 8, none⟩ (.string ⟨Li.toArray⟩) := ⟨_, rfl⟩
  rw [← hwk] at H6 HN6 HSTEP hszy ⊢
  have HK6 := Lib.hid (HK5.out.trans HSTEP.out (fun _ _ e => by rcases e with e | e; exact Or.inl (HF5.out _ e); exact Or.inr e))
  obtain ⟨F6, hF6⟩ : ∃ X, X = F5 := ⟨_, rfl⟩
  have HF6 : Hid (∀ k, F6 k → F k) := Lib.hid (by rw [hF6]; exact HF5.out)
  have HU6 : Hid (Up F6 w6) := Lib.hid (by rw [hF6]; exact HU5.out.keeps HSTEP.out)
  rw [← hF6] at H6
  have hstep6 : Keeps (Or1 F5 N) w5 w6 := HSTEP.out
  have HRh_6 := Lib.hid (HRh_5.out.off hstep6 HBh_5.out (fun ad e _ => fun hf => by have h8 := (HOh.out ad e).1; rcases hf with hf | hf; exact h8 (Or.inl (HSh_5.out _ hf)); exact h8 (Or.inr hf)))
  have HBh_6 := Lib.hid (Nat.le_trans HBh_5.out hstep6.size)
  have HSh_6 : Hid (∀ k, F6 k → F_h k) := Lib.hid (by rw [hF6]; exact HSh_5.out)
  clear hszy hwk hF6 hstep6 hNi hold hfz HNY HRE HKY HSTEP

  have hR := Blk.new w6 76 #[.pointer (some ⟨N, 9, none⟩), .pointer (some ⟨N, 10, none⟩), .pointer (some ⟨N, 11, none⟩)]
  have hbR : Below w6.heap.size w6 (w6.alloc (.cells #[.pointer (some ⟨N, 9, none⟩), .pointer (some ⟨N, 10, none⟩), .pointer (some ⟨N, 11, none⟩)] 76)) := (Below.refl _ _).alloc (Nat.le_refl _) _
  have hi := H6.out.skip hbR
  have hui := (HU6.out).off hbR
  have hszR : (w6.alloc (.cells #[.pointer (some ⟨N, 9, none⟩), .pointer (some ⟨N, 10, none⟩), .pointer (some ⟨N, 11, none⟩)] 76)).heap.size = w6.heap.size + 1 := by simp
  have hnn := HN6.out.alloc (.cells #[.pointer (some ⟨N, 9, none⟩), .pointer (some ⟨N, 10, none⟩), .pointer (some ⟨N, 11, none⟩)] 76)
  have hNl : N < w6.heap.size := HN6.out.lt
  have HR := Lib.hid hR; have HBR := Lib.hid hbR; have HI := Lib.hid hi; have HSZR := Lib.hid hszR; have HNN := Lib.hid hnn
  clear hR hbR hi hui hszR hnn
  go_wp2_with fail
  obtain ⟨Q, hQe⟩ : ∃ Q, Q = w6.heap.size := ⟨_, rfl⟩
  rw [← hQe] at HR HSZR hNl ⊢
  obtain ⟨wR, hwR⟩ : ∃ wR, wR = w6.alloc (.cells #[.pointer (some ⟨N, 9, none⟩), .pointer (some ⟨N, 10, none⟩), .pointer (some ⟨N, 11, none⟩)] 76) := ⟨_, rfl⟩
  rw [← hwR] at HR HBR HI HSZR HNN ⊢
  obtain ⟨G, hG⟩ : ∃ G, G = Off F6 w6 wR := ⟨_, rfl⟩
  have hGQ : ¬ G Q := by rw [hG]; intro e; have := e.2; have := HSZR.out; omega
  rw [← hG] at HI
  have hGF : ∀ k, G k → F6 k := by rw [hG]; exact fun k e => e.1
  have hfin : ∀ wx, Keeps (Or1 G N) wR wx → Keeps (Or1 F N) w3 wx := fun wx hk => HK6.out.trans ((Keeps.of_below (F := Or1 F N) HBR.out).trans hk (fun _ _ e => by
    rcases e with e | e
    · exact Or.inl (HF6.out _ (hGF _ e))
    · exact Or.inr e)) (fun _ _ e => e)
  have hGN : ¬ G N := fun e => HFN.out (HF6.out _ (hGF _ e))
  have hQN : Q ≠ N := by omega
  have HGQ := Lib.hid hGQ; have HGF := Lib.hid hGF; have HFIN := Lib.hid hfin; have HGN := Lib.hid hGN; have HQE := Lib.hid hQe
  clear hGQ hGF hfin hG hwR hQe hGN
  obtain ⟨pre, hpre⟩ : ∃ l : List Value, l = [(.int .i64 (L4.getD 0 0)), (.int .i64 (L4.getD 1 0)), (.int .i64 (L4.getD 2 0)), (.int .i64 (L4.getD 3 0)), (.int .i64 (L4.getD 4 0)), (.int .i64 (L4.getD 5 0)), (.int .i64 (L4.getD 6 0)), (.slice Ah Lh.length ch), (.string ⟨Li.toArray⟩)] := ⟨_, rfl⟩
  obtain ⟨suf, hsuf⟩ : ∃ l : List Value, l = [.int .i64 0, .int .i64 0, .int .i64 0, .slice none 0 0, .slice none 0 0, .int .i64 0, .slice none 0 0] := ⟨_, rfl⟩
  have hpl : pre.length = 9 := by rw [hpre]; rfl
  have hsl : 3 ≤ suf.length := by rw [hsuf]; decide
  have hn0 : Blk wR N 31 (pre ++ (([] : List Int).map (Value.int .i64) ++ suf.drop 0)).toArray := by rw [hpre, hsuf]; exact HNN.out
  have h00 : s6.ints 0 = ([], s6) := by unfold RS.ints; rfl
  have HPRE := Lib.hid hpre; have HSUF := Lib.hid hsuf; have HN0 := Lib.hid hn0; have HPL := Lib.hid hpl; have HSL := Lib.hid hsl; have H00 := Lib.hid h00
  clear hpre hsuf hn0 hpl hsl h00
  go_loopw [49] (fun q wr => ∃ j : Nat, j ≤ 3 ∧ q = .int .i64 (j : Int) ∧ ReIs wr G D (s6.ints j).2 ∧ Keeps (Or1 G N) wR wr ∧ Blk wr N 31 (pre ++ ((s6.ints j).1.map (Value.int .i64) ++ suf.drop j)).toArray) (fun q _ => 3 - (intOf q).toNat)
  case atStart => exact ⟨0, by omega, rfl, by rw [H00.out]; exact HI.out, Keeps.refl _ _, by rw [H00.out]; exact HN0.out⟩
  case' round =>
    obtain ⟨j, hj, rfl, hw, hk, hnb⟩ := hrel
    have HW := Lib.hid hw; have HK := Lib.hid hk; have HNB := Lib.hid hnb
    clear hw hk hnb
    by_cases hjn : j < 3
    · have hjn' : (j : Int) < (3 : Int) := by omega
      have hQr := HR.out.keeps HK.out (fun e => by rcases e with e | e; exact HGQ.out e; exact hQN e)
      have hQc : wr.cell? ⟨Q, j, none⟩ = some (.pointer (some ⟨N, pre.length + j, none⟩)) := by
        rw [hQr.cell j, HPL.out]
        clear hjn'
        match j, hjn with
        | 0, _ => rfl
        | 1, _ => rfl
        | 2, _ => rfl
      have p0 : wr.cell? ⟨E, 0, none⟩ = some (.pointer (some ⟨D, 0, none⟩)) := ((HE3.out.keeps (HFIN.out _ HK.out) (fun e => by rcases e with e | e; exact HFE.out e; exact hEN e)).cell 0).trans rfl
      have hst : (s6.ints (j + 1)).1 = (s6.ints j).1 ++ [(s6.ints j).2.int.1] ∧ (s6.ints (j + 1)).2 = (s6.ints j).2.int.2 := by
        rw [RS.ints.eq_def]; exact ⟨rfl, rfl⟩
      have hxl := ints_length s6 j
      have HST := Lib.hid hst; have HXL := Lib.hid hxl
      clear hst hQr hxl
      go_wp2_with fail
      refine (RInt_any wr G D _ HW.out).mono ?_
      rintro e wy ⟨rfl, hy, hky⟩
      have hnb := HNB.out.keeps hky HGN.out
      have hst := HST.out
      generalize (s6.ints j).2.int.1 = x at hst ⊢
      generalize (s6.ints j).2.int.2 = s_ at hst hy
      have hjs : j < suf.length := Nat.lt_of_lt_of_le hjn HSL.out
      have hold : wy.cell? ⟨N, pre.length + j, none⟩ = some suf[j] := by
        rw [hnb.cell, List.getElem?_toArray, List.getElem?_append_right (by omega), Nat.add_sub_cancel_left, List.getElem?_append_right (by rw [List.length_map, HXL.out]; exact Nat.le_refl _), List.length_map, HXL.out, Nat.sub_self, List.getElem?_drop, Nat.add_zero, List.getElem?_eq_getElem hjs]
      have hfz : wy.frozen? ⟨N, pre.length + j, none⟩ = false := hnb.frozen _
      have hone : ∃ v0, suf[j] = v0 := ⟨_, rfl⟩
      have hnx := hnb.row_set x HXL.out hjs
      have hyx := hy.setCell ⟨N, pre.length + j, none⟩ (.int .i64 x) HGN.out
      have hkx : Keeps (Or1 G N) wR (wy.setCell ⟨N, pre.length + j, none⟩ (.int .i64 x)) := (HK.out.trans (hky.weaken (F' := Or1 G N) (fun _ _ e => Or.inl e)) (fun _ _ e => e)).setCell (p := ⟨N, pre.length + j, none⟩) (Or.inr rfl) _
      rw [← hst.1] at hnx
      rw [← hst.2] at hyx
      have HNX := Lib.hid hnx; have HYX := Lib.hid hyx; have HKX := Lib.hid hkx
      generalize suf[j] = v0 at hold
      clear HST hst hnb hy hky hnx hyx hkx hone hjs p0
      go_wp2_with fail
      go_roundw
      case rel => exact ⟨j + 1, by omega, by go_num, HYX.out, HKX.out, HNX.out⟩
      case measure => simp [intOf]; omega
  obtain rfl : j = 3 := by omega

  have hxl := ints_length s6 3
  obtain ⟨L7, hL7⟩ : ∃ x, x = (s6.ints 3).1 := ⟨_, rfl⟩
  obtain ⟨s7, hs7⟩ : ∃ x, x = (s6.ints 3).2 := ⟨_, rfl⟩
  rw [← hL7] at hxl
  have hnb := HNB.out
  rw [← hL7] at hnb
  have hw := HW.out
  rw [← hs7] at hw
  have hlit := three hxl
  have HN7 : Hid (Blk wr N 31 #[(.int .i64 (L4.getD 0 0)), (.int .i64 (L4.getD 1 0)), (.int .i64 (L4.getD 2 0)), (.int .i64 (L4.getD 3 0)), (.int .i64 (L4.getD 4 0)), (.int .i64 (L4.getD 5 0)), (.int .i64 (L4.getD 6 0)), (.slice Ah Lh.length ch), (.string ⟨Li.toArray⟩), (.int .i64 (L7.getD 0 0)), (.int .i64 (L7.getD 1 0)), (.int .i64 (L7.getD 2 0)), .slice none 0 0, .slice none 0 0, .int .i64 0, .slice none 0 0]) := Lib.hid (by rw [HPRE.out, HSUF.out, hlit] at hnb; exact hnb)
  have H7 := Lib.hid (hw.weaken HGF.out)
  have HK7 := Lib.hid (HFIN.out _ HK.out)
  have HL7 := Lib.hid hL7; have HS7 := Lib.hid hs7
  have HU7 := Lib.hid (HU6.out.keeps ((Keeps.of_below (F := Or1 F6 N) HBR.out).trans HK.out (fun _ _ e => by rcases e with e | e; exact Or.inl (HGF.out _ e); exact Or.inr e)))
  have hst0 : Keeps (Or1 F6 N) w6 wr := (Keeps.of_below (F := Or1 F6 N) HBR.out).trans HK.out (fun _ _ e => by rcases e with e | e; exact Or.inl (HGF.out _ e); exact Or.inr e)
  obtain ⟨w7, hwr⟩ : ∃ wx, wx = wr := ⟨_, rfl⟩
  subst hwr
  obtain ⟨F7, hF7⟩ : ∃ X, X = F6 := ⟨_, rfl⟩
  have HF7 : Hid (∀ k, F7 k → F k) := Lib.hid (by rw [hF7]; exact HF6.out)
  rw [← hF7] at H7 HU7
  have hstep7 : Keeps (Or1 F6 N) w6 w7 := hst0
  have HRh_7 := Lib.hid (HRh_6.out.off hstep7 HBh_6.out (fun ad e _ => fun hf => by have h8 := (HOh.out ad e).1; rcases hf with hf | hf; exact h8 (Or.inl (HSh_6.out _ hf)); exact h8 (Or.inr hf)))
  have HBh_7 := Lib.hid (Nat.le_trans HBh_6.out hstep7.size)
  have HSh_7 : Hid (∀ k, F7 k → F_h k) := Lib.hid (by rw [hF7]; exact HSh_6.out)
  clear hxl hL7 hs7 hnb hw hlit HNB HW HK HPRE HSUF HN0 HPL HSL H00 HGF HFIN HGN HGQ HQE HR HBR HI HSZR HNN hst0 hstep7 hF7 hj hjn hQN hNl

  have p0 : w7.cell? ⟨E, 0, none⟩ = some (.pointer (some ⟨D, 0, none⟩)) := ((HE3.out.keeps HK7.out (fun e => by rcases e with e | e; exact HFE.out e; exact hEN e)).cell 0).trans rfl
  have p1 : w7.cell? ⟨E, 1, none⟩ = some (.int .i64 (n : Int)) := ((HE3.out.keeps HK7.out (fun e => by rcases e with e | e; exact HFE.out e; exact hEN e)).cell 1).trans rfl
  go_wp2_with fail
  refine (EyeInts_any w7 F7 D s7 n HU7.out H7.out hn).mono ?_
  rintro e wy ⟨vy, rfl, ⟨Ad, cd, rfl, hrd, hnew⟩, hre, hky, hlt⟩
  obtain ⟨s8, hs8⟩ : ∃ x, x = (s7.list n).2 := ⟨_, rfl⟩
  obtain ⟨Ld, hLd⟩ : ∃ x, x = (s7.list n).1 := ⟨_, rfl⟩
  rw [← hs8] at hre
  rw [← hLd] at hrd ⊢
  rw [← hLd] at hre hlt
  have HS8 := Lib.hid hs8; have HLd := Lib.hid hLd
  obtain ⟨F8, hF8⟩ : ∃ X, X = Ex F7 (.slice Ad Ld.length cd) := ⟨_, rfl⟩
  rw [← hF8] at hre
  have hNi : N < w7.heap.size := HN7.out.lt
  have hny := HN7.out.keeps hky (fun e => HFN.out (HF7.out _ e))
  have hold : wy.cell? ⟨N, 12, none⟩ = some (.slice none 0 0) := (hny.cell 12).trans rfl
  have hfz : wy.frozen? ⟨N, 12, none⟩ = false := hny.frozen _
  have HNY := Lib.hid hny; have HRE := Lib.hid hre; have HKY := Lib.hid hky; have HLT := Lib.hid hlt; have HRD := Lib.hid hrd; have HNEW := Lib.hid hnew; have HFK := Lib.hid hF8
  clear hs8 hLd hny hre hky hlt hrd hnew hF8 p0 p1
  go_upto_region 16 with (fail)
  have H8 := Lib.hid (HRE.out.setCell ⟨N, 12, none⟩ (.slice Ad Ld.length cd) (fun e => HFN.out (HF7.out _ (by have h9 := HFK.out; rw [h9] at e; exact e.1))))
  have HN8 : Hid (Blk (wy.setCell ⟨N, 12, none⟩ (.slice Ad Ld.length cd)) N 31 #[(.int .i64 (L4.getD 0 0)), (.int .i64 (L4.getD 1 0)), (.int .i64 (L4.getD 2 0)), (.int .i64 (L4.getD 3 0)), (.int .i64 (L4.getD 4 0)), (.int .i64 (L4.getD 5 0)), (.int .i64 (L4.getD 6 0)), (.slice Ah Lh.length ch), (.string ⟨Li.toArray⟩), (.int .i64 (L7.getD 0 0)), (.int .i64 (L7.getD 1 0)), (.int .i64 (L7.getD 2 0)), (.slice Ad Ld.length cd), .slice none 0 0, .int .i64 0, .slice none 0 0]) := Lib.hid (HNY.out.set_ 12 (.slice Ad Ld.length cd))
  have HSTEP : Hid (Keeps (Or1 F7 N) w7 (wy.setCell ⟨N, 12, none⟩ (.slice Ad Ld.length cd))) := Lib.hid ((HKY.out.weaken (F' := Or1 F7 N) (fun _ _ e => Or.inl e)).setCell (p := ⟨N, 12, none⟩) (Or.inr rfl) _)
  have hszy : (wy.setCell ⟨N, 12, none⟩ (.slice Ad Ld.length cd)).heap.size = wy.heap.size := by simp [World.setCell]
  have HRDK := Lib.hid (reads_setn HRD.out N 12 (by omega) _ HNEW.out hszy)
  obtain ⟨w8, hwk⟩ : ∃ X, X = wy.setCell ⟨N, 12, none⟩ (.slice Ad Ld.length cd) := ⟨_, rfl⟩
  rw [← hwk] at H8 HN8 HSTEP hszy HRDK ⊢
  have HK8 := Lib.hid (HK7.out.trans HSTEP.out (fun _ _ e => by rcases e with e | e; exact Or.inl (HF7.out _ e); exact Or.inr e))
  have HF8 : Hid (∀ k, F8 k → F k) := Lib.hid (fun k e => HF7.out _ (by have h9 := HFK.out; rw [h9] at e; exact e.1))
  have HU8 : Hid (Up F8 w8) := Lib.hid (fun k hk => by
    have h9 := HFK.out
    rw [h9]
    exact ⟨HU7.out.keeps HSTEP.out k hk, fun e => by have := HLT.out k e; omega⟩)
  have HOd : Hid (∀ ad, Ad = some ad → ¬ Or1 F8 N ad.block ∧ R < ad.block) := Lib.hid (fun ad e => by
    have h8 := HNEW.out ad e
    refine ⟨fun hf => ?_, by have := HK7.out.size; omega⟩
    rcases hf with hf | hf
    · have h9 := HFK.out
      rw [h9] at hf
      exact hf.2 (by rw [e]; rfl)
    · omega)
  have HBd_8 := Lib.hid (Nat.le_refl w8.heap.size)
  have HRd_8 := HRDK
  obtain ⟨F_d, hFx⟩ : ∃ X, X = F8 := ⟨_, rfl⟩
  have HSd_8 : Hid (∀ k, F8 k → F_d k) := Lib.hid (by rw [hFx]; exact fun _ e => e)
  rw [← hFx] at HOd
  have hstep8 : Keeps (Or1 F7 N) w7 w8 := HSTEP.out
  have HRh_8 := Lib.hid (HRh_7.out.off hstep8 HBh_7.out (fun ad e _ => fun hf => by have h8 := (HOh.out ad e).1; rcases hf with hf | hf; exact h8 (Or.inl (HSh_7.out _ hf)); exact h8 (Or.inr hf)))
  have HBh_8 := Lib.hid (Nat.le_trans HBh_7.out hstep8.size)
  have HSh_8 : Hid (∀ k, F8 k → F_h k) := Lib.hid (fun k e => HSh_7.out k (by have h9 := HFK.out; rw [h9] at e; exact e.1))
  clear hstep8
  clear hszy hwk hFx hNi hold hfz HNY HRE HKY HLT HRD HNEW HFK HRDK HSTEP

  have p0 : w8.cell? ⟨E, 0, none⟩ = some (.pointer (some ⟨D, 0, none⟩)) := ((HE3.out.keeps HK8.out (fun e => by rcases e with e | e; exact HFE.out e; exact hEN e)).cell 0).trans rfl
  have p1 : w8.cell? ⟨E, 1, none⟩ = some (.int .i64 (n : Int)) := ((HE3.out.keeps HK8.out (fun e => by rcases e with e | e; exact HFE.out e; exact hEN e)).cell 1).trans rfl
  go_wp2_with fail
  refine (EyeInts_any w8 F8 D s8 n HU8.out H8.out hn).mono ?_
  rintro e wy ⟨vy, rfl, ⟨Ap, cp, rfl, hrd, hnew⟩, hre, hky, hlt⟩
  obtain ⟨s9, hs9⟩ : ∃ x, x = (s8.list n).2 := ⟨_, rfl⟩
  obtain ⟨Lp, hLp⟩ : ∃ x, x = (s8.list n).1 := ⟨_, rfl⟩
  rw [← hs9] at hre
  rw [← hLp] at hrd ⊢
  rw [← hLp] at hre hlt
  have HS9 := Lib.hid hs9; have HLp := Lib.hid hLp
  obtain ⟨F9, hF9⟩ : ∃ X, X = Ex F8 (.slice Ap Lp.length cp) := ⟨_, rfl⟩
  rw [← hF9] at hre
  have hNi : N < w8.heap.size := HN8.out.lt
  have hny := HN8.out.keeps hky (fun e => HFN.out (HF8.out _ e))
  have hold : wy.cell? ⟨N, 13, none⟩ = some (.slice none 0 0) := (hny.cell 13).trans rfl
  have hfz : wy.frozen? ⟨N, 13, none⟩ = false := hny.frozen _
  have HNY := Lib.hid hny; have HRE := Lib.hid hre; have HKY := Lib.hid hky; have HLT := Lib.hid hlt; have HRD := Lib.hid hrd; have HNEW := Lib.hid hnew; have HFK := Lib.hid hF9
  clear hs9 hLp hny hre hky hlt hrd hnew hF9 p0 p1
  go_upto_region 17 with (fail)
  have H9 := Lib.hid (HRE.out.setCell ⟨N, 13, none⟩ (.slice Ap Lp.length cp) (fun e => HFN.out (HF8.out _ (by have h9 := HFK.out; rw [h9] at e; exact e.1))))
  have HN9 : Hid (Blk (wy.setCell ⟨N, 13, none⟩ (.slice Ap Lp.length cp)) N 31 #[(.int .i64 (L4.getD 0 0)), (.int .i64 (L4.getD 1 0)), (.int .i64 (L4.getD 2 0)), (.int .i64 (L4.getD 3 0)), (.int .i64 (L4.getD 4 0)), (.int .i64 (L4.getD 5 0)), (.int .i64 (L4.getD 6 0)), (.slice Ah Lh.length ch), (.string ⟨Li.toArray⟩), (.int .i64 (L7.getD 0 0)), (.int .i64 (L7.getD 1 0)), (.int .i64 (L7.getD 2 0)), (.slice Ad Ld.length cd), (.slice Ap Lp.length cp), .int .i64 0, .slice none 0 0]) := Lib.hid (HNY.out.set_ 13 (.slice Ap Lp.length cp))
  have HSTEP : Hid (Keeps (Or1 F8 N) w8 (wy.setCell ⟨N, 13, none⟩ (.slice Ap Lp.length cp))) := Lib.hid ((HKY.out.weaken (F' := Or1 F8 N) (fun _ _ e => Or.inl e)).setCell (p := ⟨N, 13, none⟩) (Or.inr rfl) _)
  have hszy : (wy.setCell ⟨N, 13, none⟩ (.slice Ap Lp.length cp)).heap.size = wy.heap.size := by simp [World.setCell]
  have HRDK := Lib.hid (reads_setn HRD.out N 13 (by omega) _ HNEW.out hszy)
  obtain ⟨w9, hwk⟩ : ∃ X, X = wy.setCell ⟨N, 13, none⟩ (.slice Ap Lp.length cp) := ⟨_, rfl⟩
  rw [← hwk] at H9 HN9 HSTEP hszy HRDK ⊢
  have HK9 := Lib.hid (HK8.out.trans HSTEP.out (fun _ _ e => by rcases e with e | e; exact Or.inl (HF8.out _ e); exact Or.inr e))
  have HF9 : Hid (∀ k, F9 k → F k) := Lib.hid (fun k e => HF8.out _ (by have h9 := HFK.out; rw [h9] at e; exact e.1))
  have HU9 : Hid (Up F9 w9) := Lib.hid (fun k hk => by
    have h9 := HFK.out
    rw [h9]
    exact ⟨HU8.out.keeps HSTEP.out k hk, fun e => by have := HLT.out k e; omega⟩)
  have HOp : Hid (∀ ad, Ap = some ad → ¬ Or1 F9 N ad.block ∧ R < ad.block) := Lib.hid (fun ad e => by
    have h8 := HNEW.out ad e
    refine ⟨fun hf => ?_, by have := HK8.out.size; omega⟩
    rcases hf with hf | hf
    · have h9 := HFK.out
      rw [h9] at hf
      exact hf.2 (by rw [e]; rfl)
    · omega)
  have HBp_9 := Lib.hid (Nat.le_refl w9.heap.size)
  have HRp_9 := HRDK
  obtain ⟨F_p, hFx⟩ : ∃ X, X = F9 := ⟨_, rfl⟩
  have HSp_9 : Hid (∀ k, F9 k → F_p k) := Lib.hid (by rw [hFx]; exact fun _ e => e)
  rw [← hFx] at HOp
  have hstep9 : Keeps (Or1 F8 N) w8 w9 := HSTEP.out
  have HRh_9 := Lib.hid (HRh_8.out.off hstep9 HBh_8.out (fun ad e _ => fun hf => by have h8 := (HOh.out ad e).1; rcases hf with hf | hf; exact h8 (Or.inl (HSh_8.out _ hf)); exact h8 (Or.inr hf)))
  have HBh_9 := Lib.hid (Nat.le_trans HBh_8.out hstep9.size)
  have HRd_9 := Lib.hid (reads_off2 HRd_8.out hstep9 HBd_8.out (fun ad e _ => fun hf => by have h8 := (HOd.out ad e).1; rcases hf with hf | hf; exact h8 (Or.inl (HSd_8.out _ hf)); exact h8 (Or.inr hf)))
  have HBd_9 := Lib.hid (Nat.le_trans HBd_8.out hstep9.size)
  have HSh_9 : Hid (∀ k, F9 k → F_h k) := Lib.hid (fun k e => HSh_8.out k (by have h9 := HFK.out; rw [h9] at e; exact e.1))
  have HSd_9 : Hid (∀ k, F9 k → F_d k) := Lib.hid (fun k e => HSd_8.out k (by have h9 := HFK.out; rw [h9] at e; exact e.1))
  clear hstep9
  clear hszy hwk hFx hNi hold hfz HNY HRE HKY HLT HRD HNEW HFK HRDK HSTEP

  have p0 : w9.cell? ⟨E, 0, none⟩ = some (.pointer (some ⟨D, 0, none⟩)) := ((HE3.out.keeps HK9.out (fun e => by rcases e with e | e; exact HFE.out e; exact hEN e)).cell 0).trans rfl
  have p1 : w9.cell? ⟨E, 1, none⟩ = some (.int .i64 (n : Int)) := ((HE3.out.keeps HK9.out (fun e => by rcases e with e | e; exact HFE.out e; exact hEN e)).cell 1).trans rfl
  go_wp2_with fail
  refine (RInt_any w9 F9 D s9 H9.out).mono ?_
  rintro e wy ⟨rfl, hre, hky⟩
  obtain ⟨s10, hs10⟩ : ∃ x, x = s9.int.2 := ⟨_, rfl⟩
  obtain ⟨xc, hxc⟩ : ∃ x, x = s9.int.1 := ⟨_, rfl⟩
  rw [← hs10] at hre
  rw [← hxc]
  have HS10 := Lib.hid hs10; have HXC := Lib.hid hxc
  have hNi : N < w9.heap.size := HN9.out.lt
  have hny := HN9.out.keeps hky (fun e => HFN.out (HF9.out _ e))
  have hold : wy.cell? ⟨N, 14, none⟩ = some (.int .i64 0) := (hny.cell 14).trans rfl
  have hfz : wy.frozen? ⟨N, 14, none⟩ = false := hny.frozen _
  have HNY := Lib.hid hny; have HRE := Lib.hid hre; have HKY := Lib.hid hky
  clear hs10 hxc hny hre hky p0 p1
  go_upto_region 18 with (fail)
  have H10 := Lib.hid (HRE.out.setCell ⟨N, 14, none⟩ (.int .i64 xc) (fun e => HFN.out (HF9.out _ e)))
  have HN10 : Hid (Blk (wy.setCell ⟨N, 14, none⟩ (.int .i64 xc)) N 31 #[(.int .i64 (L4.getD 0 0)), (.int .i64 (L4.getD 1 0)), (.int .i64 (L4.getD 2 0)), (.int .i64 (L4.getD 3 0)), (.int .i64 (L4.getD 4 0)), (.int .i64 (L4.getD 5 0)), (.int .i64 (L4.getD 6 0)), (.slice Ah Lh.length ch), (.string ⟨Li.toArray⟩), (.int .i64 (L7.getD 0 0)), (.int .i64 (L7.getD 1 0)), (.int .i64 (L7.getD 2 0)), (.slice Ad Ld.length cd), (.slice Ap Lp.length cp), (.int .i64 xc), .slice none 0 0]) := Lib.hid (HNY.out.set_ 14 (.int .i64 xc))
  have HSTEP : Hid (Keeps (Or1 F9 N) w9 (wy.setCell ⟨N, 14, none⟩ (.int .i64 xc))) := Lib.hid ((HKY.out.weaken (F' := Or1 F9 N) (fun _ _ e => Or.inl e)).setCell (p := ⟨N, 14, none⟩) (Or.inr rfl) _)
  have hszy : (wy.setCell ⟨N, 14, none⟩ (.int .i64 xc)).heap.size = wy.heap.size := by simp [World.setCell]
  obtain ⟨w10, hwk⟩ : ∃ X, X = wy.setCell ⟨N, 14, none⟩ (.int .i64 xc) := ⟨_, rfl⟩
  rw [← hwk] at H10 HN10 HSTEP hszy ⊢
  have HK10 := Lib.hid (HK9.out.trans HSTEP.out (fun _ _ e => by rcases e with e | e; exact Or.inl (HF9.out _ e); exact Or.inr e))
  obtain ⟨F10, hF10⟩ : ∃ X, X = F9 := ⟨_, rfl⟩
  have HF10 : Hid (∀ k, F10 k → F k) := Lib.hid (by rw [hF10]; exact HF9.out)
  have HU10 : Hid (Up F10 w10) := Lib.hid (by rw [hF10]; exact HU9.out.keeps HSTEP.out)
  rw [← hF10] at H10
  have hstep10 : Keeps (Or1 F9 N) w9 w10 := HSTEP.out
  have HRh_10 := Lib.hid (HRh_9.out.off hstep10 HBh_9.out (fun ad e _ => fun hf => by have h8 := (HOh.out ad e).1; rcases hf with hf | hf; exact h8 (Or.inl (HSh_9.out _ hf)); exact h8 (Or.inr hf)))
  have HBh_10 := Lib.hid (Nat.le_trans HBh_9.out hstep10.size)
  have HRd_10 := Lib.hid (reads_off2 HRd_9.out hstep10 HBd_9.out (fun ad e _ => fun hf => by have h8 := (HOd.out ad e).1; rcases hf with hf | hf; exact h8 (Or.inl (HSd_9.out _ hf)); exact h8 (Or.inr hf)))
  have HBd_10 := Lib.hid (Nat.le_trans HBd_9.out hstep10.size)
  have HRp_10 := Lib.hid (reads_off2 HRp_9.out hstep10 HBp_9.out (fun ad e _ => fun hf => by have h8 := (HOp.out ad e).1; rcases hf with hf | hf; exact h8 (Or.inl (HSp_9.out _ hf)); exact h8 (Or.inr hf)))
  have HBp_10 := Lib.hid (Nat.le_trans HBp_9.out hstep10.size)
  have HSh_10 : Hid (∀ k, F10 k → F_h k) := Lib.hid (by rw [hF10]; exact HSh_9.out)
  have HSd_10 : Hid (∀ k, F10 k → F_d k) := Lib.hid (by rw [hF10]; exact HSd_9.out)
  have HSp_10 : Hid (∀ k, F10 k → F_p k) := Lib.hid (by rw [hF10]; exact HSp_9.out)
  clear hszy hwk hF10 hstep10 hNi hold hfz HNY HRE HKY HSTEP

  have p0 : w10.cell? ⟨E, 0, none⟩ = some (.pointer (some ⟨D, 0, none⟩)) := ((HE3.out.keeps HK10.out (fun e => by rcases e with e | e; exact HFE.out e; exact hEN e)).cell 0).trans rfl
  have p1 : w10.cell? ⟨E, 1, none⟩ = some (.int .i64 (n : Int)) := ((HE3.out.keeps HK10.out (fun e => by rcases e with e | e; exact HFE.out e; exact hEN e)).cell 1).trans rfl
  go_wp2_with fail
  refine (RBytes_any w10 F10 D s10 H10.out).mono ?_
  rintro e wy ⟨vy, rfl, ⟨Ax, cx, rfl, hrd, hnew⟩, hre, hky⟩
  obtain ⟨s11, hs11⟩ : ∃ x, x = s10.bytes.2 := ⟨_, rfl⟩
  obtain ⟨Lx, hLx⟩ : ∃ x, x = s10.bytes.1 := ⟨_, rfl⟩
  rw [← hs11] at hre
  rw [← hLx] at hrd ⊢
  have HS11 := Lib.hid hs11; have HLx := Lib.hid hLx
  have hNi : N < w10.heap.size := HN10.out.lt
  have hny := HN10.out.keeps hky (fun e => HFN.out (HF10.out _ e))
  have hold : wy.cell? ⟨N, 15, none⟩ = some (.slice none 0 0) := (hny.cell 15).trans rfl
  have hfz : wy.frozen? ⟨N, 15, none⟩ = false := hny.frozen _
  have HNY := Lib.hid hny; have HRE := Lib.hid hre; have HKY := Lib.hid hky; have HRD := Lib.hid hrd; have HNEW := Lib.hid hnew
  clear hs11 hLx hny hre hky hrd hnew p0 p1
  go_upto_region 19 with (fail)
  have H11 := Lib.hid (HRE.out.setCell ⟨N, 15, none⟩ (.slice Ax Lx.length cx) (fun e => HFN.out (HF10.out _ e)))
  have HN11 : Hid (Blk (wy.setCell ⟨N, 15, none⟩ (.slice Ax Lx.length cx)) N 31 #[(.int .i64 (L4.getD 0 0)), (.int .i64 (L4.getD 1 0)), (.int .i64 (L4.getD 2 0)), (.int .i64 (L4.getD 3 0)), (.int .i64 (L4.getD 4 0)), (.int .i64 (L4.getD 5 0)), (.int .i64 (L4.getD 6 0)), (.slice Ah Lh.length ch), (.string ⟨Li.toArray⟩), (.int .i64 (L7.getD 0 0)), (.int .i64 (L7.getD 1 0)), (.int .i64 (L7.getD 2 0)), (.slice Ad Ld.length cd), (.slice Ap Lp.length cp), (.int .i64 xc), (.slice Ax Lx.length cx)]) := Lib.hid (HNY.out.set_ 15 (.slice Ax Lx.length cx))
  have HSTEP : Hid (Keeps (Or1 F10 N) w10 (wy.setCell ⟨N, 15, none⟩ (.slice Ax Lx.length cx))) := Lib.hid ((HKY.out.weaken (F' := Or1 F10 N) (fun _ _ e => Or.inl e)).setCell (p := ⟨N, 15, none⟩) (Or.inr rfl) _)
  have hszy : (wy.setCell ⟨N, 15, none⟩ (.slice Ax Lx.length cx)).heap.size = wy.heap.size := by simp [World.setCell]
  have HRDK := Lib.hid (rd_setn HRD.out N 15 (by omega) (.slice Ax Lx.length cx) HNEW.out hszy)
  obtain ⟨w11, hwk⟩ : ∃ X, X = wy.setCell ⟨N, 15, none⟩ (.slice Ax Lx.length cx) := ⟨_, rfl⟩
  rw [← hwk] at H11 HN11 HSTEP hszy HRDK ⊢
  have HK11 := Lib.hid (HK10.out.trans HSTEP.out (fun _ _ e => by rcases e with e | e; exact Or.inl (HF10.out _ e); exact Or.inr e))
  obtain ⟨F11, hF11⟩ : ∃ X, X = F10 := ⟨_, rfl⟩
  have HF11 : Hid (∀ k, F11 k → F k) := Lib.hid (by rw [hF11]; exact HF10.out)
  have HU11 : Hid (Up F11 w11) := Lib.hid (by rw [hF11]; exact HU10.out.keeps HSTEP.out)
  rw [← hF11] at H11
  have hstep11 : Keeps (Or1 F10 N) w10 w11 := HSTEP.out
  have HRh_11 := Lib.hid (HRh_10.out.off hstep11 HBh_10.out (fun ad e _ => fun hf => by have h8 := (HOh.out ad e).1; rcases hf with hf | hf; exact h8 (Or.inl (HSh_10.out _ hf)); exact h8 (Or.inr hf)))
  have HBh_11 := Lib.hid (Nat.le_trans HBh_10.out hstep11.size)
  have HRd_11 := Lib.hid (reads_off2 HRd_10.out hstep11 HBd_10.out (fun ad e _ => fun hf => by have h8 := (HOd.out ad e).1; rcases hf with hf | hf; exact h8 (Or.inl (HSd_10.out _ hf)); exact h8 (Or.inr hf)))
  have HBd_11 := Lib.hid (Nat.le_trans HBd_10.out hstep11.size)
  have HRp_11 := Lib.hid (reads_off2 HRp_10.out hstep11 HBp_10.out (fun ad e _ => fun hf => by have h8 := (HOp.out ad e).1; rcases hf with hf | hf; exact h8 (Or.inl (HSp_10.out _ hf)); exact h8 (Or.inr hf)))
  have HBp_11 := Lib.hid (Nat.le_trans HBp_10.out hstep11.size)
  have HSh_11 : Hid (∀ k, F11 k → F_h k) := Lib.hid (by rw [hF11]; exact HSh_10.out)
  have HSd_11 : Hid (∀ k, F11 k → F_d k) := Lib.hid (by rw [hF11]; exact HSd_10.out)
  have HSp_11 : Hid (∀ k, F11 k → F_p k) := Lib.hid (by rw [hF11]; exact HSp_10.out)
  have HOX : Hid (∀ ad, Ax = some ad → R < ad.block) := Lib.hid (fun ad e => by have := HNEW.out ad e; have := HK10.out.size; omega)
  clear hszy hwk hF11 hstep11 hNi hold hfz HNY HRE HKY HSTEP

  obtain ⟨m, hm⟩ : ∃ x : MsgV, x = ⟨L4.getD 0 0, L4.getD 1 0, L4.getD 2 0, L4.getD 3 0, L4.getD 4 0, L4.getD 5 0, L4.getD 6 0, Lh, Li, L7.getD 0 0, L7.getD 1 0, L7.getD 2 0, Ld, Lp, xc, Lx⟩ := ⟨_, rfl⟩
  have hmsg : (⟨b, false⟩ : RS).msg n = (m, s11) := by
    rw [hm, HLx.out, HXC.out, HLp.out, HLd.out, HL7.out, HLi.out, HLh.out, HL4.out, HS11.out, HS10.out, HS9.out, HS8.out, HS7.out, HS6.out, HS5.out, HS4.out, HS3.out]
    rfl
  have hMR : MsgRd w11 w11.heap.size m Ah Ad Ap Ax := by
    rw [hm]
    exact ⟨HRh_11.out.more HBh_11.out, HRd_11.out.more HBd_11.out, HRp_11.out.more HBp_11.out, HRDK.out⟩
  have hlh : Lh.length ≤ n := by rw [HLh.out]; exact heads_len1 _ _
  have hch : costH Lh ≤ 65541 * n := by
    have h1 : costH Lh ≤ 65541 * Lh.length := by rw [HLh.out]; exact heads_cost1 _ _
    omega
  have hli : Li.length ≤ 65535 := by rw [HLi.out]; exact bytes_len1 _
  have hlx : Lx.length ≤ 65535 := by rw [HLx.out]; exact bytes_len1 _
  have hld : Ld.length ≤ n := by rw [HLd.out]; exact list_len1 _ _
  have hlp : Lp.length ≤ n := by rw [HLp.out]; exact list_len1 _ _
  have hcost : m.cost ≤ 140737488200000 := by
    rw [hm]
    unfold MsgV.cost
    dsimp only
    omega
  have henc := Encode_any w11 m Ah Ad Ap Ax ch cd cp cx hMR hcost (by rw [hm]; dsimp only; omega)
  rw [hm] at henc
  dsimp only [msgCells] at henc
  rw [← hm] at henc
  have HENC := Lib.hid henc; have HM := Lib.hid hm; have HMSG := Lib.hid hmsg; have HMR := Lib.hid hMR
  clear henc hm hmsg hMR hlh hch hli hlx hld hlp hcost
  go_wp2_with (refine wpList_load_row rfl 31 (.tmp 5) rfl N rfl _ _ _ _ HN11.out Try.underlying31 rfl (by kernel_rfl) ?_)
  refine HENC.out.mono ?_
  rintro e w12 ⟨v', rfl, hf, hb12, _⟩
  have hE11 := HE3.out.keeps HK11.out (fun e => by rcases e with e | e; exact HFE.out e; exact hEN e)
  have hR11 := HR3.out.keeps HK11.out (fun e => by rcases e with e | e; exact HFR.out e; exact hRN e)
  have hE12 := hE11.below hb12 hE11.lt
  have p0 : w12.cell? ⟨E, 0, none⟩ = some (.pointer (some ⟨D, 0, none⟩)) := (hE12.cell 0).trans rfl
  have HR12 := Lib.hid (hR11.below hb12 hR11.lt)
  have HN12 := Lib.hid (HN11.out.below hb12 HN11.out.lt)
  have H12 := Lib.hid (H11.out.below hb12)
  have HMR12 := Lib.hid ((HMR.out.below hb12 (Nat.le_refl _)).more hb12.size)
  have hb11 : Below w.heap.size w w11 := HB03.out.trans (HK11.out.below (fun k e => by rcases e with e | e; exact HFB'.out _ e; omega) h3l)
  have HB12 := Lib.hid (hb11.trans (hb12.mono hb11.size))
  have HF := Lib.hid hf; have HBS := Lib.hid hb12
  clear hE11 hR11 hE12 hb11 hf hb12
  go_wp2_with fail
  refine (Done_any w12 F11 D s11 H12.out).mono ?_
  obtain ⟨dn, hdn⟩ : ∃ x, x = (!s11.bad && decide (s11.left.length = 0)) := ⟨_, rfl⟩
  obtain ⟨es, hes⟩ : ∃ x, x = WS.msg ⟨[], false⟩ m := ⟨_, rfl⟩
  rw [← hdn]
  have hdec : decode b = if (s11.bad = false ∧ s11.left.length = 0) ∧ es.bad = false ∧ es.out = b then (m, true) else (MsgV.zero, false) := by
    unfold decode
    dsimp only
    rw [← HBL.out, HMSG.out, ← hes]
  rw [← hes] at HF ⊢
  have HDN := Lib.hid hdn; have HES := Lib.hid hes; have HDEC := Lib.hid hdec
  clear hdn hes hdec
  rintro e w13 ⟨rfl, rfl⟩
  cases dn
  · have hd2 : decode b = (MsgV.zero, false) := by
      rw [HDEC.out, if_neg]
      intro e
      have := HDN.out
      rw [e.1.1, e.1.2] at this
      simp at this
    have HD2 := Lib.hid hd2; clear hd2
    go_wp2_with (refine wpList_store_row rfl 31 (.tmp 2) (.tmp 93) rfl R zeroMsg (by rfl) (by rfl) _ _ HR12.out (by kernel_rfl) rfl (by kernel_rfl) ?_)
    exact dec_none HR12.out HB12.out HD2.out (by have := HRE.out; omega) (by rfl) (by rfl) (by rfl)
  · cases hbad : es.bad
    · have hfb := HF.out
      rw [hbad] at hfb
      simp only [Bool.false_eq_true, if_false] at hfb
      obtain ⟨Av, cv, rfl, hrv, _⟩ := hfb
      have hrb : Rd w13 w.heap.size A n b := HRD3.out.keeps_b (HK11.out) HBS.out h3l (fun k hk e => by rcases e with e | e; exact HFB.out _ hk (by exact e); omega)
      have HRV := Lib.hid hrv; have HRB := Lib.hid hrb
      by_cases heq : es.out = b
      · have hd2 : decode b = (m, true) := by
          rw [HDEC.out, if_pos]
          have := HDN.out
          simp at this
          exact ⟨⟨this.1, by rw [this.2]; rfl⟩, hbad, heq⟩
        have HD2 := Lib.hid hd2; clear hd2
        have hdq : decide (es.out = b) = true := by simpa using heq
        have HBAD := Lib.hid hbad
        clear heq hrv hrb hbad
        go_upto_region 22 with (first | (refine wpList_str rfl 29 9 5 (.tmp 87) rfl Av _ cv es.out rfl Try.underlying29 Try.underlying5 Try.underlying9 _ HRV.out ?_) | (refine wpList_str rfl 29 9 5 (.tmp 89) rfl A _ c b rfl Try.underlying29 Try.underlying5 Try.underlying9 _ HRB.out ?_) | (refine wpList_neq rfl _ _ _ _ rfl es.out b rfl rfl ?_))
        go_wp2_with (first | (refine wpList_load_row rfl 31 (.tmp 5) rfl N rfl _ _ _ _ HN12.out Try.underlying31 rfl (by kernel_rfl) ?_) | (refine wpList_store_row rfl 31 (.tmp 2) (.tmp 94) rfl R _ (by rfl) (by rfl) _ _ HR12.out (by kernel_rfl) (by rfl) (by simp [Value.oneCell']) ?_))
        exact dec_some HR12.out HB12.out HD2.out (by have := HRE.out; omega) HMR12.out (fun ad e => by
          rcases e with e | e | e | e
          · exact (HOh.out ad e).2
          · exact (HOd.out ad e).2
          · exact (HOp.out ad e).2
          · exact HOX.out ad e) _ (by rw [HM.out]; rfl) (by rfl) (by rfl) (by rfl)
      · have hd2 : decode b = (MsgV.zero, false) := by rw [HDEC.out, if_neg (fun e => heq e.2.2)]
        have HD2 := Lib.hid hd2; clear hd2
        have hdq : decide (es.out = b) = false := by simpa using heq
        have HBAD := Lib.hid hbad
        clear heq hrv hrb hbad
        go_wp2_with (first | (refine wpList_str rfl 29 9 5 (.tmp 87) rfl Av _ cv es.out rfl Try.underlying29 Try.underlying5 Try.underlying9 _ HRV.out ?_) | (refine wpList_str rfl 29 9 5 (.tmp 89) rfl A _ c b rfl Try.underlying29 Try.underlying5 Try.underlying9 _ HRB.out ?_) | (refine wpList_neq rfl _ _ _ _ rfl es.out b rfl rfl ?_) | (refine wpList_store_row rfl 31 (.tmp 2) (.tmp 93) rfl R zeroMsg (by rfl) (by rfl) _ _ HR12.out (by kernel_rfl) rfl (by kernel_rfl) ?_))
        exact dec_none HR12.out HB12.out HD2.out (by have := HRE.out; omega) (by rfl) (by rfl) (by rfl)
    · have hd2 : decode b = (MsgV.zero, false) := by rw [HDEC.out, if_neg (fun e => by rw [hbad] at e; simp at e)]
      have HD2 := Lib.hid hd2; clear hd2
      have HBAD := Lib.hid hbad
      clear hbad
      go_wp2_with (refine wpList_store_row rfl 31 (.tmp 2) (.tmp 93) rfl R zeroMsg (by rfl) (by rfl) _ _ HR12.out (by kernel_rfl) rfl (by kernel_rfl) ?_)
      exact dec_none HR12.out HB12.out HD2.out (by have := HRE.out; omega) (by rfl) (by rfl) (by rfl)
end Go.Proofs.Ytoekmgpnmhknoaa
