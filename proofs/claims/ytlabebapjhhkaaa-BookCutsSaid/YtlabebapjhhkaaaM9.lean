/- A book as data and in memory; New, View, change. Conditions stand with each theorem. -/
import Derived.Test.YtlabebapjhhkaaaM8
import Derived.Test.YtlabebapjhhkaaaM4
import Derived.Test.YtlabebapjhhkaaaM3
import Derived.Lib.Bytealg
import Derived.Shelf.Abstract
namespace Go.Proofs.Ytlabebapjhhkaaa
open Go.RowKit
theorem w_heads_of (l : List HeadV) : ∀ {s : WS}, s.bad = false → (∀ x ∈ l, okH x) → (l.foldl WS.head s).bad = false ∧ (l.foldl WS.head s).out = s.out ++ l.flatMap eH := by
  induction l with
  | nil => intro s hs _; exact ⟨hs, by simp⟩
  | cons x r ih =>
    intro s hs h
    obtain ⟨k1, k2⟩ := h x List.mem_cons_self
    obtain ⟨a1, a2⟩ := w_bytes_of hs k1
    obtain ⟨b1, b2⟩ := w_int_of a1 k2
    obtain ⟨c1, c2⟩ := ih (s := s.head x) b1 (fun y hy => h y (List.mem_cons_of_mem _ hy))
    refine ⟨c1, ?_⟩
    rw [List.foldl_cons, c2]
    unfold WS.head eH
    rw [b2, a2, List.flatMap_cons]
    simp only [List.append_assoc]
theorem book_of_ok {k : BookV} (h : k.ok) : (WS.book ⟨[], false⟩ k).bad = false := by
  have hf : ∀ x ∈ k.up.map flagI, okI x := fun x hx => by obtain ⟨b, _, rfl⟩ := List.mem_map.1 hx; exact okI_flag b
  unfold WS.book
  exact (w_ints_of _ (w_int_of (w_ints_of _ (w_int_of (w_heads_of _ (w_ints_of _ rfl h.a).1 h.d).1 h.ul).1 hf).1 h.cl).1 h.c).1
/-- The order of names. -/
def ltB : List UInt8 → List UInt8 → Prop := fun a b => Lib.compareBytes a b < 0
/-- The names rise. -/
def Rising (l : List HeadV) : Prop := l.Pairwise fun a b => ltB a.id b.id
structure GoodV (N : Nat) (v : BookV) : Prop where
  s0 : 0 ≤ v.session
  s1 : v.session ≤ 1073741824
  d0 : 0 ≤ v.decided
  d1 : v.decided ≤ v.session
  e0 : 0 ≤ v.epoch
  e1 : v.epoch ≤ 1048576
  dl : v.dir.length ≤ 8
  dh : ∀ h ∈ v.dir, (1 ≤ h.id.length ∧ h.id.length ≤ 16) ∧ 0 ≤ h.size ∧ h.size ≤ 256
  srt : Rising v.dir
  ul : v.up.length = N
  cl : v.commit.length = N
  c : ∀ x ∈ v.commit, 0 ≤ x ∧ x ≤ 1073741824
/-- The bytes of a book. -/
def bk (v : BookV) : List UInt8 := (WS.book ⟨[], false⟩ v).out
section
variable {N : Nat} {v : BookV}
theorem GoodV.ok (h : GoodV N v) (hN : N ≤ 255) : v.ok := by
  have h1 := h.s0; have h2 := h.s1; have h3 := h.d0; have h4 := h.d1; have h5 := h.e0; have h6 := h.e1; have h7 := h.dl
  refine ⟨fun n hn => ?_, fun y hy => ?_, ?_, ?_, fun y hy => ?_⟩
  · simp only [List.mem_cons, List.not_mem_nil, or_false] at hn
    unfold okI
    rcases hn with rfl | rfl | rfl | rfl <;> omega
  · obtain ⟨⟨a1, a2⟩, a3, a4⟩ := h.dh y hy
    exact ⟨by unfold okB; omega, by unfold okI; omega⟩
  · rw [h.ul]; unfold okI; omega
  · rw [h.cl]; unfold okI; omega
  · have := h.c y hy; unfold okI; omega
theorem GoodV.bad (h : GoodV N v) (hN : N ≤ 255) : (WS.book ⟨[], false⟩ v).bad = false := book_of_ok (h.ok hN)
theorem GoodV.dec (h : GoodV N v) (hN : N ≤ 255) : decB (bk v) = (v, true) := decB_enc (h.bad hN)
theorem costH_le (l : List HeadV) (h : ∀ x ∈ l, x.id.length ≤ 16) : costH l ≤ 22 * l.length := by
  induction l with
  | nil => simp [costH]
  | cons x r ih =>
    have h1 := h x List.mem_cons_self
    have h2 := ih (fun y hy => h y (List.mem_cons_of_mem _ hy))
    simp only [costH, List.length_cons]
    omega
theorem GoodV.cost (h : GoodV N v) (hN : N ≤ 255) : v.cost ≤ 2240 := by
  have h1 := costH_le v.dir (fun x hx => (h.dh x hx).1.2)
  have h2 := h.dl
  unfold BookV.cost
  rw [h.ul, h.cl]
  omega
theorem flat_len {α : Type} (f : α → List UInt8) (k : Nat) (l : List α) (h : ∀ x ∈ l, (f x).length = k) : (l.flatMap f).length = k * l.length := by
  induction l with
  | nil => simp
  | cons x r ih =>
    rw [List.flatMap_cons, List.length_append, h x List.mem_cons_self, ih (fun y hy => h y (List.mem_cons_of_mem _ hy)), List.length_cons, Nat.mul_succ]
    omega
theorem flatH_len (l : List HeadV) : (l.flatMap eH).length = costH l := by
  induction l with
  | nil => rfl
  | cons x r ih =>
    rw [List.flatMap_cons, List.length_append, ih]
    unfold eH
    simp only [List.length_append, eI_len, eB_len, costH]
    omega
theorem GoodV.len (h : GoodV N v) (hN : N ≤ 255) : (bk v).length ≤ 2240 ∧ 24 ≤ (bk v).length := by
  have e := (book_enc (h.bad hN)).2
  have h4 := (book_lens v).2.2.2
  unfold bk
  rw [e]
  refine ⟨?_, h4⟩
  have hc := h.cost hN
  unfold BookV.cost at hc
  unfold BookV.enc
  simp only [List.length_append, eI_len, List.flatMap_cons, List.flatMap_nil, List.length_nil, flatH_len, flat_len eI 4 _ (fun _ _ => eI_len _), List.length_map]
  omega
theorem GoodV.takes (h : GoodV N v) (hN : N ≤ 255) : takesOf (bk v).length ≤ 70 := by
  have := (h.len hN).1
  unfold takesOf
  omega
theorem bk_inj {x y : BookV} (h : GoodV N x) (h' : GoodV N y) (hN : N ≤ 255) (e : bk x = bk y) : x = y := by
  have h1 := h.dec hN
  rw [e, h'.dec hN] at h1
  exact (Prod.mk.inj h1).1.symm
end
def firstV (N : Nat) : BookV := ⟨0, 0, 0, [], List.replicate N true, List.replicate N 0⟩
theorem firstV_good (N : Nat) : GoodV N (firstV N) :=
  ⟨Int.le_refl _, by simp [firstV], Int.le_refl _, Int.le_refl _, Int.le_refl _, by simp [firstV], Nat.zero_le _, fun _ h => (by cases h), List.Pairwise.nil, by simp [firstV], by simp [firstV], fun x hx => (by have := List.eq_of_mem_replicate hx; omega)⟩
/-- What is kept, and what it stands for. -/
structure KeptV (N : Nat) (kept : List UInt8) (v : BookV) : Prop where
  good : GoodV N v
  is : kept = [] ∧ v = firstV N ∨ kept = bk v
theorem KeptV.len {N : Nat} {kept : List UInt8} {v : BookV} (h : KeptV N kept v) (hN : N ≤ 255) : kept.length ≤ 2240 := by
  rcases h.is with ⟨e, _⟩ | e
  · rw [e]; simp
  · rw [e]; exact (h.good.len hN).1
theorem KeptV.takes {N : Nat} {kept : List UInt8} {v : BookV} (h : KeptV N kept v) (hN : N ≤ 255) : takesOf kept.length ≤ 70 := by
  have := h.len hN
  unfold takesOf
  omega
/-- A book: its power, whether it is off, what is kept, and what that stands for. -/
structure BM where
  pw : PW
  off : Bool
  kept : List UInt8
  v : BookV
def BM.down (m : BM) : Bool := m.off || m.pw.gone
/-- Another book is kept, as far as the power goes. -/
def BM.keep (m : BM) (x : BookV) : Int × BM :=
  (if (m.pw.run (takesOf (bk x).length + 1 + takesOf m.kept.length)).1 = true then 0 else 3,
   { m with pw := (m.pw.run (takesOf (bk x).length + 1 + takesOf m.kept.length)).2
            kept := if (m.pw.run (takesOf (bk x).length + 1)).1 = true then bk x else m.kept
            v := if (m.pw.run (takesOf (bk x).length + 1)).1 = true then x else m.v })
def BM.change (m : BM) (how : BookV → Int × BookV) : Int × BM :=
  if m.down = true then (3, m) else if (how m.v).1 ≠ 0 then ((how m.v).1, m) else m.keep (how m.v).2
structure BM.ok (m : BM) (N : Nat) : Prop where
  kv : KeptV N m.kept m.v
  n : N ≤ 255
theorem BM.keep_ok {m : BM} {N : Nat} (h : m.ok N) {x : BookV} (hx : GoodV N x) : (m.keep x).2.ok N := by
  unfold BM.keep
  refine ⟨?_, h.n⟩
  dsimp only
  split
  · exact ⟨hx, Or.inr rfl⟩
  · exact h.kv
theorem BM.change_ok {m : BM} {N : Nat} (h : m.ok N) {how : BookV → Int × BookV} (hh : (how m.v).1 = 0 → GoodV N (how m.v).2) : (m.change how).2.ok N := by
  unfold BM.change
  split
  · exact h
  · split
    · exact h
    · next h0 => exact BM.keep_ok h (hh (Classical.byContradiction fun e => h0 e))
theorem BM.keep_writes (m : BM) (N : Nat) (h : m.ok N) (x : BookV) (hx : GoodV N x) : (m.keep x).2.pw.writes ≤ m.pw.writes + 2000 := by
  have h1 := hx.takes h.n
  have h2 := h.kv.takes h.n
  have h3 := run_writes (takesOf (bk x).length + 1 + takesOf m.kept.length) m.pw
  unfold BM.keep
  dsimp only
  omega
theorem BM.change_writes (m : BM) (N : Nat) (h : m.ok N) (how : BookV → Int × BookV) (hh : (how m.v).1 = 0 → GoodV N (how m.v).2) : (m.change how).2.pw.writes ≤ m.pw.writes + 2000 := by
  unfold BM.change
  split
  · exact Nat.le_add_right _ _
  · split
    · exact Nat.le_add_right _ _
    · next h0 => exact BM.keep_writes m N h _ (hh (Classical.byContradiction fun e => h0 e))
end Go.Proofs.Ytlabebapjhhkaaa
namespace Go.Proofs.Ytlabebapjhhkaaa
open Go.RowKit
/-- The params. -/
structure PrmV where
  n : Nat
  t : Int
  k : Int
  e : Int
  room : Int
abbrev prmC (p : PrmV) : Array Value := #[.int .i64 (p.n : Int), .int .i64 p.t, .int .i64 p.k, .int .i64 p.e, .int .i64 p.room]
abbrev bkC (p : PrmV) (S : Nat) (off : Bool) : Array Value := #[.int .i64 (p.n : Int), .int .i64 p.t, .int .i64 p.k, .int .i64 p.e, .int .i64 p.room, .pointer (some ⟨S, 0, none⟩), .bool off]
/-- A book in memory: its block, and its slot, all of F. -/
structure KbAt (w : World) (F : Nat → Prop) (K : Nat) (p : PrmV) (m : BM) (S : Nat) (G : Nat → Prop) (s : DS) : Prop where
  blk : Blk w K 61 (bkC p S m.off)
  slot : SlotIs w G S 512 s
  notG : ¬ G K
  inF : ∀ k, G k → F k
  inK : F K
  pw : s.pw = m.pw
  disk : ∃ side, SOk s 512 side m.kept
  good : m.ok p.n
def KbIs (w : World) (F : Nat → Prop) (K : Nat) (p : PrmV) (m : BM) : Prop := ∃ S G s, KbAt w F K p m S G s
section
variable {w w' : World} {F G : Nat → Prop} {K : Nat} {p : PrmV} {m : BM}
theorem KbIs.weaken (h : KbIs w F K p m) (hn : ∀ k, F k → G k) : KbIs w G K p m := by
  obtain ⟨S, G', s, h⟩ := h
  exact ⟨S, G', s, h.blk, h.slot, h.notG, fun k e => hn k (h.inF k e), hn K h.inK, h.pw, h.disk, h.good⟩
theorem KbAt.keeps {S : Nat} {G' : Nat → Prop} {s : DS} (h : KbAt w F K p m S G' s) (hk : Keeps G w w') (hn : ∀ k, F k → ¬ G k) : KbAt w' F K p m S G' s :=
  ⟨h.blk.keeps hk (hn K h.inK), h.slot.keeps hk (fun k e => hn k (h.inF k e)), h.notG, h.inF, h.inK, h.pw, h.disk, h.good⟩
theorem KbIs.keeps (h : KbIs w F K p m) (hk : Keeps G w w') (hn : ∀ k, F k → ¬ G k) : KbIs w' F K p m := by
  obtain ⟨S, G', s, h⟩ := h
  exact ⟨S, G', s, h.keeps hk hn⟩
theorem KbIs.lt (h : KbIs w F K p m) : K < w.heap.size := by
  obtain ⟨S, G', s, h⟩ := h
  exact h.blk.lt
theorem KbIs.good (h : KbIs w F K p m) : m.ok p.n := by
  obtain ⟨S, G', s, h⟩ := h
  exact h.good
/-- All of a book lies in memory that is there. -/
theorem KbIs.tight (h : KbIs w F K p m) : KbIs w (fun k => F k ∧ k < w.heap.size) K p m := by
  obtain ⟨S, G', s, h⟩ := h
  refine ⟨S, fun k => G' k ∧ k < w.heap.size, s, h.blk, h.slot.tight.weaken (fun k e => ⟨e.1, by obtain ⟨o, e1, _⟩ := e.2; exact lt_of_get e1⟩), fun e => h.notG e.1, fun k e => ⟨h.inF k e.1, e.2⟩, ⟨h.inK, h.blk.lt⟩, h.pw, h.disk, h.good⟩
theorem KbIs.below (h : KbIs w F K p m) (hb : Below w.heap.size w w') : KbIs w' F K p m :=
  (h.tight.keeps (Keeps.of_below (F := fun _ => False) hb) (fun _ _ => id)).weaken (fun _ e => e.1)
end
def BM.new (n : Nat) : BM := ⟨⟨-1, false, 0⟩, false, [], firstV n⟩
theorem BM.new_ok {n : Nat} (h : n ≤ 255) : (BM.new n).ok n := ⟨⟨firstV_good n, Or.inl ⟨rfl, rfl⟩⟩, h⟩
theorem anyC_three {P : Program} {md : Region.Mode} {ops : Array Oper} {C : World → Prop} {Q : Exit → Act → World → Prop} {i j k : Nat} {oi oj ok : Oper} {f : Nat} {listed : Array Bool} {a : Act} {w : World} (hi : ops[i]? = some oi) (hj : ops[j]? = some oj) (hk : ops[k]? = some ok) (hr : Region.ready md ops listed = [i, j, k]) (hC : C w)
    (h1 : wpList P ops (Exit.then (anyC P md ops C Q f (listed.setIfInBounds i true)) Q) [oi] a w) (h2 : wpList P ops (Exit.then (anyC P md ops C Q f (listed.setIfInBounds j true)) Q) [oj] a w) (h3 : wpList P ops (Exit.then (anyC P md ops C Q f (listed.setIfInBounds k true)) Q) [ok] a w) : anyC P md ops C Q (f + 1) listed a w := by
  refine ⟨hC, fun h0 => (by rw [h0] at hr; cases hr), fun x hx => ?_⟩
  rw [hr] at hx
  simp only [List.mem_cons, List.not_mem_nil, or_false] at hx
  rcases hx with rfl | rfl | rfl
  · exact wpOp_of_list hi h1
  · exact wpOp_of_list hj h2
  · exact wpOp_of_list hk h3
set_option maxRecDepth 100000 in
theorem BNew_any (w : World) (p : PrmV) (hN : p.n ≤ 255) :
    Calls Try.prog 11 #[.agg (prmC p)] w fun e w' => ∃ K, e = .returned (.pointer (some ⟨K, 0, none⟩)) ∧ KbIs w' (fun k => w.heap.size ≤ k) K p (BM.new p.n) ∧ Below w.heap.size w w' := by
  have HN := Lib.hid hN; clear hN
  go_enter Try.func11, Try.ntmps11
  go_upto_region 1 with (fail)
  have hB := Blk.new w 23 (prmC p)
  have hb1 : Below w.heap.size w (w.alloc (.cells (prmC p) 23)) := (Below.refl _ _).alloc (Nat.le_refl _) _
  have hlt : w.heap.size < (w.alloc (.cells (prmC p) 23)).heap.size := by simp
  generalize w.alloc (.cells (prmC p) 23) = w1 at hB hb1 hlt ⊢
  have HB := Lib.hid hB; have HB1 := Lib.hid hb1; have HLT := Lib.hid hlt
  clear hB hb1 hlt
  refine wp_region_anyN (Below w1.heap.size w1) (by kernel_rfl) ?_
  refine anyC_takes (by kernel_rfl) (fun _ _ _ _ _ h => h) [0] 4 _ _ (by kernel_rfl) ?_
  simp only [List.filterMap_cons, List.filterMap_nil, List.getElem?_toArray, List.getElem?_cons_succ, List.getElem?_cons_zero]
  show wpQuiet _ _ _ _ (_ :: List.nil) _
  repeat (first | go_big_quiet_skip | (go_big_quiet_want; first | (refine quiet_load_row 23 (.tmp 1) rfl w.heap.size rfl _ _ _ (fun W hW => HB.out.below hW HLT.out) Try.underlying23 rfl (by kernel_rfl) ?_; simp only [Act.put, List.setIfInBounds_toArray, List.set_cons_succ, List.set_cons_zero]; go_big_quiet_on) | (go_big_quiet_op; first | go_big_quiet_on | (refine ⟨_, fun _ _ => rfl, ?_⟩; go_big_quiet_on))))
  refine wpQuiet_nil ?_
  have hC0 : Below w1.heap.size w1 w1.drew := (Below.refl _ _).drew
  refine anyC_only (i := 1) rfl (by kernel_rfl) hC0 ?_
  go_wp2_with fail
  refine (SNew_any w1.drew 512 (by omega)).mono ?_
  rintro e w2 ⟨S, rfl, hs, hb2⟩
  have hs' : SlotIs w2 (fun k => w1.heap.size ≤ k) S 512 (DS.new (1 + 2 * ((512 : Nat) : Int))) := hs
  have hC2 : Below w1.heap.size w1 w2 := hC0.trans hb2
  have HS := Lib.hid hs'; have HC2 := Lib.hid hC2
  clear hs hs' hb2 hC0 hC2
  go_wp2_with fail
  refine anyC_takes (by kernel_rfl) (fun _ _ _ _ _ h => h) [2] 2 _ _ (by kernel_rfl) ?_
  simp only [List.filterMap_cons, List.filterMap_nil, List.getElem?_toArray, List.getElem?_cons_succ, List.getElem?_cons_zero]
  show wpQuiet _ _ _ _ (_ :: List.nil) _
  repeat (first | go_big_quiet_skip | (go_big_quiet_want; first | (fail; simp only [Act.put, List.setIfInBounds_toArray, List.set_cons_succ, List.set_cons_zero]; go_big_quiet_on) | (go_big_quiet_op; first | go_big_quiet_on | (refine ⟨_, fun _ _ => rfl, ?_⟩; go_big_quiet_on))))
  refine wpQuiet_nil ?_
  refine anyC_only (i := 3) rfl (by kernel_rfl) HC2.out ?_
  go_wp2_with fail
  refine anyC_takes (by kernel_rfl) (fun _ _ _ _ _ h => h) [4] 0 _ _ (by kernel_rfl) ?_
  simp only [List.filterMap_cons, List.filterMap_nil, List.getElem?_toArray, List.getElem?_cons_succ, List.getElem?_cons_zero]
  show wpQuiet _ _ _ _ (_ :: List.nil) _
  repeat (first | go_big_quiet_skip | (go_big_quiet_want; first | (fail; simp only [Act.put, List.setIfInBounds_toArray, List.set_cons_succ, List.set_cons_zero]; go_big_quiet_on) | (go_big_quiet_op; first | go_big_quiet_on | (refine ⟨_, fun _ _ => rfl, ?_⟩; go_big_quiet_on))))
  refine wpQuiet_nil ?_
  refine ⟨HC2.out.alloc HC2.out.size _, by kernel_rfl, ?_⟩
  go_wp2
  go_ret
  obtain ⟨h1, h2⟩ := SOk.new 512 (by omega)
  refine ⟨_, rfl, ⟨S, fun k => w1.heap.size ≤ k ∧ k < w2.heap.size, _, Blk.new _ _ _, HS.out.before _, fun e => Nat.lt_irrefl _ e.2, fun k e => Nat.le_trans HB1.out.size e.1, Nat.le_trans HB1.out.size HC2.out.size, rfl, ⟨0, h1⟩, BM.new_ok HN.out⟩, (HB1.out.trans (HC2.out.mono HB1.out.size)).alloc (Nat.le_trans HB1.out.size HC2.out.size) _⟩
theorem BDown_any (w : World) (F : Nat → Prop) (K : Nat) (p : PrmV) (m : BM) (h : KbIs w F K p m) :
    Calls Try.prog 15 #[.pointer (some ⟨K, 0, none⟩)] w fun e w' => e = .returned (.bool m.down) ∧ w' = w := by
  obtain ⟨S, G, s, h⟩ := h
  have hsg : s.down = m.pw.gone := by rw [← h.pw]; rfl
  have c5 : w.cell? ⟨K, 5, none⟩ = some (.pointer (some ⟨S, 0, none⟩)) := (h.blk.cell 5).trans rfl
  have c6 : w.cell? ⟨K, 6, none⟩ = some (.bool m.off) := (h.blk.cell 6).trans rfl
  have HS := Lib.hid h.slot; have HG := Lib.hid hsg
  clear h hsg
  unfold BM.down
  rw [← HG.out]
  generalize m.off = off at c6 ⊢
  cases off with
  | false =>
    go_enter Try.func15, Try.ntmps15
    go_wp2_with (go_at_call 35; refine (SDown_any w G S 512 s HS.out).mono ?_; rintro e w7 ⟨rfl, rfl⟩)
    go_ret
    exact ⟨rfl, rfl⟩
  | true =>
    go_enter Try.func15, Try.ntmps15
    go_wp2
    go_ret
    exact ⟨rfl, rfl⟩
end Go.Proofs.Ytlabebapjhhkaaa
namespace Go.Proofs.Ytlabebapjhhkaaa
open Go.RowKit
theorem madeOne (z : Value) (n : Nat) : madeCells #[z] (n * 1) = (List.replicate n z).toArray := by
  rw [Nat.mul_one, ← toList_madeCells_one z n]
theorem make_bools (N : Nat) (hN : N ≤ 255) (W : World) : (Instr.makeSlice 42 (.int .i64 (N : Int)) (.int .i64 (N : Int))).run Try.prog W = .ok (.slice (some ⟨W.heap.size, 0, none⟩) N N) (W.alloc (.cells (List.replicate N (Value.bool false)).toArray 4)) := by
  obtain ⟨i0, hi0, hz0, hz1, hz2⟩ := info_parts bool_info
  have h := run_make (P := Try.prog) W 42 4 i0 _ Try.underlying42 hi0 hz0 .i64 .i64 (N : Int) (N : Int) (by omega) (by omega) (by rw [hz2]; omega) (by omega)
  have e : madeCells (Value.cells (Value.bool false)) (N * 1) = (List.replicate N (Value.bool false)).toArray := madeOne _ _
  rw [hz1, Int.toNat_natCast, e] at h
  exact h
theorem make_ints (N : Nat) (hN : N ≤ 255) (W : World) : (Instr.makeSlice 36 (.int .i64 (N : Int)) (.int .i64 (N : Int))).run Try.prog W = .ok (.slice (some ⟨W.heap.size, 0, none⟩) N N) (W.alloc (.cells (List.replicate N (Value.int .i64 0)).toArray 3)) := by
  obtain ⟨i0, hi0, hz0, hz1, hz2⟩ := info_parts i64_info
  have h := run_make (P := Try.prog) W 36 3 i0 _ Try.underlying36 hi0 hz0 .i64 .i64 (N : Int) (N : Int) (by omega) (by omega) (by rw [hz2]; omega) (by omega)
  have e : madeCells (Value.cells (Value.int .i64 0)) (N * 1) = (List.replicate N (Value.int .i64 0)).toArray := madeOne _ _
  rw [hz1, Int.toNat_natCast, e] at h
  exact h
theorem row_lit (w : World) (base g : Nat) (e : TypeId) (l : List Value) (n : Nat) (hb : base ≤ g) (h : Blk w g e l.toArray) (hn : l.length = n) (hm : n ≤ 255) : w.ownsRow base e 1 (.slice (some ⟨g, 0, none⟩) n n) n l := by
  subst hn
  exact ⟨by simp, Or.inr ⟨g, l.length, l.toArray, rfl, hb, h, Nat.le_refl _, by simp only [maxLen]; omega, by simp, by simp [List.take_of_length_le]⟩⟩
theorem below3 (w : World) (a b c : Obj) : Below w.heap.size w (((w.alloc a).alloc b).alloc c) := (((Below.refl _ _).alloc (Nat.le_refl _) a).alloc (by simp) b).alloc (by simp; omega) c
/-- So many are up. -/
def ups (N j : Nat) : List Bool := List.replicate j true ++ List.replicate (N - j) false
theorem ups_set (N j : Nat) (hj : j < N) : ((ups N j).map Value.bool).set j (.bool true) = (ups N (j + 1)).map Value.bool := by
  unfold ups
  rw [← List.map_set]
  congr 1
  apply List.ext_getElem?
  intro k
  simp only [List.getElem?_set, List.length_append, List.length_replicate, List.getElem?_append, List.getElem?_replicate]
  by_cases h1 : j = k
  · subst h1
    simp
    omega
  · simp only [h1, if_false]
    by_cases h2 : k < j
    · simp [h2, Nat.lt_succ_of_lt h2]
    · have h3 : ¬ k < j + 1 := by omega
      simp only [h2, h3, if_false]
      by_cases h4 : k - j < N - j
      · rw [if_pos h4, if_pos (by omega)]
      · rw [if_neg h4, if_neg (by omega)]
theorem ups_len (N j : Nat) (hj : j ≤ N) : (ups N j).length = N := by unfold ups; simp; omega
/-- What a book's value is, in a world: its rows of base on. -/
def ViewPost (w : World) (v : BookV) (e : Ending) (w' : World) : Prop := ∃ (Ad Au Ac : Option Addr) (cd cu cc : Nat),
  e = .returned (.agg (bookCells v Ad Au Ac cd cu cc)) ∧ BookOwn w' w.heap.size v (.slice Ad v.dir.length cd) (.slice Au v.up.length cu) (.slice Ac v.commit.length cc) ∧ Below w.heap.size w w'
set_option maxRecDepth 100000 in
set_option maxHeartbeats 4000000 in
theorem first_any (w : World) (K : Nat) (p : PrmV) (S : Nat) (off : Bool) (hN : p.n ≤ 255) (h : Blk w K 61 (bkC p S off)) :
    Calls Try.prog 38 #[.pointer (some ⟨K, 0, none⟩)] w (ViewPost w (firstV p.n)) := by
  obtain ⟨N, T, Kk, E, Room⟩ := p
  simp only at hN h ⊢
  have HN := Lib.hid hN
  go_enter Try.func38, Try.ntmps38
  go_upto_region 1 with (fail)
  have hb1 : Below w.heap.size w (w.alloc (.cells zeroBook 44)) := (Below.refl _ _).alloc (Nat.le_refl _) _
  have hR := Blk.new w 44 zeroBook
  have hK1 := h.alloc (.cells zeroBook 44)
  have hlt : w.heap.size < (w.alloc (.cells zeroBook 44)).heap.size := by simp
  obtain ⟨R, hRe⟩ : ∃ R, R = w.heap.size := ⟨_, rfl⟩
  rw [← hRe] at hR ⊢
  obtain ⟨w1, hw1⟩ : ∃ w1, w1 = w.alloc (.cells zeroBook 44) := ⟨_, rfl⟩
  rw [← hw1] at hb1 hR hK1 hlt ⊢
  have HB1 := Lib.hid hb1; have HR := Lib.hid hR; have HK := Lib.hid hK1; have HLT := Lib.hid hlt; have HRE := Lib.hid hRe
  have hmb := make_bools N hN; have hmi := make_ints N hN
  clear hb1 hR hK1 hlt hw1 hRe h
  have hcN : ∀ W, Below w1.heap.size w1 W → W.cell? ⟨K, 0, none⟩ = some (.int .i64 (N : Int)) := fun W hW => ((HK.out.below hW HK.out.lt).cell 0).trans rfl
  have HCN := Lib.hid hcN; clear hcN
  refine wp_mono (Q := fun e a W => ∃ gU gC gV, (e = .normal ∧ ∃ (u4 u5 u6 u7 u8 u9 u10 u11 u12 u13 u14 u15 u16 u17 u18 u19 u20 u21 u22 u23 u24 u25 u26 u27 u28 u29 : Value), a = ⟨List.toArray (.pointer (some ⟨K, 0, none⟩) :: undef :: .pointer (some ⟨R, 0, none⟩) :: .pointer (some ⟨gV, 0, none⟩) :: u4 :: u5 :: u6 :: u7 :: u8 :: u9 :: u10 :: u11 :: u12 :: u13 :: u14 :: u15 :: u16 :: u17 :: u18 :: u19 :: u20 :: u21 :: u22 :: u23 :: u24 :: u25 :: u26 :: u27 :: u28 :: u29 :: List.nil), []⟩) ∧ Blk W gU 4 (List.replicate N (Value.bool false)).toArray ∧ Blk W gC 3 (List.replicate N (Value.int .i64 0)).toArray ∧
    Blk W gV 44 #[.int .i64 0, .int .i64 0, .int .i64 0, .slice none 0 0, .slice (some ⟨gU, 0, none⟩) N N, .slice (some ⟨gC, 0, none⟩) N N] ∧ Below w1.heap.size w1 W ∧ w1.heap.size ≤ gU ∧ w1.heap.size ≤ gC ∧ w1.heap.size ≤ gV) ?_ ?_
  · clear HR HRE HB1
    refine wp_region_anyN (Below w1.heap.size w1) (by kernel_rfl) ?_
    refine anyC_takes (by kernel_rfl) (fun _ _ _ _ _ h => h) [0, 1, 2, 3, 4, 6, 7, 8, 9, 10] 5 _ _ (by kernel_rfl) ?_
    simp only [List.filterMap_cons, List.filterMap_nil, List.getElem?_toArray, List.getElem?_cons_succ, List.getElem?_cons_zero]
    show wpQuiet _ _ _ _ (_ :: _ :: _ :: _ :: _ :: _ :: _ :: _ :: _ :: _ :: List.nil) _
    repeat (first | go_big_quiet_skip | (go_big_quiet_want; first | (refine quiet_load 3 (.tmp 8) rfl ⟨K, 0, none⟩ rfl _ HCN.out (fun _ => by kernel_rfl) ?_; simp only [Act.put, List.setIfInBounds_toArray, List.set_cons_succ, List.set_cons_zero]; go_big_quiet_on) | (refine quiet_load 3 (.tmp 14) rfl ⟨K, 0, none⟩ rfl _ HCN.out (fun _ => by kernel_rfl) ?_; simp only [Act.put, List.setIfInBounds_toArray, List.set_cons_succ, List.set_cons_zero]; go_big_quiet_on) | (go_big_quiet_op; first | go_big_quiet_on | (refine ⟨_, fun _ _ => rfl, ?_⟩; go_big_quiet_on))))
    refine wpQuiet_nil ?_
    refine anyC_three (i := 5) (j := 11) (k := 13) rfl rfl rfl (by kernel_rfl) ((Below.refl _ _).drew) ?_ ?_ ?_
    · go_wp2_with fail
      refine anyC_two (i := 11) (j := 13) rfl rfl (by kernel_rfl) (((Below.refl _ _).alloc (Nat.le_refl _) _).drew) ?_ ?_
      · go_wp2_with fail
        refine anyC_takes (by kernel_rfl) (fun _ _ _ _ _ h => h) [12] 2 _ _ (by kernel_rfl) ?_
        simp only [List.filterMap_cons, List.filterMap_nil, List.getElem?_toArray, List.getElem?_cons_succ, List.getElem?_cons_zero]
        show wpQuiet _ _ _ _ (_ :: List.nil) _
        repeat (first | go_big_quiet_skip | (go_big_quiet_want; first | (fail; simp only [Act.put, List.setIfInBounds_toArray, List.set_cons_succ, List.set_cons_zero]; go_big_quiet_on) | (go_big_quiet_op; first | go_big_quiet_on | (refine ⟨_, fun _ _ => rfl, ?_⟩; go_big_quiet_on))))
        refine wpQuiet_nil ?_
        refine anyC_only (i := 13) rfl (by kernel_rfl) ((((Below.refl _ _).alloc (Nat.le_refl _) _).alloc (by simp) _).drew) ?_
        go_wp2_with fail
        have hA : Blk (((w1.alloc (.cells (Array.replicate N (Value.bool false)) 4)).alloc (.cells (Array.replicate N (Value.int .i64 0)) 3)).alloc (.cells zeroBook 44)) w1.heap.size 4 (List.replicate N (Value.bool false)).toArray := by rw [List.toArray_replicate]; exact ((Blk.new _ _ _).alloc _).alloc _
        have hB : Blk (((w1.alloc (.cells (Array.replicate N (Value.bool false)) 4)).alloc (.cells (Array.replicate N (Value.int .i64 0)) 3)).alloc (.cells zeroBook 44)) (w1.heap.size + 1) 3 (List.replicate N (Value.int .i64 0)).toArray := by rw [List.toArray_replicate]; exact (Blk.new' (by simp)).alloc _
        have hV : Blk (((w1.alloc (.cells (Array.replicate N (Value.bool false)) 4)).alloc (.cells (Array.replicate N (Value.int .i64 0)) 3)).alloc (.cells zeroBook 44)) (w1.heap.size + 1 + 1) 44 zeroBook := Blk.new' (by simp)
        have hW : Below w1.heap.size w1 (((w1.alloc (.cells (Array.replicate N (Value.bool false)) 4)).alloc (.cells (Array.replicate N (Value.int .i64 0)) 3)).alloc (.cells zeroBook 44)) := below3 _ _ _ _
        refine anyC_only (i := 14) rfl (by kernel_rfl) hW.drew ?_
        generalize (((w1.alloc (.cells (Array.replicate N (Value.bool false)) 4)).alloc (.cells (Array.replicate N (Value.int .i64 0)) 3)).alloc (.cells zeroBook 44)) = W at hA hB hV hW ⊢
        go_wp2_with (refine wpList_store_row rfl 44 (.tmp 3) (.tmp 17) rfl (w1.heap.size + 1 + 1) _ (by rfl) (by rfl) _ _ hV.drew (by kernel_rfl) (by rfl) (by simp [Value.oneCell']) ?_)
        refine ⟨below_setRow hW.drew (by omega) _, by kernel_rfl, ?_⟩
        exact ⟨_, _, _, ⟨by trivial, _, _, _, _, _, _, _, _, _, _, _, _, _, _, _, _, _, _, _, _, _, _, _, _, _, _, rfl⟩, hA.drew.setRow_ne (Blk.ne_ hA hV (by decide)) _, hB.drew.setRow_ne (Blk.ne_ hB hV (by decide)) _, hV.drew.setRow _, below_setRow hW.drew (by omega) _, by omega, by omega, by omega⟩
      · go_wp2_with fail
        refine anyC_only (i := 11) rfl (by kernel_rfl) ((((Below.refl _ _).alloc (Nat.le_refl _) _).alloc (by simp) _).drew) ?_
        go_wp2_with fail
        refine anyC_takes (by kernel_rfl) (fun _ _ _ _ _ h => h) [12] 1 _ _ (by kernel_rfl) ?_
        simp only [List.filterMap_cons, List.filterMap_nil, List.getElem?_toArray, List.getElem?_cons_succ, List.getElem?_cons_zero]
        show wpQuiet _ _ _ _ (_ :: List.nil) _
        repeat (first | go_big_quiet_skip | (go_big_quiet_want; first | (fail; simp only [Act.put, List.setIfInBounds_toArray, List.set_cons_succ, List.set_cons_zero]; go_big_quiet_on) | (go_big_quiet_op; first | go_big_quiet_on | (refine ⟨_, fun _ _ => rfl, ?_⟩; go_big_quiet_on))))
        refine wpQuiet_nil ?_
        have hA : Blk (((w1.alloc (.cells (Array.replicate N (Value.bool false)) 4)).alloc (.cells zeroBook 44)).alloc (.cells (Array.replicate N (Value.int .i64 0)) 3)) w1.heap.size 4 (List.replicate N (Value.bool false)).toArray := by rw [List.toArray_replicate]; exact ((Blk.new _ _ _).alloc _).alloc _
        have hB : Blk (((w1.alloc (.cells (Array.replicate N (Value.bool false)) 4)).alloc (.cells zeroBook 44)).alloc (.cells (Array.replicate N (Value.int .i64 0)) 3)) (w1.heap.size + 1 + 1) 3 (List.replicate N (Value.int .i64 0)).toArray := by rw [List.toArray_replicate]; exact Blk.new' (by simp)
        have hV : Blk (((w1.alloc (.cells (Array.replicate N (Value.bool false)) 4)).alloc (.cells zeroBook 44)).alloc (.cells (Array.replicate N (Value.int .i64 0)) 3)) (w1.heap.size + 1) 44 zeroBook := (Blk.new' (by simp)).alloc _
        have hW : Below w1.heap.size w1 (((w1.alloc (.cells (Array.replicate N (Value.bool false)) 4)).alloc (.cells zeroBook 44)).alloc (.cells (Array.replicate N (Value.int .i64 0)) 3)) := below3 _ _ _ _
        refine anyC_only (i := 14) rfl (by kernel_rfl) hW.drew ?_
        generalize (((w1.alloc (.cells (Array.replicate N (Value.bool false)) 4)).alloc (.cells zeroBook 44)).alloc (.cells (Array.replicate N (Value.int .i64 0)) 3)) = W at hA hB hV hW ⊢
        go_wp2_with (refine wpList_store_row rfl 44 (.tmp 3) (.tmp 17) rfl (w1.heap.size + 1) _ (by rfl) (by rfl) _ _ hV.drew (by kernel_rfl) (by rfl) (by simp [Value.oneCell']) ?_)
        refine ⟨below_setRow hW.drew (by omega) _, by kernel_rfl, ?_⟩
        exact ⟨_, _, _, ⟨by trivial, _, _, _, _, _, _, _, _, _, _, _, _, _, _, _, _, _, _, _, _, _, _, _, _, _, _, rfl⟩, hA.drew.setRow_ne (Blk.ne_ hA hV (by decide)) _, hB.drew.setRow_ne (Blk.ne_ hB hV (by decide)) _, hV.drew.setRow _, below_setRow hW.drew (by omega) _, by omega, by omega, by omega⟩
    · go_wp2_with fail
      refine anyC_two (i := 5) (j := 13) rfl rfl (by kernel_rfl) (((Below.refl _ _).alloc (Nat.le_refl _) _).drew) ?_ ?_
      · go_wp2_with fail
        refine anyC_takes (by kernel_rfl) (fun _ _ _ _ _ h => h) [12] 2 _ _ (by kernel_rfl) ?_
        simp only [List.filterMap_cons, List.filterMap_nil, List.getElem?_toArray, List.getElem?_cons_succ, List.getElem?_cons_zero]
        show wpQuiet _ _ _ _ (_ :: List.nil) _
        repeat (first | go_big_quiet_skip | (go_big_quiet_want; first | (fail; simp only [Act.put, List.setIfInBounds_toArray, List.set_cons_succ, List.set_cons_zero]; go_big_quiet_on) | (go_big_quiet_op; first | go_big_quiet_on | (refine ⟨_, fun _ _ => rfl, ?_⟩; go_big_quiet_on))))
        refine wpQuiet_nil ?_
        refine anyC_only (i := 13) rfl (by kernel_rfl) ((((Below.refl _ _).alloc (Nat.le_refl _) _).alloc (by simp) _).drew) ?_
        go_wp2_with fail
        have hA : Blk (((w1.alloc (.cells (Array.replicate N (Value.int .i64 0)) 3)).alloc (.cells (Array.replicate N (Value.bool false)) 4)).alloc (.cells zeroBook 44)) (w1.heap.size + 1) 4 (List.replicate N (Value.bool false)).toArray := by rw [List.toArray_replicate]; exact (Blk.new' (by simp)).alloc _
        have hB : Blk (((w1.alloc (.cells (Array.replicate N (Value.int .i64 0)) 3)).alloc (.cells (Array.replicate N (Value.bool false)) 4)).alloc (.cells zeroBook 44)) w1.heap.size 3 (List.replicate N (Value.int .i64 0)).toArray := by rw [List.toArray_replicate]; exact ((Blk.new _ _ _).alloc _).alloc _
        have hV : Blk (((w1.alloc (.cells (Array.replicate N (Value.int .i64 0)) 3)).alloc (.cells (Array.replicate N (Value.bool false)) 4)).alloc (.cells zeroBook 44)) (w1.heap.size + 1 + 1) 44 zeroBook := Blk.new' (by simp)
        have hW : Below w1.heap.size w1 (((w1.alloc (.cells (Array.replicate N (Value.int .i64 0)) 3)).alloc (.cells (Array.replicate N (Value.bool false)) 4)).alloc (.cells zeroBook 44)) := below3 _ _ _ _
        refine anyC_only (i := 14) rfl (by kernel_rfl) hW.drew ?_
        generalize (((w1.alloc (.cells (Array.replicate N (Value.int .i64 0)) 3)).alloc (.cells (Array.replicate N (Value.bool false)) 4)).alloc (.cells zeroBook 44)) = W at hA hB hV hW ⊢
        go_wp2_with (refine wpList_store_row rfl 44 (.tmp 3) (.tmp 17) rfl (w1.heap.size + 1 + 1) _ (by rfl) (by rfl) _ _ hV.drew (by kernel_rfl) (by rfl) (by simp [Value.oneCell']) ?_)
        refine ⟨below_setRow hW.drew (by omega) _, by kernel_rfl, ?_⟩
        exact ⟨_, _, _, ⟨by trivial, _, _, _, _, _, _, _, _, _, _, _, _, _, _, _, _, _, _, _, _, _, _, _, _, _, _, rfl⟩, hA.drew.setRow_ne (Blk.ne_ hA hV (by decide)) _, hB.drew.setRow_ne (Blk.ne_ hB hV (by decide)) _, hV.drew.setRow _, below_setRow hW.drew (by omega) _, by omega, by omega, by omega⟩
      · go_wp2_with fail
        refine anyC_only (i := 5) rfl (by kernel_rfl) ((((Below.refl _ _).alloc (Nat.le_refl _) _).alloc (by simp) _).drew) ?_
        go_wp2_with fail
        refine anyC_takes (by kernel_rfl) (fun _ _ _ _ _ h => h) [12] 1 _ _ (by kernel_rfl) ?_
        simp only [List.filterMap_cons, List.filterMap_nil, List.getElem?_toArray, List.getElem?_cons_succ, List.getElem?_cons_zero]
        show wpQuiet _ _ _ _ (_ :: List.nil) _
        repeat (first | go_big_quiet_skip | (go_big_quiet_want; first | (fail; simp only [Act.put, List.setIfInBounds_toArray, List.set_cons_succ, List.set_cons_zero]; go_big_quiet_on) | (go_big_quiet_op; first | go_big_quiet_on | (refine ⟨_, fun _ _ => rfl, ?_⟩; go_big_quiet_on))))
        refine wpQuiet_nil ?_
        have hA : Blk (((w1.alloc (.cells (Array.replicate N (Value.int .i64 0)) 3)).alloc (.cells zeroBook 44)).alloc (.cells (Array.replicate N (Value.bool false)) 4)) (w1.heap.size + 1 + 1) 4 (List.replicate N (Value.bool false)).toArray := by rw [List.toArray_replicate]; exact Blk.new' (by simp)
        have hB : Blk (((w1.alloc (.cells (Array.replicate N (Value.int .i64 0)) 3)).alloc (.cells zeroBook 44)).alloc (.cells (Array.replicate N (Value.bool false)) 4)) w1.heap.size 3 (List.replicate N (Value.int .i64 0)).toArray := by rw [List.toArray_replicate]; exact ((Blk.new _ _ _).alloc _).alloc _
        have hV : Blk (((w1.alloc (.cells (Array.replicate N (Value.int .i64 0)) 3)).alloc (.cells zeroBook 44)).alloc (.cells (Array.replicate N (Value.bool false)) 4)) (w1.heap.size + 1) 44 zeroBook := (Blk.new' (by simp)).alloc _
        have hW : Below w1.heap.size w1 (((w1.alloc (.cells (Array.replicate N (Value.int .i64 0)) 3)).alloc (.cells zeroBook 44)).alloc (.cells (Array.replicate N (Value.bool false)) 4)) := below3 _ _ _ _
        refine anyC_only (i := 14) rfl (by kernel_rfl) hW.drew ?_
        generalize (((w1.alloc (.cells (Array.replicate N (Value.int .i64 0)) 3)).alloc (.cells zeroBook 44)).alloc (.cells (Array.replicate N (Value.bool false)) 4)) = W at hA hB hV hW ⊢
        go_wp2_with (refine wpList_store_row rfl 44 (.tmp 3) (.tmp 17) rfl (w1.heap.size + 1) _ (by rfl) (by rfl) _ _ hV.drew (by kernel_rfl) (by rfl) (by simp [Value.oneCell']) ?_)
        refine ⟨below_setRow hW.drew (by omega) _, by kernel_rfl, ?_⟩
        exact ⟨_, _, _, ⟨by trivial, _, _, _, _, _, _, _, _, _, _, _, _, _, _, _, _, _, _, _, _, _, _, _, _, _, _, rfl⟩, hA.drew.setRow_ne (Blk.ne_ hA hV (by decide)) _, hB.drew.setRow_ne (Blk.ne_ hB hV (by decide)) _, hV.drew.setRow _, below_setRow hW.drew (by omega) _, by omega, by omega, by omega⟩
    · go_wp2_with fail
      refine anyC_two (i := 5) (j := 11) rfl rfl (by kernel_rfl) (((Below.refl _ _).alloc (Nat.le_refl _) _).drew) ?_ ?_
      · go_wp2_with fail
        refine anyC_only (i := 11) rfl (by kernel_rfl) ((((Below.refl _ _).alloc (Nat.le_refl _) _).alloc (by simp) _).drew) ?_
        go_wp2_with fail
        refine anyC_takes (by kernel_rfl) (fun _ _ _ _ _ h => h) [12] 1 _ _ (by kernel_rfl) ?_
        simp only [List.filterMap_cons, List.filterMap_nil, List.getElem?_toArray, List.getElem?_cons_succ, List.getElem?_cons_zero]
        show wpQuiet _ _ _ _ (_ :: List.nil) _
        repeat (first | go_big_quiet_skip | (go_big_quiet_want; first | (fail; simp only [Act.put, List.setIfInBounds_toArray, List.set_cons_succ, List.set_cons_zero]; go_big_quiet_on) | (go_big_quiet_op; first | go_big_quiet_on | (refine ⟨_, fun _ _ => rfl, ?_⟩; go_big_quiet_on))))
        refine wpQuiet_nil ?_
        have hA : Blk (((w1.alloc (.cells zeroBook 44)).alloc (.cells (Array.replicate N (Value.bool false)) 4)).alloc (.cells (Array.replicate N (Value.int .i64 0)) 3)) (w1.heap.size + 1) 4 (List.replicate N (Value.bool false)).toArray := by rw [List.toArray_replicate]; exact (Blk.new' (by simp)).alloc _
        have hB : Blk (((w1.alloc (.cells zeroBook 44)).alloc (.cells (Array.replicate N (Value.bool false)) 4)).alloc (.cells (Array.replicate N (Value.int .i64 0)) 3)) (w1.heap.size + 1 + 1) 3 (List.replicate N (Value.int .i64 0)).toArray := by rw [List.toArray_replicate]; exact Blk.new' (by simp)
        have hV : Blk (((w1.alloc (.cells zeroBook 44)).alloc (.cells (Array.replicate N (Value.bool false)) 4)).alloc (.cells (Array.replicate N (Value.int .i64 0)) 3)) w1.heap.size 44 zeroBook := ((Blk.new _ _ _).alloc _).alloc _
        have hW : Below w1.heap.size w1 (((w1.alloc (.cells zeroBook 44)).alloc (.cells (Array.replicate N (Value.bool false)) 4)).alloc (.cells (Array.replicate N (Value.int .i64 0)) 3)) := below3 _ _ _ _
        refine anyC_only (i := 14) rfl (by kernel_rfl) hW.drew ?_
        generalize (((w1.alloc (.cells zeroBook 44)).alloc (.cells (Array.replicate N (Value.bool false)) 4)).alloc (.cells (Array.replicate N (Value.int .i64 0)) 3)) = W at hA hB hV hW ⊢
        go_wp2_with (refine wpList_store_row rfl 44 (.tmp 3) (.tmp 17) rfl w1.heap.size _ (by rfl) (by rfl) _ _ hV.drew (by kernel_rfl) (by rfl) (by simp [Value.oneCell']) ?_)
        refine ⟨below_setRow hW.drew (by omega) _, by kernel_rfl, ?_⟩
        exact ⟨_, _, _, ⟨by trivial, _, _, _, _, _, _, _, _, _, _, _, _, _, _, _, _, _, _, _, _, _, _, _, _, _, _, rfl⟩, hA.drew.setRow_ne (Blk.ne_ hA hV (by decide)) _, hB.drew.setRow_ne (Blk.ne_ hB hV (by decide)) _, hV.drew.setRow _, below_setRow hW.drew (by omega) _, by omega, by omega, by omega⟩
      · go_wp2_with fail
        refine anyC_only (i := 5) rfl (by kernel_rfl) ((((Below.refl _ _).alloc (Nat.le_refl _) _).alloc (by simp) _).drew) ?_
        go_wp2_with fail
        refine anyC_takes (by kernel_rfl) (fun _ _ _ _ _ h => h) [12] 1 _ _ (by kernel_rfl) ?_
        simp only [List.filterMap_cons, List.filterMap_nil, List.getElem?_toArray, List.getElem?_cons_succ, List.getElem?_cons_zero]
        show wpQuiet _ _ _ _ (_ :: List.nil) _
        repeat (first | go_big_quiet_skip | (go_big_quiet_want; first | (fail; simp only [Act.put, List.setIfInBounds_toArray, List.set_cons_succ, List.set_cons_zero]; go_big_quiet_on) | (go_big_quiet_op; first | go_big_quiet_on | (refine ⟨_, fun _ _ => rfl, ?_⟩; go_big_quiet_on))))
        refine wpQuiet_nil ?_
        have hA : Blk (((w1.alloc (.cells zeroBook 44)).alloc (.cells (Array.replicate N (Value.int .i64 0)) 3)).alloc (.cells (Array.replicate N (Value.bool false)) 4)) (w1.heap.size + 1 + 1) 4 (List.replicate N (Value.bool false)).toArray := by rw [List.toArray_replicate]; exact Blk.new' (by simp)
        have hB : Blk (((w1.alloc (.cells zeroBook 44)).alloc (.cells (Array.replicate N (Value.int .i64 0)) 3)).alloc (.cells (Array.replicate N (Value.bool false)) 4)) (w1.heap.size + 1) 3 (List.replicate N (Value.int .i64 0)).toArray := by rw [List.toArray_replicate]; exact (Blk.new' (by simp)).alloc _
        have hV : Blk (((w1.alloc (.cells zeroBook 44)).alloc (.cells (Array.replicate N (Value.int .i64 0)) 3)).alloc (.cells (Array.replicate N (Value.bool false)) 4)) w1.heap.size 44 zeroBook := ((Blk.new _ _ _).alloc _).alloc _
        have hW : Below w1.heap.size w1 (((w1.alloc (.cells zeroBook 44)).alloc (.cells (Array.replicate N (Value.int .i64 0)) 3)).alloc (.cells (Array.replicate N (Value.bool false)) 4)) := below3 _ _ _ _
        refine anyC_only (i := 14) rfl (by kernel_rfl) hW.drew ?_
        generalize (((w1.alloc (.cells zeroBook 44)).alloc (.cells (Array.replicate N (Value.int .i64 0)) 3)).alloc (.cells (Array.replicate N (Value.bool false)) 4)) = W at hA hB hV hW ⊢
        go_wp2_with (refine wpList_store_row rfl 44 (.tmp 3) (.tmp 17) rfl w1.heap.size _ (by rfl) (by rfl) _ _ hV.drew (by kernel_rfl) (by rfl) (by simp [Value.oneCell']) ?_)
        refine ⟨below_setRow hW.drew (by omega) _, by kernel_rfl, ?_⟩
        exact ⟨_, _, _, ⟨by trivial, _, _, _, _, _, _, _, _, _, _, _, _, _, _, _, _, _, _, _, _, _, _, _, _, _, _, rfl⟩, hA.drew.setRow_ne (Blk.ne_ hA hV (by decide)) _, hB.drew.setRow_ne (Blk.ne_ hB hV (by decide)) _, hV.drew.setRow _, below_setRow hW.drew (by omega) _, by omega, by omega, by omega⟩
  rintro e a W ⟨gU, gC, gV, ⟨rfl, u4, u5, u6, u7, u8, u9, u10, u11, u12, u13, u14, u15, u16, u17, u18, u19, u20, u21, u22, u23, u24, u25, u26, u27, u28, u29, rfl⟩, hA, hB, hV, hW, g1, g2, g3⟩
  clear hmb hmi HCN HK
  have HRW := Lib.hid (HR.out.below hW HR.out.lt); have HW := Lib.hid hW; have HBC := Lib.hid hB; have HG := Lib.hid (And.intro g1 (And.intro g2 g3))
  have hu0 : ((ups N 0).map Value.bool).toArray = (List.replicate N (Value.bool false)).toArray := by unfold ups; simp
  rw [← hu0] at hA
  have HA := Lib.hid hA; have HV := Lib.hid hV
  have HRL := Lib.hid HR.out.lt
  have v4 : W.cell? ⟨gV, 4, none⟩ = some (.slice (some ⟨gU, 0, none⟩) N N) := (hV.cell 4).trans rfl
  clear hA hV hW hB hu0 g1 g2 g3 HR
  go_wp2_with fail
  clear v4
  go_loopw [4, 21, 22, 23, 24, 25, 26, 27, 28] (fun _ q _ _ _ _ _ _ _ wr => ∃ j : Nat, j ≤ N ∧ q = .int .i64 (j : Int) ∧ Blk wr gU 4 ((ups N j).map Value.bool).toArray ∧ Keeps (fun k => k = gU) W wr) (fun _ q _ _ _ _ _ _ _ _ => N - (intOf q).toNat)
  case atStart => exact ⟨0, by omega, rfl, HA.out, Keeps.refl _ _⟩
  case round =>
    obtain ⟨j, hj, rfl, hA, hk⟩ := hrel
    have HVr := Lib.hid (HV.out.keeps hk (fun e => Blk.ne_ HA.out HV.out (by decide) e.symm))
    have v4 : wr.cell? ⟨gV, 4, none⟩ = some (.slice (some ⟨gU, 0, none⟩) N N) := (HVr.out.cell 4).trans rfl
    have HAj := Lib.hid hA; have HKj := Lib.hid hk
    by_cases hjN : j < N
    · have hjN' : (j : Int) < (N : Int) := by omega
      have hcu : wr.cell? ⟨gU, j, none⟩ = some (((ups N j).map Value.bool)[j]'(by rw [List.length_map, ups_len N j hj]; exact hjN)) := by
        rw [hA.cell j, List.getElem?_toArray, List.getElem?_eq_getElem (by rw [List.length_map, ups_len N j hj]; exact hjN)]
      have hfu : wr.frozen? ⟨gU, j, none⟩ = false := hA.frozen j
      clear hA hk
      go_wp2_with fail
      have hA2 := HAj.out.set_ j (.bool true)
      rw [List.setIfInBounds_toArray, ups_set N j hjN] at hA2
      have hk2 := HKj.out.setCell (p := ⟨gU, j, none⟩) rfl (.bool true)
      go_roundw
      case rel => exact ⟨j + 1, by omega, by go_num, hA2, hk2⟩
      case measure => simp [intOf]; omega
    · obtain rfl : j = N := by omega
      clear hA hk v4
      have HRr := Lib.hid (HRW.out.keeps HKj.out (fun e => by have := HRL.out; have := HG.out.1; omega))
      have HBr := Lib.hid (HBC.out.keeps HKj.out (fun e => Blk.ne_ HBC.out HA.out (by decide) e))
      go_wp2_with (first | refine wpList_load_row rfl 44 (.tmp 3) rfl gV rfl _ _ _ _ HVr.out Try.underlying44 rfl (by kernel_rfl) ?_ | refine wpList_store_row rfl 44 (.tmp 2) (.tmp 29) rfl R _ (by rfl) (by rfl) _ _ HRr.out (by kernel_rfl) (by rfl) (by simp [Value.oneCell']) ?_)
      have hups : (ups j j) = List.replicate j true := by unfold ups; simp
      have hkw : Below w.heap.size w wr := (HB1.out.trans (HW.out.mono HB1.out.size)).trans (HKj.out.below (fun k e => by rw [e]; exact Nat.le_trans HB1.out.size HG.out.1) (Nat.le_trans HB1.out.size HW.out.size))
      have hbc : bookCells (firstV j) none (some ⟨gU, 0, none⟩) (some ⟨gC, 0, none⟩) 0 j j = #[.int .i64 0, .int .i64 0, .int .i64 0, .slice none 0 0, .slice (some ⟨gU, 0, none⟩) j j, .slice (some ⟨gC, 0, none⟩) j j] := by simp [bookCells, firstV]
      refine bodyPost_ret (v := .agg #[.int .i64 0, .int .i64 0, .int .i64 0, .slice none 0 0, .slice (some ⟨gU, 0, none⟩) j j, .slice (some ⟨gC, 0, none⟩) j j]) (results_cell_row rfl _ _ R 44 _ (0, 0) _ rfl (setRow_heap wr R _ _ _ _ HRr.out) Try.underlying44 rfl (by kernel_rfl)) rfl ?_
      refine ⟨none, some ⟨gU, 0, none⟩, some ⟨gC, 0, none⟩, 0, j, j, by rw [hbc], ⟨World.ownsRow_nil _ _ _ _, ?_, ?_⟩, below_setRow hkw (by have := HRE.out; omega) _⟩
      · have hq := row_lit _ w.heap.size gU 4 _ j (Nat.le_trans HB1.out.size HG.out.1) (HAj.out.setRow_ne (g := R) (by have := HRL.out; have := HG.out.1; omega) #[.int .i64 0, .int .i64 0, .int .i64 0, .slice none 0 0, .slice (some ⟨gU, 0, none⟩) j j, .slice (some ⟨gC, 0, none⟩) j j]) (by rw [List.length_map, ups_len j j (Nat.le_refl _)]) HN.out
        rw [hups] at hq
        simpa [firstV] using hq
      · have hq := row_lit _ w.heap.size gC 3 _ j (Nat.le_trans HB1.out.size HG.out.2.1) (HBr.out.setRow_ne (g := R) (by have := HRL.out; have := HG.out.2.1; omega) #[.int .i64 0, .int .i64 0, .int .i64 0, .slice none 0 0, .slice (some ⟨gU, 0, none⟩) j j, .slice (some ⟨gC, 0, none⟩) j j]) (by simp) HN.out
        simpa [firstV] using hq
end Go.Proofs.Ytlabebapjhhkaaa
namespace Go.Proofs.Ytlabebapjhhkaaa
open Go.RowKit
theorem keeps_setRow (w : World) (g : Nat) (cs : Array Value) : Keeps (fun k => k = g) w (w.setRow g cs) := ⟨rfl, rfl, rfl, by simp [World.setRow], fun k _ hn => setRow_other w g k cs hn⟩
theorem BookOwn.setRow {w : World} {B g : Nat} {k : BookV} {vd vu vc : Value} (h : BookOwn w B k vd vu vc) (hg : g < B) (cs : Array Value) : BookOwn (w.setRow g cs) B k vd vu vc := h.keeps (keeps_setRow w g cs) (fun i h1 _ e => by omega)
theorem cells_shape (v : BookV) (Ad Au Ac : Option Addr) (cd cu cc : Nat) : (bookCells v Ad Au Ac cd cu cc).size = 6 := rfl
set_option maxRecDepth 100000 in
set_option maxHeartbeats 4000000 in
theorem View_any (w : World) (F : Nat → Prop) (K : Nat) (p : PrmV) (m : BM) (h : KbIs w F K p m) :
    Calls Try.prog 18 #[.pointer (some ⟨K, 0, none⟩)] w (ViewPost w m.v) := by
  obtain ⟨S, G, s, h⟩ := h
  have hN := h.good.n
  have hkv := h.good.kv
  obtain ⟨side, hsok⟩ := h.disk
  have hc5 : ∀ W, Below w.heap.size w W → W.cell? ⟨K, 5, none⟩ = some (.pointer (some ⟨S, 0, none⟩)) := fun W hW => ((h.blk.below hW h.blk.lt).cell 5).trans rfl
  have HC5 := Lib.hid hc5; have HB := Lib.hid h.blk; have HS := Lib.hid h.slot; have HK := Lib.hid hkv; have HSO := Lib.hid hsok; have HN := Lib.hid hN
  clear h hc5 hkv hsok
  go_enter Try.func18, Try.ntmps18
  have hR := Blk.new w 44 zeroBook
  have hb1 : Below w.heap.size w (w.alloc (.cells zeroBook 44)) := (Below.refl _ _).alloc (Nat.le_refl _) _
  have hlt : w.heap.size < (w.alloc (.cells zeroBook 44)).heap.size := by simp
  go_upto_region 1 with (fail)
  generalize w.alloc (.cells zeroBook 44) = w1 at hR hb1 hlt ⊢
  have c5 := HC5.out w1 hb1
  have HR := Lib.hid hR; have HB1 := Lib.hid hb1; have HLT := Lib.hid hlt
  have HS1 := Lib.hid (HS.out.below hb1); have HBB1 := Lib.hid (HB.out.below hb1 HB.out.lt)
  clear hR hb1 hlt
  go_wp2_with fail
  refine (Load_any w1 G S 512 s side m.kept HS1.out HSO.out).mono ?_
  rintro e w2 ⟨A, c, rfl, hr, hb2⟩
  have hR2 := HR.out.below hb2 HLT.out
  have hbl := HK.out.len HN.out
  have HR2 := Lib.hid hR2; have HB2 := Lib.hid (HB1.out.trans (hb2.mono HB1.out.size)); have HBB2 := Lib.hid (HBB1.out.below hb2 HBB1.out.lt); have HRD := Lib.hid hr
  clear hR2 hb2 hr c5
  have hz : ∀ e w', ViewPost w2 m.v e w' → ∃ Ad Au Ac cd cu cc, e = .returned (.agg (bookCells m.v Ad Au Ac cd cu cc)) ∧ BookOwn w' w.heap.size m.v (.slice Ad m.v.dir.length cd) (.slice Au m.v.up.length cu) (.slice Ac m.v.commit.length cc) ∧ Below w.heap.size w w' ∧ Blk w' w.heap.size 44 zeroBook ∧ w2.heap.size ≤ w'.heap.size ∧ BookOwn w' w2.heap.size m.v (.slice Ad m.v.dir.length cd) (.slice Au m.v.up.length cu) (.slice Ac m.v.commit.length cc) := by
    rintro e w' ⟨Ad, Au, Ac, cd, cu, cc, rfl, ho, hb⟩
    exact ⟨Ad, Au, Ac, cd, cu, cc, rfl, ho.mono HB2.out.size, HB2.out.trans (hb.mono HB2.out.size), HR2.out.below hb HR2.out.lt, hb.size, ho⟩
  have HZ := Lib.hid hz; clear hz
  by_cases hk : m.kept = []
  · have hv : m.v = firstV p.n := by
      rcases HK.out.is with ⟨_, e⟩ | e
      · exact e
      · have := (HK.out.good.len HN.out).2; rw [← e, hk] at this; simp at this
    rw [hk, List.length_nil]
    go_wp2_with fail
    refine (first_any w2 K p S m.off HN.out HBB2.out).mono ?_
    intro e w3 h3
    rw [← hv] at h3
    obtain ⟨Ad, Au, Ac, cd, cu, cc, rfl, ho, hb3, hR3, hsz, ho2⟩ := HZ.out e w3 h3
    have HO := Lib.hid ho; have HB3 := Lib.hid hb3; have HR3 := Lib.hid hR3; have HO2 := Lib.hid ho2; have HSZ := Lib.hid hsz
    clear ho hb3 hR3 h3 ho2 hsz hv
    go_wp2_with (refine wpList_store_row rfl 44 (.tmp 2) (.tmp 18) rfl w.heap.size _ (by rfl) (by rfl) _ _ HR3.out (by kernel_rfl) (by rfl) (by simp [Value.oneCell']) ?_)
    refine bodyPost_ret (v := .agg (bookCells m.v Ad Au Ac cd cu cc)) (results_cell_row rfl _ _ w.heap.size 44 _ (0, 0) _ rfl (setRow_heap w3 w.heap.size _ _ _ _ HR3.out) Try.underlying44 rfl (by kernel_rfl)) rfl ?_
    exact ⟨Ad, Au, Ac, cd, cu, cc, rfl, (HO2.out.setRow (by have := HR2.out.lt; omega) _).mono HB2.out.size, below_setRow HB3.out (Nat.le_refl _) _⟩
  · have hkb : m.kept = bk m.v := by
      rcases HK.out.is with ⟨e, _⟩ | e
      · exact absurd e hk
      · exact e
    have hd := HK.out.good.dec HN.out
    rw [← hkb] at hd
    have hne : ¬ ((m.kept.length : Int) = 0) := by
      intro e
      exact hk (List.eq_nil_of_length_eq_zero (by omega))
    have HD := Lib.hid hd; have HNE := Lib.hid hne; have HBL := Lib.hid hbl
    clear hkb hd hne hbl hk HK HSO
    generalize m.kept = kept at *
    have hne := HNE.out
    go_wp2_with fail
    refine (DecodeBook_any w2 A kept.length c kept (by have := HBL.out; omega) HRD.out).mono ?_
    rintro e w3 ⟨Ad, Au, Ac, cd, cu, cc, rfl, ho, hb⟩
    have hd := HD.out
    rw [hd] at ho ⊢
    obtain ⟨Ad', Au', Ac', cd', cu', cc', he', ho', hb3, hR3, hsz, ho2⟩ := HZ.out _ w3 ⟨Ad, Au, Ac, cd, cu, cc, rfl, ho, hb⟩
    have HO := Lib.hid ho; have HB3 := Lib.hid hb3; have HR3 := Lib.hid hR3; have HSZ := Lib.hid hsz
    clear ho hb hb3 hR3 ho2 hsz ho' hd he' hne
    go_upto_region 7 with (fail)
    have hV := Blk.new w3 44 (bookCells m.v Ad Au Ac cd cu cc)
    have hal : Below w3.heap.size w3 (w3.alloc (.cells (bookCells m.v Ad Au Ac cd cu cc) 44)) := (Below.refl _ _).alloc (Nat.le_refl _) _
    have hR4 := HR3.out.alloc (.cells (bookCells m.v Ad Au Ac cd cu cc) 44)
    have ho4 := HO.out.below hal
    have hb4 := HB3.out.trans (hal.mono HB3.out.size)
    generalize w3.alloc (.cells (bookCells m.v Ad Au Ac cd cu cc) 44) = w4 at hV hal hR4 ho4 hb4 ⊢
    have HV := Lib.hid hV; have HR4 := Lib.hid hR4; have HO4 := Lib.hid ho4; have HB4 := Lib.hid hb4
    clear hV hal hR4 ho4 hb4
    go_wp2_with (first | refine wpList_load_row rfl 44 (.tmp 4) rfl w3.heap.size rfl _ _ _ _ HV.out Try.underlying44 rfl (by kernel_rfl) ?_ | refine wpList_store_row rfl 44 (.tmp 2) (.tmp 24) rfl w.heap.size _ (by rfl) (by rfl) _ _ HR4.out (by kernel_rfl) (by rfl) (by simp [Value.oneCell']) ?_)
    refine bodyPost_ret (v := .agg (bookCells m.v Ad Au Ac cd cu cc)) (results_cell_row rfl _ _ w.heap.size 44 _ (0, 0) _ rfl (setRow_heap w4 w.heap.size _ _ _ _ HR4.out) Try.underlying44 rfl (by kernel_rfl)) rfl ?_
    exact ⟨Ad, Au, Ac, cd, cu, cc, rfl, (HO4.out.setRow (by have := HR2.out.lt; omega) _).mono HB2.out.size, below_setRow HB4.out (Nat.le_refl _) _⟩
end Go.Proofs.Ytlabebapjhhkaaa
namespace Go.Proofs.Ytlabebapjhhkaaa
open Go.RowKit Go.Shelf
/-- What is done to a book's value in memory: V is its block; X is touched besides. -/
def HowPost (B : Nat) (X : Nat → Prop) (R : World → Prop) (V : Nat) (W : World) (r : Int × BookV) (e : Ending) (W' : World) : Prop :=
  e = .returned (.int .i64 r.1) ∧ Keeps (fun k => B ≤ k ∨ X k) W W' ∧ (r.1 = 0 → R W' ∧ ∃ (Ad Au Ac : Option Addr) (cd cu cc : Nat),
    Blk W' V 44 (bookCells r.2 Ad Au Ac cd cu cc) ∧ BookOwn W' B r.2 (.slice Ad r.2.dir.length cd) (.slice Au r.2.up.length cu) (.slice Ac r.2.commit.length cc))
def How (B : Nat) (X : Nat → Prop) (R : World → Prop) (w : World) (v : BookV) (g : Nat) (lb : Array Value) (r : Int × BookV) : Prop :=
  ∀ (W : World) (V : Nat) (Ad Au Ac : Option Addr) (cd cu cc : Nat), Below w.heap.size w W → B ≤ V → w.heap.size ≤ V → Blk W V 44 (bookCells v Ad Au Ac cd cu cc) →
    BookOwn W B v (.slice Ad v.dir.length cd) (.slice Au v.up.length cu) (.slice Ac v.commit.length cc) → Calls Try.prog g (#[.pointer (some ⟨V, 0, none⟩)] ++ lb) W (HowPost B X R V W r)
theorem keep_save {s : DS} {m : BM} {N side : Nat} (hm : m.ok N) (hpw : s.pw = m.pw) (hok : SOk s 512 side m.kept) {x : BookV} (hx : GoodV N x) :
    (s.save 512 side m.kept (bk x)).1 = (m.keep x).1 ∧ (s.save 512 side m.kept (bk x)).2.pw = (m.keep x).2.pw ∧ ∃ side', SOk (s.save 512 side m.kept (bk x)).2 512 side' (m.keep x).2.kept := by
  have ht := hx.takes hm.n
  have hbig : ¬ 512 < takesOf (bk x).length := by omega
  obtain ⟨h1, h2, h3⟩ := save_ref (b := bk x) hok
  unfold rsE at h1
  unfold rsP at h2
  unfold rsK at h3
  rw [if_neg hbig, hpw] at h1 h2 h3
  exact ⟨h1, h2, h3⟩
set_option maxRecDepth 100000 in
set_option maxHeartbeats 4000000 in
theorem change_any (w : World) (F X : Nat → Prop) (K : Nat) (p : PrmV) (m : BM) (g : Nat) (lb : Array Value) (eg : ∀ args w, (callFunc g args).run Try.prog w = .ok (.enter g args) w) (how : BookV → Int × BookV) (R : World → Prop)
    (h : KbIs w F K p m) (hX : ∀ k, F k → ¬ X k) (hwr : m.pw.writes ≤ 4611686018400000000) (hgood : (how m.v).1 = 0 → GoodV p.n (how m.v).2) (hhow : How w.heap.size X R w m.v g lb (how m.v))
    (hR : ∀ W W', R W → Keeps (fun k => F k ∨ w.heap.size ≤ k) W W' → R W') :
    Calls Try.prog 42 #[.pointer (some ⟨K, 0, none⟩), .func (.func g) #[] lb] w fun e w' =>
      e = .returned (.int .i64 (m.change how).1) ∧ KbIs w' (Grown F w) K p (m.change how).2 ∧ Keeps (fun k => F k ∨ X k) w w' ∧ ((m.change how).1 = 0 → R w') := by
  have H := Lib.hid h; have HX := Lib.hid hX; have HW := Lib.hid hwr; have HG := Lib.hid hgood; have HH := Lib.hid hhow; have HRS := Lib.hid hR
  clear h hX hwr hgood hhow hR
  by_cases hd : m.down = true
  · have hc : m.change how = (3, m) := by unfold BM.change; rw [if_pos hd]
    rw [hc]
    go_enter Try.func42, Try.ntmps42
    go_wp2_with (go_at_call 15; refine (BDown_any w F K p m H.out).mono ?_; rintro e w1 ⟨rfl, rfl⟩; rw [hd])
    go_ret
    exact ⟨rfl, H.out.weaken fun k e => Or.inl e, Keeps.refl _ _, fun e => by cases e⟩
  · have hd' : m.down = false := by simpa using hd
    have hc : m.change how = if (how m.v).1 ≠ 0 then ((how m.v).1, m) else m.keep (how m.v).2 := by unfold BM.change; rw [if_neg hd]
    rw [hc]
    clear hc
    obtain ⟨r, hr⟩ : ∃ r, r = how m.v := ⟨_, rfl⟩
    rw [← hr] at HG HH ⊢
    clear hr
    obtain ⟨c, v⟩ := r
    simp only at HG HH ⊢
    obtain ⟨Z, hZ⟩ : ∃ Z, Z = if c ≠ 0 then (c, m) else m.keep v := ⟨_, rfl⟩
    rw [← hZ]
    have HZ := Lib.hid hZ; clear hZ
    go_enter Try.func42, Try.ntmps42
    go_wp2_with (first | (go_at_call 15; refine (BDown_any w F K p m H.out).mono ?_; rintro e w1 ⟨rfl, rfl⟩; rw [hd']))
    refine (View_any w1 F K p m H.out).mono ?_
    rintro e w2 ⟨Ad, Au, Ac, cd, cu, cc, rfl, ho, hb⟩
    have HO := Lib.hid ho; have HB := Lib.hid hb
    clear ho hb
    have hV := Blk.new w2 44 (bookCells m.v Ad Au Ac cd cu cc)
    have hal : Below w2.heap.size w2 (w2.alloc (.cells (bookCells m.v Ad Au Ac cd cu cc) 44)) := (Below.refl _ _).alloc (Nat.le_refl _) _
    have hl : w2.heap.size < (w2.alloc (.cells (bookCells m.v Ad Au Ac cd cu cc) 44)).heap.size := by simp
    obtain ⟨V, hVe⟩ : ∃ V, V = w2.heap.size := ⟨_, rfl⟩
    obtain ⟨w3, hw3⟩ : ∃ w3, w3 = w2.alloc (.cells (bookCells m.v Ad Au Ac cd cu cc) 44) := ⟨_, rfl⟩
    have HE3 := Lib.hid hw3; have HVE := Lib.hid hVe
    go_upto_region 6 with (fail)
    rw [← HVE.out]
    have hwe : w2.alloc (.cells #[.int .i64 m.v.session, .int .i64 m.v.decided, .int .i64 m.v.epoch, .slice Ad m.v.dir.length cd, .slice Au m.v.up.length cu, .slice Ac m.v.commit.length cc] 44) = w3 := hw3.symm
    rw [hwe]
    clear hwe
    rw [← hw3] at hV hal hl
    rw [← HVE.out] at hV hl
    have hs2 := HB.out.size
    have HCALL := HH.out w3 V Ad Au Ac cd cu cc (HB.out.trans (hal.mono hs2)) (by have := HVE.out; omega) (by have := HVE.out; omega) hV (HO.out.below hal)
    have HB3 := Lib.hid (HB.out.trans (hal.mono hs2))
    have HK3 := Lib.hid (H.out.tight.below (HB.out.trans (hal.mono hs2)))
    have HVB := Lib.hid (show w1.heap.size ≤ V by have := HVE.out; omega)
    clear hV hal hl hw3 hVe hs2 HE3 HH HO HB HVE
    by_cases hc0 : c = 0
    · subst hc0
      have hz : Z = m.keep v := by rw [HZ.out, if_neg (fun e => e rfl)]
      have HZZ := Lib.hid hz
      have HGV := Lib.hid (HG.out rfl)
      clear HZ hz HG
      go_upto_region 7 with (go_at_fn g; refine HCALL.mono ?_; rintro e w4 ⟨rfl, hk4, hc4⟩)
      obtain ⟨hR4, Bd, Bu, Bc, dd, du, dc, hV4, hO4⟩ := hc4 (by trivial)
      have hk14 : Keeps (fun k => X k) w1 w4 := (Keeps.of_below (F := fun k => X k) HB3.out).trans hk4 (fun i hi e => by
        rcases e with e | e
        · omega
        · exact e)
      have H4 := Lib.hid (H.out.tight.keeps hk14 (fun k e => HX.out k e.1)); have HK4 := Lib.hid hk14; have HR4 := Lib.hid hR4; have HV4 := Lib.hid hV4; have HO4 := Lib.hid hO4
      clear hk14 hR4 hV4 hO4 hk4 hc4 HCALL HB3 HK3
      have hN := H.out.good.n
      go_wp2_with (refine wpList_load_row rfl 44 (.tmp 5) rfl V rfl _ _ _ _ HV4.out Try.underlying44 rfl (by kernel_rfl) ?_)
      refine (EncodeBook_any w4 (fun k => w1.heap.size ≤ k ∧ k < w4.heap.size) v Bd Bu Bc dd du dc (HO4.out.rd.tight) (fun k e => e.2) (by have := HGV.out.cost hN; omega)).mono ?_
      rintro e w5 ⟨v5, rfl, hf5, hb5, hw5⟩
      rw [HGV.out.bad hN, if_neg Bool.false_ne_true] at hf5
      have hf5' : Fresh w5 w4.heap.size v5 (bk v) := hf5
      clear hf5
      obtain ⟨A5, c5, rfl, hr5, ha5⟩ := hf5'
      have hk5 := hw5 _ _ _ rfl
      obtain ⟨S, G, s, hat⟩ := H4.out
      have hat5 := hat.keeps (Keeps.of_below (F := fun _ => False) hb5) (fun _ _ => id)
      have hs5 := hb5.size
      have hs4 := HK4.out.size
      have c0 : w5.cell? ⟨K, 5, none⟩ = some (.pointer (some ⟨S, 0, none⟩)) := (hat5.blk.cell 5).trans rfl
      have HAT := Lib.hid hat5; have HR5 := Lib.hid hr5; have HA5 := Lib.hid ha5; have HK5 := Lib.hid hk5; have HB5 := Lib.hid hb5; have HSZ := Lib.hid (And.intro hs4 hs5)
      clear hat hat5 hr5 ha5 hk5 hb5 hs5 hs4 hw5
      obtain ⟨side, hside⟩ := HAT.out.disk
      have hsv := keep_save HAT.out.good HAT.out.pw hside HGV.out
      have HSV := Lib.hid hsv; have HSD := Lib.hid hside
      clear hsv hside
      rw [HGV.out.bad hN]
      clear hN
      go_wp2_with fail
      refine (Save_any w5 G S 512 s side m.kept (bk v) A5 (bk v).length c5 HAT.out.slot HSD.out HR5.out HK5.out.1 (fun _ ad e e2 => by have h1 := HA5.out ad e; have h2 := (HAT.out.inF _ e2).2; have := HSZ.out; omega) (by rw [show s.writes = s.pw.writes from rfl, HAT.out.pw]; exact HW.out) (by have := (HGV.out.len HAT.out.good.n).1; omega)).mono ?_
      rintro e w6 ⟨rfl, hs6, hk6⟩
      obtain ⟨q1, q2, side', q3⟩ := HSV.out
      rw [q1]
      go_wp2_with fail
      go_ret
      have hkk : Keeps (fun k => F k ∨ X k) w1 w6 := (HK4.out.trans (Keeps.of_below (F := fun k => X k) HB5.out) (fun _ _ e => e)).weaken (fun k _ e => Or.inr e) |>.trans hk6 (fun i _ e => Or.inl (HAT.out.inF i e).1)
      rw [HZZ.out]
      have hmk : (m.keep v).2.off = m.off := rfl
      refine ⟨rfl, ⟨S, Grown G w5, _, ?_, hs6, fun e => ?_, fun k e => ?_, Or.inl HAT.out.inK.1, q2, ⟨side', q3⟩, BM.keep_ok HAT.out.good HGV.out⟩, hkk, fun h0 => HRS.out w4 w6 HR4.out ?_⟩
      · exact HAT.out.blk.keeps hk6 HAT.out.notG
      · rcases e with e | e
        · exact HAT.out.notG e
        · have := HAT.out.blk.lt; omega
      · rcases e with e | e
        · exact Or.inl (HAT.out.inF k e).1
        · exact Or.inr (by have := HSZ.out; omega)
      · exact (Keeps.of_below (F := fun k => F k ∨ w1.heap.size ≤ k) HB5.out).trans hk6 (fun i _ e => Or.inl (HAT.out.inF i e).1)
    · have e1 : (c ≠ 0) := hc0
      have hz : Z = (c, m) := by rw [HZ.out, if_pos e1]
      have HZZ := Lib.hid hz
      clear HZ hz HG
      go_wp2_with (go_at_fn g; refine HCALL.mono ?_; rintro e w4 ⟨rfl, hk4, hc4⟩)
      go_ret
      rw [HZZ.out]
      have hk14 : Keeps (fun k => X k) w1 w4 := (Keeps.of_below (F := fun k => X k) HB3.out).trans hk4 (fun i hi e => by
        rcases e with e | e
        · omega
        · exact e)
      exact ⟨rfl, (H.out.tight.keeps hk14 (fun k e => HX.out k e.1)).weaken (fun k e => Or.inl e.1), hk14.weaken (fun k _ e => Or.inr e), fun e => absurd e hc0⟩
end Go.Proofs.Ytlabebapjhhkaaa
