/- The law's do and answers; Same; a book that is none. Conditions stand with each theorem. -/
import Derived.Test.YtlabebapjhhkaaaM12
namespace Go.Proofs.Ytlabebapjhhkaaa
open Go.RowKit Go.Shelf
/-- A call, as data. -/
structure OpV where
  k : Int
  n : Int
  h : HeadV
  parts : List Int
/-- What a call answers, and what the book is behind it; a Start aside. -/
def BM.act (N : Nat) (o : OpV) (m : BM) : (Int × Int) × BM :=
  if o.k = 1 then ((if (m.change nextV).1 = 0 then m.v.session + 1 else 0, (m.change nextV).1), (m.change nextV).2)
  else if o.k = 2 then ((0, (m.change (putV o.h o.parts)).1), (m.change (putV o.h o.parts)).2)
  else if o.k = 3 then ((0, (m.change (deleteV o.h.id)).1), (m.change (deleteV o.h.id)).2)
  else if o.k = 4 then ((0, (m.change (refreshV o.parts)).1), (m.change (refreshV o.parts)).2)
  else if o.k = 5 then ((0, (m.change (recoverV N o.n)).1), (m.change (recoverV N o.n)).2)
  else if o.k = 6 then ((0, (m.change (markV N o.parts)).1), (m.change (markV N o.parts)).2)
  else if o.k = 7 then ((0, 0), m.crash)
  else if o.k = 9 then ((0, 0), m.fuse o.n)
  else ((0, 0), m)
def DoR (N : Nat) (o : OpV) (m : BM) (r : Int × Int) (M : BM) : Prop := if o.k = 8 then r = (0, 0) ∧ Started m M else (r, M) = m.act N o
abbrev opC (o : OpV) (A : Option Addr) (c : Nat) : Array Value := #[.int .i64 o.k, .int .i64 o.n, .string ⟨o.h.id.toArray⟩, .int .i64 o.h.size, .slice A o.parts.length c]
def DoPost (w : World) (F : Nat → Prop) (K : Nat) (p : PrmV) (m : BM) (o : OpV) (e : Ending) (w' : World) : Prop :=
  ∃ r M, DoR p.n o m r M ∧ e = .returned (.tuple #[.int .i64 r.1, .int .i64 r.2]) ∧ KbIs w' (Grown F w) K p M ∧ Keeps F w w'
theorem do_end {w w1 w2 : World} {F : Nat → Prop} {K : Nat} {p : PrmV} {M : BM} (hb : Below w.heap.size w w1) (h2 : KbIs w2 (Grown (fun k => F k ∧ k < w.heap.size) w1) K p M) (hk : Keeps (fun k => F k ∧ k < w.heap.size) w1 w2) : KbIs w2 (Grown F w) K p M ∧ Keeps F w w2 :=
  chg_end (X := fun _ => False) hb h2 (hk.weaken (fun _ _ e => Or.inl e)) (fun _ e => e.elim)
set_option maxRecDepth 100000 in
theorem do1 (w : World) (F : Nat → Prop) (K : Nat) (p : PrmV) (m : BM) (o : OpV) (A : Option Addr) (c : Nat) (h : KbIs w F K p m) (hwr : m.pw.writes ≤ 4611686018400000000) (hr : IRd w w.heap.size A o.parts.length o.parts) (hn : o.parts.length ≤ 9223372036854775807) (hmx : o.n ≤ 9223372036854775807) (hk : o.k = 1) :
    Calls Try.prog 13 #[.pointer (some ⟨K, 0, none⟩), .agg (opC o A c)] w (DoPost w F K p m o) := by
  have H := Lib.hid h.tight; have HW := Lib.hid hwr; have HR := Lib.hid hr; have HN := Lib.hid hn
  clear h hwr hr hn
  obtain ⟨k, n, hd, parts⟩ := o
  simp only at hk HR HN ⊢
  subst hk
  dsimp only [opC]
  go_enter Try.func13, Try.ntmps13
  go_upto_region 1 with (fail)
  have hb : Below w.heap.size w (w.alloc (.cells #[.int .i64 1, .int .i64 n, .string ⟨hd.id.toArray⟩, .int .i64 hd.size, .slice A parts.length c] 38)) := (Below.refl _ _).alloc (Nat.le_refl _) _
  have hB := Blk.new w 38 #[.int .i64 1, .int .i64 n, .string ⟨hd.id.toArray⟩, .int .i64 hd.size, .slice A parts.length c]
  obtain ⟨b, hbe⟩ : ∃ b, b = w.heap.size := ⟨_, rfl⟩
  rw [← hbe] at hB ⊢
  generalize w.alloc (.cells #[.int .i64 1, .int .i64 n, .string ⟨hd.id.toArray⟩, .int .i64 hd.size, .slice A parts.length c] 38) = w1 at hb hB ⊢
  have k0 : w1.cell? ⟨b, 0, none⟩ = some (.int .i64 1) := (hB.cell 0).trans rfl
  have k1 : w1.cell? ⟨b, 1, none⟩ = some (.int .i64 n) := (hB.cell 1).trans rfl
  have k2 : w1.cell? ⟨b, 2, none⟩ = some (.string ⟨hd.id.toArray⟩) := (hB.cell 2).trans rfl
  have k3 : w1.cell? ⟨b, 3, none⟩ = some (.int .i64 hd.size) := (hB.cell 3).trans rfl
  have k4 : w1.cell? ⟨b, 4, none⟩ = some (.slice A parts.length c) := (hB.cell 4).trans rfl
  have HB := Lib.hid hb; have H1 := Lib.hid (H.out.below hb); have HR1 := Lib.hid ((HR.out.below hb).more hb.size)
  clear hb hB hbe
  have HC := Lib.hid (Begin_any w1 (fun k => F k ∧ k < w.heap.size) K p m H1.out HW.out)
  obtain ⟨Z, hZ⟩ : ∃ Z, Z = m.change nextV := ⟨_, rfl⟩
  rw [← hZ] at HC
  have HZ := Lib.hid hZ
  clear hZ
  obtain ⟨q, hq⟩ : ∃ q : Int, q = if Z.1 = 0 then m.v.session + 1 else 0 := ⟨_, rfl⟩
  rw [← hq] at HC
  have HQ := Lib.hid hq
  clear hq
  go_wp2_with (go_at_call 22; refine HC.out.mono ?_; rintro e w2 ⟨rfl, h2, hk2⟩)
  go_ret2
  have hend := do_end HB.out h2 hk2
  refine ⟨(q, Z.1), Z.2, ?_, rfl, hend.1, hend.2⟩
  unfold DoR BM.act
  rw [if_neg (by show ¬ ((1 : Int) = 8); omega)]
  rw [if_pos rfl]
  simp only [← HZ.out, HQ.out]
set_option maxRecDepth 100000 in
theorem do2 (w : World) (F : Nat → Prop) (K : Nat) (p : PrmV) (m : BM) (o : OpV) (A : Option Addr) (c : Nat) (h : KbIs w F K p m) (hwr : m.pw.writes ≤ 4611686018400000000) (hr : IRd w w.heap.size A o.parts.length o.parts) (hn : o.parts.length ≤ 9223372036854775807) (hmx : o.n ≤ 9223372036854775807) (hk : o.k = 2) :
    Calls Try.prog 13 #[.pointer (some ⟨K, 0, none⟩), .agg (opC o A c)] w (DoPost w F K p m o) := by
  have H := Lib.hid h.tight; have HW := Lib.hid hwr; have HR := Lib.hid hr; have HN := Lib.hid hn
  clear h hwr hr hn
  obtain ⟨k, n, hd, parts⟩ := o
  simp only at hk HR HN ⊢
  subst hk
  dsimp only [opC]
  go_enter Try.func13, Try.ntmps13
  go_upto_region 1 with (fail)
  have hb : Below w.heap.size w (w.alloc (.cells #[.int .i64 2, .int .i64 n, .string ⟨hd.id.toArray⟩, .int .i64 hd.size, .slice A parts.length c] 38)) := (Below.refl _ _).alloc (Nat.le_refl _) _
  have hB := Blk.new w 38 #[.int .i64 2, .int .i64 n, .string ⟨hd.id.toArray⟩, .int .i64 hd.size, .slice A parts.length c]
  obtain ⟨b, hbe⟩ : ∃ b, b = w.heap.size := ⟨_, rfl⟩
  rw [← hbe] at hB ⊢
  generalize w.alloc (.cells #[.int .i64 2, .int .i64 n, .string ⟨hd.id.toArray⟩, .int .i64 hd.size, .slice A parts.length c] 38) = w1 at hb hB ⊢
  have k0 : w1.cell? ⟨b, 0, none⟩ = some (.int .i64 2) := (hB.cell 0).trans rfl
  have k1 : w1.cell? ⟨b, 1, none⟩ = some (.int .i64 n) := (hB.cell 1).trans rfl
  have k2 : w1.cell? ⟨b, 2, none⟩ = some (.string ⟨hd.id.toArray⟩) := (hB.cell 2).trans rfl
  have k3 : w1.cell? ⟨b, 3, none⟩ = some (.int .i64 hd.size) := (hB.cell 3).trans rfl
  have k4 : w1.cell? ⟨b, 4, none⟩ = some (.slice A parts.length c) := (hB.cell 4).trans rfl
  have HB := Lib.hid hb; have H1 := Lib.hid (H.out.below hb); have HR1 := Lib.hid ((HR.out.below hb).more hb.size)
  clear hb hB hbe
  have HC := Lib.hid (BPut_any w1 (fun k => F k ∧ k < w.heap.size) K p m hd A parts.length c parts HR1.out HN.out H1.out HW.out)
  obtain ⟨Z, hZ⟩ : ∃ Z, Z = m.change (putV hd parts) := ⟨_, rfl⟩
  rw [← hZ] at HC
  have HZ := Lib.hid hZ
  clear hZ
  go_wp2_with (go_at_call 23; refine HC.out.mono ?_; rintro e w2 ⟨rfl, h2, hk2⟩)
  go_ret2
  have hend := do_end HB.out h2 hk2
  refine ⟨(0, Z.1), Z.2, ?_, rfl, hend.1, hend.2⟩
  unfold DoR BM.act
  rw [if_neg (by show ¬ ((2 : Int) = 8); omega)]
  rw [if_neg (by show ¬ ((2 : Int) = 1); omega)]
  rw [if_pos rfl]
  simp only [← HZ.out]
set_option maxRecDepth 100000 in
theorem do3 (w : World) (F : Nat → Prop) (K : Nat) (p : PrmV) (m : BM) (o : OpV) (A : Option Addr) (c : Nat) (h : KbIs w F K p m) (hwr : m.pw.writes ≤ 4611686018400000000) (hr : IRd w w.heap.size A o.parts.length o.parts) (hn : o.parts.length ≤ 9223372036854775807) (hmx : o.n ≤ 9223372036854775807) (hk : o.k = 3) :
    Calls Try.prog 13 #[.pointer (some ⟨K, 0, none⟩), .agg (opC o A c)] w (DoPost w F K p m o) := by
  have H := Lib.hid h.tight; have HW := Lib.hid hwr; have HR := Lib.hid hr; have HN := Lib.hid hn
  clear h hwr hr hn
  obtain ⟨k, n, hd, parts⟩ := o
  simp only at hk HR HN ⊢
  subst hk
  dsimp only [opC]
  go_enter Try.func13, Try.ntmps13
  go_upto_region 1 with (fail)
  have hb : Below w.heap.size w (w.alloc (.cells #[.int .i64 3, .int .i64 n, .string ⟨hd.id.toArray⟩, .int .i64 hd.size, .slice A parts.length c] 38)) := (Below.refl _ _).alloc (Nat.le_refl _) _
  have hB := Blk.new w 38 #[.int .i64 3, .int .i64 n, .string ⟨hd.id.toArray⟩, .int .i64 hd.size, .slice A parts.length c]
  obtain ⟨b, hbe⟩ : ∃ b, b = w.heap.size := ⟨_, rfl⟩
  rw [← hbe] at hB ⊢
  generalize w.alloc (.cells #[.int .i64 3, .int .i64 n, .string ⟨hd.id.toArray⟩, .int .i64 hd.size, .slice A parts.length c] 38) = w1 at hb hB ⊢
  have k0 : w1.cell? ⟨b, 0, none⟩ = some (.int .i64 3) := (hB.cell 0).trans rfl
  have k1 : w1.cell? ⟨b, 1, none⟩ = some (.int .i64 n) := (hB.cell 1).trans rfl
  have k2 : w1.cell? ⟨b, 2, none⟩ = some (.string ⟨hd.id.toArray⟩) := (hB.cell 2).trans rfl
  have k3 : w1.cell? ⟨b, 3, none⟩ = some (.int .i64 hd.size) := (hB.cell 3).trans rfl
  have k4 : w1.cell? ⟨b, 4, none⟩ = some (.slice A parts.length c) := (hB.cell 4).trans rfl
  have HB := Lib.hid hb; have H1 := Lib.hid (H.out.below hb); have HR1 := Lib.hid ((HR.out.below hb).more hb.size)
  clear hb hB hbe
  have HC := Lib.hid (BDelete_any w1 (fun k => F k ∧ k < w.heap.size) K p m hd.id H1.out HW.out)
  obtain ⟨Z, hZ⟩ : ∃ Z, Z = m.change (deleteV hd.id) := ⟨_, rfl⟩
  rw [← hZ] at HC
  have HZ := Lib.hid hZ
  clear hZ
  go_wp2_with (go_at_call 21; refine HC.out.mono ?_; rintro e w2 ⟨rfl, h2, hk2⟩)
  go_ret2
  have hend := do_end HB.out h2 hk2
  refine ⟨(0, Z.1), Z.2, ?_, rfl, hend.1, hend.2⟩
  unfold DoR BM.act
  rw [if_neg (by show ¬ ((3 : Int) = 8); omega)]
  rw [if_neg (by show ¬ ((3 : Int) = 1); omega)]
  rw [if_neg (by show ¬ ((3 : Int) = 2); omega)]
  rw [if_pos rfl]
  simp only [← HZ.out]
set_option maxRecDepth 100000 in
theorem do4 (w : World) (F : Nat → Prop) (K : Nat) (p : PrmV) (m : BM) (o : OpV) (A : Option Addr) (c : Nat) (h : KbIs w F K p m) (hwr : m.pw.writes ≤ 4611686018400000000) (hr : IRd w w.heap.size A o.parts.length o.parts) (hn : o.parts.length ≤ 9223372036854775807) (hmx : o.n ≤ 9223372036854775807) (hk : o.k = 4) :
    Calls Try.prog 13 #[.pointer (some ⟨K, 0, none⟩), .agg (opC o A c)] w (DoPost w F K p m o) := by
  have H := Lib.hid h.tight; have HW := Lib.hid hwr; have HR := Lib.hid hr; have HN := Lib.hid hn
  clear h hwr hr hn
  obtain ⟨k, n, hd, parts⟩ := o
  simp only at hk HR HN ⊢
  subst hk
  dsimp only [opC]
  go_enter Try.func13, Try.ntmps13
  go_upto_region 1 with (fail)
  have hb : Below w.heap.size w (w.alloc (.cells #[.int .i64 4, .int .i64 n, .string ⟨hd.id.toArray⟩, .int .i64 hd.size, .slice A parts.length c] 38)) := (Below.refl _ _).alloc (Nat.le_refl _) _
  have hB := Blk.new w 38 #[.int .i64 4, .int .i64 n, .string ⟨hd.id.toArray⟩, .int .i64 hd.size, .slice A parts.length c]
  obtain ⟨b, hbe⟩ : ∃ b, b = w.heap.size := ⟨_, rfl⟩
  rw [← hbe] at hB ⊢
  generalize w.alloc (.cells #[.int .i64 4, .int .i64 n, .string ⟨hd.id.toArray⟩, .int .i64 hd.size, .slice A parts.length c] 38) = w1 at hb hB ⊢
  have k0 : w1.cell? ⟨b, 0, none⟩ = some (.int .i64 4) := (hB.cell 0).trans rfl
  have k1 : w1.cell? ⟨b, 1, none⟩ = some (.int .i64 n) := (hB.cell 1).trans rfl
  have k2 : w1.cell? ⟨b, 2, none⟩ = some (.string ⟨hd.id.toArray⟩) := (hB.cell 2).trans rfl
  have k3 : w1.cell? ⟨b, 3, none⟩ = some (.int .i64 hd.size) := (hB.cell 3).trans rfl
  have k4 : w1.cell? ⟨b, 4, none⟩ = some (.slice A parts.length c) := (hB.cell 4).trans rfl
  have HB := Lib.hid hb; have H1 := Lib.hid (H.out.below hb); have HR1 := Lib.hid ((HR.out.below hb).more hb.size)
  clear hb hB hbe
  have HC := Lib.hid (Refresh_any w1 (fun k => F k ∧ k < w.heap.size) K p m A parts.length c parts HR1.out HN.out H1.out HW.out)
  obtain ⟨Z, hZ⟩ : ∃ Z, Z = m.change (refreshV parts) := ⟨_, rfl⟩
  rw [← hZ] at HC
  have HZ := Lib.hid hZ
  clear hZ
  go_wp2_with (go_at_call 24; refine HC.out.mono ?_; rintro e w2 ⟨rfl, h2, hk2⟩)
  go_ret2
  have hend := do_end HB.out h2 hk2
  refine ⟨(0, Z.1), Z.2, ?_, rfl, hend.1, hend.2⟩
  unfold DoR BM.act
  rw [if_neg (by show ¬ ((4 : Int) = 8); omega)]
  rw [if_neg (by show ¬ ((4 : Int) = 1); omega)]
  rw [if_neg (by show ¬ ((4 : Int) = 2); omega)]
  rw [if_neg (by show ¬ ((4 : Int) = 3); omega)]
  rw [if_pos rfl]
  simp only [← HZ.out]
set_option maxRecDepth 100000 in
theorem do5 (w : World) (F : Nat → Prop) (K : Nat) (p : PrmV) (m : BM) (o : OpV) (A : Option Addr) (c : Nat) (h : KbIs w F K p m) (hwr : m.pw.writes ≤ 4611686018400000000) (hr : IRd w w.heap.size A o.parts.length o.parts) (hn : o.parts.length ≤ 9223372036854775807) (hmx : o.n ≤ 9223372036854775807) (hk : o.k = 5) :
    Calls Try.prog 13 #[.pointer (some ⟨K, 0, none⟩), .agg (opC o A c)] w (DoPost w F K p m o) := by
  have H := Lib.hid h.tight; have HW := Lib.hid hwr; have HR := Lib.hid hr; have HN := Lib.hid hn
  clear h hwr hr hn
  obtain ⟨k, n, hd, parts⟩ := o
  simp only at hk HR HN ⊢
  subst hk
  dsimp only [opC]
  go_enter Try.func13, Try.ntmps13
  go_upto_region 1 with (fail)
  have hb : Below w.heap.size w (w.alloc (.cells #[.int .i64 5, .int .i64 n, .string ⟨hd.id.toArray⟩, .int .i64 hd.size, .slice A parts.length c] 38)) := (Below.refl _ _).alloc (Nat.le_refl _) _
  have hB := Blk.new w 38 #[.int .i64 5, .int .i64 n, .string ⟨hd.id.toArray⟩, .int .i64 hd.size, .slice A parts.length c]
  obtain ⟨b, hbe⟩ : ∃ b, b = w.heap.size := ⟨_, rfl⟩
  rw [← hbe] at hB ⊢
  generalize w.alloc (.cells #[.int .i64 5, .int .i64 n, .string ⟨hd.id.toArray⟩, .int .i64 hd.size, .slice A parts.length c] 38) = w1 at hb hB ⊢
  have k0 : w1.cell? ⟨b, 0, none⟩ = some (.int .i64 5) := (hB.cell 0).trans rfl
  have k1 : w1.cell? ⟨b, 1, none⟩ = some (.int .i64 n) := (hB.cell 1).trans rfl
  have k2 : w1.cell? ⟨b, 2, none⟩ = some (.string ⟨hd.id.toArray⟩) := (hB.cell 2).trans rfl
  have k3 : w1.cell? ⟨b, 3, none⟩ = some (.int .i64 hd.size) := (hB.cell 3).trans rfl
  have k4 : w1.cell? ⟨b, 4, none⟩ = some (.slice A parts.length c) := (hB.cell 4).trans rfl
  have HB := Lib.hid hb; have H1 := Lib.hid (H.out.below hb); have HR1 := Lib.hid ((HR.out.below hb).more hb.size)
  clear hb hB hbe
  have HC := Lib.hid (Recover_any w1 (fun k => F k ∧ k < w.heap.size) K p m n H1.out HW.out)
  obtain ⟨Z, hZ⟩ : ∃ Z, Z = m.change (recoverV p.n n) := ⟨_, rfl⟩
  rw [← hZ] at HC
  have HZ := Lib.hid hZ
  clear hZ
  go_wp2_with (go_at_call 27; refine HC.out.mono ?_; rintro e w2 ⟨rfl, h2, hk2⟩)
  go_ret2
  have hend := do_end HB.out h2 hk2
  refine ⟨(0, Z.1), Z.2, ?_, rfl, hend.1, hend.2⟩
  unfold DoR BM.act
  rw [if_neg (by show ¬ ((5 : Int) = 8); omega)]
  rw [if_neg (by show ¬ ((5 : Int) = 1); omega)]
  rw [if_neg (by show ¬ ((5 : Int) = 2); omega)]
  rw [if_neg (by show ¬ ((5 : Int) = 3); omega)]
  rw [if_neg (by show ¬ ((5 : Int) = 4); omega)]
  rw [if_pos rfl]
  simp only [← HZ.out]
set_option maxRecDepth 100000 in
theorem do6 (w : World) (F : Nat → Prop) (K : Nat) (p : PrmV) (m : BM) (o : OpV) (A : Option Addr) (c : Nat) (h : KbIs w F K p m) (hwr : m.pw.writes ≤ 4611686018400000000) (hr : IRd w w.heap.size A o.parts.length o.parts) (hn : o.parts.length ≤ 9223372036854775807) (hmx : o.n ≤ 9223372036854775807) (hk : o.k = 6) :
    Calls Try.prog 13 #[.pointer (some ⟨K, 0, none⟩), .agg (opC o A c)] w (DoPost w F K p m o) := by
  have H := Lib.hid h.tight; have HW := Lib.hid hwr; have HR := Lib.hid hr; have HN := Lib.hid hn
  clear h hwr hr hn
  obtain ⟨k, n, hd, parts⟩ := o
  simp only at hk HR HN ⊢
  subst hk
  dsimp only [opC]
  go_enter Try.func13, Try.ntmps13
  go_upto_region 1 with (fail)
  have hb : Below w.heap.size w (w.alloc (.cells #[.int .i64 6, .int .i64 n, .string ⟨hd.id.toArray⟩, .int .i64 hd.size, .slice A parts.length c] 38)) := (Below.refl _ _).alloc (Nat.le_refl _) _
  have hB := Blk.new w 38 #[.int .i64 6, .int .i64 n, .string ⟨hd.id.toArray⟩, .int .i64 hd.size, .slice A parts.length c]
  obtain ⟨b, hbe⟩ : ∃ b, b = w.heap.size := ⟨_, rfl⟩
  rw [← hbe] at hB ⊢
  generalize w.alloc (.cells #[.int .i64 6, .int .i64 n, .string ⟨hd.id.toArray⟩, .int .i64 hd.size, .slice A parts.length c] 38) = w1 at hb hB ⊢
  have k0 : w1.cell? ⟨b, 0, none⟩ = some (.int .i64 6) := (hB.cell 0).trans rfl
  have k1 : w1.cell? ⟨b, 1, none⟩ = some (.int .i64 n) := (hB.cell 1).trans rfl
  have k2 : w1.cell? ⟨b, 2, none⟩ = some (.string ⟨hd.id.toArray⟩) := (hB.cell 2).trans rfl
  have k3 : w1.cell? ⟨b, 3, none⟩ = some (.int .i64 hd.size) := (hB.cell 3).trans rfl
  have k4 : w1.cell? ⟨b, 4, none⟩ = some (.slice A parts.length c) := (hB.cell 4).trans rfl
  have HB := Lib.hid hb; have H1 := Lib.hid (H.out.below hb); have HR1 := Lib.hid ((HR.out.below hb).more hb.size)
  clear hb hB hbe
  have HC := Lib.hid (Mark_any w1 (fun k => F k ∧ k < w.heap.size) K p m A parts.length c parts HR1.out HN.out H1.out HW.out)
  obtain ⟨Z, hZ⟩ : ∃ Z, Z = m.change (markV p.n parts) := ⟨_, rfl⟩
  rw [← hZ] at HC
  have HZ := Lib.hid hZ
  clear hZ
  go_wp2_with (go_at_call 28; refine HC.out.mono ?_; rintro e w2 ⟨rfl, h2, hk2⟩)
  go_ret2
  have hend := do_end HB.out h2 hk2
  refine ⟨(0, Z.1), Z.2, ?_, rfl, hend.1, hend.2⟩
  unfold DoR BM.act
  rw [if_neg (by show ¬ ((6 : Int) = 8); omega)]
  rw [if_neg (by show ¬ ((6 : Int) = 1); omega)]
  rw [if_neg (by show ¬ ((6 : Int) = 2); omega)]
  rw [if_neg (by show ¬ ((6 : Int) = 3); omega)]
  rw [if_neg (by show ¬ ((6 : Int) = 4); omega)]
  rw [if_neg (by show ¬ ((6 : Int) = 5); omega)]
  rw [if_pos rfl]
  simp only [← HZ.out]
set_option maxRecDepth 100000 in
theorem do7 (w : World) (F : Nat → Prop) (K : Nat) (p : PrmV) (m : BM) (o : OpV) (A : Option Addr) (c : Nat) (h : KbIs w F K p m) (hwr : m.pw.writes ≤ 4611686018400000000) (hr : IRd w w.heap.size A o.parts.length o.parts) (hn : o.parts.length ≤ 9223372036854775807) (hmx : o.n ≤ 9223372036854775807) (hk : o.k = 7) :
    Calls Try.prog 13 #[.pointer (some ⟨K, 0, none⟩), .agg (opC o A c)] w (DoPost w F K p m o) := by
  have H := Lib.hid h.tight; have HW := Lib.hid hwr; have HR := Lib.hid hr; have HN := Lib.hid hn
  clear h hwr hr hn
  obtain ⟨k, n, hd, parts⟩ := o
  simp only at hk HR HN ⊢
  subst hk
  dsimp only [opC]
  go_enter Try.func13, Try.ntmps13
  go_upto_region 1 with (fail)
  have hb : Below w.heap.size w (w.alloc (.cells #[.int .i64 7, .int .i64 n, .string ⟨hd.id.toArray⟩, .int .i64 hd.size, .slice A parts.length c] 38)) := (Below.refl _ _).alloc (Nat.le_refl _) _
  have hB := Blk.new w 38 #[.int .i64 7, .int .i64 n, .string ⟨hd.id.toArray⟩, .int .i64 hd.size, .slice A parts.length c]
  obtain ⟨b, hbe⟩ : ∃ b, b = w.heap.size := ⟨_, rfl⟩
  rw [← hbe] at hB ⊢
  generalize w.alloc (.cells #[.int .i64 7, .int .i64 n, .string ⟨hd.id.toArray⟩, .int .i64 hd.size, .slice A parts.length c] 38) = w1 at hb hB ⊢
  have k0 : w1.cell? ⟨b, 0, none⟩ = some (.int .i64 7) := (hB.cell 0).trans rfl
  have k1 : w1.cell? ⟨b, 1, none⟩ = some (.int .i64 n) := (hB.cell 1).trans rfl
  have k2 : w1.cell? ⟨b, 2, none⟩ = some (.string ⟨hd.id.toArray⟩) := (hB.cell 2).trans rfl
  have k3 : w1.cell? ⟨b, 3, none⟩ = some (.int .i64 hd.size) := (hB.cell 3).trans rfl
  have k4 : w1.cell? ⟨b, 4, none⟩ = some (.slice A parts.length c) := (hB.cell 4).trans rfl
  have HB := Lib.hid hb; have H1 := Lib.hid (H.out.below hb); have HR1 := Lib.hid ((HR.out.below hb).more hb.size)
  clear hb hB hbe
  have HC := Lib.hid (Crash_any w1 (fun k => F k ∧ k < w.heap.size) K p m H1.out)
  go_wp2_with (go_at_call 29; refine HC.out.mono ?_; rintro e w2 ⟨rfl, h2, hk2⟩)
  go_ret2
  have hend := do_end HB.out h2 hk2
  refine ⟨(0, 0), _, ?_, rfl, hend.1, hend.2⟩
  unfold DoR BM.act
  rw [if_neg (by show ¬ ((7 : Int) = 8); omega)]
  rw [if_neg (by show ¬ ((7 : Int) = 1); omega)]
  rw [if_neg (by show ¬ ((7 : Int) = 2); omega)]
  rw [if_neg (by show ¬ ((7 : Int) = 3); omega)]
  rw [if_neg (by show ¬ ((7 : Int) = 4); omega)]
  rw [if_neg (by show ¬ ((7 : Int) = 5); omega)]
  rw [if_neg (by show ¬ ((7 : Int) = 6); omega)]
  rw [if_pos rfl]
set_option maxRecDepth 100000 in
theorem do9 (w : World) (F : Nat → Prop) (K : Nat) (p : PrmV) (m : BM) (o : OpV) (A : Option Addr) (c : Nat) (h : KbIs w F K p m) (hwr : m.pw.writes ≤ 4611686018400000000) (hr : IRd w w.heap.size A o.parts.length o.parts) (hn : o.parts.length ≤ 9223372036854775807) (hmx : o.n ≤ 9223372036854775807) (hk : o.k = 9) :
    Calls Try.prog 13 #[.pointer (some ⟨K, 0, none⟩), .agg (opC o A c)] w (DoPost w F K p m o) := by
  have H := Lib.hid h.tight; have HW := Lib.hid hwr; have HR := Lib.hid hr; have HN := Lib.hid hn
  clear h hwr hr hn
  obtain ⟨k, n, hd, parts⟩ := o
  simp only at hk HR HN ⊢
  subst hk
  dsimp only [opC]
  go_enter Try.func13, Try.ntmps13
  go_upto_region 1 with (fail)
  have hb : Below w.heap.size w (w.alloc (.cells #[.int .i64 9, .int .i64 n, .string ⟨hd.id.toArray⟩, .int .i64 hd.size, .slice A parts.length c] 38)) := (Below.refl _ _).alloc (Nat.le_refl _) _
  have hB := Blk.new w 38 #[.int .i64 9, .int .i64 n, .string ⟨hd.id.toArray⟩, .int .i64 hd.size, .slice A parts.length c]
  obtain ⟨b, hbe⟩ : ∃ b, b = w.heap.size := ⟨_, rfl⟩
  rw [← hbe] at hB ⊢
  generalize w.alloc (.cells #[.int .i64 9, .int .i64 n, .string ⟨hd.id.toArray⟩, .int .i64 hd.size, .slice A parts.length c] 38) = w1 at hb hB ⊢
  have k0 : w1.cell? ⟨b, 0, none⟩ = some (.int .i64 9) := (hB.cell 0).trans rfl
  have k1 : w1.cell? ⟨b, 1, none⟩ = some (.int .i64 n) := (hB.cell 1).trans rfl
  have k2 : w1.cell? ⟨b, 2, none⟩ = some (.string ⟨hd.id.toArray⟩) := (hB.cell 2).trans rfl
  have k3 : w1.cell? ⟨b, 3, none⟩ = some (.int .i64 hd.size) := (hB.cell 3).trans rfl
  have k4 : w1.cell? ⟨b, 4, none⟩ = some (.slice A parts.length c) := (hB.cell 4).trans rfl
  have HB := Lib.hid hb; have H1 := Lib.hid (H.out.below hb); have HR1 := Lib.hid ((HR.out.below hb).more hb.size)
  clear hb hB hbe
  have HC := Lib.hid (BFuse_any w1 (fun k => F k ∧ k < w.heap.size) K p m n hmx H1.out)
  go_wp2_with (go_at_call 19; refine HC.out.mono ?_; rintro e w2 ⟨rfl, h2, hk2⟩)
  go_ret2
  have hend := do_end HB.out h2 hk2
  refine ⟨(0, 0), _, ?_, rfl, hend.1, hend.2⟩
  unfold DoR BM.act
  rw [if_neg (by show ¬ ((9 : Int) = 8); omega)]
  rw [if_neg (by show ¬ ((9 : Int) = 1); omega)]
  rw [if_neg (by show ¬ ((9 : Int) = 2); omega)]
  rw [if_neg (by show ¬ ((9 : Int) = 3); omega)]
  rw [if_neg (by show ¬ ((9 : Int) = 4); omega)]
  rw [if_neg (by show ¬ ((9 : Int) = 5); omega)]
  rw [if_neg (by show ¬ ((9 : Int) = 6); omega)]
  rw [if_neg (by show ¬ ((9 : Int) = 7); omega)]
  rw [if_pos rfl]
set_option maxRecDepth 100000 in
theorem do8 (w : World) (F : Nat → Prop) (K : Nat) (p : PrmV) (m : BM) (o : OpV) (A : Option Addr) (c : Nat) (h : KbIs w F K p m) (hwr : m.pw.writes ≤ 4611686018400000000) (hr : IRd w w.heap.size A o.parts.length o.parts) (hn : o.parts.length ≤ 9223372036854775807) (hmx : o.n ≤ 9223372036854775807) (hk : o.k = 8) :
    Calls Try.prog 13 #[.pointer (some ⟨K, 0, none⟩), .agg (opC o A c)] w (DoPost w F K p m o) := by
  have H := Lib.hid h.tight; have HW := Lib.hid hwr; have HR := Lib.hid hr; have HN := Lib.hid hn
  clear h hwr hr hn
  obtain ⟨k, n, hd, parts⟩ := o
  simp only at hk HR HN ⊢
  subst hk
  dsimp only [opC]
  go_enter Try.func13, Try.ntmps13
  go_upto_region 1 with (fail)
  have hb : Below w.heap.size w (w.alloc (.cells #[.int .i64 8, .int .i64 n, .string ⟨hd.id.toArray⟩, .int .i64 hd.size, .slice A parts.length c] 38)) := (Below.refl _ _).alloc (Nat.le_refl _) _
  have hB := Blk.new w 38 #[.int .i64 8, .int .i64 n, .string ⟨hd.id.toArray⟩, .int .i64 hd.size, .slice A parts.length c]
  obtain ⟨b, hbe⟩ : ∃ b, b = w.heap.size := ⟨_, rfl⟩
  rw [← hbe] at hB ⊢
  generalize w.alloc (.cells #[.int .i64 8, .int .i64 n, .string ⟨hd.id.toArray⟩, .int .i64 hd.size, .slice A parts.length c] 38) = w1 at hb hB ⊢
  have k0 : w1.cell? ⟨b, 0, none⟩ = some (.int .i64 8) := (hB.cell 0).trans rfl
  have k1 : w1.cell? ⟨b, 1, none⟩ = some (.int .i64 n) := (hB.cell 1).trans rfl
  have k2 : w1.cell? ⟨b, 2, none⟩ = some (.string ⟨hd.id.toArray⟩) := (hB.cell 2).trans rfl
  have k3 : w1.cell? ⟨b, 3, none⟩ = some (.int .i64 hd.size) := (hB.cell 3).trans rfl
  have k4 : w1.cell? ⟨b, 4, none⟩ = some (.slice A parts.length c) := (hB.cell 4).trans rfl
  have HB := Lib.hid hb; have H1 := Lib.hid (H.out.below hb); have HR1 := Lib.hid ((HR.out.below hb).more hb.size)
  clear hb hB hbe
  have HC := Lib.hid (BStart_any w1 (fun k => F k ∧ k < w.heap.size) K p m H1.out HW.out)
  go_wp2_with (go_at_call 20; refine HC.out.mono ?_; rintro e w2 ⟨rfl, ⟨M, hM, h2⟩, hk2⟩)
  go_ret2
  have hend := do_end HB.out h2 hk2
  refine ⟨(0, 0), M, ?_, rfl, hend.1, hend.2⟩
  unfold DoR
  rw [if_pos rfl]
  exact ⟨rfl, hM⟩
set_option maxRecDepth 100000 in
theorem do0 (w : World) (F : Nat → Prop) (K : Nat) (p : PrmV) (m : BM) (o : OpV) (A : Option Addr) (c : Nat) (h : KbIs w F K p m) (hwr : m.pw.writes ≤ 4611686018400000000) (hr : IRd w w.heap.size A o.parts.length o.parts) (hn : o.parts.length ≤ 9223372036854775807) (hmx : o.n ≤ 9223372036854775807) (hk : o.k < 1 ∨ 9 < o.k) :
    Calls Try.prog 13 #[.pointer (some ⟨K, 0, none⟩), .agg (opC o A c)] w (DoPost w F K p m o) := by
  have H := Lib.hid h.tight; have HW := Lib.hid hwr; have HR := Lib.hid hr; have HN := Lib.hid hn
  clear h hwr hr hn
  obtain ⟨k, n, hd, parts⟩ := o
  simp only at hk HR HN ⊢
  have HKK := Lib.hid hk
  clear hk
  dsimp only [opC]
  go_enter Try.func13, Try.ntmps13
  go_upto_region 1 with (fail)
  have hb : Below w.heap.size w (w.alloc (.cells #[.int .i64 k, .int .i64 n, .string ⟨hd.id.toArray⟩, .int .i64 hd.size, .slice A parts.length c] 38)) := (Below.refl _ _).alloc (Nat.le_refl _) _
  have hB := Blk.new w 38 #[.int .i64 k, .int .i64 n, .string ⟨hd.id.toArray⟩, .int .i64 hd.size, .slice A parts.length c]
  obtain ⟨b, hbe⟩ : ∃ b, b = w.heap.size := ⟨_, rfl⟩
  rw [← hbe] at hB ⊢
  generalize w.alloc (.cells #[.int .i64 k, .int .i64 n, .string ⟨hd.id.toArray⟩, .int .i64 hd.size, .slice A parts.length c] 38) = w1 at hb hB ⊢
  have k0 : w1.cell? ⟨b, 0, none⟩ = some (.int .i64 k) := (hB.cell 0).trans rfl
  have k1 : w1.cell? ⟨b, 1, none⟩ = some (.int .i64 n) := (hB.cell 1).trans rfl
  have k2 : w1.cell? ⟨b, 2, none⟩ = some (.string ⟨hd.id.toArray⟩) := (hB.cell 2).trans rfl
  have k3 : w1.cell? ⟨b, 3, none⟩ = some (.int .i64 hd.size) := (hB.cell 3).trans rfl
  have k4 : w1.cell? ⟨b, 4, none⟩ = some (.slice A parts.length c) := (hB.cell 4).trans rfl
  have HB := Lib.hid hb; have H1 := Lib.hid (H.out.below hb); have HR1 := Lib.hid ((HR.out.below hb).more hb.size)
  clear hb hB hbe
  have hk := HKK.out
  have e1 : ¬ (k = 1) := by omega
  have e2 : ¬ (k = 2) := by omega
  have e3 : ¬ (k = 3) := by omega
  have e4 : ¬ (k = 4) := by omega
  have e5 : ¬ (k = 5) := by omega
  have e6 : ¬ (k = 6) := by omega
  have e7 : ¬ (k = 7) := by omega
  have e8 : ¬ (k = 8) := by omega
  have e9 : ¬ (k = 9) := by omega
  clear hk
  go_wp2
  go_ret2
  refine ⟨(0, 0), m, ?_, rfl, (H1.out.weaken (fun k e => Or.inl e.1)), Keeps.of_below HB.out⟩
  unfold DoR BM.act
  rw [if_neg e8, if_neg e1, if_neg e2, if_neg e3, if_neg e4, if_neg e5, if_neg e6, if_neg e7, if_neg e9]
theorem do_any (w : World) (F : Nat → Prop) (K : Nat) (p : PrmV) (m : BM) (o : OpV) (A : Option Addr) (c : Nat) (h : KbIs w F K p m) (hwr : m.pw.writes ≤ 4611686018400000000) (hr : IRd w w.heap.size A o.parts.length o.parts) (hn : o.parts.length ≤ 9223372036854775807) (hmx : o.n ≤ 9223372036854775807)  :
    Calls Try.prog 13 #[.pointer (some ⟨K, 0, none⟩), .agg (opC o A c)] w (DoPost w F K p m o) := by
  by_cases e1 : o.k = 1
  · exact do1 w F K p m o A c h hwr hr hn hmx e1
  by_cases e2 : o.k = 2
  · exact do2 w F K p m o A c h hwr hr hn hmx e2
  by_cases e3 : o.k = 3
  · exact do3 w F K p m o A c h hwr hr hn hmx e3
  by_cases e4 : o.k = 4
  · exact do4 w F K p m o A c h hwr hr hn hmx e4
  by_cases e5 : o.k = 5
  · exact do5 w F K p m o A c h hwr hr hn hmx e5
  by_cases e6 : o.k = 6
  · exact do6 w F K p m o A c h hwr hr hn hmx e6
  by_cases e7 : o.k = 7
  · exact do7 w F K p m o A c h hwr hr hn hmx e7
  by_cases e8 : o.k = 8
  · exact do8 w F K p m o A c h hwr hr hn hmx e8
  by_cases e9 : o.k = 9
  · exact do9 w F K p m o A c h hwr hr hn hmx e9
  exact do0 w F K p m o A c h hwr hr hn hmx (by omega)
end Go.Proofs.Ytlabebapjhhkaaa
namespace Go.Proofs.Ytlabebapjhhkaaa
open Go.RowKit Go.Shelf
/-- The power never goes. -/
def PW.free (p : PW) : Prop := p.left = -1 ∧ p.gone = false
theorem PW.free_run (k : Nat) : ∀ {p : PW}, p.free → p.run k = (true, ⟨-1, false, p.writes + k⟩) := by
  induction k with
  | zero =>
    intro p h
    obtain ⟨l, g, w⟩ := p
    obtain ⟨h1, h2⟩ := h
    simp only at h1 h2
    subst h1 h2
    rfl
  | succ k ih =>
    intro p h
    obtain ⟨h1, h2⟩ := h
    unfold PW.run
    rw [h1, h2]
    rw [if_neg (by simp), ih (p := ⟨if (0 : Int) < -1 then -1 - 1 else -1, false, p.writes + 1⟩) ⟨by simp, rfl⟩]
    simp only [Prod.mk.injEq, true_and, PW.mk.injEq]
    omega
def BM.free (m : BM) : Prop := m.off = false ∧ m.pw.free
theorem BM.free_down {m : BM} (h : m.free) : m.down = false := by unfold BM.down; rw [h.1, h.2.2]; rfl
theorem BM.free_keep {m : BM} (h : m.free) (x : BookV) : (m.keep x).1 = 0 ∧ (m.keep x).2.v = x ∧ (m.keep x).2.free ∧ (m.keep x).2.kept = bk x := by
  unfold BM.keep
  rw [PW.free_run _ h.2, PW.free_run _ h.2]
  exact ⟨rfl, rfl, ⟨h.1, rfl, rfl⟩, rfl⟩
theorem BM.free_change {m : BM} (h : m.free) (how : BookV → Int × BookV) : (m.change how).1 = (how m.v).1 ∧ (m.change how).2.free ∧ (m.change how).2.v = (if (how m.v).1 = 0 then (how m.v).2 else m.v) := by
  unfold BM.change
  rw [BM.free_down h, if_neg Bool.false_ne_true]
  by_cases h0 : (how m.v).1 = 0
  · obtain ⟨k1, k2, k3, _⟩ := BM.free_keep h (how m.v).2
    rw [if_neg (fun e => e h0), if_pos h0]
    exact ⟨k1.trans h0.symm, k3, k2⟩
  · rw [if_pos h0, if_neg h0]
    exact ⟨rfl, h, rfl⟩
theorem BM.new_free (n : Nat) : (BM.new n).free := ⟨rfl, rfl, rfl⟩
theorem nextV_good {N : Nat} {v : BookV} (g : GoodV N v) : (nextV v).1 = 0 → GoodV N (nextV v).2 := fun e => by
  unfold nextV at e ⊢
  by_cases h1 : v.session ≥ 1073741824
  · rw [if_pos h1] at e; cases e
  · rw [if_neg h1]
    exact ⟨by show 0 ≤ v.session + 1; have := g.s0; omega, by show v.session + 1 ≤ _; omega, g.d0, by show v.decided ≤ v.session + 1; have := g.d1; omega, g.e0, g.e1, g.dl, g.dh, g.srt, g.ul, g.cl, g.c⟩
def ansV : BookV := ⟨1, 1, 0, [⟨[97], 2⟩], [true, true, false], [1, 1, 0]⟩
theorem ans_begin : ((BM.new 3).change nextV).1 = 0 ∧ ((BM.new 3).change nextV).2.v = { firstV 3 with session := 1 } ∧ ((BM.new 3).change nextV).2.free ∧ ((BM.new 3).change nextV).2.pw.writes ≤ 2000 := by
  obtain ⟨h1, h2, h3⟩ := BM.free_change (BM.new_free 3) nextV
  have h4 := BM.change_writes (BM.new 3) 3 (BM.new_ok (by omega)) nextV (nextV_good (firstV_good 3))
  have h5 : (BM.new 3).pw.writes = 0 := rfl
  exact ⟨h1.trans rfl, h3.trans rfl, h2, by omega⟩
theorem ans_put (m : BM) (hv : m.v = { firstV 3 with session := 1 }) (hf : m.free) : (m.change (putV ⟨[97], 2⟩ [0, 1])).1 = 0 ∧ (m.change (putV ⟨[97], 2⟩ [0, 1])).2.v = ansV := by
  obtain ⟨h1, h2, h3⟩ := BM.free_change hf (putV ⟨[97], 2⟩ [0, 1])
  rw [hv] at h1 h3
  exact ⟨h1.trans (by rfl), h3.trans (by rfl)⟩
theorem own_cells {W : World} {B n : Nat} {e : TypeId} {xs : List Value} {A : Option Addr} {c : Nat} (h : W.ownsRow B e 1 (.slice A n c) n xs) (hn : 0 < n) : ∃ g, A = some ⟨g, 0, none⟩ ∧ n ≤ c ∧ ∀ j, j < n → W.cell? ⟨g, j, none⟩ = xs[j]? := by
  obtain ⟨g, c', e1, _, _, _, _, hc⟩ := row_at h 0 hn
  injection e1 with e1 _ e3
  subst e1 e3
  exact ⟨g, rfl, hc, fun j hj => h.cellAt j (by omega)⟩
set_option maxRecDepth 100000 in
set_option maxHeartbeats 4000000 in
theorem answers19_any (w : World) : Calls Try.prog 10 #[] w fun e w' => e = .returned (.bool true) ∧ Below w.heap.size w w' := by
  go_enter Try.func10, Try.ntmps10
  go_wp2_with fail
  refine (BNew_any w ⟨3, 1, 1, 0, 9⟩ (by show 3 ≤ 255; omega)).mono ?_
  rintro e w1 ⟨K, rfl, h1, hb1⟩
  have HB1 := Lib.hid hb1
  have HBEG := Lib.hid (Begin_any w1 _ K _ _ h1 (Nat.zero_le _))
  clear h1 hb1
  have hans := ans_begin
  have hbeg := HBEG.out
  generalize (BM.new 3).change nextV = Z at hans hbeg
  obtain ⟨a1, a2, a3, a4⟩ := hans
  rw [a1, if_pos rfl] at hbeg
  have HBG := Lib.hid hbeg; have HA2 := Lib.hid a2; have HA3 := Lib.hid a3; have HA4 := Lib.hid a4
  clear HBEG hbeg a1 a2 a3 a4
  go_wp2_with fail
  refine HBG.out.mono ?_
  rintro e w2 ⟨rfl, h2, hk2⟩
  have hs1 : (BM.new 3).v.session + 1 = 1 := rfl
  rw [hs1]
  have hb2 : Below w.heap.size w w2 := HB1.out.trans (hk2.below (fun _ e => e) HB1.out.size)
  have H2 := Lib.hid h2; have HB2 := Lib.hid hb2
  clear h2 hk2 hb2 hs1 HBG
  obtain ⟨M2, hM2⟩ : ∃ M2, M2 = Z.2 := ⟨_, rfl⟩
  rw [← hM2] at H2 HA2 HA3 HA4
  clear hM2
  have HX := Lib.hid (ans_put M2 HA2.out HA3.out)
  have h3 := H2.out.below (show Below w2.heap.size w2 (w2.alloc (.cells #[.int .i64 0, .int .i64 1] 3)) from (Below.refl _ _).alloc (Nat.le_refl _) _)
  have hr3 : IRd (w2.alloc (.cells #[.int .i64 0, .int .i64 1] 3)) (w2.alloc (.cells #[.int .i64 0, .int .i64 1] 3)).heap.size (some ⟨w2.heap.size, 0, none⟩) 2 [0, 1] := reads_row (cs := [.int .i64 0, .int .i64 1]) (Blk.new w2 _ _) rfl
  have hb3 := HB2.out.alloc HB2.out.size (.cells #[.int .i64 0, .int .i64 1] 3)
  have hwr : M2.pw.writes ≤ 4611686018400000000 := by have := HA4.out; omega
  have HPUT := Lib.hid (BPut_any (w2.alloc (.cells #[.int .i64 0, .int .i64 1] 3)) _ K ⟨3, 1, 1, 0, 9⟩ M2 ⟨[97], 2⟩ (some ⟨w2.heap.size, 0, none⟩) 2 2 [0, 1] hr3 (by omega) h3 hwr)
  have HB3 := Lib.hid hb3
  clear h3 hr3 hb3 hwr
  go_wp2_with fail
  refine HPUT.out.mono ?_
  rintro e w3 ⟨rfl, h3, hk3⟩
  rw [HX.out.1]
  have hb3 : Below w.heap.size w w3 := HB3.out.trans (hk3.below (fun k e => by
    rcases e with e | e
    · exact e
    · exact Nat.le_trans HB1.out.size e) HB3.out.size)
  have hview := View_any w3 _ K _ _ h3
  rw [HX.out.2] at hview
  have HV := Lib.hid hview; have HB := Lib.hid hb3
  clear h3 hk3 hview hb3 HPUT HX
  go_wp2_with fail
  refine HV.out.mono ?_
  rintro e w4 ⟨Ad, Au, Ac, cd, cu, cc, rfl, ho, hb4⟩
  obtain ⟨gu, rfl, hcu, hup⟩ := own_cells ho.up (by decide)
  obtain ⟨gc, rfl, hcc, hcm⟩ := own_cells ho.commit (by decide)
  have HOW := Lib.hid ho; have HB4 := Lib.hid (HB.out.trans (hb4.mono HB.out.size))
  clear ho hb4 HV
  go_upto_region 5 with (fail)
  have hV := Blk.new w4 44 (bookCells ansV Ad (some ⟨gu, 0, none⟩) (some ⟨gc, 0, none⟩) cd cu cc)
  have hal : Below w4.heap.size w4 (w4.alloc (.cells (bookCells ansV Ad (some ⟨gu, 0, none⟩) (some ⟨gc, 0, none⟩) cd cu cc) 44)) := (Below.refl _ _).alloc (Nat.le_refl _) _
  have hb5 := HB4.out.alloc HB4.out.size (.cells (bookCells ansV Ad (some ⟨gu, 0, none⟩) (some ⟨gc, 0, none⟩) cd cu cc) 44)
  have u0 : w4.cell? ⟨gu, 0, none⟩ = some (.bool true) := (hup 0 (by decide)).trans rfl
  have u2 : w4.cell? ⟨gu, 2, none⟩ = some (.bool false) := (hup 2 (by decide)).trans rfl
  have q1 : w4.cell? ⟨gc, 1, none⟩ = some (.int .i64 1) := (hcm 1 (by decide)).trans rfl
  have q2 : w4.cell? ⟨gc, 2, none⟩ = some (.int .i64 0) := (hcm 2 (by decide)).trans rfl
  have u0' := (hal.cell (p := ⟨gu, 0, none⟩) (cell_lt u0)).trans u0
  have u2' := (hal.cell (p := ⟨gu, 2, none⟩) (cell_lt u2)).trans u2
  have q1' := (hal.cell (p := ⟨gc, 1, none⟩) (cell_lt q1)).trans q1
  have q2' := (hal.cell (p := ⟨gc, 2, none⟩) (cell_lt q2)).trans q2
  obtain ⟨w5, hw5⟩ : ∃ w5, w5 = w4.alloc (.cells (bookCells ansV Ad (some ⟨gu, 0, none⟩) (some ⟨gc, 0, none⟩) cd cu cc) 44) := ⟨_, rfl⟩
  rw [← hw5] at hV hal hb5 u0' u2' q1' q2'
  have hw5' : w4.alloc (.cells #[.int .i64 ansV.session, .int .i64 ansV.decided, .int .i64 ansV.epoch, .slice Ad ansV.dir.length cd, .slice (some ⟨gu, 0, none⟩) ansV.up.length cu, .slice (some ⟨gc, 0, none⟩) ansV.commit.length cc] 44) = w5 := hw5.symm
  rw [hw5']
  have v1 : w5.cell? ⟨w4.heap.size, 1, none⟩ = some (.int .i64 1) := (hV.cell 1).trans rfl
  have v3 : w5.cell? ⟨w4.heap.size, 3, none⟩ = some (.slice Ad 1 cd) := (hV.cell 3).trans rfl
  have v4 : w5.cell? ⟨w4.heap.size, 4, none⟩ = some (.slice (some ⟨gu, 0, none⟩) 3 cu) := (hV.cell 4).trans rfl
  have v5 : w5.cell? ⟨w4.heap.size, 5, none⟩ = some (.slice (some ⟨gc, 0, none⟩) 3 cc) := (hV.cell 5).trans rfl
  have hcu' : 3 ≤ cu := hcu
  have hcc' : 3 ≤ cc := hcc
  have HB5 := Lib.hid hb5
  clear hV hal hb5 u0 u2 q1 q2 hw5 hw5' hup hcm hcu hcc
  generalize w4.heap.size = V at v1 v3 v4 v5 ⊢
  go_wp2
  go_ret
  exact ⟨rfl, HB5.out⟩
end Go.Proofs.Ytlabebapjhhkaaa
namespace Go.Proofs.Ytlabebapjhhkaaa
open Go.RowKit Go.Shelf
set_option maxRecDepth 100000 in
set_option maxHeartbeats 4000000 in
theorem Same_any (w : World) (x y : BookV) (S S' : Nat → Prop) (Ad Au Ac Bd Bu Bc : Option Addr) (cd cu cc dd du dc : Nat) (hx : BookRd w S x Ad Au Ac) (hy : BookRd w S' y Bd Bu Bc) (cx : x.cost ≤ 140737488000000) (cy : y.cost ≤ 140737488000000) :
    Calls Try.prog 17 #[.agg (bookCells x Ad Au Ac cd cu cc), .agg (bookCells y Bd Bu Bc dd du dc)] w fun e w' => e = .returned (.bool (decide (bk x = bk y))) ∧ Below w.heap.size w w' := by
  have HX := Lib.hid hx.tight; have HY := Lib.hid hy.tight
  clear hx hy
  obtain ⟨q, hq⟩ : ∃ q, q = decide (bk x = bk y) := ⟨_, rfl⟩
  rw [← hq]
  have HQ := Lib.hid hq; clear hq
  go_enter Try.func17, Try.ntmps17
  go_upto_region 1 with (fail)
  have hb : Below w.heap.size w ((w.alloc (.cells (bookCells x Ad Au Ac cd cu cc) 44)).alloc (.cells (bookCells y Bd Bu Bc dd du dc) 44)) := ((Below.refl _ _).alloc (Nat.le_refl _) _).alloc (by simp) _
  have h2 : Blk ((w.alloc (.cells (bookCells x Ad Au Ac cd cu cc) 44)).alloc (.cells (bookCells y Bd Bu Bc dd du dc) 44)) w.heap.size 44 (bookCells x Ad Au Ac cd cu cc) := (Blk.new _ _ _).alloc _
  have h3 : Blk ((w.alloc (.cells (bookCells x Ad Au Ac cd cu cc) 44)).alloc (.cells (bookCells y Bd Bu Bc dd du dc) 44)) (w.heap.size + 1) 44 (bookCells y Bd Bu Bc dd du dc) := Blk.new' (by simp)
  obtain ⟨b2, e2⟩ : ∃ b, b = w.heap.size := ⟨_, rfl⟩
  obtain ⟨b3, e3⟩ : ∃ b, b = w.heap.size + 1 := ⟨_, rfl⟩
  rw [← e3] at h3 ⊢
  rw [← e2] at h2 ⊢
  generalize ((w.alloc (.cells (bookCells x Ad Au Ac cd cu cc) 44)).alloc (.cells (bookCells y Bd Bu Bc dd du dc) 44)) = w1 at hb h2 h3 ⊢
  have HB := Lib.hid hb; have H2 := Lib.hid h2; have H3 := Lib.hid h3
  have HX1 := Lib.hid (HX.out.below hb); have HY1 := Lib.hid (HY.out.below hb)
  clear hb h2 h3 e2 e3
  go_upto_region 2 with (first | refine wpList_load_row rfl 44 (.tmp 2) rfl b2 rfl _ _ _ _ H2.out Try.underlying44 rfl (by kernel_rfl) ?_ | (go_at_call 36; refine (RefDir_any w1 _ x Ad Au Ac cd cu cc HX1.out (fun k e => Nat.lt_of_lt_of_le e.2 HB.out.size) cx).mono ?_; rintro e w2 ⟨v2, rfl, ⟨A2, c2, rfl, hr2, _⟩, hb2⟩))
  have h3 := H3.out.below hb2 H3.out.lt
  have hy2 := HY1.out.below hb2
  have HB2 := Lib.hid (HB.out.trans (hb2.mono HB.out.size)); have H32 := Lib.hid h3; have HY2 := Lib.hid hy2; have HR2 := Lib.hid hr2
  clear h3 hy2 hr2 hb2
  go_upto_region 3 with (first | refine wpList_load_row rfl 44 (.tmp 3) rfl b3 rfl _ _ _ _ H32.out Try.underlying44 rfl (by kernel_rfl) ?_ | (go_at_call 36; refine (RefDir_any w2 _ y Bd Bu Bc dd du dc HY2.out (fun k e => Nat.lt_of_lt_of_le e.2 HB2.out.size) cy).mono ?_; rintro e w3 ⟨v3, rfl, ⟨A3, c3, rfl, hr3, _⟩, hb3⟩))
  have HB3 := Lib.hid (HB2.out.trans (hb3.mono HB2.out.size)); have HR23 := Lib.hid (HR2.out.below hb3); have HR3 := Lib.hid hr3
  clear hr3 hb3
  go_wp2_with (first | refine wpList_str rfl 64 9 5 (.tmp 19) rfl A2 _ c2 _ rfl Try.underlying64 Try.underlying5 Try.underlying9 _ HR23.out ?_ | refine wpList_str rfl 64 9 5 (.tmp 21) rfl A3 _ c3 _ rfl Try.underlying64 Try.underlying5 Try.underlying9 _ HR3.out ?_ | refine wpList_eql rfl 9 9 (.tmp 20) (.tmp 22) rfl _ _ rfl rfl ?_)
  go_ret
  rw [HQ.out]
  exact ⟨rfl, HB3.out⟩
theorem zero_bk : bk BookV.zero = bk BookV.zero := rfl
theorem change_nil (w : World) (f : Value) : Calls Try.prog 42 #[.pointer none, f] w fun e w' => e = .returned (.int .i64 1) ∧ w' = w := by
  go_enter Try.func42, Try.ntmps42
  go_wp2
  go_ret
  exact ⟨rfl, rfl⟩
end Go.Proofs.Ytlabebapjhhkaaa
namespace Go.Proofs.Ytlabebapjhhkaaa
open Go.RowKit Go.Shelf
theorem below1 (w : World) (a : Obj) : Below w.heap.size w (w.alloc a) := (Below.refl _ _).alloc (Nat.le_refl _) a
theorem below2 (w : World) (a b : Obj) : Below w.heap.size w ((w.alloc a).alloc b) := (below1 w a).alloc (by simp) b
theorem Begin_nil (w : World)  : Calls Try.prog 22 #[.pointer none] w fun e w' => e = .returned (.tuple #[.int .i64 0, .int .i64 1]) ∧ Below w.heap.size w w' := by
  have hmf : ∀ W, Sem.run Try.prog (Instr.makeFunc (Fn.func 47) #[] #[.pointer (some ⟨w.heap.size, 0, none⟩)]) W = .ok (.func (.func 47) #[] #[.pointer (some ⟨w.heap.size, 0, none⟩)]) W := fun W => by rfl
  go_enter Try.func22, Try.ntmps22
  go_wp2_with (go_at_call 42; refine (change_nil _ _).mono ?_; rintro e w7 ⟨rfl, hw⟩; subst hw)
  go_ret2
  exact ⟨rfl, by first | exact below1 _ _ | exact below2 _ _ _ | exact below3 _ _ _ _⟩
theorem Put_nil (w : World) (h : HeadV) (A : Option Addr) (n c : Nat) : Calls Try.prog 23 #[.pointer none, .agg #[.string ⟨h.id.toArray⟩, .int .i64 h.size], .slice A n c] w fun e w' => e = .returned (.int .i64 1) ∧ Below w.heap.size w w' := by
  have hmf : ∀ W, Sem.run Try.prog (Instr.makeFunc (Fn.func 48) #[] #[.pointer (some ⟨w.heap.size + 1, 0, none⟩), .pointer (some ⟨w.heap.size, 0, none⟩), .pointer (some ⟨w.heap.size + 1 + 1, 0, none⟩)]) W = .ok (.func (.func 48) #[] #[.pointer (some ⟨w.heap.size + 1, 0, none⟩), .pointer (some ⟨w.heap.size, 0, none⟩), .pointer (some ⟨w.heap.size + 1 + 1, 0, none⟩)]) W := fun W => by rfl
  go_enter Try.func23, Try.ntmps23
  go_wp2_with (go_at_call 42; refine (change_nil _ _).mono ?_; rintro e w7 ⟨rfl, hw⟩; subst hw)
  go_ret
  exact ⟨rfl, by first | exact below1 _ _ | exact below2 _ _ _ | exact below3 _ _ _ _⟩
theorem Delete_nil (w : World) (id : List UInt8) : Calls Try.prog 21 #[.pointer none, .string ⟨id.toArray⟩] w fun e w' => e = .returned (.int .i64 1) ∧ Below w.heap.size w w' := by
  have hmf : ∀ W, Sem.run Try.prog (Instr.makeFunc (Fn.func 43) #[] #[.pointer (some ⟨w.heap.size, 0, none⟩)]) W = .ok (.func (.func 43) #[] #[.pointer (some ⟨w.heap.size, 0, none⟩)]) W := fun W => by rfl
  go_enter Try.func21, Try.ntmps21
  go_wp2_with (go_at_call 42; refine (change_nil _ _).mono ?_; rintro e w7 ⟨rfl, hw⟩; subst hw)
  go_ret
  exact ⟨rfl, by first | exact below1 _ _ | exact below2 _ _ _ | exact below3 _ _ _ _⟩
theorem Refresh_nil (w : World) (A : Option Addr) (n c : Nat) : Calls Try.prog 24 #[.pointer none, .slice A n c] w fun e w' => e = .returned (.int .i64 1) ∧ Below w.heap.size w w' := by
  have hmf : ∀ W, Sem.run Try.prog (Instr.makeFunc (Fn.func 51) #[] #[.pointer (some ⟨w.heap.size, 0, none⟩), .pointer (some ⟨w.heap.size + 1, 0, none⟩)]) W = .ok (.func (.func 51) #[] #[.pointer (some ⟨w.heap.size, 0, none⟩), .pointer (some ⟨w.heap.size + 1, 0, none⟩)]) W := fun W => by rfl
  go_enter Try.func24, Try.ntmps24
  go_wp2_with (go_at_call 42; refine (change_nil _ _).mono ?_; rintro e w7 ⟨rfl, hw⟩; subst hw)
  go_ret
  exact ⟨rfl, by first | exact below1 _ _ | exact below2 _ _ _ | exact below3 _ _ _ _⟩
theorem Recover_nil (w : World) (x : Int) : Calls Try.prog 27 #[.pointer none, .int .i64 x] w fun e w' => e = .returned (.int .i64 1) ∧ Below w.heap.size w w' := by
  have hmf : ∀ W, Sem.run Try.prog (Instr.makeFunc (Fn.func 53) #[] #[.pointer (some ⟨w.heap.size, 0, none⟩), .pointer (some ⟨w.heap.size + 1, 0, none⟩)]) W = .ok (.func (.func 53) #[] #[.pointer (some ⟨w.heap.size, 0, none⟩), .pointer (some ⟨w.heap.size + 1, 0, none⟩)]) W := fun W => by rfl
  go_enter Try.func27, Try.ntmps27
  go_wp2_with (go_at_call 42; refine (change_nil _ _).mono ?_; rintro e w7 ⟨rfl, hw⟩; subst hw)
  go_ret
  exact ⟨rfl, by first | exact below1 _ _ | exact below2 _ _ _ | exact below3 _ _ _ _⟩
theorem Mark_nil (w : World) (A : Option Addr) (n c : Nat) : Calls Try.prog 28 #[.pointer none, .slice A n c] w fun e w' => e = .returned (.int .i64 1) ∧ Below w.heap.size w w' := by
  have hmf : ∀ W, Sem.run Try.prog (Instr.makeFunc (Fn.func 55) #[] #[.pointer (some ⟨w.heap.size + 1, 0, none⟩), .pointer (some ⟨w.heap.size, 0, none⟩)]) W = .ok (.func (.func 55) #[] #[.pointer (some ⟨w.heap.size + 1, 0, none⟩), .pointer (some ⟨w.heap.size, 0, none⟩)]) W := fun W => by rfl
  go_enter Try.func28, Try.ntmps28
  go_wp2_with (go_at_call 42; refine (change_nil _ _).mono ?_; rintro e w7 ⟨rfl, hw⟩; subst hw)
  go_ret
  exact ⟨rfl, by first | exact below1 _ _ | exact below2 _ _ _ | exact below3 _ _ _ _⟩
theorem Crash_nil (w : World) : Calls Try.prog 29 #[.pointer none] w fun e w' => e = .returned (.tuple #[]) ∧ w' = w := by
  go_enter Try.func29, Try.ntmps29
  go_wp2
  go_end0
  exact ⟨rfl, rfl⟩
theorem Start_nil (w : World) : Calls Try.prog 20 #[.pointer none] w fun e w' => e = .returned (.tuple #[]) ∧ w' = w := by
  go_enter Try.func20, Try.ntmps20
  go_wp2
  go_end0
  exact ⟨rfl, rfl⟩
theorem Fuse_nil (w : World) (x : Int) : Calls Try.prog 19 #[.pointer none, .int .i64 x] w fun e w' => e = .returned (.tuple #[]) ∧ w' = w := by
  go_enter Try.func19, Try.ntmps19
  go_wp2
  go_end0
  exact ⟨rfl, rfl⟩
theorem Down_nil (w : World) : Calls Try.prog 15 #[.pointer none] w fun e w' => e = .returned (.bool false) ∧ w' = w := by
  go_enter Try.func15, Try.ntmps15
  go_wp2
  go_ret
  exact ⟨rfl, rfl⟩
theorem View_nil (w : World) : Calls Try.prog 18 #[.pointer none] w fun e w' => e = .returned (.agg (bookCells BookV.zero none none none 0 0 0)) ∧ Below w.heap.size w w' := by
  go_enter Try.func18, Try.ntmps18
  have hR := Blk.new w 44 zeroBook
  have hb := below1 w (.cells zeroBook 44)
  go_upto_region 1 with (fail)
  generalize w.alloc (.cells zeroBook 44) = w1 at hR hb ⊢
  have HR := Lib.hid hR; have HB := Lib.hid hb
  clear hR hb
  go_wp2_with (refine wpList_store_row rfl 44 (.tmp 2) (.tmp 8) rfl w.heap.size _ (by rfl) (by rfl) _ _ HR.out (by kernel_rfl) (by rfl) (by simp [Value.oneCell']) ?_)
  refine bodyPost_ret (v := .agg zeroBook) (results_cell_row rfl _ _ w.heap.size 44 _ (0, 0) _ rfl (setRow_heap w1 w.heap.size _ _ _ _ HR.out) Try.underlying44 rfl (by kernel_rfl)) rfl ?_
  exact ⟨rfl, below_setRow HB.out (Nat.le_refl _) _⟩
theorem do1_nil (w : World) (o : OpV) (A : Option Addr) (c : Nat) (hk : o.k = 1) : Calls Try.prog 13 #[.pointer none, .agg (opC o A c)] w fun e w' => ∃ q : Int, e = .returned (.tuple #[.int .i64 0, .int .i64 q]) ∧ (q = 1 ∨ o.k < 1 ∨ 6 < o.k) ∧ Below w.heap.size w w' := by
  obtain ⟨k, n, hd, parts⟩ := o
  simp only at hk ⊢
  subst hk
  dsimp only [opC]
  go_enter Try.func13, Try.ntmps13
  go_upto_region 1 with (fail)
  have hb := below1 w (.cells #[.int .i64 1, .int .i64 n, .string ⟨hd.id.toArray⟩, .int .i64 hd.size, .slice A parts.length c] 38)
  have hB := Blk.new w 38 #[.int .i64 1, .int .i64 n, .string ⟨hd.id.toArray⟩, .int .i64 hd.size, .slice A parts.length c]
  obtain ⟨b, hbe⟩ : ∃ b, b = w.heap.size := ⟨_, rfl⟩
  rw [← hbe] at hB ⊢
  generalize w.alloc (.cells #[.int .i64 1, .int .i64 n, .string ⟨hd.id.toArray⟩, .int .i64 hd.size, .slice A parts.length c] 38) = w1 at hb hB ⊢
  have k0 : w1.cell? ⟨b, 0, none⟩ = some (.int .i64 1) := (hB.cell 0).trans rfl
  have k1 : w1.cell? ⟨b, 1, none⟩ = some (.int .i64 n) := (hB.cell 1).trans rfl
  have k2 : w1.cell? ⟨b, 2, none⟩ = some (.string ⟨hd.id.toArray⟩) := (hB.cell 2).trans rfl
  have k3 : w1.cell? ⟨b, 3, none⟩ = some (.int .i64 hd.size) := (hB.cell 3).trans rfl
  have k4 : w1.cell? ⟨b, 4, none⟩ = some (.slice A parts.length c) := (hB.cell 4).trans rfl
  have HB := Lib.hid hb
  clear hb hB hbe
  go_wp2_with (go_at_call 22; refine (Begin_nil w1).mono ?_; rintro e w2 ⟨rfl, h2⟩)
  go_ret2
  exact ⟨1, rfl, Or.inl rfl, HB.out.trans (h2.mono HB.out.size)⟩
theorem do2_nil (w : World) (o : OpV) (A : Option Addr) (c : Nat) (hk : o.k = 2) : Calls Try.prog 13 #[.pointer none, .agg (opC o A c)] w fun e w' => ∃ q : Int, e = .returned (.tuple #[.int .i64 0, .int .i64 q]) ∧ (q = 1 ∨ o.k < 1 ∨ 6 < o.k) ∧ Below w.heap.size w w' := by
  obtain ⟨k, n, hd, parts⟩ := o
  simp only at hk ⊢
  subst hk
  dsimp only [opC]
  go_enter Try.func13, Try.ntmps13
  go_upto_region 1 with (fail)
  have hb := below1 w (.cells #[.int .i64 2, .int .i64 n, .string ⟨hd.id.toArray⟩, .int .i64 hd.size, .slice A parts.length c] 38)
  have hB := Blk.new w 38 #[.int .i64 2, .int .i64 n, .string ⟨hd.id.toArray⟩, .int .i64 hd.size, .slice A parts.length c]
  obtain ⟨b, hbe⟩ : ∃ b, b = w.heap.size := ⟨_, rfl⟩
  rw [← hbe] at hB ⊢
  generalize w.alloc (.cells #[.int .i64 2, .int .i64 n, .string ⟨hd.id.toArray⟩, .int .i64 hd.size, .slice A parts.length c] 38) = w1 at hb hB ⊢
  have k0 : w1.cell? ⟨b, 0, none⟩ = some (.int .i64 2) := (hB.cell 0).trans rfl
  have k1 : w1.cell? ⟨b, 1, none⟩ = some (.int .i64 n) := (hB.cell 1).trans rfl
  have k2 : w1.cell? ⟨b, 2, none⟩ = some (.string ⟨hd.id.toArray⟩) := (hB.cell 2).trans rfl
  have k3 : w1.cell? ⟨b, 3, none⟩ = some (.int .i64 hd.size) := (hB.cell 3).trans rfl
  have k4 : w1.cell? ⟨b, 4, none⟩ = some (.slice A parts.length c) := (hB.cell 4).trans rfl
  have HB := Lib.hid hb
  clear hb hB hbe
  go_wp2_with (go_at_call 23; refine (Put_nil w1 hd A parts.length c).mono ?_; rintro e w2 ⟨rfl, h2⟩)
  go_ret2
  exact ⟨1, rfl, Or.inl rfl, HB.out.trans (h2.mono HB.out.size)⟩
theorem do3_nil (w : World) (o : OpV) (A : Option Addr) (c : Nat) (hk : o.k = 3) : Calls Try.prog 13 #[.pointer none, .agg (opC o A c)] w fun e w' => ∃ q : Int, e = .returned (.tuple #[.int .i64 0, .int .i64 q]) ∧ (q = 1 ∨ o.k < 1 ∨ 6 < o.k) ∧ Below w.heap.size w w' := by
  obtain ⟨k, n, hd, parts⟩ := o
  simp only at hk ⊢
  subst hk
  dsimp only [opC]
  go_enter Try.func13, Try.ntmps13
  go_upto_region 1 with (fail)
  have hb := below1 w (.cells #[.int .i64 3, .int .i64 n, .string ⟨hd.id.toArray⟩, .int .i64 hd.size, .slice A parts.length c] 38)
  have hB := Blk.new w 38 #[.int .i64 3, .int .i64 n, .string ⟨hd.id.toArray⟩, .int .i64 hd.size, .slice A parts.length c]
  obtain ⟨b, hbe⟩ : ∃ b, b = w.heap.size := ⟨_, rfl⟩
  rw [← hbe] at hB ⊢
  generalize w.alloc (.cells #[.int .i64 3, .int .i64 n, .string ⟨hd.id.toArray⟩, .int .i64 hd.size, .slice A parts.length c] 38) = w1 at hb hB ⊢
  have k0 : w1.cell? ⟨b, 0, none⟩ = some (.int .i64 3) := (hB.cell 0).trans rfl
  have k1 : w1.cell? ⟨b, 1, none⟩ = some (.int .i64 n) := (hB.cell 1).trans rfl
  have k2 : w1.cell? ⟨b, 2, none⟩ = some (.string ⟨hd.id.toArray⟩) := (hB.cell 2).trans rfl
  have k3 : w1.cell? ⟨b, 3, none⟩ = some (.int .i64 hd.size) := (hB.cell 3).trans rfl
  have k4 : w1.cell? ⟨b, 4, none⟩ = some (.slice A parts.length c) := (hB.cell 4).trans rfl
  have HB := Lib.hid hb
  clear hb hB hbe
  go_wp2_with (go_at_call 21; refine (Delete_nil w1 hd.id).mono ?_; rintro e w2 ⟨rfl, h2⟩)
  go_ret2
  exact ⟨1, rfl, Or.inl rfl, HB.out.trans (h2.mono HB.out.size)⟩
theorem do4_nil (w : World) (o : OpV) (A : Option Addr) (c : Nat) (hk : o.k = 4) : Calls Try.prog 13 #[.pointer none, .agg (opC o A c)] w fun e w' => ∃ q : Int, e = .returned (.tuple #[.int .i64 0, .int .i64 q]) ∧ (q = 1 ∨ o.k < 1 ∨ 6 < o.k) ∧ Below w.heap.size w w' := by
  obtain ⟨k, n, hd, parts⟩ := o
  simp only at hk ⊢
  subst hk
  dsimp only [opC]
  go_enter Try.func13, Try.ntmps13
  go_upto_region 1 with (fail)
  have hb := below1 w (.cells #[.int .i64 4, .int .i64 n, .string ⟨hd.id.toArray⟩, .int .i64 hd.size, .slice A parts.length c] 38)
  have hB := Blk.new w 38 #[.int .i64 4, .int .i64 n, .string ⟨hd.id.toArray⟩, .int .i64 hd.size, .slice A parts.length c]
  obtain ⟨b, hbe⟩ : ∃ b, b = w.heap.size := ⟨_, rfl⟩
  rw [← hbe] at hB ⊢
  generalize w.alloc (.cells #[.int .i64 4, .int .i64 n, .string ⟨hd.id.toArray⟩, .int .i64 hd.size, .slice A parts.length c] 38) = w1 at hb hB ⊢
  have k0 : w1.cell? ⟨b, 0, none⟩ = some (.int .i64 4) := (hB.cell 0).trans rfl
  have k1 : w1.cell? ⟨b, 1, none⟩ = some (.int .i64 n) := (hB.cell 1).trans rfl
  have k2 : w1.cell? ⟨b, 2, none⟩ = some (.string ⟨hd.id.toArray⟩) := (hB.cell 2).trans rfl
  have k3 : w1.cell? ⟨b, 3, none⟩ = some (.int .i64 hd.size) := (hB.cell 3).trans rfl
  have k4 : w1.cell? ⟨b, 4, none⟩ = some (.slice A parts.length c) := (hB.cell 4).trans rfl
  have HB := Lib.hid hb
  clear hb hB hbe
  go_wp2_with (go_at_call 24; refine (Refresh_nil w1 A parts.length c).mono ?_; rintro e w2 ⟨rfl, h2⟩)
  go_ret2
  exact ⟨1, rfl, Or.inl rfl, HB.out.trans (h2.mono HB.out.size)⟩
theorem do5_nil (w : World) (o : OpV) (A : Option Addr) (c : Nat) (hk : o.k = 5) : Calls Try.prog 13 #[.pointer none, .agg (opC o A c)] w fun e w' => ∃ q : Int, e = .returned (.tuple #[.int .i64 0, .int .i64 q]) ∧ (q = 1 ∨ o.k < 1 ∨ 6 < o.k) ∧ Below w.heap.size w w' := by
  obtain ⟨k, n, hd, parts⟩ := o
  simp only at hk ⊢
  subst hk
  dsimp only [opC]
  go_enter Try.func13, Try.ntmps13
  go_upto_region 1 with (fail)
  have hb := below1 w (.cells #[.int .i64 5, .int .i64 n, .string ⟨hd.id.toArray⟩, .int .i64 hd.size, .slice A parts.length c] 38)
  have hB := Blk.new w 38 #[.int .i64 5, .int .i64 n, .string ⟨hd.id.toArray⟩, .int .i64 hd.size, .slice A parts.length c]
  obtain ⟨b, hbe⟩ : ∃ b, b = w.heap.size := ⟨_, rfl⟩
  rw [← hbe] at hB ⊢
  generalize w.alloc (.cells #[.int .i64 5, .int .i64 n, .string ⟨hd.id.toArray⟩, .int .i64 hd.size, .slice A parts.length c] 38) = w1 at hb hB ⊢
  have k0 : w1.cell? ⟨b, 0, none⟩ = some (.int .i64 5) := (hB.cell 0).trans rfl
  have k1 : w1.cell? ⟨b, 1, none⟩ = some (.int .i64 n) := (hB.cell 1).trans rfl
  have k2 : w1.cell? ⟨b, 2, none⟩ = some (.string ⟨hd.id.toArray⟩) := (hB.cell 2).trans rfl
  have k3 : w1.cell? ⟨b, 3, none⟩ = some (.int .i64 hd.size) := (hB.cell 3).trans rfl
  have k4 : w1.cell? ⟨b, 4, none⟩ = some (.slice A parts.length c) := (hB.cell 4).trans rfl
  have HB := Lib.hid hb
  clear hb hB hbe
  go_wp2_with (go_at_call 27; refine (Recover_nil w1 n).mono ?_; rintro e w2 ⟨rfl, h2⟩)
  go_ret2
  exact ⟨1, rfl, Or.inl rfl, HB.out.trans (h2.mono HB.out.size)⟩
theorem do6_nil (w : World) (o : OpV) (A : Option Addr) (c : Nat) (hk : o.k = 6) : Calls Try.prog 13 #[.pointer none, .agg (opC o A c)] w fun e w' => ∃ q : Int, e = .returned (.tuple #[.int .i64 0, .int .i64 q]) ∧ (q = 1 ∨ o.k < 1 ∨ 6 < o.k) ∧ Below w.heap.size w w' := by
  obtain ⟨k, n, hd, parts⟩ := o
  simp only at hk ⊢
  subst hk
  dsimp only [opC]
  go_enter Try.func13, Try.ntmps13
  go_upto_region 1 with (fail)
  have hb := below1 w (.cells #[.int .i64 6, .int .i64 n, .string ⟨hd.id.toArray⟩, .int .i64 hd.size, .slice A parts.length c] 38)
  have hB := Blk.new w 38 #[.int .i64 6, .int .i64 n, .string ⟨hd.id.toArray⟩, .int .i64 hd.size, .slice A parts.length c]
  obtain ⟨b, hbe⟩ : ∃ b, b = w.heap.size := ⟨_, rfl⟩
  rw [← hbe] at hB ⊢
  generalize w.alloc (.cells #[.int .i64 6, .int .i64 n, .string ⟨hd.id.toArray⟩, .int .i64 hd.size, .slice A parts.length c] 38) = w1 at hb hB ⊢
  have k0 : w1.cell? ⟨b, 0, none⟩ = some (.int .i64 6) := (hB.cell 0).trans rfl
  have k1 : w1.cell? ⟨b, 1, none⟩ = some (.int .i64 n) := (hB.cell 1).trans rfl
  have k2 : w1.cell? ⟨b, 2, none⟩ = some (.string ⟨hd.id.toArray⟩) := (hB.cell 2).trans rfl
  have k3 : w1.cell? ⟨b, 3, none⟩ = some (.int .i64 hd.size) := (hB.cell 3).trans rfl
  have k4 : w1.cell? ⟨b, 4, none⟩ = some (.slice A parts.length c) := (hB.cell 4).trans rfl
  have HB := Lib.hid hb
  clear hb hB hbe
  go_wp2_with (go_at_call 28; refine (Mark_nil w1 A parts.length c).mono ?_; rintro e w2 ⟨rfl, h2⟩)
  go_ret2
  exact ⟨1, rfl, Or.inl rfl, HB.out.trans (h2.mono HB.out.size)⟩
theorem do7_nil (w : World) (o : OpV) (A : Option Addr) (c : Nat) (hk : o.k = 7) : Calls Try.prog 13 #[.pointer none, .agg (opC o A c)] w fun e w' => ∃ q : Int, e = .returned (.tuple #[.int .i64 0, .int .i64 q]) ∧ (q = 1 ∨ o.k < 1 ∨ 6 < o.k) ∧ Below w.heap.size w w' := by
  obtain ⟨k, n, hd, parts⟩ := o
  simp only at hk ⊢
  subst hk
  dsimp only [opC]
  go_enter Try.func13, Try.ntmps13
  go_upto_region 1 with (fail)
  have hb := below1 w (.cells #[.int .i64 7, .int .i64 n, .string ⟨hd.id.toArray⟩, .int .i64 hd.size, .slice A parts.length c] 38)
  have hB := Blk.new w 38 #[.int .i64 7, .int .i64 n, .string ⟨hd.id.toArray⟩, .int .i64 hd.size, .slice A parts.length c]
  obtain ⟨b, hbe⟩ : ∃ b, b = w.heap.size := ⟨_, rfl⟩
  rw [← hbe] at hB ⊢
  generalize w.alloc (.cells #[.int .i64 7, .int .i64 n, .string ⟨hd.id.toArray⟩, .int .i64 hd.size, .slice A parts.length c] 38) = w1 at hb hB ⊢
  have k0 : w1.cell? ⟨b, 0, none⟩ = some (.int .i64 7) := (hB.cell 0).trans rfl
  have k1 : w1.cell? ⟨b, 1, none⟩ = some (.int .i64 n) := (hB.cell 1).trans rfl
  have k2 : w1.cell? ⟨b, 2, none⟩ = some (.string ⟨hd.id.toArray⟩) := (hB.cell 2).trans rfl
  have k3 : w1.cell? ⟨b, 3, none⟩ = some (.int .i64 hd.size) := (hB.cell 3).trans rfl
  have k4 : w1.cell? ⟨b, 4, none⟩ = some (.slice A parts.length c) := (hB.cell 4).trans rfl
  have HB := Lib.hid hb
  clear hb hB hbe
  go_wp2_with (go_at_call 29; refine (Crash_nil w1).mono ?_; rintro e w2 ⟨rfl, hw⟩; subst hw)
  go_ret2
  exact ⟨0, rfl, by omega, HB.out⟩
theorem do8_nil (w : World) (o : OpV) (A : Option Addr) (c : Nat) (hk : o.k = 8) : Calls Try.prog 13 #[.pointer none, .agg (opC o A c)] w fun e w' => ∃ q : Int, e = .returned (.tuple #[.int .i64 0, .int .i64 q]) ∧ (q = 1 ∨ o.k < 1 ∨ 6 < o.k) ∧ Below w.heap.size w w' := by
  obtain ⟨k, n, hd, parts⟩ := o
  simp only at hk ⊢
  subst hk
  dsimp only [opC]
  go_enter Try.func13, Try.ntmps13
  go_upto_region 1 with (fail)
  have hb := below1 w (.cells #[.int .i64 8, .int .i64 n, .string ⟨hd.id.toArray⟩, .int .i64 hd.size, .slice A parts.length c] 38)
  have hB := Blk.new w 38 #[.int .i64 8, .int .i64 n, .string ⟨hd.id.toArray⟩, .int .i64 hd.size, .slice A parts.length c]
  obtain ⟨b, hbe⟩ : ∃ b, b = w.heap.size := ⟨_, rfl⟩
  rw [← hbe] at hB ⊢
  generalize w.alloc (.cells #[.int .i64 8, .int .i64 n, .string ⟨hd.id.toArray⟩, .int .i64 hd.size, .slice A parts.length c] 38) = w1 at hb hB ⊢
  have k0 : w1.cell? ⟨b, 0, none⟩ = some (.int .i64 8) := (hB.cell 0).trans rfl
  have k1 : w1.cell? ⟨b, 1, none⟩ = some (.int .i64 n) := (hB.cell 1).trans rfl
  have k2 : w1.cell? ⟨b, 2, none⟩ = some (.string ⟨hd.id.toArray⟩) := (hB.cell 2).trans rfl
  have k3 : w1.cell? ⟨b, 3, none⟩ = some (.int .i64 hd.size) := (hB.cell 3).trans rfl
  have k4 : w1.cell? ⟨b, 4, none⟩ = some (.slice A parts.length c) := (hB.cell 4).trans rfl
  have HB := Lib.hid hb
  clear hb hB hbe
  go_wp2_with (go_at_call 20; refine (Start_nil w1).mono ?_; rintro e w2 ⟨rfl, hw⟩; subst hw)
  go_ret2
  exact ⟨0, rfl, by omega, HB.out⟩
theorem do9_nil (w : World) (o : OpV) (A : Option Addr) (c : Nat) (hk : o.k = 9) : Calls Try.prog 13 #[.pointer none, .agg (opC o A c)] w fun e w' => ∃ q : Int, e = .returned (.tuple #[.int .i64 0, .int .i64 q]) ∧ (q = 1 ∨ o.k < 1 ∨ 6 < o.k) ∧ Below w.heap.size w w' := by
  obtain ⟨k, n, hd, parts⟩ := o
  simp only at hk ⊢
  subst hk
  dsimp only [opC]
  go_enter Try.func13, Try.ntmps13
  go_upto_region 1 with (fail)
  have hb := below1 w (.cells #[.int .i64 9, .int .i64 n, .string ⟨hd.id.toArray⟩, .int .i64 hd.size, .slice A parts.length c] 38)
  have hB := Blk.new w 38 #[.int .i64 9, .int .i64 n, .string ⟨hd.id.toArray⟩, .int .i64 hd.size, .slice A parts.length c]
  obtain ⟨b, hbe⟩ : ∃ b, b = w.heap.size := ⟨_, rfl⟩
  rw [← hbe] at hB ⊢
  generalize w.alloc (.cells #[.int .i64 9, .int .i64 n, .string ⟨hd.id.toArray⟩, .int .i64 hd.size, .slice A parts.length c] 38) = w1 at hb hB ⊢
  have k0 : w1.cell? ⟨b, 0, none⟩ = some (.int .i64 9) := (hB.cell 0).trans rfl
  have k1 : w1.cell? ⟨b, 1, none⟩ = some (.int .i64 n) := (hB.cell 1).trans rfl
  have k2 : w1.cell? ⟨b, 2, none⟩ = some (.string ⟨hd.id.toArray⟩) := (hB.cell 2).trans rfl
  have k3 : w1.cell? ⟨b, 3, none⟩ = some (.int .i64 hd.size) := (hB.cell 3).trans rfl
  have k4 : w1.cell? ⟨b, 4, none⟩ = some (.slice A parts.length c) := (hB.cell 4).trans rfl
  have HB := Lib.hid hb
  clear hb hB hbe
  go_wp2_with (go_at_call 19; refine (Fuse_nil w1 n).mono ?_; rintro e w2 ⟨rfl, hw⟩; subst hw)
  go_ret2
  exact ⟨0, rfl, by omega, HB.out⟩
theorem do0_nil (w : World) (o : OpV) (A : Option Addr) (c : Nat) (hk : o.k < 1 ∨ 9 < o.k) : Calls Try.prog 13 #[.pointer none, .agg (opC o A c)] w fun e w' => ∃ q : Int, e = .returned (.tuple #[.int .i64 0, .int .i64 q]) ∧ (q = 1 ∨ o.k < 1 ∨ 6 < o.k) ∧ Below w.heap.size w w' := by
  obtain ⟨k, n, hd, parts⟩ := o
  simp only at hk ⊢
  have HKK := Lib.hid hk
  clear hk
  dsimp only [opC]
  go_enter Try.func13, Try.ntmps13
  go_upto_region 1 with (fail)
  have hb := below1 w (.cells #[.int .i64 k, .int .i64 n, .string ⟨hd.id.toArray⟩, .int .i64 hd.size, .slice A parts.length c] 38)
  have hB := Blk.new w 38 #[.int .i64 k, .int .i64 n, .string ⟨hd.id.toArray⟩, .int .i64 hd.size, .slice A parts.length c]
  obtain ⟨b, hbe⟩ : ∃ b, b = w.heap.size := ⟨_, rfl⟩
  rw [← hbe] at hB ⊢
  generalize w.alloc (.cells #[.int .i64 k, .int .i64 n, .string ⟨hd.id.toArray⟩, .int .i64 hd.size, .slice A parts.length c] 38) = w1 at hb hB ⊢
  have k0 : w1.cell? ⟨b, 0, none⟩ = some (.int .i64 k) := (hB.cell 0).trans rfl
  have k1 : w1.cell? ⟨b, 1, none⟩ = some (.int .i64 n) := (hB.cell 1).trans rfl
  have k2 : w1.cell? ⟨b, 2, none⟩ = some (.string ⟨hd.id.toArray⟩) := (hB.cell 2).trans rfl
  have k3 : w1.cell? ⟨b, 3, none⟩ = some (.int .i64 hd.size) := (hB.cell 3).trans rfl
  have k4 : w1.cell? ⟨b, 4, none⟩ = some (.slice A parts.length c) := (hB.cell 4).trans rfl
  have HB := Lib.hid hb
  clear hb hB hbe
  have hk := HKK.out
  have e1 : ¬ (k = 1) := by omega
  have e2 : ¬ (k = 2) := by omega
  have e3 : ¬ (k = 3) := by omega
  have e4 : ¬ (k = 4) := by omega
  have e5 : ¬ (k = 5) := by omega
  have e6 : ¬ (k = 6) := by omega
  have e7 : ¬ (k = 7) := by omega
  have e8 : ¬ (k = 8) := by omega
  have e9 : ¬ (k = 9) := by omega
  clear hk
  go_wp2
  go_ret2
  have hk := HKK.out
  exact ⟨0, rfl, by omega, HB.out⟩
theorem do_nil (w : World) (o : OpV) (A : Option Addr) (c : Nat)  : Calls Try.prog 13 #[.pointer none, .agg (opC o A c)] w fun e w' => ∃ q : Int, e = .returned (.tuple #[.int .i64 0, .int .i64 q]) ∧ (q = 1 ∨ o.k < 1 ∨ 6 < o.k) ∧ Below w.heap.size w w' := by
  by_cases e1 : o.k = 1
  · exact do1_nil w o A c e1
  by_cases e2 : o.k = 2
  · exact do2_nil w o A c e2
  by_cases e3 : o.k = 3
  · exact do3_nil w o A c e3
  by_cases e4 : o.k = 4
  · exact do4_nil w o A c e4
  by_cases e5 : o.k = 5
  · exact do5_nil w o A c e5
  by_cases e6 : o.k = 6
  · exact do6_nil w o A c e6
  by_cases e7 : o.k = 7
  · exact do7_nil w o A c e7
  by_cases e8 : o.k = 8
  · exact do8_nil w o A c e8
  by_cases e9 : o.k = 9
  · exact do9_nil w o A c e9
  exact do0_nil w o A c (by omega)
end Go.Proofs.Ytlabebapjhhkaaa
