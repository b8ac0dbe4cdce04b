/- Begin, Refresh, Recover, Mark, Crash, Start, Fuse of a book. Conditions stand with each theorem. -/
import Derived.Test.YtlabebapjhhkaaaM9
import Derived.WalkMore
namespace Go.Proofs.Ytlabebapjhhkaaa
open Go.RowKit Go.Shelf
/-- A book's value in a block V; its rows are its own. -/
def VIs (W : World) (B V : Nat) (v : BookV) : Prop := ∃ (Ad Au Ac : Option Addr) (cd cu cc : Nat),
  Blk W V 44 (bookCells v Ad Au Ac cd cu cc) ∧ BookOwn W B v (.slice Ad v.dir.length cd) (.slice Au v.up.length cu) (.slice Ac v.commit.length cc)
theorem row_far {W : World} {B size n : Nat} {e : TypeId} {x : Value} {xs : List Value} {V : Nat} {t : TypeId} {cs : Array Value} (h : W.ownsRow B e size x n xs) (hV : Blk W V t cs) (hne : e ≠ t) (W' : World) (hk : Keeps (fun k => k = V) W W') : W'.ownsRow B e size x n xs := by
  refine row_keeps h hk fun k hk2 e2 => ?_
  subst e2
  rcases h.2 with ⟨e1, _⟩ | ⟨g, cap, cur, e1, _, hg, _⟩
  · rw [e1] at hk2; cases hk2
  · rw [e1] at hk2
    injection hk2 with hk2
    subst hk2
    exact Blk.ne_ (show Blk W g e cur from hg) hV hne rfl
theorem BookOwn.far {W W' : World} {B V : Nat} {v : BookV} {x y z : Value} {cs : Array Value} (h : BookOwn W B v x y z) (hV : Blk W V 44 cs) (hk : Keeps (fun k => k = V) W W') : BookOwn W' B v x y z :=
  ⟨row_far h.dir hV (by decide) _ hk, row_far h.up hV (by decide) _ hk, row_far h.commit hV (by decide) _ hk⟩
section
variable {W : World} {B V : Nat} {v : BookV}
theorem keeps_set (W : World) (V i : Nat) (u : Value) : Keeps (fun k => k = V) W (W.setCell ⟨V, i, none⟩ u) := (Keeps.refl (fun k => k = V) W).setCell (p := ⟨V, i, none⟩) rfl u
theorem VIs.lt (h : VIs W B V v) : V < W.heap.size := by obtain ⟨_, _, _, _, _, _, h1, _⟩ := h; exact h1.lt
theorem VIs.c0 (h : VIs W B V v) : W.cell? ⟨V, 0, none⟩ = some (.int .i64 v.session) := by obtain ⟨_, _, _, _, _, _, h1, _⟩ := h; exact (h1.cell 0).trans rfl
theorem VIs.c1 (h : VIs W B V v) : W.cell? ⟨V, 1, none⟩ = some (.int .i64 v.decided) := by obtain ⟨_, _, _, _, _, _, h1, _⟩ := h; exact (h1.cell 1).trans rfl
theorem VIs.c2 (h : VIs W B V v) : W.cell? ⟨V, 2, none⟩ = some (.int .i64 v.epoch) := by obtain ⟨_, _, _, _, _, _, h1, _⟩ := h; exact (h1.cell 2).trans rfl
theorem VIs.fz (h : VIs W B V v) (i : Nat) : W.frozen? ⟨V, i, none⟩ = false := by obtain ⟨_, _, _, _, _, _, h1, _⟩ := h; exact h1.frozen i
theorem VIs.session (h : VIs W B V v) (n : Int) : VIs (W.setCell ⟨V, 0, none⟩ (.int .i64 n)) B V { v with session := n } := by
  obtain ⟨Ad, Au, Ac, cd, cu, cc, h1, h2⟩ := h
  exact ⟨Ad, Au, Ac, cd, cu, cc, h1.set_ 0 _, (h2.far h1 (keeps_set _ _ _ _)).dir, (h2.far h1 (keeps_set _ _ _ _)).up, (h2.far h1 (keeps_set _ _ _ _)).commit⟩
theorem VIs.decided (h : VIs W B V v) (n : Int) : VIs (W.setCell ⟨V, 1, none⟩ (.int .i64 n)) B V { v with decided := n } := by
  obtain ⟨Ad, Au, Ac, cd, cu, cc, h1, h2⟩ := h
  exact ⟨Ad, Au, Ac, cd, cu, cc, h1.set_ 1 _, (h2.far h1 (keeps_set _ _ _ _)).dir, (h2.far h1 (keeps_set _ _ _ _)).up, (h2.far h1 (keeps_set _ _ _ _)).commit⟩
theorem VIs.epoch (h : VIs W B V v) (n : Int) : VIs (W.setCell ⟨V, 2, none⟩ (.int .i64 n)) B V { v with epoch := n } := by
  obtain ⟨Ad, Au, Ac, cd, cu, cc, h1, h2⟩ := h
  exact ⟨Ad, Au, Ac, cd, cu, cc, h1.set_ 2 _, (h2.far h1 (keeps_set _ _ _ _)).dir, (h2.far h1 (keeps_set _ _ _ _)).up, (h2.far h1 (keeps_set _ _ _ _)).commit⟩
theorem VIs.keeps {F : Nat → Prop} {W' : World} (h : VIs W B V v) (hB : B ≤ V) (hk : Keeps F W W') (hF : ∀ k, F k → k < W.heap.size → k < B) : VIs W' B V v := by
  obtain ⟨Ad, Au, Ac, cd, cu, cc, h1, h2⟩ := h
  exact ⟨Ad, Au, Ac, cd, cu, cc, h1.keeps hk (fun e => by have := hF _ e h1.lt; omega), h2.keeps hk (fun i h3 h4 e => by have := hF i e h4; omega)⟩
theorem VIs.below {W' : World} (h : VIs W B V v) (hB : B ≤ V) (hb : Below W.heap.size W W') : VIs W' B V v := h.keeps hB (Keeps.of_below (F := fun _ => False) hb) (fun _ e _ => e.elim)
end
theorem cell_lt {W : World} {a : Addr} {u : Value} (h : W.cell? a = some u) : a.block < W.heap.size := by
  rcases Nat.lt_or_ge a.block W.heap.size with h1 | h1
  · exact h1
  · unfold World.cell? at h
    rw [Array.getElem?_eq_none h1] at h
    cases h
theorem cell_keeps {W W' : World} {F : Nat → Prop} {a : Addr} {u : Value} (h : W.cell? a = some u) (hk : Keeps F W W') (hn : ¬ F a.block) : W'.cell? a = some u := (hk.cell a (cell_lt h) hn).trans h
def nextV (v : BookV) : Int × BookV := if v.session ≥ 1073741824 then (5, v) else (0, { v with session := v.session + 1 })
theorem next_any (W : World) (B V : Nat) (v : BookV) (hB : B ≤ V) (h : VIs W B V v) (hs : -9223372036854775808 ≤ v.session) :
    Calls Try.prog 45 #[.pointer (some ⟨V, 0, none⟩)] W fun e W' => e = .returned (.int .i64 (nextV v).1) ∧ VIs W' B V (nextV v).2 ∧ Keeps (fun k => k = V) W W' := by
  have c0 := h.c0; have f0 := h.fz 0
  have H := Lib.hid h; clear h
  unfold nextV
  by_cases h1 : v.session ≥ 1073741824
  · rw [if_pos h1]
    go_enter Try.func45, Try.ntmps45
    go_wp2
    go_ret
    exact ⟨rfl, H.out, Keeps.refl _ _⟩
  · rw [if_neg h1]
    go_enter Try.func45, Try.ntmps45
    go_wp2
    go_ret
    have e : IntKind.i64.wrap (v.session + 1) = v.session + 1 := by rw [IntKind.wrap_i64]; omega
    refine ⟨rfl, ?_, ?_⟩
    · first | exact H.out.session _ | (rw [e]; exact H.out.session _)
    · exact keeps_set _ _ _ _
theorem Begin1_any (B : Nat) (w : World) (v : BookV) (box : Nat) (hv : 0 ≤ v.session) (u : Value) (hb : ∀ W, Below w.heap.size w W → Blk W box 3 #[u]) (hbB : box < B) :
    How B (fun k => k = box) (fun W => W.cell? ⟨box, 0, none⟩ = some (.int .i64 (nextV v).2.session)) w v 47 #[.pointer (some ⟨box, 0, none⟩)] (nextV v) := by
  intro W V Ad Au Ac cd cu cc hW hB hVB hV hO
  have hx := hb W hW
  have H := Lib.hid (show VIs W B V v from ⟨Ad, Au, Ac, cd, cu, cc, hV, hO⟩)
  have HX := Lib.hid hx
  clear hb hV hO hx
  simp only [List.cons_append, List.nil_append, List.append_toArray]
  go_enter Try.func47, Try.ntmps47
  go_upto_region 2 with (go_at_call 45; refine (next_any W B V v hB H.out (by omega)).mono ?_; rintro e W2 ⟨rfl, h2, hk2⟩)
  have c0 := h2.c0
  have hx2 := HX.out.keeps hk2 (by omega)
  have cb : W2.cell? ⟨box, 0, none⟩ = some u := (hx2.cell 0).trans rfl
  have fb : W2.frozen? ⟨box, 0, none⟩ = false := hx2.frozen 0
  have H2 := Lib.hid h2; have HK2 := Lib.hid hk2; have HX2 := Lib.hid hx2
  clear h2 hk2 hx2
  go_wp2
  go_ret
  refine ⟨rfl, (HK2.out.weaken (F' := fun k => B ≤ k ∨ k = box) (fun k _ e => Or.inl (by rw [e]; exact hB))).setCell (p := ⟨box, 0, none⟩) (Or.inr rfl) _, fun _ => ⟨?_, ?_⟩⟩
  · exact ((HX2.out.set_ 0 _).cell 0).trans rfl
  · exact H2.out.keeps hB (keeps_set _ _ _ _) (fun k e _ => by rw [e]; exact hbB)
set_option maxRecDepth 100000 in
theorem Begin_any (w : World) (F : Nat → Prop) (K : Nat) (p : PrmV) (m : BM) (h : KbIs w F K p m) (hwr : m.pw.writes ≤ 4611686018400000000) :
    Calls Try.prog 22 #[.pointer (some ⟨K, 0, none⟩)] w fun e w' =>
      e = .returned (.tuple #[.int .i64 (if (m.change nextV).1 = 0 then m.v.session + 1 else 0), .int .i64 (m.change nextV).1]) ∧ KbIs w' (Grown F w) K p (m.change nextV).2 ∧ Keeps F w w' := by
  have hs0 := h.good.kv.good.s0
  have H := Lib.hid h.tight; have HW := Lib.hid hwr; have HS := Lib.hid hs0
  have hgood : (nextV m.v).1 = 0 → GoodV p.n (nextV m.v).2 := fun e => by
    have g := h.good.kv.good
    unfold nextV at e ⊢
    by_cases h1 : m.v.session ≥ 1073741824
    · rw [if_pos h1] at e; cases e
    · rw [if_neg h1]
      exact ⟨by show 0 ≤ m.v.session + 1; omega, by show m.v.session + 1 ≤ _; omega, g.d0, by show m.v.decided ≤ m.v.session + 1; have := g.d1; omega, g.e0, g.e1, g.dl, g.dh, g.srt, g.ul, g.cl, g.c⟩
  have HG := Lib.hid hgood
  have hses : (m.change nextV).1 = 0 → (nextV m.v).2.session = m.v.session + 1 := fun e => by
    unfold BM.change at e
    by_cases hd : m.down = true
    · rw [if_pos hd] at e; cases e
    · rw [if_neg hd] at e
      by_cases h1 : m.v.session ≥ 1073741824
      · unfold nextV at e; rw [if_pos h1] at e; simp at e
      · unfold nextV; rw [if_neg h1]
  have HSS := Lib.hid hses
  clear h hwr hs0 hgood hses
  obtain ⟨Z, hZ⟩ : ∃ Z, Z = m.change nextV := ⟨_, rfl⟩
  rw [← hZ] at HSS ⊢
  have HZ := Lib.hid hZ; clear hZ
  go_enter Try.func22, Try.ntmps22
  go_upto_region 2 with (fail)
  have hb0 := Blk.new w 3 #[.int .i64 0]
  have hal : Below w.heap.size w (w.alloc (.cells #[.int .i64 0] 3)) := (Below.refl _ _).alloc (Nat.le_refl _) _
  have hl : w.heap.size < (w.alloc (.cells #[.int .i64 0] 3)).heap.size := by simp
  obtain ⟨box, hbx⟩ : ∃ box, box = w.heap.size := ⟨_, rfl⟩
  rw [← hbx] at hb0 hl ⊢
  obtain ⟨w1, hw1⟩ : ∃ w1, w1 = w.alloc (.cells #[.int .i64 0] 3) := ⟨_, rfl⟩
  rw [← hw1] at hb0 hal hl ⊢
  have h1 := H.out.below hal
  have HB0 := Lib.hid hb0; have HAL := Lib.hid hal; have HL := Lib.hid hl; have HBX := Lib.hid hbx; have H1 := Lib.hid h1
  clear hw1 hb0 hal hl hbx h1
  have hmf : ∀ W, Sem.run Try.prog (Instr.makeFunc (Fn.func 47) #[] #[.pointer (some ⟨box, 0, none⟩)]) W = .ok (.func (.func 47) #[] #[.pointer (some ⟨box, 0, none⟩)]) W := fun W => by kernel_rfl
  go_wp2_with fail
  refine (change_any w1 (fun k => F k ∧ k < w.heap.size) (fun k => k = box) K p m 47 #[.pointer (some ⟨box, 0, none⟩)] (enters_of Try.func47 (by kernel_rfl) rfl) nextV (fun W => W.cell? ⟨box, 0, none⟩ = some (.int .i64 (nextV m.v).2.session)) H1.out (fun k e e2 => by have := e.2; have := HBX.out; omega) HW.out HG.out
    (Begin1_any w1.heap.size w1 m.v box HS.out (.int .i64 0) (fun W hW => HB0.out.below hW HL.out) HL.out) (fun W W' hr hk => cell_keeps hr hk (fun e => by
      have := HL.out; have := HBX.out
      rcases e with e | e
      · have := e.2; simp only at this; omega
      · simp only at e; omega))).mono ?_
  rintro e w2 ⟨rfl, h2, hk2, hr2⟩
  rw [← HZ.out] at h2 hr2 ⊢
  have hkw : Keeps F w w2 := (Keeps.of_below (F := F) HAL.out).trans hk2 (fun i hi e => by
    rcases e with e | e
    · exact e.1
    · have := HBX.out; omega)
  have hbw : KbIs w2 (Grown F w) K p Z.2 := h2.weaken (fun k e => by
    rcases e with e | e
    · exact Or.inl e.1
    · exact Or.inr (Nat.le_trans HAL.out.size e))
  clear h2 hk2 hmf
  obtain ⟨c, M⟩ := Z
  simp only at HSS hr2 hbw ⊢
  by_cases hc : c = 0
  · subst hc
    have hss := HSS.out rfl
    have hr3 := hr2 rfl
    rw [hss] at hr3
    clear hr2 hss
    go_wp2
    go_ret2
    exact ⟨rfl, hbw, hkw⟩
  · clear hr2
    go_wp2
    go_ret2
    exact ⟨rfl, hbw, hkw⟩
end Go.Proofs.Ytlabebapjhhkaaa
namespace Go.Proofs.Ytlabebapjhhkaaa
open Go.RowKit Go.Shelf
/-- A row of one-cell elements, and what stands at a place. -/
theorem row_at {W : World} {B n : Nat} {e : TypeId} {x : Value} {xs : List Value} (h : W.ownsRow B e 1 x n xs) (j : Nat) (hj : j < n) : ∃ g c, x = .slice (some ⟨g, 0, none⟩) n c ∧ B ≤ g ∧ (∃ cur, Blk W g e cur) ∧ W.cell? ⟨g, j, none⟩ = xs[j]? ∧ W.frozen? ⟨g, j, none⟩ = false ∧ n ≤ c := by
  rcases h.2 with ⟨e1, e2⟩ | ⟨g, cap, cur, e1, hb, hg, hc, _⟩
  · omega
  · subst e1
    exact ⟨g, cap, rfl, hb, ⟨cur, hg⟩, h.cellAt j (by omega), h.frozenAt j, hc⟩
section
variable {W : World} {B V : Nat} {v : BookV}
theorem VIs.upAt (h : VIs W B V v) (j : Nat) (hj : j < v.up.length) : ∃ g c, W.cell? ⟨V, 4, none⟩ = some (.slice (some ⟨g, 0, none⟩) v.up.length c) ∧ B ≤ g ∧ g ≠ V ∧ v.up.length ≤ c ∧ W.cell? ⟨g, j, none⟩ = some (.bool (v.up.getD j false)) ∧ W.frozen? ⟨g, j, none⟩ = false ∧
    ∀ b, VIs (W.setCell ⟨g, j, none⟩ (.bool b)) B V { v with up := v.up.set j b } := by
  obtain ⟨Ad, Au, Ac, cd, cu, cc, h1, h2⟩ := h
  obtain ⟨g, c, e, hg, ⟨cur, hc⟩, hx, hf, hcap⟩ := row_at h2.up j hj
  injection e with e1 _ e3
  subst e1 e3
  have hgV : g ≠ V := Blk.ne_ hc h1 (by decide)
  have hk := (Keeps.refl (fun k => k = g) W).setCell (p := ⟨g, j, none⟩) rfl
  refine ⟨g, cu, (h1.cell 4).trans rfl, hg, hgV, hcap, ?_, hf, fun b => ⟨Ad, some ⟨g, 0, none⟩, Ac, cd, cu, cc, ?_, ?_, ?_, ?_⟩⟩
  · rw [hx, List.getElem?_map, List.getElem?_eq_getElem hj, List.getD_eq_getElem?_getD, List.getElem?_eq_getElem hj]; rfl
  · have := h1.keeps (hk (.bool b)) (fun e => hgV e.symm)
    simpa [bookCells] using this
  · exact row_far h2.dir hc (by decide) _ (hk _)
  · have := (h2.up.stored j (.bool b)).1
    simpa [List.map_set] using this
  · exact row_far h2.commit hc (by decide) _ (hk _)
theorem VIs.comAt (h : VIs W B V v) (j : Nat) (hj : j < v.commit.length) : ∃ g c, W.cell? ⟨V, 5, none⟩ = some (.slice (some ⟨g, 0, none⟩) v.commit.length c) ∧ B ≤ g ∧ g ≠ V ∧ v.commit.length ≤ c ∧ W.cell? ⟨g, j, none⟩ = some (.int .i64 (v.commit.getD j 0)) ∧ W.frozen? ⟨g, j, none⟩ = false ∧
    ∀ b, VIs (W.setCell ⟨g, j, none⟩ (.int .i64 b)) B V { v with commit := v.commit.set j b } := by
  obtain ⟨Ad, Au, Ac, cd, cu, cc, h1, h2⟩ := h
  obtain ⟨g, c, e, hg, ⟨cur, hc⟩, hx, hf, hcap⟩ := row_at h2.commit j hj
  injection e with e1 _ e3
  subst e1 e3
  have hgV : g ≠ V := Blk.ne_ hc h1 (by decide)
  have hk := (Keeps.refl (fun k => k = g) W).setCell (p := ⟨g, j, none⟩) rfl
  refine ⟨g, cc, (h1.cell 5).trans rfl, hg, hgV, hcap, ?_, hf, fun b => ⟨Ad, Au, some ⟨g, 0, none⟩, cd, cu, cc, ?_, ?_, ?_, ?_⟩⟩
  · rw [hx, List.getElem?_map, List.getElem?_eq_getElem hj, List.getD_eq_getElem?_getD, List.getElem?_eq_getElem hj]; rfl
  · have := h1.keeps (hk (.int .i64 b)) (fun e => hgV e.symm)
    simpa [bookCells] using this
  · exact row_far h2.dir hc (by decide) _ (hk _)
  · exact row_far h2.up hc (by decide) _ (hk _)
  · have := (h2.commit.stored j (.int .i64 b)).1
    simpa [List.map_set] using this
theorem VIs.upV (h : VIs W B V v) : ∃ A c, W.cell? ⟨V, 4, none⟩ = some (.slice A v.up.length c) := by
  obtain ⟨Ad, Au, Ac, cd, cu, cc, h1, h2⟩ := h
  exact ⟨_, _, (h1.cell 4).trans rfl⟩
end
theorem VIs.drew {W : World} {B V : Nat} {v : BookV} (h : VIs W B V v) : VIs W.drew B V v := by
  obtain ⟨Ad, Au, Ac, cd, cu, cc, h1, h2⟩ := h
  exact ⟨Ad, Au, Ac, cd, cu, cc, h1.drew, h2.dir.drew, h2.up.drew, h2.commit.drew⟩
/-- A slice of numbers that is read. -/
def IRd (w : World) (B : Nat) (A : Option Addr) (n : Nat) (l : List Int) : Prop := Reads w B 1 A n (l.map (Value.int .i64))
section
variable {w w' : World} {B n : Nat} {A : Option Addr} {l : List Int}
theorem IRd.len (h : IRd w B A n l) : n = l.length := by have := h.1; simp at this; exact this.symm
theorem IRd.below (h : IRd w B A n l) (hb : Below B w w') : IRd w' B A n l := Reads.below h hb
theorem IRd.more {B' : Nat} (h : IRd w B A n l) (hB : B ≤ B') : IRd w B' A n l := Reads.more h hB
theorem IRd.at_ {k : Nat} (h : IRd w B A n l) (hk : k < n) : ∃ ad, A = some ad ∧ ad.block < B ∧ w.cell? (ad.add k) = some (.int .i64 (l.getD k 0)) := by
  have hl := h.len
  obtain ⟨ad, u, rfl, hb, hx, hc⟩ := Reads.at_ h hk
  refine ⟨ad, rfl, hb, hc.trans ?_⟩
  rw [List.getElem?_map, List.getElem?_eq_getElem (by omega)] at hx
  simp only [Option.map_some, Option.some.injEq] at hx
  rw [← hx, List.getD_eq_getElem?_getD, List.getElem?_eq_getElem (by omega)]
  rfl
end
set_option maxRecDepth 100000 in
theorem Index_any (w : World) (B : Nat) (A : Option Addr) (n c : Nat) (l : List Int) (x : Int) (hr : IRd w B A n l) (hn : n ≤ 9223372036854775807) :
    Calls Try.prog 102 #[.slice A n c, .int .i64 x] w fun e w' => ∃ k : Int, e = .returned (.int .i64 k) ∧ decide (0 ≤ k) = l.contains x ∧ w' = w := by
  have HR := Lib.hid hr; have HN := Lib.hid hn; have HL := Lib.hid hr.len
  clear hr
  go_enter Try.func102, Try.ntmps102
  go_wp2
  go_loopw [5, 8] (fun _ q wr => ∃ j : Nat, j ≤ n ∧ q = .int .i64 (j : Int) ∧ wr = w ∧ (l.take j).contains x = false) (fun _ q _ => n - (intOf q).toNat)
  case atStart => exact ⟨0, by omega, rfl, by trivial, by simp⟩
  case round =>
    obtain ⟨j, hj, rfl, rfl, hno⟩ := hrel
    by_cases hjn : j < n
    · have hjn' : (j : Int) < (n : Int) := by omega
      obtain ⟨ad, rfl, hB, hc⟩ := HR.out.at_ hjn
      have hlt : j < l.length := by have := HL.out; omega
      have htk : l.take (j + 1) = l.take j ++ [l.getD j 0] := by
        rw [List.take_succ_eq_append_getElem hlt, List.getD_eq_getElem?_getD, List.getElem?_eq_getElem hlt]; rfl
      have hsp : l = l.take (j + 1) ++ l.drop (j + 1) := (List.take_append_drop _ _).symm
      have HT := Lib.hid htk; have HSP := Lib.hid hsp; have HNO := Lib.hid hno
      clear htk hsp hno
      generalize hy : l.getD j 0 = y at hc HT
      by_cases hxy : x = y
      · subst hxy
        go_wp2_with fail
        go_ret
        refine ⟨_, rfl, ?_, rfl⟩
        have : l.contains x = true := by rw [HSP.out, HT.out]; simp
        rw [this]
        simp
      · have hxy' : ¬ (x = y) := hxy
        go_wp2_with fail
        go_roundw
        case rel =>
          refine ⟨j + 1, by omega, by go_num, by trivial, ?_⟩
          rw [HT.out]
          have := HNO.out
          simp only [List.contains_eq_mem, decide_eq_false_iff_not, List.mem_append, List.mem_singleton] at this ⊢
          intro e
          rcases e with e | e
          · exact this e
          · exact hxy e
        case measure => simp [intOf]; omega
    · obtain rfl : j = n := by omega
      go_wp2_with fail
      go_ret
      refine ⟨_, rfl, ?_, rfl⟩
      have e := HL.out
      rw [e, List.take_length] at hno
      rw [hno]
      rfl
theorem Contains_any (w : World) (B : Nat) (A : Option Addr) (n c : Nat) (l : List Int) (x : Int) (hr : IRd w B A n l) (hn : n ≤ 9223372036854775807) :
    Calls Try.prog 82 #[.slice A n c, .int .i64 x] w fun e w' => e = .returned (.bool (l.contains x)) ∧ w' = w := by
  have HR := Lib.hid hr
  clear hr
  go_enter Try.func82, Try.ntmps82
  go_wp2_with (go_at_call 102; refine (Index_any w B A n c l x HR.out hn).mono ?_; rintro e w7 ⟨k, rfl, hk, rfl⟩)
  go_ret
  refine ⟨?_, rfl⟩
  simp
/-- Those that take part. -/
def cntV (v : BookV) (l : List Int) (j : Nat) : BookV :=
  { v with up := v.up.mapIdx (fun i b => if i < j then (b && l.contains (i : Int)) else b), commit := v.commit.mapIdx (fun i c => if i < j ∧ l.contains (i : Int) = true then v.session else c) }
theorem cntV_zero (v : BookV) (l : List Int) : cntV v l 0 = v := by
  obtain ⟨a, b, c, d, u, k⟩ := v
  unfold cntV
  simp only [Nat.not_lt_zero, if_false, false_and]
  congr 1
  · apply List.ext_getElem?
    intro i
    rw [List.getElem?_mapIdx]
    cases u[i]? <;> rfl
  · apply List.ext_getElem?
    intro i
    rw [List.getElem?_mapIdx]
    cases k[i]? <;> rfl
theorem cntV_in (v : BookV) (l : List Int) (j : Nat) (h : l.contains (j : Int) = true) : { cntV v l j with commit := (cntV v l j).commit.set j v.session } = cntV v l (j + 1) := by
  unfold cntV
  simp only
  congr 1
  · apply List.ext_getElem?
    intro i
    simp only [List.getElem?_mapIdx]
    cases v.up[i]? with
    | none => rfl
    | some b =>
      simp only [Option.map_some, Option.some.injEq]
      by_cases e : i = j
      · subst e; simp only [Nat.lt_irrefl, if_false, Nat.lt_succ_self, if_true, h, Bool.and_true]
      · by_cases e2 : i < j
        · rw [if_pos e2, if_pos (by omega)]
        · rw [if_neg e2, if_neg (by omega)]
  · apply List.ext_getElem?
    intro i
    simp only [List.getElem?_set, List.getElem?_mapIdx, List.length_mapIdx]
    by_cases e : j = i
    · subst e
      rw [if_pos rfl]
      cases hc : v.commit[j]? with
      | none => rw [if_neg (fun h9 => by rw [List.getElem?_eq_getElem h9] at hc; cases hc)]; rfl
      | some c =>
        rw [if_pos (List.getElem?_eq_some_iff.1 hc).1]
        simp only [Option.map_some, Nat.lt_succ_self, h, and_self, if_true]
    · rw [if_neg e]
      cases v.commit[i]? with
      | none => rfl
      | some c =>
        simp only [Option.map_some, Option.some.injEq]
        by_cases e2 : i < j
        · simp [e2, Nat.lt_succ_of_lt e2]
        · simp [e2, show ¬ i < j + 1 by omega]
theorem cntV_out (v : BookV) (l : List Int) (j : Nat) (h : l.contains (j : Int) = false) : { cntV v l j with up := (cntV v l j).up.set j false } = cntV v l (j + 1) := by
  unfold cntV
  simp only
  congr 1
  · apply List.ext_getElem?
    intro i
    simp only [List.getElem?_set, List.getElem?_mapIdx, List.length_mapIdx]
    by_cases e : j = i
    · subst e
      rw [if_pos rfl]
      cases hc : v.up[j]? with
      | none => rw [if_neg (fun h9 => by rw [List.getElem?_eq_getElem h9] at hc; cases hc)]; rfl
      | some c =>
        rw [if_pos (List.getElem?_eq_some_iff.1 hc).1]
        simp only [Option.map_some, Nat.lt_succ_self, h, Bool.and_false, if_true]
    · rw [if_neg e]
      cases v.up[i]? with
      | none => rfl
      | some c =>
        simp only [Option.map_some, Option.some.injEq]
        by_cases e2 : i < j
        · rw [if_pos e2, if_pos (by omega)]
        · rw [if_neg e2, if_neg (by omega)]
  · apply List.ext_getElem?
    intro i
    simp only [List.getElem?_mapIdx]
    cases v.commit[i]? with
    | none => rfl
    | some c =>
      simp only [Option.map_some, Option.some.injEq]
      by_cases e : i = j
      · subst e; rw [if_neg (fun e => Nat.lt_irrefl _ e.1), if_neg (fun e => by rw [h] at e; cases e.2)]
      · by_cases e2 : i < j
        · simp [e2, Nat.lt_succ_of_lt e2]
        · simp [e2, show ¬ i < j + 1 by omega]
def countV (v : BookV) (l : List Int) : BookV := { cntV v l v.up.length with decided := v.session }
theorem cntV_lens (v : BookV) (l : List Int) (j : Nat) : (cntV v l j).up.length = v.up.length ∧ (cntV v l j).commit.length = v.commit.length ∧ (cntV v l j).session = v.session := by
  unfold cntV; simp
set_option maxRecDepth 100000 in
set_option maxHeartbeats 4000000 in
theorem count_any (W : World) (B V : Nat) (v : BookV) (kv : Value) (A : Option Addr) (n c : Nat) (l : List Int) (hB : B ≤ V) (h : VIs W B V v) (hr : IRd W B A n l) (hn : n ≤ 9223372036854775807) (hl : v.up.length = v.commit.length) (hu : v.up.length ≤ 255) :
    Calls Try.prog 50 #[kv, .pointer (some ⟨V, 0, none⟩), .slice A n c] W fun e W' => e = .returned (.tuple #[]) ∧ VIs W' B V (countV v l) ∧ Keeps (fun k => B ≤ k) W W' := by
  have H := Lib.hid h; have HR := Lib.hid hr; have HL := Lib.hid hl; have HU := Lib.hid hu
  obtain ⟨Au, cu, c4⟩ := h.upV
  clear h hr hl hu
  go_enter Try.func50, Try.ntmps50
  go_wp2
  go_step3
  go_wp2
  go_step3
  go_wp2
  clear c4
  go_loopw [6, 12, 14, 15, 16, 17, 18, 19, 20, 21, 22, 23, 24, 25, 26, 27, 28, 29, 30, 31, 32, 33, 34] (fun _ q _ _ _ _ _ _ _ _ _ _ _ _ _ _ _ _ _ _ _ _ _ wr => ∃ j : Nat, j ≤ v.up.length ∧ q = .int .i64 (j : Int) ∧ VIs wr B V (cntV v l j) ∧ Keeps (fun k => B ≤ k) W wr) (fun _ q _ _ _ _ _ _ _ _ _ _ _ _ _ _ _ _ _ _ _ _ _ _ => v.up.length - (intOf q).toNat)
  case atStart => exact ⟨0, by omega, rfl, by rw [cntV_zero]; exact H.out, Keeps.refl _ _⟩
  case round =>
    obtain ⟨j, hj, rfl, hv, hk⟩ := hrel
    obtain ⟨l1, l2, l3⟩ := cntV_lens v l j
    have HV := Lib.hid hv; have HK := Lib.hid hk
    have hrj : IRd wr B A n l := HR.out.below (hk.below (fun _ e => e) (by have := H.out.lt; omega))
    have HRJ := Lib.hid hrj; have HLL := Lib.hid (And.intro l1 (And.intro l2 l3)); have hub := HU.out
    clear hv hk hrj l1 l2 l3
    by_cases hjn : j < v.up.length
    · have hjn' : (j : Int) < (v.up.length : Int) := by omega
      cases hin : l.contains (j : Int) with
      | true =>
        obtain ⟨g, cg, k5, hgB, hgV, hcap, kc, kf, hset⟩ := HV.out.comAt j (by rw [HLL.out.2.1, ← HL.out]; exact hjn)
        have k0 := HV.out.c0
        rw [HLL.out.2.2] at k0
        rw [HLL.out.2.1] at k5 hcap
        have hjc : j < v.commit.length := by rw [← HL.out]; exact hjn
        have hjc' : (j : Int) < (v.commit.length : Int) := by omega
        go_wp2_with (go_at_call 82; refine (Contains_any wr B A n c l j HRJ.out hn).mono ?_; rintro e w7 ⟨rfl, rfl⟩; rw [hin])
        refine wp_region_qt 10 (by kernel_rfl) (by kernel_rfl) ?_
        simp only [List.take_succ_cons, List.take_zero, List.drop_succ_cons, List.drop_zero]
        repeat (first | go_big_quiet_skip | (go_big_quiet_want; go_big_quiet_op; first | go_big_quiet_on))
        refine wpQuiet_nil ?_
        go_wp2_with fail
        have hv2 := hset v.session
        have e2 := cntV_in v l j hin
        have e3 : ({ session := (cntV v l j).session, decided := (cntV v l j).decided, epoch := (cntV v l j).epoch, dir := (cntV v l j).dir, up := (cntV v l j).up, commit := (cntV v l j).commit.set j v.session } : BookV) = cntV v l (j + 1) := e2
        rw [e3] at hv2
        have hk2 := HK.out.setCell (p := ⟨g, j, none⟩) hgB (.int .i64 v.session)
        go_roundw
        case rel => exact ⟨j + 1, by omega, by go_num, hv2.drew, hk2.drew⟩
        case measure => simp [intOf]; omega
      | false =>
        obtain ⟨g, cg, k4, hgB, hgV, hcap, kc, kf, hset⟩ := HV.out.upAt j (by rw [HLL.out.1]; exact hjn)
        rw [HLL.out.1] at k4 hcap
        go_wp2_with (go_at_call 82; refine (Contains_any wr B A n c l j HRJ.out hn).mono ?_; rintro e w7 ⟨rfl, rfl⟩; rw [hin])
        have hv2 := hset false
        have e2 := cntV_out v l j hin
        have e3 : ({ session := (cntV v l j).session, decided := (cntV v l j).decided, epoch := (cntV v l j).epoch, dir := (cntV v l j).dir, up := (cntV v l j).up.set j false, commit := (cntV v l j).commit } : BookV) = cntV v l (j + 1) := e2
        rw [e3] at hv2
        have hk2 := HK.out.setCell (p := ⟨g, j, none⟩) hgB (.bool false)
        go_roundw
        case rel => exact ⟨j + 1, by omega, by go_num, hv2, hk2⟩
        case measure => simp [intOf]; omega
    · obtain rfl : j = v.up.length := by omega
      have k0 := HV.out.c0
      rw [HLL.out.2.2] at k0
      have k1 := HV.out.c1
      have f1 := HV.out.fz 1
      go_wp2
      rw [Exit.noGoto_normal]
      go_end0
      exact ⟨rfl, HV.out.decided v.session, HK.out.setCell (p := ⟨V, 1, none⟩) hB _⟩
end Go.Proofs.Ytlabebapjhhkaaa
namespace Go.Proofs.Ytlabebapjhhkaaa
open Go.RowKit Go.Shelf
/-- Behind a change that was called a little later. -/
theorem chg_end {w w1 w2 : World} {F X : Nat → Prop} {K : Nat} {p : PrmV} {M : BM} (hb : Below w.heap.size w w1) (h2 : KbIs w2 (Grown (fun k => F k ∧ k < w.heap.size) w1) K p M) (hk : Keeps (fun k => (F k ∧ k < w.heap.size) ∨ X k) w1 w2) (hX : ∀ k, X k → w.heap.size ≤ k) : KbIs w2 (Grown F w) K p M ∧ Keeps F w w2 := by
  refine ⟨h2.weaken (fun k e => ?_), (Keeps.of_below (F := F) hb).trans hk (fun i hi e => ?_)⟩
  · rcases e with e | e
    · exact Or.inl e.1
    · exact Or.inr (Nat.le_trans hb.size e)
  · rcases e with e | e
    · exact e.1
    · have := hX i e; omega
theorem countV_good {N : Nat} {v : BookV} (h : GoodV N v) (l : List Int) : GoodV N (countV v l) := by
  obtain ⟨l1, l2, l3⟩ := cntV_lens v l v.up.length
  refine ⟨h.s0, h.s1, h.s0, Int.le_refl _, h.e0, h.e1, h.dl, h.dh, h.srt, l1.trans h.ul, l2.trans h.cl, fun x hx => ?_⟩
  unfold countV cntV at hx
  simp only at hx
  obtain ⟨i, hi, rfl⟩ := List.getElem_of_mem hx
  rw [List.getElem_mapIdx]
  split
  · exact ⟨h.s0, h.s1⟩
  · exact h.c _ (List.getElem_mem _)
def refreshV (l : List Int) (v : BookV) : Int × BookV := if v.epoch ≥ 1048576 then (11, v) else (0, countV { v with epoch := v.epoch + 1 } l)
theorem refreshV_good {N : Nat} {v : BookV} (h : GoodV N v) (l : List Int) : (refreshV l v).1 = 0 → GoodV N (refreshV l v).2 := by
  unfold refreshV
  intro e
  by_cases h1 : v.epoch ≥ 1048576
  · rw [if_pos h1] at e; cases e
  · rw [if_neg h1]
    exact countV_good (v := { v with epoch := v.epoch + 1 }) ⟨h.s0, h.s1, h.d0, h.d1, by show 0 ≤ v.epoch + 1; have := h.e0; omega, by show v.epoch + 1 ≤ _; omega, h.dl, h.dh, h.srt, h.ul, h.cl, h.c⟩ l
theorem Refresh1_any (w : World) (v : BookV) (b2 b3 : Nat) (kv : Value) (A : Option Addr) (n c : Nat) (l : List Int) (h2 : ∀ W, Below w.heap.size w W → W.cell? ⟨b2, 0, none⟩ = some kv) (h3 : ∀ W, Below w.heap.size w W → W.cell? ⟨b3, 0, none⟩ = some (.slice A n c)) (hr : IRd w w.heap.size A n l) (hn : n ≤ 9223372036854775807)
    (hkv : ∃ q, kv = .pointer q) (hl : v.up.length = v.commit.length) (hu : v.up.length ≤ 255) (he : 0 ≤ v.epoch) :
    How w.heap.size (fun _ => False) (fun _ => True) w v 51 #[.pointer (some ⟨b2, 0, none⟩), .pointer (some ⟨b3, 0, none⟩)] (refreshV l v) := by
  intro W V Ad Au Ac cd cu cc hW hB hVB hV hO
  obtain ⟨q, rfl⟩ := hkv
  have H := Lib.hid (show VIs W w.heap.size V v from ⟨Ad, Au, Ac, cd, cu, cc, hV, hO⟩)
  have H2 := Lib.hid h2; have H3 := Lib.hid h3; have HR := Lib.hid (hr.below hW)
  have c2 := H.out.c2; have f2 := H.out.fz 2
  clear hV hO h2 h3 hr
  simp only [List.cons_append, List.nil_append, List.append_toArray]
  unfold refreshV
  by_cases h1 : v.epoch ≥ 1048576
  · rw [if_pos h1]
    go_enter Try.func51, Try.ntmps51
    go_wp2
    go_ret
    exact ⟨rfl, Keeps.refl _ _, fun e => by cases e⟩
  · rw [if_neg h1]
    go_enter Try.func51, Try.ntmps51
    go_upto_region 4 with (fail)
    have e : IntKind.i64.wrap (v.epoch + 1) = v.epoch + 1 := by rw [IntKind.wrap_i64]; omega
    have hv2 := H.out.epoch (v.epoch + 1)
    have hk2 := keeps_set W V 2 (.int .i64 (v.epoch + 1))
    have hbW : Below w.heap.size W (W.setCell ⟨V, 2, none⟩ (.int .i64 (v.epoch + 1))) := hk2.below (fun k e => by rw [e]; exact hB) (Nat.le_trans hW.size (Nat.le_refl _))
    first | rw [e] | skip
    generalize W.setCell ⟨V, 2, none⟩ (.int .i64 (v.epoch + 1)) = W2 at hv2 hk2 hbW ⊢
    have c2' := H2.out W2 (hW.trans hbW); have c3' := H3.out W2 (hW.trans hbW)
    have hr2 := HR.out.below hbW
    have HV2 := Lib.hid hv2; have HK2 := Lib.hid hk2; have HR2 := Lib.hid hr2; have HBW := Lib.hid hbW
    clear hv2 hk2 hr2 hbW c2 f2
    go_wp2_with (go_at_call 50; refine (count_any W2 w.heap.size V _ _ A n c l hB HV2.out HR2.out hn hl hu).mono ?_; rintro e w7 ⟨rfl, h7, hk7⟩)
    go_ret
    refine ⟨rfl, (HK2.out.weaken (F' := fun k => w.heap.size ≤ k ∨ False) (fun k _ e => Or.inl (by rw [e]; exact hB))).trans hk7 (fun _ _ e => Or.inl e), fun _ => ⟨trivial, h7⟩⟩
set_option maxRecDepth 100000 in
theorem Refresh_any (w : World) (F : Nat → Prop) (K : Nat) (p : PrmV) (m : BM) (A : Option Addr) (n c : Nat) (l : List Int) (hr : IRd w w.heap.size A n l) (hn : n ≤ 9223372036854775807) (h : KbIs w F K p m) (hwr : m.pw.writes ≤ 4611686018400000000)  :
    Calls Try.prog 24 #[.pointer (some ⟨K, 0, none⟩), .slice A n c] w fun e w' => e = .returned (.int .i64 (m.change (refreshV l)).1) ∧ KbIs w' (Grown F w) K p (m.change (refreshV l)).2 ∧ Keeps F w w' := by
  have H := Lib.hid h.tight; have HW := Lib.hid hwr
  have hg := h.good.kv.good; have hN := h.good.n
  have HGV := Lib.hid hg; have HN := Lib.hid hN
  have HBK := Lib.hid (show ∃ S, Blk w K 61 (bkC p S m.off) by obtain ⟨S, G, s, h⟩ := h; exact ⟨S, h.blk⟩)
  clear h hwr hg hN
  obtain ⟨Z, hZ⟩ : ∃ Z, Z = m.change (refreshV l) := ⟨_, rfl⟩
  rw [← hZ]
  have HZ := Lib.hid hZ; clear hZ
  go_enter Try.func24, Try.ntmps24
  go_upto_region 1 with (fail)
  have hb : Below w.heap.size w ((w.alloc (.cells #[.pointer (some ⟨K, 0, none⟩)] 27)).alloc (.cells #[.slice A n c] 36)) := ((Below.refl _ _).alloc (Nat.le_refl _) _).alloc (by simp) _
  have h2 : Blk ((w.alloc (.cells #[.pointer (some ⟨K, 0, none⟩)] 27)).alloc (.cells #[.slice A n c] 36)) w.heap.size 27 #[.pointer (some ⟨K, 0, none⟩)] := (Blk.new _ _ _).alloc _
  have h3 : Blk ((w.alloc (.cells #[.pointer (some ⟨K, 0, none⟩)] 27)).alloc (.cells #[.slice A n c] 36)) (w.heap.size + 1) 36 #[.slice A n c] := Blk.new' (by simp)
  obtain ⟨b2, e2⟩ : ∃ b, b = w.heap.size := ⟨_, rfl⟩
  obtain ⟨b3, e3⟩ : ∃ b, b = w.heap.size + 1 := ⟨_, rfl⟩
  rw [← e3] at h3 ⊢
  rw [← e2] at h2 ⊢
  obtain ⟨w1, hw1⟩ : ∃ w1, w1 = ((w.alloc (.cells #[.pointer (some ⟨K, 0, none⟩)] 27)).alloc (.cells #[.slice A n c] 36)) := ⟨_, rfl⟩
  rw [← hw1] at hb h2 h3 ⊢
  have HB := Lib.hid hb; have H2 := Lib.hid h2; have H3 := Lib.hid h3; have H1 := Lib.hid (H.out.below hb)
  clear hw1 hb h2 h3 e2 e3
  have hmf : ∀ W, Sem.run Try.prog (Instr.makeFunc (Fn.func 51) #[] #[.pointer (some ⟨b2, 0, none⟩), .pointer (some ⟨b3, 0, none⟩)]) W = .ok (.func (.func 51) #[] #[.pointer (some ⟨b2, 0, none⟩), .pointer (some ⟨b3, 0, none⟩)]) W := fun W => by kernel_rfl
  have c2 : w1.cell? ⟨b2, 0, none⟩ = some (.pointer (some ⟨K, 0, none⟩)) := (H2.out.cell 0).trans rfl
  go_wp2_with fail
  refine (change_any w1 (fun k => F k ∧ k < w.heap.size) (fun _ => False) K p m 51 #[.pointer (some ⟨b2, 0, none⟩), .pointer (some ⟨b3, 0, none⟩)] (enters_of Try.func51 (by kernel_rfl) rfl) (refreshV l) (fun _ => True) H1.out (fun k _ e => e) HW.out (refreshV_good HGV.out l)
    (Refresh1_any w1 m.v b2 b3 _ A n c l (fun W hW => ((H2.out.below hW H2.out.lt).cell 0).trans rfl) (fun W hW => ((H3.out.below hW H3.out.lt).cell 0).trans rfl) ((hr.below HB.out).more HB.out.size) hn ⟨_, rfl⟩ (HGV.out.ul.trans HGV.out.cl.symm) (by rw [HGV.out.ul]; exact HN.out) HGV.out.e0) (fun _ _ _ _ => trivial)).mono ?_
  rintro e w2 ⟨rfl, h4, hk4, _⟩
  rw [← HZ.out] at h4 ⊢
  have hend := chg_end HB.out h4 hk4 (fun k e => e.elim)
  clear h4 hk4 hmf c2
  go_wp2
  go_ret
  exact ⟨rfl, hend.1, hend.2⟩
theorem bthere_any (w : World) (K N : Nat) (x : Int) (h : w.cell? ⟨K, 0, none⟩ = some (.int .i64 (N : Int))) :
    Calls Try.prog 54 #[.pointer (some ⟨K, 0, none⟩), .int .i64 x] w fun e w' => e = .returned (.bool (decide (0 ≤ x ∧ x < (N : Int)))) ∧ w' = w := by
  by_cases h0 : x ≥ 0
  · by_cases h1 : x < (N : Int)
    · rw [decide_eq_true ⟨h0, h1⟩]
      go_enter Try.func54, Try.ntmps54
      go_wp2
      go_ret
      exact ⟨rfl, rfl⟩
    · rw [decide_eq_false (fun e => h1 e.2)]
      go_enter Try.func54, Try.ntmps54
      go_wp2
      go_ret
      exact ⟨rfl, rfl⟩
  · rw [decide_eq_false (fun e => h0 e.1)]
    go_enter Try.func54, Try.ntmps54
    go_wp2
    go_ret
    exact ⟨rfl, rfl⟩
def recoverV (N : Nat) (x : Int) (v : BookV) : Int × BookV := if 0 ≤ x ∧ x < (N : Int) then (0, { v with up := v.up.set x.toNat true, commit := v.commit.set x.toNat v.session, decided := v.session }) else (1, v)
theorem recoverV_good {N : Nat} {v : BookV} (h : GoodV N v) (x : Int) : (recoverV N x v).1 = 0 → GoodV N (recoverV N x v).2 := by
  unfold recoverV
  intro e
  by_cases h1 : 0 ≤ x ∧ x < (N : Int)
  · rw [if_pos h1]
    refine ⟨h.s0, h.s1, h.s0, Int.le_refl _, h.e0, h.e1, h.dl, h.dh, h.srt, by simpa using h.ul, by simpa using h.cl, fun y hy => ?_⟩
    rcases List.mem_or_eq_of_mem_set hy with hy | hy
    · exact h.c y hy
    · rw [hy]; exact ⟨h.s0, h.s1⟩
  · rw [if_neg h1] at e; cases e
def RecC (V b3 j N g cg g' cg' : Nat) (s : Int) (W : World) : Prop := W.cell? ⟨V, 4, none⟩ = some (.slice (some ⟨g, 0, none⟩) N cg) ∧ W.cell? ⟨V, 5, none⟩ = some (.slice (some ⟨g', 0, none⟩) N cg') ∧ W.cell? ⟨V, 0, none⟩ = some (.int .i64 s) ∧ W.cell? ⟨b3, 0, none⟩ = some (.int .i64 (j : Int))
set_option maxRecDepth 100000 in
theorem Recover1_any (w : World) (v : BookV) (b2 b3 K N : Nat) (x : Int) (h2 : ∀ W, Below w.heap.size w W → W.cell? ⟨b2, 0, none⟩ = some (.pointer (some ⟨K, 0, none⟩))) (h3 : ∀ W, Below w.heap.size w W → W.cell? ⟨b3, 0, none⟩ = some (.int .i64 x)) (hK : ∀ W, Below w.heap.size w W → W.cell? ⟨K, 0, none⟩ = some (.int .i64 (N : Int)))
    (hu : v.up.length = N) (hc : v.commit.length = N) (hN : N ≤ 255) :
    How w.heap.size (fun _ => False) (fun _ => True) w v 53 #[.pointer (some ⟨b2, 0, none⟩), .pointer (some ⟨b3, 0, none⟩)] (recoverV N x v) := by
  intro W V Ad Au Ac cd cu cc hW hB hVB hV hO
  have H := Lib.hid (show VIs W w.heap.size V v from ⟨Ad, Au, Ac, cd, cu, cc, hV, hO⟩)
  have HU := Lib.hid hu; have HC := Lib.hid hc; have HK := Lib.hid (hK W hW); have HW := Lib.hid hW
  have c2 := h2 W hW; have c3 := h3 W hW
  clear hV hO h2 hu hc hK
  simp only [List.cons_append, List.nil_append, List.append_toArray]
  unfold recoverV
  by_cases h1 : 0 ≤ x ∧ x < (N : Int)
  · rw [if_pos h1]
    obtain ⟨j, rfl⟩ : ∃ j : Nat, x = j := ⟨x.toNat, by omega⟩
    have hjN : j < N := by omega
    have hjN' : (j : Int) < (N : Int) := h1.2
    rw [Int.toNat_natCast]
    obtain ⟨g, cg, k4, hgB, hgV, hcap, kc, kf, hset⟩ := H.out.upAt j (by rw [HU.out]; exact hjN)
    rw [HU.out] at k4 hcap
    have hv2 := hset true
    obtain ⟨g', cg', k5, hgB', hgV', hcap', kc', kf', hset'⟩ := hv2.comAt j (by show j < v.commit.length; rw [HC.out]; exact hjN)
    have k0 := H.out.c0
    have hd := decide_eq_true h1
    have hv3 := hset' v.session
    have k1 := hv3.c1; have f1 := hv3.fz 1
    have k5' : W.cell? ⟨V, 5, none⟩ = some (.slice (some ⟨g', 0, none⟩) N cg') := by
      rw [World.cell?_setCell_other _ _ _ _ (fun e => hgV (by injection e))] at k5
      rw [k5, HC.out]
    have hkk : Keeps (fun k => w.heap.size ≤ k ∨ False) W (((W.setCell ⟨g, j, none⟩ (.bool true)).setCell ⟨g', j, none⟩ (.int .i64 v.session)).setCell ⟨V, 1, none⟩ (.int .i64 v.session)) := (((Keeps.refl _ _).setCell (p := ⟨g, j, none⟩) (Or.inl hgB) _).setCell (p := ⟨g', j, none⟩) (Or.inl hgB') _).setCell (p := ⟨V, 1, none⟩) (Or.inl hB) _
    have hv4 := hv3.decided v.session
    have HKK := Lib.hid hkk; have HV4 := Lib.hid hv4
    clear hkk hv4 hv3 hv2 hset hset' k5
    go_enter Try.func53, Try.ntmps53
    go_wp2_with (go_at_call 54; refine (bthere_any W K N j HK.out).mono ?_; rintro e w7 ⟨rfl, rfl⟩; rw [hd])
    have hC : ∀ W, W.cell? ⟨V, 4, none⟩ = w7.cell? ⟨V, 4, none⟩ → W.cell? ⟨V, 5, none⟩ = w7.cell? ⟨V, 5, none⟩ → W.cell? ⟨V, 0, none⟩ = w7.cell? ⟨V, 0, none⟩ → W.cell? ⟨b3, 0, none⟩ = w7.cell? ⟨b3, 0, none⟩ → RecC V b3 j N g cg g' cg' v.session W := fun W q1 q2 q3 q4 => ⟨q1.trans k4, q2.trans k5', q3.trans k0, q4.trans c3⟩
    have hbne : ∀ k, w.heap.size ≤ k → b3 ≠ k := fun k hk e => by
      have hb3 := cell_lt (h3 w (Below.refl _ _))
      simp only at hb3
      omega
    have hC0 : RecC V b3 j N g cg g' cg' v.session w7.drew := hC _ rfl rfl rfl rfl
    have hC1 : RecC V b3 j N g cg g' cg' v.session (w7.setCell ⟨g, j, none⟩ (.bool true)).drew := hC _ (World.cell?_setCell_other _ _ _ _ (fun e => hgV (by injection e))) (World.cell?_setCell_other _ _ _ _ (fun e => hgV (by injection e))) (World.cell?_setCell_other _ _ _ _ (fun e => hgV (by injection e))) (World.cell?_setCell_other _ _ _ _ (fun e => hbne g hgB (by injection e with e; exact e.symm)))
    have hC2 : RecC V b3 j N g cg g' cg' v.session ((w7.setCell ⟨g, j, none⟩ (.bool true)).setCell ⟨g', j, none⟩ (.int .i64 v.session)).drew := hC _ ((World.cell?_setCell_other _ _ _ _ (fun e => hgV' (by injection e))).trans (World.cell?_setCell_other _ _ _ _ (fun e => hgV (by injection e)))) ((World.cell?_setCell_other _ _ _ _ (fun e => hgV' (by injection e))).trans (World.cell?_setCell_other _ _ _ _ (fun e => hgV (by injection e)))) ((World.cell?_setCell_other _ _ _ _ (fun e => hgV' (by injection e))).trans (World.cell?_setCell_other _ _ _ _ (fun e => hgV (by injection e)))) ((World.cell?_setCell_other _ _ _ _ (fun e => hbne g' hgB' (by injection e with e; exact e.symm))).trans (World.cell?_setCell_other _ _ _ _ (fun e => hbne g hgB (by injection e with e; exact e.symm))))
    have HC1 := Lib.hid hC1; have HC2 := Lib.hid hC2
    have hC3 : RecC V b3 j N g cg g' cg' v.session (((w7.setCell ⟨g, j, none⟩ (.bool true)).setCell ⟨g', j, none⟩ (.int .i64 v.session)).setCell ⟨V, 1, none⟩ (.int .i64 v.session)).drew := by
      obtain ⟨q1, q2, q3, q4⟩ := hC2
      exact ⟨(World.cell?_setCell_other _ _ _ _ (fun e => by injection e with _ e; cases e)).trans q1, (World.cell?_setCell_other _ _ _ _ (fun e => by injection e with _ e; cases e)).trans q2, (World.cell?_setCell_other _ _ _ _ (fun e => by injection e with _ e; cases e)).trans q3, (World.cell?_setCell_other _ _ _ _ (fun e => hbne V hB (by injection e with e; exact e.symm))).trans q4⟩
    have HC3 := Lib.hid hC3
    clear hC hbne hC1 hC2 hC3 h3
    refine wp_region_anyN (RecC V b3 j N g cg g' cg' v.session) (by kernel_rfl) ?_
    refine anyC_takes (by kernel_rfl) (fun _ _ _ _ _ h => h) [0, 1, 2, 3, 4, 5, 6, 7, 8, 9, 10, 11, 12, 13, 14, 15, 16, 17, 18, 19] 6 _ _ (by kernel_rfl) ?_
    simp only [List.filterMap_cons, List.filterMap_nil, List.getElem?_toArray, List.getElem?_cons_succ, List.getElem?_cons_zero]
    show wpQuiet _ _ _ _ (_ :: _ :: _ :: _ :: _ :: _ :: _ :: _ :: _ :: _ :: _ :: _ :: _ :: _ :: _ :: _ :: _ :: _ :: _ :: _ :: List.nil) _
    repeat (first | go_big_quiet_skip | (go_big_quiet_want; first | (refine quiet_load 42 (.tmp 11) rfl ⟨V, 4, none⟩ rfl _ (fun W hW => hW.1) (fun _ => by kernel_rfl) ?_; simp only [Act.put, List.setIfInBounds_toArray, List.set_cons_succ, List.set_cons_zero]; go_big_quiet_on) | (refine quiet_load 36 (.tmp 16) rfl ⟨V, 5, none⟩ rfl _ (fun W hW => hW.2.1) (fun _ => by kernel_rfl) ?_; simp only [Act.put, List.setIfInBounds_toArray, List.set_cons_succ, List.set_cons_zero]; go_big_quiet_on) | (refine quiet_load 3 (.tmp 22) rfl ⟨V, 0, none⟩ rfl _ (fun W hW => hW.2.2.1) (fun _ => by kernel_rfl) ?_; simp only [Act.put, List.setIfInBounds_toArray, List.set_cons_succ, List.set_cons_zero]; go_big_quiet_on) | (refine quiet_load 3 (.tmp 26) rfl ⟨V, 0, none⟩ rfl _ (fun W hW => hW.2.2.1) (fun _ => by kernel_rfl) ?_; simp only [Act.put, List.setIfInBounds_toArray, List.set_cons_succ, List.set_cons_zero]; go_big_quiet_on) | (refine quiet_load 3 (.tmp 2) rfl ⟨b3, 0, none⟩ rfl _ (fun W hW => hW.2.2.2) (fun _ => by kernel_rfl) ?_; simp only [Act.put, List.setIfInBounds_toArray, List.set_cons_succ, List.set_cons_zero]; go_big_quiet_on) | (go_big_quiet_op; first | go_big_quiet_on | (refine ⟨_, fun _ _ => rfl, ?_⟩; go_big_quiet_on))))
    refine wpQuiet_nil ?_
    refine anyC_only (i := 20) rfl (by kernel_rfl) hC0 ?_
    go_wp2_with fail
    refine anyC_takes (by kernel_rfl) (fun _ _ _ _ _ h => h) [21] 4 _ _ (by kernel_rfl) ?_
    simp only [List.filterMap_cons, List.filterMap_nil, List.getElem?_toArray, List.getElem?_cons_succ, List.getElem?_cons_zero]
    show wpQuiet _ _ _ _ (_ :: List.nil) _
    repeat (first | go_big_quiet_skip | (go_big_quiet_want; first | (fail; simp only [Act.put, List.setIfInBounds_toArray, List.set_cons_succ, List.set_cons_zero]; go_big_quiet_on) | (go_big_quiet_op; first | go_big_quiet_on | (refine ⟨_, fun _ _ => rfl, ?_⟩; go_big_quiet_on))))
    refine wpQuiet_nil ?_
    refine anyC_only (i := 22) rfl (by kernel_rfl) HC1.out ?_
    go_wp2_with fail
    refine anyC_takes (by kernel_rfl) (fun _ _ _ _ _ h => h) [23, 24] 1 _ _ (by kernel_rfl) ?_
    simp only [List.filterMap_cons, List.filterMap_nil, List.getElem?_toArray, List.getElem?_cons_succ, List.getElem?_cons_zero]
    show wpQuiet _ _ _ _ (_ :: _ :: List.nil) _
    repeat (first | go_big_quiet_skip | (go_big_quiet_want; first | (fail; simp only [Act.put, List.setIfInBounds_toArray, List.set_cons_succ, List.set_cons_zero]; go_big_quiet_on) | (go_big_quiet_op; first | go_big_quiet_on | (refine ⟨_, fun _ _ => rfl, ?_⟩; go_big_quiet_on))))
    refine wpQuiet_nil ?_
    refine anyC_only (i := 25) rfl (by kernel_rfl) HC2.out ?_
    go_wp2_with fail
    refine ⟨HC3.out, by kernel_rfl, ?_⟩
    go_wp2
    go_ret
    exact ⟨rfl, HKK.out.drew, fun _ => ⟨trivial, HV4.out.drew⟩⟩
  · rw [if_neg h1]
    have hd := decide_eq_false h1
    go_enter Try.func53, Try.ntmps53
    go_wp2_with (go_at_call 54; refine (bthere_any W K N x HK.out).mono ?_; rintro e w7 ⟨rfl, rfl⟩; rw [hd])
    go_ret
    exact ⟨rfl, Keeps.refl _ _, fun e => by cases e⟩
set_option maxRecDepth 100000 in
theorem Recover_any (w : World) (F : Nat → Prop) (K : Nat) (p : PrmV) (m : BM) (x : Int) (h : KbIs w F K p m) (hwr : m.pw.writes ≤ 4611686018400000000)  :
    Calls Try.prog 27 #[.pointer (some ⟨K, 0, none⟩), .int .i64 x] w fun e w' => e = .returned (.int .i64 (m.change (recoverV p.n x)).1) ∧ KbIs w' (Grown F w) K p (m.change (recoverV p.n x)).2 ∧ Keeps F w w' := by
  have H := Lib.hid h.tight; have HW := Lib.hid hwr
  have hg := h.good.kv.good; have hN := h.good.n
  have HGV := Lib.hid hg; have HN := Lib.hid hN
  have HBK := Lib.hid (show ∃ S, Blk w K 61 (bkC p S m.off) by obtain ⟨S, G, s, h⟩ := h; exact ⟨S, h.blk⟩)
  clear h hwr hg hN
  obtain ⟨Z, hZ⟩ : ∃ Z, Z = m.change (recoverV p.n x) := ⟨_, rfl⟩
  rw [← hZ]
  have HZ := Lib.hid hZ; clear hZ
  go_enter Try.func27, Try.ntmps27
  go_upto_region 1 with (fail)
  have hb : Below w.heap.size w ((w.alloc (.cells #[.pointer (some ⟨K, 0, none⟩)] 27)).alloc (.cells #[.int .i64 x] 3)) := ((Below.refl _ _).alloc (Nat.le_refl _) _).alloc (by simp) _
  have h2 : Blk ((w.alloc (.cells #[.pointer (some ⟨K, 0, none⟩)] 27)).alloc (.cells #[.int .i64 x] 3)) w.heap.size 27 #[.pointer (some ⟨K, 0, none⟩)] := (Blk.new _ _ _).alloc _
  have h3 : Blk ((w.alloc (.cells #[.pointer (some ⟨K, 0, none⟩)] 27)).alloc (.cells #[.int .i64 x] 3)) (w.heap.size + 1) 3 #[.int .i64 x] := Blk.new' (by simp)
  obtain ⟨b2, e2⟩ : ∃ b, b = w.heap.size := ⟨_, rfl⟩
  obtain ⟨b3, e3⟩ : ∃ b, b = w.heap.size + 1 := ⟨_, rfl⟩
  rw [← e3] at h3 ⊢
  rw [← e2] at h2 ⊢
  obtain ⟨w1, hw1⟩ : ∃ w1, w1 = ((w.alloc (.cells #[.pointer (some ⟨K, 0, none⟩)] 27)).alloc (.cells #[.int .i64 x] 3)) := ⟨_, rfl⟩
  rw [← hw1] at hb h2 h3 ⊢
  have HB := Lib.hid hb; have H2 := Lib.hid h2; have H3 := Lib.hid h3; have H1 := Lib.hid (H.out.below hb)
  clear hw1 hb h2 h3 e2 e3
  have hmf : ∀ W, Sem.run Try.prog (Instr.makeFunc (Fn.func 53) #[] #[.pointer (some ⟨b2, 0, none⟩), .pointer (some ⟨b3, 0, none⟩)]) W = .ok (.func (.func 53) #[] #[.pointer (some ⟨b2, 0, none⟩), .pointer (some ⟨b3, 0, none⟩)]) W := fun W => by kernel_rfl
  have c2 : w1.cell? ⟨b2, 0, none⟩ = some (.pointer (some ⟨K, 0, none⟩)) := (H2.out.cell 0).trans rfl
  go_wp2_with fail
  refine (change_any w1 (fun k => F k ∧ k < w.heap.size) (fun _ => False) K p m 53 #[.pointer (some ⟨b2, 0, none⟩), .pointer (some ⟨b3, 0, none⟩)] (enters_of Try.func53 (by kernel_rfl) rfl) (recoverV p.n x) (fun _ => True) H1.out (fun k _ e => e) HW.out (recoverV_good HGV.out x)
    (Recover1_any w1 m.v b2 b3 K p.n x (fun W hW => ((H2.out.below hW H2.out.lt).cell 0).trans rfl) (fun W hW => ((H3.out.below hW H3.out.lt).cell 0).trans rfl) (fun W hW => by obtain ⟨S, hS⟩ := HBK.out; exact ((hS.below (HB.out.trans (hW.mono HB.out.size)) hS.lt).cell 0).trans rfl) HGV.out.ul HGV.out.cl HN.out) (fun _ _ _ _ => trivial)).mono ?_
  rintro e w2 ⟨rfl, h4, hk4, _⟩
  rw [← HZ.out] at h4 ⊢
  have hend := chg_end HB.out h4 hk4 (fun k e => e.elim)
  clear h4 hk4 hmf c2
  go_wp2
  go_ret
  exact ⟨rfl, hend.1, hend.2⟩
/-- Some are not up. -/
def markUp (N : Nat) (l : List Int) (u : List Bool) : List Bool := l.foldl (fun u x => if 0 ≤ x ∧ x < (N : Int) then u.set x.toNat false else u) u
def markV (N : Nat) (l : List Int) (v : BookV) : Int × BookV := (0, { v with up := markUp N l v.up })
theorem markUp_len (N : Nat) (l : List Int) : ∀ (u : List Bool), (markUp N l u).length = u.length := by
  induction l with
  | nil => intro u; rfl
  | cons x r ih =>
    intro u
    show (markUp N r (if 0 ≤ x ∧ x < (N : Int) then u.set x.toNat false else u)).length = _
    rw [ih]
    split
    · simp
    · rfl
theorem markUp_snoc (N : Nat) (l : List Int) (x : Int) (u : List Bool) : markUp N (l ++ [x]) u = if 0 ≤ x ∧ x < (N : Int) then (markUp N l u).set x.toNat false else markUp N l u := by
  unfold markUp
  rw [List.foldl_append]
  rfl
theorem markV_good {N : Nat} {v : BookV} (h : GoodV N v) (l : List Int) : (markV N l v).1 = 0 → GoodV N (markV N l v).2 :=
  fun _ => ⟨h.s0, h.s1, h.d0, h.d1, h.e0, h.e1, h.dl, h.dh, h.srt, (markUp_len N l v.up).trans h.ul, h.cl, h.c⟩
set_option maxRecDepth 100000 in
theorem Mark1_any (w : World) (v : BookV) (b2 b3 K N : Nat) (A : Option Addr) (n c : Nat) (l : List Int) (h2 : ∀ W, Below w.heap.size w W → W.cell? ⟨b2, 0, none⟩ = some (.pointer (some ⟨K, 0, none⟩))) (h3 : ∀ W, Below w.heap.size w W → W.cell? ⟨b3, 0, none⟩ = some (.slice A n c)) (hK : ∀ W, Below w.heap.size w W → W.cell? ⟨K, 0, none⟩ = some (.int .i64 (N : Int)))
    (hr : IRd w w.heap.size A n l) (hn : n ≤ 9223372036854775807) (hu : v.up.length = N) (hN : N ≤ 255) :
    How w.heap.size (fun _ => False) (fun _ => True) w v 55 #[.pointer (some ⟨b3, 0, none⟩), .pointer (some ⟨b2, 0, none⟩)] (markV N l v) := by
  intro W V Ad Au Ac cd cu cc hW hB hVB hV hO
  have H := Lib.hid (show VIs W w.heap.size V v from ⟨Ad, Au, Ac, cd, cu, cc, hV, hO⟩)
  have HU := Lib.hid hu; have HK := Lib.hid hK; have HW := Lib.hid hW; have H2 := Lib.hid h2; have H3 := Lib.hid h3; have HR := Lib.hid (hr.below hW); have HL := Lib.hid hr.len
  have c3 := h3 W hW
  clear hV hO h2 h3 hu hK hr
  simp only [List.cons_append, List.nil_append, List.append_toArray]
  unfold markV
  go_enter Try.func55, Try.ntmps55
  go_wp2
  clear c3
  go_loopw [6, 9, 10, 11, 12, 13, 14, 15, 16, 17, 18, 19, 20, 21, 22] (fun _ q _ _ _ _ _ _ _ _ _ _ _ _ _ wr => ∃ j : Nat, j ≤ n ∧ q = .int .i64 (j : Int) ∧ VIs wr w.heap.size V { v with up := markUp N (l.take j) v.up } ∧ Keeps (fun k => w.heap.size ≤ k) W wr) (fun _ q _ _ _ _ _ _ _ _ _ _ _ _ _ _ => n - (intOf q).toNat)
  case atStart => exact ⟨0, by omega, rfl, H.out, Keeps.refl _ _⟩
  case round =>
    obtain ⟨j, hj, rfl, hv, hk⟩ := hrel
    have hbr : Below w.heap.size w wr := HW.out.trans (hk.below (fun _ e => e) HW.out.size)
    have HV := Lib.hid hv; have HKp := Lib.hid hk; have HBR := Lib.hid hbr
    have hrj := HR.out.below (hk.below (fun _ e => e) HW.out.size)
    have HRJ := Lib.hid hrj
    clear hv hk hbr hrj
    by_cases hjn : j < n
    · have hjn' : (j : Int) < (n : Int) := by omega
      obtain ⟨ad, rfl, hadB, hcx⟩ := HRJ.out.at_ hjn
      have hlt : j < l.length := by have := HL.out; omega
      have htk : l.take (j + 1) = l.take j ++ [l.getD j 0] := by
        rw [List.take_succ_eq_append_getElem hlt, List.getD_eq_getElem?_getD, List.getElem?_eq_getElem hlt]; rfl
      generalize l.getD j 0 = x at hcx htk
      have hsn := markUp_snoc N (l.take j) x v.up
      rw [← htk] at hsn
      have HSN := Lib.hid hsn
      have c2 := H2.out wr HBR.out
      clear htk hsn
      by_cases hx : 0 ≤ x ∧ x < (N : Int)
      · have hd := decide_eq_true hx
        have hs2 := HSN.out
        rw [if_pos hx] at hs2
        obtain ⟨i, rfl⟩ : ∃ i : Nat, x = i := ⟨x.toNat, by omega⟩
        rw [Int.toNat_natCast] at hs2
        have hiN : i < N := by omega
        have hiN' : (i : Int) < (N : Int) := hx.2
        obtain ⟨g, cg, k4, hgB, hgV, hcap, kc, kf, hset⟩ := HV.out.upAt i (by show i < (markUp N (l.take j) v.up).length; rw [markUp_len, HU.out]; exact hiN)
        have k4' : wr.cell? ⟨V, 4, none⟩ = some (.slice (some ⟨g, 0, none⟩) N cg) := by rw [k4]; simp only [markUp_len, HU.out]
        have hv2 := hset false
        have e3 : ({ session := v.session, decided := v.decided, epoch := v.epoch, dir := v.dir, up := (markUp N (l.take j) v.up).set i false, commit := v.commit } : BookV) = { v with up := markUp N (l.take (j + 1)) v.up } := by rw [hs2]
        have hv3 : VIs (wr.setCell ⟨g, i, none⟩ (.bool false)) w.heap.size V { v with up := markUp N (l.take (j + 1)) v.up } := by rw [← e3]; exact hv2
        have HV3 := Lib.hid hv3
        clear hset hv2 e3 hv3 hs2 k4 hcap
        have hkK := HK.out wr HBR.out
        have HKK := Lib.hid hkK
        clear hkK
        go_wp2_with (go_at_call 54; refine (bthere_any wr K N i HKK.out).mono ?_; rintro e w7 ⟨rfl, rfl⟩; rw [hd])
        have hk2 := HKp.out.setCell (p := ⟨g, i, none⟩) hgB (.bool false)
        go_roundw
        case rel => exact ⟨j + 1, by omega, by go_num, HV3.out, hk2⟩
        case measure => simp [intOf]; omega
      · have hd := decide_eq_false hx
        have hs2 := HSN.out
        rw [if_neg hx] at hs2
        have HS2 := Lib.hid hs2
        have hkK := HK.out wr HBR.out
        have HKK := Lib.hid hkK
        clear hkK hs2
        go_wp2_with (go_at_call 54; refine (bthere_any wr K N x HKK.out).mono ?_; rintro e w7 ⟨rfl, rfl⟩; rw [hd])
        go_roundw
        case rel => exact ⟨j + 1, by omega, by go_num, by rw [HS2.out]; exact HV.out, HKp.out⟩
        case measure => simp [intOf]; omega
    · obtain rfl : j = n := by omega
      go_wp2_with fail
      go_ret
      have e := HL.out
      have hv9 := HV.out
      rw [e, List.take_length] at hv9
      exact ⟨rfl, HKp.out.weaken (fun k _ e => Or.inl e), fun _ => ⟨trivial, hv9⟩⟩
set_option maxRecDepth 100000 in
theorem Mark_any (w : World) (F : Nat → Prop) (K : Nat) (p : PrmV) (m : BM) (A : Option Addr) (n c : Nat) (l : List Int) (hr : IRd w w.heap.size A n l) (hn : n ≤ 9223372036854775807) (h : KbIs w F K p m) (hwr : m.pw.writes ≤ 4611686018400000000)  :
    Calls Try.prog 28 #[.pointer (some ⟨K, 0, none⟩), .slice A n c] w fun e w' => e = .returned (.int .i64 (m.change (markV p.n l)).1) ∧ KbIs w' (Grown F w) K p (m.change (markV p.n l)).2 ∧ Keeps F w w' := by
  have H := Lib.hid h.tight; have HW := Lib.hid hwr
  have hg := h.good.kv.good; have hN := h.good.n
  have HGV := Lib.hid hg; have HN := Lib.hid hN
  have HBK := Lib.hid (show ∃ S, Blk w K 61 (bkC p S m.off) by obtain ⟨S, G, s, h⟩ := h; exact ⟨S, h.blk⟩)
  clear h hwr hg hN
  obtain ⟨Z, hZ⟩ : ∃ Z, Z = m.change (markV p.n l) := ⟨_, rfl⟩
  rw [← hZ]
  have HZ := Lib.hid hZ; clear hZ
  go_enter Try.func28, Try.ntmps28
  go_upto_region 1 with (fail)
  have hb : Below w.heap.size w ((w.alloc (.cells #[.pointer (some ⟨K, 0, none⟩)] 27)).alloc (.cells #[.slice A n c] 36)) := ((Below.refl _ _).alloc (Nat.le_refl _) _).alloc (by simp) _
  have h2 : Blk ((w.alloc (.cells #[.pointer (some ⟨K, 0, none⟩)] 27)).alloc (.cells #[.slice A n c] 36)) w.heap.size 27 #[.pointer (some ⟨K, 0, none⟩)] := (Blk.new _ _ _).alloc _
  have h3 : Blk ((w.alloc (.cells #[.pointer (some ⟨K, 0, none⟩)] 27)).alloc (.cells #[.slice A n c] 36)) (w.heap.size + 1) 36 #[.slice A n c] := Blk.new' (by simp)
  obtain ⟨b2, e2⟩ : ∃ b, b = w.heap.size := ⟨_, rfl⟩
  obtain ⟨b3, e3⟩ : ∃ b, b = w.heap.size + 1 := ⟨_, rfl⟩
  rw [← e3] at h3 ⊢
  rw [← e2] at h2 ⊢
  obtain ⟨w1, hw1⟩ : ∃ w1, w1 = ((w.alloc (.cells #[.pointer (some ⟨K, 0, none⟩)] 27)).alloc (.cells #[.slice A n c] 36)) := ⟨_, rfl⟩
  rw [← hw1] at hb h2 h3 ⊢
  have HB := Lib.hid hb; have H2 := Lib.hid h2; have H3 := Lib.hid h3; have H1 := Lib.hid (H.out.below hb)
  clear hw1 hb h2 h3 e2 e3
  have hmf : ∀ W, Sem.run Try.prog (Instr.makeFunc (Fn.func 55) #[] #[.pointer (some ⟨b3, 0, none⟩), .pointer (some ⟨b2, 0, none⟩)]) W = .ok (.func (.func 55) #[] #[.pointer (some ⟨b3, 0, none⟩), .pointer (some ⟨b2, 0, none⟩)]) W := fun W => by kernel_rfl
  have c2 : w1.cell? ⟨b2, 0, none⟩ = some (.pointer (some ⟨K, 0, none⟩)) := (H2.out.cell 0).trans rfl
  go_wp2_with fail
  refine (change_any w1 (fun k => F k ∧ k < w.heap.size) (fun _ => False) K p m 55 #[.pointer (some ⟨b3, 0, none⟩), .pointer (some ⟨b2, 0, none⟩)] (enters_of Try.func55 (by kernel_rfl) rfl) (markV p.n l) (fun _ => True) H1.out (fun k _ e => e) HW.out (markV_good HGV.out l)
    (Mark1_any w1 m.v b2 b3 K p.n A n c l (fun W hW => ((H2.out.below hW H2.out.lt).cell 0).trans rfl) (fun W hW => ((H3.out.below hW H3.out.lt).cell 0).trans rfl) (fun W hW => by obtain ⟨S, hS⟩ := HBK.out; exact ((hS.below (HB.out.trans (hW.mono HB.out.size)) hS.lt).cell 0).trans rfl) ((hr.below HB.out).more HB.out.size) hn HGV.out.ul HN.out) (fun _ _ _ _ => trivial)).mono ?_
  rintro e w2 ⟨rfl, h4, hk4, _⟩
  rw [← HZ.out] at h4 ⊢
  have hend := chg_end HB.out h4 hk4 (fun k e => e.elim)
  clear h4 hk4 hmf c2
  go_wp2
  go_ret
  exact ⟨rfl, hend.1, hend.2⟩
end Go.Proofs.Ytlabebapjhhkaaa
namespace Go.Proofs.Ytlabebapjhhkaaa
open Go.RowKit Go.Shelf
def BM.crash (m : BM) : BM := { m with off := true }
def BM.fuse (m : BM) (n : Int) : BM := { m with pw := { m.pw with left := max n 0 } }
/-- What a Start leaves: the power is there; there were so many writes. -/
def Started (m M : BM) : Prop := M.off = false ∧ M.kept = m.kept ∧ M.v = m.v ∧ M.pw.left = -1 ∧ M.pw.gone = false ∧ M.pw.writes ≤ m.pw.writes + 512
theorem Crash_any (w : World) (F : Nat → Prop) (K : Nat) (p : PrmV) (m : BM) (h : KbIs w F K p m) :
    Calls Try.prog 29 #[.pointer (some ⟨K, 0, none⟩)] w fun e w' => e = .returned (.tuple #[]) ∧ KbIs w' (Grown F w) K p m.crash ∧ Keeps F w w' := by
  obtain ⟨S, G, s, h⟩ := h
  have c6 : w.cell? ⟨K, 6, none⟩ = some (.bool m.off) := (h.blk.cell 6).trans rfl
  have f6 := h.blk.frozen 6
  have H := Lib.hid h
  clear h
  go_enter Try.func29, Try.ntmps29
  go_wp2
  go_end0
  have hk := keeps_set w K 6 (.bool true)
  refine ⟨rfl, ⟨S, G, s, H.out.blk.set_ 6 _, H.out.slot.keeps hk (fun k e e2 => H.out.notG (e2 ▸ e)), H.out.notG, fun k e => Or.inl (H.out.inF k e), Or.inl H.out.inK, H.out.pw, H.out.disk, ⟨H.out.good.kv, H.out.good.n⟩⟩, hk.weaken (fun k _ e => by rw [e]; exact H.out.inK)⟩
theorem BFuse_any (w : World) (F : Nat → Prop) (K : Nat) (p : PrmV) (m : BM) (n : Int) (hn : n ≤ 9223372036854775807) (h : KbIs w F K p m) :
    Calls Try.prog 19 #[.pointer (some ⟨K, 0, none⟩), .int .i64 n] w fun e w' => e = .returned (.tuple #[]) ∧ KbIs w' (Grown F w) K p (m.fuse n) ∧ Keeps F w w' := by
  obtain ⟨S, G, s, h⟩ := h
  have c5 : w.cell? ⟨K, 5, none⟩ = some (.pointer (some ⟨S, 0, none⟩)) := (h.blk.cell 5).trans rfl
  have H := Lib.hid h; have HN := Lib.hid hn
  clear h hn
  go_enter Try.func19, Try.ntmps19
  go_wp2_with (go_at_call 40; refine (SFuse_any w G S 512 s n HN.out H.out.slot).mono ?_; rintro e w7 ⟨rfl, h7, hk7⟩)
  go_end0
  obtain ⟨side, hs⟩ := H.out.disk
  refine ⟨rfl, ⟨S, Grown G w, _, H.out.blk.keeps hk7 H.out.notG, h7, fun e => ?_, fun k e => ?_, Or.inl H.out.inK, ?_, ⟨side, hs.bl rfl⟩, ⟨H.out.good.kv, H.out.good.n⟩⟩, hk7.weaken (fun k _ e => H.out.inF k e)⟩
  · rcases e with e | e
    · exact H.out.notG e
    · have := H.out.blk.lt; omega
  · rcases e with e | e
    · exact Or.inl (H.out.inF k e)
    · exact Or.inr e
  · unfold BM.fuse
    simp only
    rw [← H.out.pw]
    rfl
theorem BStart_any (w : World) (F : Nat → Prop) (K : Nat) (p : PrmV) (m : BM) (h : KbIs w F K p m) (hwr : m.pw.writes ≤ 4611686018400000000) :
    Calls Try.prog 20 #[.pointer (some ⟨K, 0, none⟩)] w fun e w' => e = .returned (.tuple #[]) ∧ (∃ M, Started m M ∧ KbIs w' (Grown F w) K p M) ∧ Keeps F w w' := by
  obtain ⟨S, G, s, h⟩ := h
  obtain ⟨side, hs⟩ := h.disk
  have c5 : w.cell? ⟨K, 5, none⟩ = some (.pointer (some ⟨S, 0, none⟩)) := (h.blk.cell 5).trans rfl
  have H := Lib.hid h; have HS := Lib.hid hs; have HW := Lib.hid hwr
  clear h hs hwr
  go_enter Try.func20, Try.ntmps20
  go_upto_region 2 with (go_at_call 41; refine (Start_any w G S 512 s side m.kept H.out.slot HS.out (by rw [show s.writes = s.pw.writes from rfl, H.out.pw]; have := HW.out; omega)).mono ?_; rintro e w7 ⟨rfl, ⟨s', h7, hcl⟩, hk7⟩)
  have hb7 := H.out.blk.keeps hk7 H.out.notG
  have c6 : w7.cell? ⟨K, 6, none⟩ = some (.bool m.off) := (hb7.cell 6).trans rfl
  have f6 := hb7.frozen 6
  have H7 := Lib.hid h7; have HCL := Lib.hid hcl; have HK7 := Lib.hid hk7; have HB7 := Lib.hid hb7
  clear h7 hcl hk7 hb7
  go_wp2
  go_end0
  have hk := keeps_set w7 K 6 (.bool false)
  have hcl := HCL.out
  have hnK : ∀ k, Grown G w k → k ≠ K := fun k e e2 => by
    rcases e with e | e
    · exact H.out.notG (e2 ▸ e)
    · have := H.out.blk.lt; omega
  refine ⟨rfl, ⟨⟨s'.pw, false, m.kept, m.v⟩, ⟨rfl, rfl, rfl, hcl.fuse, hcl.down, ?_⟩, S, Grown G w, s', HB7.out.set_ 6 _, H7.out.keeps hk (fun k e e2 => hnK k e e2), fun e => hnK K e rfl, fun k e => ?_, Or.inl H.out.inK, rfl, ⟨side, (started HS.out hcl).1⟩, ⟨H.out.good.kv, H.out.good.n⟩⟩, (HK7.out.weaken (F' := F) (fun k _ e => H.out.inF k e)).trans hk (fun i _ e => by rw [e]; exact H.out.inK)⟩
  · rw [← H.out.pw]; exact hcl.writes
  · rcases e with e | e
    · exact Or.inl (H.out.inF k e)
    · exact Or.inr e
end Go.Proofs.Ytlabebapjhhkaaa
