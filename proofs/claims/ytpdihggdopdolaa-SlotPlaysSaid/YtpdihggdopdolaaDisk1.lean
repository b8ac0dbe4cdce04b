/- The walks of the disk's small calls. Conditions: the disk is one. -/
import Derived.Test.YtpdihggdopdolaaDisk0
namespace Go.Proofs.Ytpdihggdopdolaa
open Go.RowKit
/-- Is there such a block? -/
def DS.has (s : DS) (n : Int) : Bool := decide (0 ≤ n ∧ n < s.bl.length)
section
variable {D : Nat} {gs : List (Nat × Nat)} {r : Value} {s : DS} (w : World)
theorem there_any (n : Int) (h : DiskAt w D gs r s) :
    Calls Try.prog 36 #[.pointer (some ⟨D, 0, none⟩), .int .i64 n] w fun e w' => e = .returned (.bool (s.has n)) ∧ w' = w := by
  have c0 := h.c0
  obtain ⟨A, c, rfl⟩ := h.shape
  clear h
  unfold DS.has
  generalize s.bl.length = m at *
  by_cases h1 : 0 ≤ n
  · by_cases h2 : n < (m : Int)
    · have hd : decide (0 ≤ n ∧ n < (m : Int)) = true := by simp [h1, h2]
      rw [hd]
      go_enter Try.func36, Try.ntmps36
      go_wp2
      go_ret
      exact ⟨rfl, rfl⟩
    · have hd : decide (0 ≤ n ∧ n < (m : Int)) = false := by simp [h2]
      rw [hd]
      go_enter Try.func36, Try.ntmps36
      go_wp2
      go_ret
      exact ⟨rfl, rfl⟩
  · have hd : decide (0 ≤ n ∧ n < (m : Int)) = false := by simp [h1]
    rw [hd]
    go_enter Try.func36, Try.ntmps36
    go_wp2
    go_ret
    exact ⟨rfl, rfl⟩
theorem Len_any (h : DiskAt w D gs r s) :
    Calls Try.prog 20 #[.pointer (some ⟨D, 0, none⟩)] w fun e w' => e = .returned (.int .i64 s.bl.length) ∧ w' = w := by
  have c0 := h.c0
  obtain ⟨A, c, rfl⟩ := h.shape
  clear h
  go_enter Try.func20, Try.ntmps20
  go_wp2
  go_ret
  exact ⟨rfl, rfl⟩
theorem Down_any (h : DiskAt w D gs r s) :
    Calls Try.prog 17 #[.pointer (some ⟨D, 0, none⟩)] w fun e w' => e = .returned (.bool s.down) ∧ w' = w := by
  have c2 := h.c2
  clear h
  go_enter Try.func17, Try.ntmps17
  go_wp2
  go_ret
  exact ⟨rfl, rfl⟩
theorem Writes_any (h : DiskAt w D gs r s) :
    Calls Try.prog 18 #[.pointer (some ⟨D, 0, none⟩)] w fun e w' => e = .returned (.int .i64 s.writes) ∧ w' = w := by
  have c3 := h.c3
  clear h
  go_enter Try.func18, Try.ntmps18
  go_wp2
  go_ret
  exact ⟨rfl, rfl⟩
end
theorem DiskIs.lt {w : World} {F : Nat → Prop} {D : Nat} {s : DS} (h : DiskIs w F D s) : D < w.heap.size := by
  obtain ⟨gs, r, h1, h2⟩ := h
  exact h1.cells.lt
/-- One of the four cells is set. -/
theorem DiskAt.set_ {w : World} {D : Nat} {gs : List (Nat × Nat)} {r : Value} {s s' : DS} (h : DiskAt w D gs r s) (i : Nat) (u : Value) (hc : (DCells r s).setIfInBounds i u = DCells r s') (hb : s'.bl = s.bl) (hf : s'.fuse ≤ 9223372036854775807) (hf2 : -1 ≤ s'.fuse) (hne : ∀ k, (r.ownBlock = some k ∨ ∃ p ∈ gs, p.1 = k) → k ≠ D) :
    DiskAt (w.setCell ⟨D, i, none⟩ u) D gs r s' := by
  have hk : Keeps (fun k => k = D) w (w.setCell ⟨D, i, none⟩ u) := (Keeps.refl (fun k => k = D) w).setCell (p := ⟨D, i, none⟩) rfl u
  exact ⟨by have := h.cells.set_ i u; rw [hc] at this; exact this, row_keeps h.row hk (fun k e => hne k (Or.inl e)), by rw [hb]; exact h.len, h.nodup,
    fun j p l hp hl => by rw [hb] at hl; exact ⟨(h.each j p l hp hl).1, (h.each j p l hp hl).2.keeps hk (fun k e => hne k (Or.inr ⟨p, List.mem_of_getElem? hp, by simpa [slotV, Value.ownBlock] using e⟩))⟩, by rw [hb]; exact h.small, hf, hf2⟩
/-- The disk's own cells are no row and no block. -/
theorem DiskAt.apart {w : World} {D : Nat} {gs : List (Nat × Nat)} {r : Value} {s : DS} (h : DiskAt w D gs r s) : ∀ k, (r.ownBlock = some k ∨ ∃ p ∈ gs, p.1 = k) → k ≠ D := by
  rintro k (hk | ⟨p, hp, rfl⟩) rfl
  · rcases h.row.2 with ⟨rfl, e⟩ | ⟨R, c, cur, rfl, _, hR, _⟩
    · cases hk
    · simp only [Value.ownBlock, Option.some.injEq] at hk
      subst hk
      exact Blk.ne_ h.cells hR (by decide) rfl
  · obtain ⟨i, hi, rfl⟩ := List.getElem_of_mem hp
    have h1 : gs[i]? = some gs[i] := List.getElem?_eq_getElem hi
    have h2 : s.bl[i]? = some (s.bl[i]'(by rw [← h.len]; exact hi)) := List.getElem?_eq_getElem _
    have h3 := h.each i _ _ h1 h2
    obtain ⟨g, c, cur, e1, _, hB, _⟩ := h3.2.blk (by omega)
    injection e1 with e1 _ _
    simp only [Option.some.injEq, Addr.mk.injEq, and_true] at e1
    rw [← e1] at hB
    exact Blk.ne_ h.cells hB (by decide) rfl
theorem DiskAt.set_is {w : World} {D : Nat} {gs : List (Nat × Nat)} {r : Value} {s s' : DS} {F : Nat → Prop} (h : DiskAt w D gs r s) (h2 : ∀ k, Foot D gs r k → F k) (i : Nat) (u : Value) (hc : (DCells r s).setIfInBounds i u = DCells r s') (hb : s'.bl = s.bl) (hf : s'.fuse ≤ 9223372036854775807) (hf2 : -1 ≤ s'.fuse) :
    DiskIs (w.setCell ⟨D, i, none⟩ u) F D s' ∧ Keeps F w (w.setCell ⟨D, i, none⟩ u) :=
  ⟨⟨gs, r, h.set_ i u hc hb hf hf2 h.apart, h2⟩, (Keeps.refl F w).setCell (p := ⟨D, i, none⟩) (h2 D (Or.inl rfl)) u⟩
theorem Fuse_any (w : World) (F : Nat → Prop) (D : Nat) (s : DS) (n : Int) (hn : n ≤ 9223372036854775807) (h : DiskIs w F D s) :
    Calls Try.prog 16 #[.pointer (some ⟨D, 0, none⟩), .int .i64 n] w fun e w' => e = .returned (.tuple #[]) ∧ DiskIs w' F D { s with fuse := max n 0 } ∧ Keeps F w w' := by
  obtain ⟨gs, r, h1, h2⟩ := h
  have c1 := h1.c1
  have f1 := h1.fz 1
  by_cases h0 : n < 0
  · have key := h1.set_is h2 1 (.int .i64 0) (s' := { s with fuse := max n 0 }) (by rw [show max n 0 = 0 by omega]; rfl) rfl (by show max n 0 ≤ _; omega) (by show _ ≤ max n 0; omega)
    have K := Lib.hid key
    clear h1 key
    go_enter Try.func16, Try.ntmps16
    go_wp2
    go_end0
    exact ⟨rfl, K.out⟩
  · have key := h1.set_is h2 1 (.int .i64 n) (s' := { s with fuse := max n 0 }) (by rw [show max n 0 = n by omega]; rfl) rfl (by show max n 0 ≤ _; omega) (by show _ ≤ max n 0; omega)
    have K := Lib.hid key
    clear h1 key
    go_enter Try.func16, Try.ntmps16
    go_wp2
    go_end0
    exact ⟨rfl, K.out⟩
theorem On_any (w : World) (F : Nat → Prop) (D : Nat) (s : DS) (h : DiskIs w F D s) :
    Calls Try.prog 23 #[.pointer (some ⟨D, 0, none⟩)] w fun e w' => e = .returned (.tuple #[]) ∧ DiskIs w' F D { s with fuse := -1, down := false } ∧ Keeps F w w' := by
  obtain ⟨gs, r, h1, h2⟩ := h
  have c1 := h1.c1
  have f1 := h1.fz 1
  have c2 := h1.c2
  have f2 := h1.fz 2
  have key := h1.set_is h2 1 (.int .i64 (-1)) (s' := { s with fuse := -1 }) rfl rfl (by show (-1 : Int) ≤ _; omega) (by show _ ≤ (-1 : Int); omega)
  have key2 : DiskIs ((w.setCell ⟨D, 1, none⟩ (.int .i64 (-1))).setCell ⟨D, 2, none⟩ (.bool false)) F D { s with fuse := -1, down := false } ∧ Keeps F w ((w.setCell ⟨D, 1, none⟩ (.int .i64 (-1))).setCell ⟨D, 2, none⟩ (.bool false)) := by
    obtain ⟨⟨gs', r', h3, h4⟩, h5⟩ := key
    have h6 := h3.set_is h4 2 (.bool false) (s' := { s with fuse := -1, down := false }) rfl rfl (by show (-1 : Int) ≤ _; omega) (by show _ ≤ (-1 : Int); omega)
    exact ⟨h6.1, h5.trans h6.2 (fun _ _ e => e)⟩
  have K := Lib.hid key2
  clear h1 key key2
  go_enter Try.func23, Try.ntmps23
  go_wp2
  go_end0
  exact ⟨rfl, K.out⟩
theorem run_nil_slice (W : World) (c : Nat) : Sem.run Try.prog (binOp .eql 22 (.slice none 0 c) (.slice none 0 0)) W = .ok (.bool true) W := by kernel_rfl
theorem run_some_slice (W : World) (ad : Addr) (n c : Nat) : Sem.run Try.prog (binOp .eql 22 (.slice (some ad) n c) (.slice none 0 0)) W = .ok (.bool false) W := by kernel_rfl
/-- slices.Clone of bytes. -/
theorem Clone_any (A : Option Addr) (n c : Nat) (w : World) (l : List UInt8) (hn : n ≤ 140737488355328) (hr : Rd w w.heap.size A n l) :
    Calls Try.prog 37 #[.slice A n c] w fun e w' => ∃ v, e = .returned v ∧ Own w' w.heap.size v l ∧ Below w.heap.size w w' := by
  rcases A with _ | ad
  · have hl := hr.len
    have h0 : n = 0 := by
      rcases Nat.eq_zero_or_pos n with h | h
      · exact h
      · obtain ⟨ad, e, _⟩ := hr.2 h
        cases e
    have hl0 : l = [] := List.eq_nil_of_length_eq_zero (by omega)
    subst h0 hl0
    clear hr hl hn
    have he := run_nil_slice w c
    go_enter Try.func37, Try.ntmps37
    go_wp2
    go_ret
    exact ⟨_, rfl, Own.nil_ _ _, Below.refl _ _⟩
  · have he := run_some_slice w ad n c
    go_enter Try.func37, Try.ntmps37
    go_wp2_with (at_builtin; refine app_bytes rfl (.tmp 5) (.tmp 6) rfl w.heap.size (.slice (some ⟨w.heap.size, 0, none⟩) 0 0) [] rfl (Own.new_ w w.heap.size (Nat.le_refl _) [] (by simp) _ rfl) w.heap.size (some ad) n c l rfl (hr.alloc (Nat.le_refl _) _) (by simp only [List.length_nil]; omega) (by simp) ?_; intro v1 w1 hown1 hg1 hat1)
    have hb1 := below_app ((Below.refl w.heap.size w).alloc (Nat.le_refl _) _) (Own.new_ w w.heap.size (Nat.le_refl _) [] (by simp) _ rfl) (by simp) hg1
    go_ret
    exact ⟨_, rfl, hown1, hb1⟩
/-- What Read answers. -/
theorem Read_any (w : World) (D : Nat) (gs : List (Nat × Nat)) (r : Value) (s : DS) (n : Int) (h : DiskAt w D gs r s) :
    Calls Try.prog 15 #[.pointer (some ⟨D, 0, none⟩), .int .i64 n] w fun e w' => ∃ v, e = .returned (.tuple #[v, .bool (s.has n)]) ∧ Own w' w.heap.size v (if s.has n then s.bl.getD n.toNat [] else []) ∧ Below w.heap.size w w' := by
  by_cases hn : 0 ≤ n ∧ n < s.bl.length
  · obtain ⟨i, rfl⟩ : ∃ i : Nat, n = i := ⟨n.toNat, by omega⟩
    have hi : i < s.bl.length := by omega
    obtain ⟨R, c, g, d, l, rfl, hg, hl, hlen, hown, hc, hf⟩ := h.slot i hi
    have hhas : s.has i = true := by simp [DS.has, hi]
    have hgl : s.bl.getD (i : Int).toNat [] = l := by rw [Int.toNat_natCast, List.getD_eq_getElem?_getD, hl]; rfl
    have hrd : Rd w w.heap.size (some ⟨g, 0, none⟩) 32 l := by have := hown; unfold slotV at this; exact this.rd
    have c0 := h.c0
    rw [hhas, hgl, if_pos rfl]
    have H := Lib.hid h; have HH := Lib.hid hhas
    clear h hown hl hg hhas hgl hn
    go_enter Try.func15, Try.ntmps15
    go_wp2_with (go_at_call 36; refine (there_any w i H.out).mono ?_; rintro e w1 ⟨rfl, rfl⟩; rw [HH.out])
    refine (Clone_any (some ⟨g, 0, none⟩) 32 d _ l (by omega) hrd).mono ?_
    rintro e w2 ⟨v, rfl, hv, hb⟩
    go_wp2
    go_ret2
    exact ⟨_, rfl, hv, hb⟩
  · have hhas : s.has n = false := by simp only [DS.has, hn, decide_false]
    rw [hhas]
    have H := Lib.hid h; have HH := Lib.hid hhas
    clear h hhas hn
    go_enter Try.func15, Try.ntmps15
    go_wp2_with (go_at_call 36; refine (there_any w n H.out).mono ?_; rintro e w1 ⟨rfl, rfl⟩; rw [HH.out])
    go_ret2
    exact ⟨_, rfl, Own.nil_ _ _, Below.refl _ _⟩
end Go.Proofs.Ytpdihggdopdolaa
