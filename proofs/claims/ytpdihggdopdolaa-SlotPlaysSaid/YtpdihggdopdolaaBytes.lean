/- Bytes in memory: what is owned, what is read, what an append leaves. No conditions but sizes. -/
import Derived.Test.YtpdihggdopdolaaProg
import Derived.Test.YtpdihggdopdolaaBase
namespace Go.Proofs.Ytpdihggdopdolaa
open Go.RowKit
theorem u8_info : (Try.prog.info? 5).map (fun i => (i.zero, i.size, i.bytes)) = some (some (.int .u8 0), 1, 1) := by kernel_rfl
/-- A row of bytes of the call's own. -/
def Own (w : World) (base : Nat) (v : Value) (l : List UInt8) : Prop := w.ownsRow base 5 1 v l.length (l.map B8)
/-- A slice of bytes that is read. -/
def Rd (w : World) (B : Nat) (A : Option Addr) (n : Nat) (l : List UInt8) : Prop := Reads w B 1 A n (l.map B8)
section
variable {w w' : World} {base B n : Nat} {v : Value} {l : List UInt8} {A : Option Addr}
theorem Rd.len (h : Rd w B A n l) : n = l.length := by have := h.1; simp at this; exact this.symm
theorem Rd.below (h : Rd w B A n l) (hb : Below B w w') : Rd w' B A n l := Reads.below h hb
theorem Rd.drew (h : Rd w B A n l) : Rd w.drew B A n l := h
theorem Rd.more {B' : Nat} (h : Rd w B A n l) (hB : B ≤ B') : Rd w B' A n l := Reads.more h hB
theorem Rd.alloc (h : Rd w B A n l) (hB : B ≤ w.heap.size) (o : Obj) : Rd (w.alloc o) B A n l := Reads.alloc h hB o
theorem Rd.setCell (h : Rd w B A n l) {p : Addr} (hB : B ≤ p.block) (u : Value) : Rd (w.setCell p u) B A n l := Reads.setCell h hB u
theorem Rd.nil_ : Rd w B A 0 [] := ⟨by simp, fun h => absurd h (by omega)⟩
theorem Rd.at_ {k : Nat} (h : Rd w B A n l) (hk : k < n) : ∃ ad, A = some ad ∧ ad.block < B ∧ w.cell? (ad.add k) = some (.int .u8 (l.getD k 0).toNat) := by
  have hl := h.len
  obtain ⟨ad, u, rfl, hb, hx, hc⟩ := Reads.at_ h hk
  refine ⟨ad, rfl, hb, hc.trans ?_⟩
  rw [List.getElem?_map, List.getElem?_eq_getElem (by omega)] at hx
  simp only [Option.map_some, Option.some.injEq] at hx
  rw [← hx, List.getD_eq_getElem?_getD, List.getElem?_eq_getElem (by omega)]
  rfl
theorem Own.nil_ (w : World) (base : Nat) : Own w base (.slice none 0 0) [] := World.ownsRow_nil _ _ _ _
theorem Own.rd {c : Nat} (h : Own w base (.slice A n c) l) : Rd w w.heap.size A n l := by
  have h' : w.ownsRow base 5 1 (.slice A n c) l.length (l.map B8) := h
  have hn : n = l.length := by
    rcases h'.2 with ⟨e, e2⟩ | ⟨g, cap, cur, e, _⟩
    · injection e with _ e3 _
      rw [e3, e2]
    · injection e with _ e3 _
  subst hn
  exact Reads.of_own h'
theorem Own.shape (h : Own w base v l) : ∃ A c, v = .slice A l.length c := by
  rcases h.2 with ⟨rfl, e⟩ | ⟨g, cap, cur, rfl, _⟩
  · rw [e]; exact ⟨none, 0, rfl⟩
  · exact ⟨_, cap, rfl⟩
/-- A row that is not empty: its block. -/
theorem Own.blk (h : Own w base v l) (hl : 0 < l.length) : ∃ g c cur, v = .slice (some ⟨g, 0, none⟩) l.length c ∧ base ≤ g ∧ Blk w g 5 cur ∧ l.length ≤ c ∧ ∀ j, j < l.length → cur[j]? = some (.int .u8 (l.getD j 0).toNat) := by
  rcases h.2 with ⟨rfl, e⟩ | ⟨g, cap, cur, rfl, hb, hh, hle, hm, hsz, ht⟩
  · omega
  · refine ⟨g, cap, cur, rfl, hb, hh, hle, fun j hj => ?_⟩
    have h1 : (cur.toList.take (l.length * 1))[j]? = (l.map B8)[j]? := by rw [ht]
    rw [List.getElem?_take, if_pos (by omega), List.getElem?_map, List.getElem?_eq_getElem hj] at h1
    rw [← Array.getElem?_toList, h1, List.getD_eq_getElem?_getD, List.getElem?_eq_getElem hj]
    rfl
theorem Own.kept (h : Own w base v l) {row : Option Nat} (hg : w.grownBy w' row) (hne : v.ownBlock = none ∨ v.ownBlock ≠ row) : Own w' base v l := World.ownsRow.kept h hg hne
theorem Own.below (h : Own w base v l) (hb : Below w.heap.size w w') : Own w' base v l :=
  h.kept (row := none) ⟨hb.os, hb.tape, hb.output, hb.size, fun i hi _ => hb.block i hi⟩ (by cases v.ownBlock <;> simp)
theorem Own.lt (h : Own w base v l) (k : Nat) (hk : v.ownBlock = some k) : base ≤ k ∧ k < w.heap.size := by
  rcases h.2 with ⟨rfl, _⟩ | ⟨g, cap, cur, rfl, hb, hh, _⟩
  · simp [Value.ownBlock] at hk
  · have : g = k := by simpa [Value.ownBlock] using hk
    subst this
    exact ⟨hb, (Array.getElem?_eq_some_iff.1 hh).1⟩
theorem below_app {w0 : World} (h : Below base w0 w) (hown : Own w base v l) (hB : base ≤ w.heap.size) (hg : w.grownBy w' v.ownBlock) : Below base w0 w' := h.grown hg hB fun k hk => (hown.lt k hk).1
theorem Own.mono {b : Nat} (h : Own w base v l) (hb : b ≤ base) : Own w b v l := by
  refine ⟨h.1, ?_⟩
  rcases h.2 with h2 | ⟨g, cap, cur, e, hg, r⟩
  · exact Or.inl h2
  · exact Or.inr ⟨g, cap, cur, e, by omega, r⟩
theorem Own.alloc (h : Own w base v l) (o : Obj) : Own (w.alloc o) base v l := World.ownsRow.alloc h o
theorem Own.drew (h : Own w base v l) : Own w.drew base v l := World.ownsRow.drew h
/-- A new block of bytes. -/
theorem Own.new_ (w : World) (base : Nat) (hb : base ≤ w.heap.size) (l : List UInt8) (hl : l.length ≤ 9223372036854775807) (cs : Array Value) (hcs : cs = (l.map B8).toArray) :
    Own (w.alloc (.cells cs 5)) base (.slice (some ⟨w.heap.size, 0, none⟩) l.length l.length) l := by
  subst hcs
  refine ⟨by simp, Or.inr ⟨w.heap.size, l.length, (l.map B8).toArray, rfl, hb, heap_alloc_new w _, ?_, ?_, ?_⟩⟩
  · simp
  · simp [maxLen]; omega
  · simp [List.take_of_length_le]
theorem Rd.new_ (w : World) (l : List UInt8) (cs : Array Value) (hcs : cs = (l.map B8).toArray) (n : Nat) (hn : n = l.length) : Rd (w.alloc (.cells cs 5)) (w.heap.size + 1) (some ⟨w.heap.size, 0, none⟩) n l := by
  subst hcs; subst hn
  refine ⟨by simp, fun _ => ⟨_, rfl, by simp, fun j u hu => ?_⟩⟩
  have ha : (⟨w.heap.size, 0, none⟩ : Addr).add j = ⟨w.heap.size, j, none⟩ := by unfold Addr.add; split <;> simp_all
  rw [ha, cell_of_row _ _ _ _ _ _ (heap_alloc_new w _)]
  simpa using hu
end
section
variable {ops : Array Oper} {rest : List Oper} {o : Oper} {a : Act} {Q : Exit → Act → World → Prop} {w : World}
/-- append(s, x...), s of the call's own, x whatever is read. -/
theorem app_bytes (hgd : o.guard = none) (s x : Operand) (ho : o.op = .call { callee := .builtin .append, args := #[s, x], argTypes := #[22, 22] })
    (base : Nat) (v : Value) (l1 : List UInt8) (hs : a.eval s = v) (hown : Own w base v l1) (B : Nat) (A : Option Addr) (m c : Nat) (l2 : List UInt8) (hx : a.eval x = .slice A m c) (hr : Rd w B A m l2)
    (hl : l1.length + m ≤ 140737488355328) (hbase : base ≤ w.heap.size)
    (h : ∀ v' w', Own w' base v' (l1 ++ l2) → w.grownBy w' v.ownBlock → (v'.ownBlock = v.ownBlock ∨ v'.ownBlock = some w.heap.size) → wpList Try.prog ops Q rest (a.put o.dst v') w') : wpList Try.prog ops Q (o :: rest) a w := by
  obtain ⟨i0, hi0, hz0, hz1, hz2⟩ := info_parts u8_info
  refine wpList_append_any w hgd s x _ ho base 5 i0 _ 1 1 Try.underlying22 hi0 hz0 hz1 hz2 rfl (by omega) v l1.length (l1.map B8) hs hown B A m c (l2.map B8) hx hr (B8_one l2) (by simp only [maxLen]; omega) (by omega) hbase ?_
  intro v' w' h1 h2 h3
  refine h v' w' ?_ h2 h3
  have := hr.len
  unfold Own
  rw [List.length_append, List.map_append, ← this]
  exact h1
end
end Go.Proofs.Ytpdihggdopdolaa
