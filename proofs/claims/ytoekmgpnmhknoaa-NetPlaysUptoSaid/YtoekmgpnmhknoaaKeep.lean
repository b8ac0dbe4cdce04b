/- What a call leaves alone; slices.Clone. No conditions but sizes. -/
import Derived.Test.YtoekmgpnmhknoaaBytes
import Derived.Test.YtoekmgpnmhknoaaAny
import Derived.Laws.MakeOwn
import Derived.Laws.OwnMore
namespace Go.Proofs.Ytoekmgpnmhknoaa
open Go.RowKit
/-- Only blocks of F may be other than they were. -/
structure Keeps (F : Nat → Prop) (w w' : World) : Prop where
  os : w'.os = w.os
  tape : w'.tape = w.tape
  output : w'.output = w.output
  size : w.heap.size ≤ w'.heap.size
  block : ∀ k, k < w.heap.size → ¬ F k → w'.heap[k]? = w.heap[k]?
section
variable {F F' : Nat → Prop} {a b c w w' : World} {B : Nat}
theorem Keeps.refl (F : Nat → Prop) (w : World) : Keeps F w w := ⟨rfl, rfl, rfl, Nat.le_refl _, fun _ _ _ => rfl⟩
theorem Keeps.trans (h : Keeps F a b) (k : Keeps F' b c) (hF : ∀ i, i < a.heap.size → F' i → F i) : Keeps F a c :=
  ⟨k.os.trans h.os, k.tape.trans h.tape, k.output.trans h.output, Nat.le_trans h.size k.size, fun i hi hn => (k.block i (Nat.lt_of_lt_of_le hi h.size) (fun e => hn (hF i hi e))).trans (h.block i hi hn)⟩
theorem Keeps.weaken (h : Keeps F a b) (hF : ∀ i, i < a.heap.size → F i → F' i) : Keeps F' a b :=
  ⟨h.os, h.tape, h.output, h.size, fun i hi hn => h.block i hi (fun e => hn (hF i hi e))⟩
theorem Keeps.of_below (h : Below w.heap.size w w') : Keeps F w w' := ⟨h.os, h.tape, h.output, h.size, fun k hk _ => h.block k hk⟩
theorem Keeps.below (h : Keeps F w w') (hF : ∀ i, F i → B ≤ i) (hB : B ≤ w.heap.size) : Below B w w' :=
  ⟨h.os, h.tape, h.output, h.size, fun k hk => h.block k (by omega) (fun e => by have := hF k e; omega)⟩
theorem Keeps.drew (h : Keeps F a b) : Keeps F a b.drew := ⟨h.os, h.tape, h.output, h.size, h.block⟩
theorem Keeps.alloc (h : Keeps F a b) (o : Obj) : Keeps F a (b.alloc o) := h.trans (Keeps.of_below (F := F) ((Below.refl _ _).alloc (Nat.le_refl _) o)) (fun _ _ e => e)
theorem Keeps.setCell (h : Keeps F a b) {p : Addr} (hp : F p.block) (u : Value) : Keeps F a (b.setCell p u) :=
  ⟨h.os, h.tape, h.output, by simp only [World.setCell, Array.size_modify]; exact h.size, fun k hk hn => (Below.heap_setCell _ _ _ _ (fun e => hn (by rw [e]; exact hp))).trans (h.block k hk hn)⟩
theorem Keeps.grown (h : Keeps F a b) {row : Option Nat} (hg : b.grownBy c row) (hr : ∀ k, row = some k → a.heap.size ≤ k ∨ F k) : Keeps F a c :=
  ⟨hg.os.trans h.os, hg.tape.trans h.tape, hg.output.trans h.output, Nat.le_trans h.size hg.size, fun i hi hn => (hg.block i (Nat.lt_of_lt_of_le hi h.size) (fun e => by rcases hr i e.symm with h1 | h1; omega; exact hn h1)).trans (h.block i hi hn)⟩
theorem Blk.keeps {g : Nat} {t : TypeId} {cs : Array Value} (h : Blk w g t cs) (hk : Keeps F w w') (hg : ¬ F g) : Blk w' g t cs := (hk.block g h.lt hg).trans h
theorem row_keeps {base size n : Nat} {e : TypeId} {v : Value} {xs : List Value} (h : w.ownsRow base e size v n xs) (hk : Keeps F w w') (hn : ∀ k, v.ownBlock = some k → ¬ F k) : w'.ownsRow base e size v n xs := by
  rcases h.2 with h2 | ⟨g, cap, cur, e1, hg, hh, r⟩
  · exact ⟨h.1, Or.inl h2⟩
  · subst e1
    exact ⟨h.1, Or.inr ⟨g, cap, cur, rfl, hg, (hk.block g (lt_of_block hh) (hn g rfl)).trans hh, r⟩⟩
theorem Own.keeps {base : Nat} {v : Value} {l : List UInt8} (h : Own w base v l) (hk : Keeps F w w') (hn : ∀ k, v.ownBlock = some k → ¬ F k) : Own w' base v l := row_keeps h hk hn
end
/-- What a call of an object may touch, at most: what is old of F, and all that is new. -/
def Grown (F : Nat → Prop) (w : World) (k : Nat) : Prop := F k ∨ w.heap.size ≤ k
/-- A cell that holds no byte is set: bytes read as they did. -/
theorem rd_cell {w : World} {B n : Nat} {A : Option Addr} {l : List UInt8} (h : Rd w B A n l) (p : Addr) (x : Value) {u : Value} (hp : w.cell? p = some u) (hu : ∀ k : Int, u ≠ .int .u8 k) : Rd (w.setCell p x) B A n l := by
  refine ⟨h.1, fun hn => ?_⟩
  obtain ⟨ad, e, hb, hc⟩ := h.2 hn
  refine ⟨ad, e, hb, fun j y hy => ?_⟩
  have h1 := hc j y hy
  rw [World.cell?_setCell_other w p _ x (fun e => ?_)]
  · exact h1
  · rw [← e, hp] at h1
    rw [List.getElem?_map] at hy
    cases hz : l[j]? with
    | none => rw [hz] at hy; cases hy
    | some z =>
      rw [hz] at hy
      injection hy with hy
      injection h1 with h1
      exact hu z.toNat (by rw [h1, ← hy]; rfl)
theorem run_nil_slice (W : World) (c : Nat) : Sem.run Try.prog (binOp .eql 29 (.slice none 0 c) (.slice none 0 0)) W = .ok (.bool true) W := by kernel_rfl
theorem run_some_slice (W : World) (ad : Addr) (n c : Nat) : Sem.run Try.prog (binOp .eql 29 (.slice (some ad) n c) (.slice none 0 0)) W = .ok (.bool false) W := by kernel_rfl
/-- slices.Clone of bytes. -/
theorem Clone_any (A : Option Addr) (n c : Nat) (w : World) (l : List UInt8) (hn : n ≤ 140737488355328) (hr : Rd w w.heap.size A n l) :
    Calls Try.prog 41 #[.slice A n c] w fun e w' => ∃ v, e = .returned v ∧ Own w' w.heap.size v l ∧ Below w.heap.size w w' := by
  rcases A with _ | ad
  · have hl := hr.len
    have h0 : n = 0 := by
      rcases Nat.eq_zero_or_pos n with h | h
      · exact h
      · obtain ⟨ad, e, _⟩ := hr.2 h
        cases e
    have hl0 : l = [] := List.eq_nil_of_length_eq_zero (by omega)
    subst h0 hl0
    clear hr hl hn
    have he := run_nil_slice w c
    go_enter Try.func41, Try.ntmps41
    go_wp2
    go_ret
    exact ⟨_, rfl, Own.nil_ _ _, Below.refl _ _⟩
  · have he := run_some_slice w ad n c
    go_enter Try.func41, Try.ntmps41
    go_wp2_with (at_builtin; refine app_bytes rfl (.tmp 5) (.tmp 6) rfl w.heap.size (.slice (some ⟨w.heap.size, 0, none⟩) 0 0) [] rfl (Own.new_ w w.heap.size (Nat.le_refl _) [] (by simp) _ rfl) w.heap.size (some ad) n c l rfl (hr.alloc (Nat.le_refl _) _) (by simp only [List.length_nil]; omega) (by simp) ?_; intro v1 w1 hown1 hg1 hat1)
    have hb1 := below_app ((Below.refl w.heap.size w).alloc (Nat.le_refl _) _) (Own.new_ w w.heap.size (Nat.le_refl _) [] (by simp) _ rfl) (by simp) hg1
    go_ret
    exact ⟨_, rfl, hown1, hb1⟩
end Go.Proofs.Ytoekmgpnmhknoaa
