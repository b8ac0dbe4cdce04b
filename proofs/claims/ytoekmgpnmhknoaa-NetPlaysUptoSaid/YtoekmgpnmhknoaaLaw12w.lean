/- The plain law of WordWrites: what is put is read again. No conditions. -/
import Derived.Test.YtoekmgpnmhknoaaWord2
namespace Go.Proofs.Ytoekmgpnmhknoaa
/-- A part: a number, or, if there are any, bytes. -/
abbrev PartV := Int × List UInt8
def putP (s : WS) (p : PartV) : WS := if 0 < p.2.length then s.bytes p.2 else s.int p.1
def encP (p : PartV) : List UInt8 := if 0 < p.2.length then b2 p.2.length ++ p.2 else b4 (p.1 + 2).toNat
def okP (p : PartV) : Prop := if 0 < p.2.length then p.2.length ≤ 65535 else (-2 ≤ p.1 ∧ p.1 ≤ 2147483645)
theorem putP_bad (s : WS) (p : PartV) (h : s.bad = true) : (putP s p).bad = true := by
  unfold putP WS.bytes WS.int
  split <;> split <;> simp [h]
theorem putP_ok (s : WS) (p : PartV) (h : (putP s p).bad = false) : okP p ∧ s.bad = false ∧ (putP s p).out = s.out ++ encP p := by
  have hb : s.bad = false := by
    cases hs : s.bad
    · rfl
    · rw [putP_bad s p hs] at h; cases h
  unfold putP WS.bytes WS.int at h
  unfold okP encP putP WS.bytes WS.int
  by_cases h1 : 0 < p.2.length
  · simp only [h1, if_true] at h ⊢
    by_cases h2 : p.2.length ≤ 65535
    · simp only [h2, if_true] at h ⊢
      exact ⟨trivial, hb, trivial⟩
    · simp only [h2, if_false] at h
      cases h
  · simp only [h1, if_false] at h ⊢
    by_cases h2 : -2 ≤ p.1 ∧ p.1 ≤ 2147483645
    · rw [if_pos h2] at h ⊢
      exact ⟨h2, hb, rfl⟩
    · rw [if_neg h2] at h
      cases h
theorem fold_ok (ps : List PartV) : ∀ (s : WS), (ps.foldl putP s).bad = false → s.bad = false ∧ (∀ p ∈ ps, okP p) ∧ (ps.foldl putP s).out = s.out ++ ps.flatMap encP := by
  induction ps with
  | nil => intro s h; exact ⟨h, by simp, by simp⟩
  | cons p ps ih =>
    intro s h
    rw [List.foldl_cons] at h ⊢
    obtain ⟨h1, h2, h3⟩ := ih _ h
    obtain ⟨h4, h5, h6⟩ := putP_ok s p h1
    refine ⟨h5, ?_, ?_⟩
    · intro q hq
      rcases List.mem_cons.1 hq with rfl | hq
      · exact h4
      · exact h2 q hq
    · rw [h3, h6, List.flatMap_cons, List.append_assoc]
theorem encP_pos (p : PartV) : 0 < (encP p).length := by
  unfold encP
  split
  · simp [b2]
  · exact Nat.lt_of_lt_of_eq (by decide : 0 < 4) rfl
theorem b2_read (k : Nat) (hk : k ≤ 65535) : ((UInt8.ofNat (k / 256)).toNat * 256 + (UInt8.ofNat k).toNat) = k := by
  simp only [UInt8.toNat_ofNat']
  omega
theorem bytes_enc (p : PartV) (rest : List UInt8) (h1 : 0 < p.2.length) (h : okP p) : ({ left := encP p ++ rest, bad := false } : RS).bytes = (p.2, { left := rest, bad := false }) := by
  unfold okP at h
  rw [if_pos h1] at h
  have he : encP p ++ rest = UInt8.ofNat (p.2.length / 256) :: UInt8.ofNat p.2.length :: (p.2 ++ rest) := by
    unfold encP
    rw [if_pos h1]
    rfl
  unfold RS.bytes
  rw [he]
  simp only [List.length_cons, List.getD_cons_zero, List.getD_cons_succ, b2_read _ h, List.length_append, List.drop_succ_cons, List.drop_zero]
  rw [if_pos ⟨trivial, by omega⟩, if_pos (by omega)]
  simp
theorem int_enc (p : PartV) (rest : List UInt8) (h1 : ¬ 0 < p.2.length) (h : okP p) : ({ left := encP p ++ rest, bad := false } : RS).int = (p.1, { left := rest, bad := false }) := by
  unfold okP at h
  rw [if_neg h1] at h
  obtain ⟨m, hm⟩ : ∃ m : Nat, p.1 = (m : Int) - 2 := ⟨(p.1 + 2).toNat, by omega⟩
  have hm2 : m ≤ 2147483647 := by omega
  have he : encP p ++ rest = UInt8.ofNat (m / 16777216) :: UInt8.ofNat (m / 65536) :: UInt8.ofNat (m / 256) :: UInt8.ofNat m :: rest := by
    unfold encP
    rw [if_neg h1, show (p.1 + 2).toNat = m by omega]
    rfl
  unfold RS.int i4
  rw [he]
  simp only [List.length_cons, List.getD_cons_zero, List.getD_cons_succ, List.drop_succ_cons, List.drop_zero, UInt8.toNat_ofNat']
  rw [if_pos ⟨trivial, by omega⟩, if_pos (by omega)]
  simp only [Prod.mk.injEq, and_true]
  omega
end Go.Proofs.Ytoekmgpnmhknoaa
