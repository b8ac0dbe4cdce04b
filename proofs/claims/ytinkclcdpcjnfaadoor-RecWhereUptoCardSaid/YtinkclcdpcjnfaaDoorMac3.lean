/- The walk of mac.Mac. Conditions: the table of the constants; the slices take at most the form's own reach. -/
import Derived.Test.YtinkclcdpcjnfaaDoorMac2
import Derived.Test.YtinkclcdpcjnfaaDoorSha4
namespace Go.Proofs.YtinkclcdpcjnfaaDoor
open Go.RowKit
def keyOf (l : List UInt8) : List UInt8 := if 64 < l.length then sha l else l
def mac (l b : List UInt8) : List UInt8 := sha (padk (keyOf l) 0x5c ++ sha (padk (keyOf l) 0x36 ++ b))
attribute [irreducible] keyOf mac
attribute [local irreducible] padk
theorem mac_len (l b : List UInt8) : (mac l b).length = 32 := by unfold mac; exact sha_len _
theorem keyOf_len (l : List UInt8) : (keyOf l).length ≤ 64 := by
  unfold keyOf
  split
  · rw [sha_len]; omega
  · omega
set_option maxRecDepth 100000 in
theorem Mac_any (A : Option Addr) (n c : Nat) (A2 : Option Addr) (n2 c2 : Nat) (w : World) (l b : List UInt8) (hk : Consts w) (hn : n ≤ 140737488355000) (hn2 : n2 ≤ 140737488351232) (hr : Rd w w.heap.size A n l) (hr2 : Rd w w.heap.size A2 n2 b) :
    Calls Tryd.prog 40 #[.slice A n c, .slice A2 n2 c2] w fun e w' => ∃ v, e = .returned v ∧ Own w' w.heap.size v (mac l b) ∧ Below w.heap.size w w' := by
  have hB0 : 0 < w.heap.size := by have := World.block_lt_of_cell? w _ (hk 0 (by omega)); omega
  have HL := Lib.hid hr.len
  have HL2 := Lib.hid hr2.len
  have hmac : mac l b = sha (padk (keyOf l) 0x5c ++ sha (padk (keyOf l) 0x36 ++ b)) := by unfold mac; rfl
  have HM := Lib.hid hmac; clear hmac
  by_cases h64 : 64 < n
  · have hkey : keyOf l = sha l := by unfold keyOf; rw [if_pos (by rw [← HL.out]; exact h64)]
    have hp : (n : Int) > 64 := by omega
    go_enter Tryd.func40, Tryd.ntmps40
    go_wp2_with fail
    refine (Sum_any A n c w l hk (by omega) hr).mono ?_
    rintro e w1 ⟨v1, rfl, hown1, hb1⟩
    obtain ⟨A1, c1, rfl⟩ := hown1.shape
    have hr1 := hown1.rd
    rw [sha_len] at hr1 ⊢
    rw [← hkey] at hr1
    clear hkey hown1
    go_wp2_with fail
    have hm : 32 ≤ 64 := by omega
    have hrk := hr1
    have hbW := hb1
    have hkW : Consts w1 := hk.below hbW hB0
    have hsW := hbW.size
    refine (pad_any A1 32 c1 0x36 w1 (keyOf l) hm hrk).mono ?_
    rintro e wp ⟨vp, rfl, hop, hbp⟩
    obtain ⟨Ap, cp, rfl⟩ := hop.shape
    have hrp := hop.rd
    rw [padk_len] at hrp ⊢
    have hsp := hbp.size
    have hbWp := hbW.trans (hbp.mono hsW)
    go_wp2_with fail
    have hal : Below wp.heap.size wp (wp.alloc (.cells #[.slice Ap 64 cp, .slice A2 n2 c2] 27)) := (Below.refl _ _).alloc (Nat.le_refl _) _
    refine (Concat_any wp.heap.size Ap A2 64 cp n2 c2 (padk (keyOf l) 0x36) b (wp.alloc (.cells #[.slice Ap 64 cp, .slice A2 n2 c2] 27)) (by omega) hn2 (Blk.new wp _ _) ((hrp.below hal).more hal.size) ((hr2.below (hbWp.alloc hbWp.size _)).more (by simp; omega))).mono ?_
    rintro e wc ⟨vc, rfl, hoc, hbc⟩
    obtain ⟨Ac, cc, rfl⟩ := hoc.shape
    have hrc := hoc.rd
    have hlc : (padk (keyOf l) 0x36 ++ b).length = 64 + n2 := by rw [List.length_append, padk_len, HL2.out]
    rw [hlc] at hrc ⊢
    have hbWc : Below w.heap.size w wc := (hbWp.alloc hbWp.size _).trans (hbc.mono (by simp; omega))
    have hsc := hbWc.size
    go_wp2_with fail
    refine (Sum_any Ac (64 + n2) cc wc (padk (keyOf l) 0x36 ++ b) (hk.below hbWc hB0) (by omega) hrc).mono ?_
    rintro e wi ⟨vi, rfl, hoi, hbi⟩
    obtain ⟨Ai, ci, rfl⟩ := hoi.shape
    have hri := hoi.rd
    rw [sha_len] at hri ⊢
    have hbWi := hbWc.trans (hbi.mono hsc)
    have hsi := hbWi.size
    have hrk2 : Rd wi wi.heap.size A1 32 (keyOf l) := (hrk.below (((hbp.alloc hsp _).trans (hbc.mono (by simp; omega))).trans (hbi.mono (by have := hbc.size; simp at this; omega)))).more (by have := hbc.size; have := hbi.size; simp at *; omega)
    generalize sha (padk (keyOf l) 0x36 ++ b) = inn at HM hoi hri
    clear hoc hrc hlc hop hrp hbc hbi hal
    go_wp2_with fail
    refine (pad_any A1 32 c1 0x5c wi (keyOf l) hm hrk2).mono ?_
    rintro e wp2 ⟨vp2, rfl, hop, hbp2⟩
    obtain ⟨Ap2, cp2, rfl⟩ := hop.shape
    have hrp := hop.rd
    rw [padk_len] at hrp ⊢
    have hsp2 := hbp2.size
    have hbWp2 := hbWi.trans (hbp2.mono hsi)
    go_wp2_with fail
    have hal : Below wp2.heap.size wp2 (wp2.alloc (.cells #[.slice Ap2 64 cp2, .slice Ai 32 ci] 27)) := (Below.refl _ _).alloc (Nat.le_refl _) _
    refine (Concat_any wp2.heap.size Ap2 Ai 64 cp2 32 ci (padk (keyOf l) 0x5c) inn (wp2.alloc (.cells #[.slice Ap2 64 cp2, .slice Ai 32 ci] 27)) (by omega) (by omega) (Blk.new wp2 _ _) ((hrp.below hal).more hal.size) ((hri.below (hbp2.alloc hsp2 _)).more (by simp; omega))).mono ?_
    rintro e wc2 ⟨vc2, rfl, hoc, hbc2⟩
    obtain ⟨Ac2, cc2, rfl⟩ := hoc.shape
    have hrc := hoc.rd
    have hlc : (padk (keyOf l) 0x5c ++ inn).length = 64 + 32 := by rw [List.length_append, padk_len, ← hri.len]
    rw [hlc] at hrc ⊢
    have hbWc2 : Below w.heap.size w wc2 := (hbWp2.alloc hbWp2.size _).trans (hbc2.mono (by simp; omega))
    have hsc2 := hbWc2.size
    go_wp2_with fail
    refine (Sum_any Ac2 (64 + 32) cc2 wc2 (padk (keyOf l) 0x5c ++ inn) (hk.below hbWc2 hB0) (by omega) hrc).mono ?_
    rintro e wf ⟨vf, rfl, hof, hbf⟩
    have hbWf := hbWc2.trans (hbf.mono hsc2)
    go_wp2
    go_ret
    exact ⟨_, rfl, by rw [HM.out]; exact hof.mono hsc2, hbWf⟩
  · have hkey : keyOf l = l := by unfold keyOf; rw [if_neg (by rw [← HL.out]; exact h64)]
    have hp : ¬ (n : Int) > 64 := by omega
    have hrk := hr
    rw [← hkey] at hrk
    clear hkey
    go_enter Tryd.func40, Tryd.ntmps40
    go_wp2_with fail
    have hm : n ≤ 64 := by omega
    have hbW := Below.refl w.heap.size w
    have hkW : Consts w := hk
    have hsW := hbW.size
    refine (pad_any A n c 0x36 w (keyOf l) hm hrk).mono ?_
    rintro e wp ⟨vp, rfl, hop, hbp⟩
    obtain ⟨Ap, cp, rfl⟩ := hop.shape
    have hrp := hop.rd
    rw [padk_len] at hrp ⊢
    have hsp := hbp.size
    have hbWp := hbW.trans (hbp.mono hsW)
    go_wp2_with fail
    have hal : Below wp.heap.size wp (wp.alloc (.cells #[.slice Ap 64 cp, .slice A2 n2 c2] 27)) := (Below.refl _ _).alloc (Nat.le_refl _) _
    refine (Concat_any wp.heap.size Ap A2 64 cp n2 c2 (padk (keyOf l) 0x36) b (wp.alloc (.cells #[.slice Ap 64 cp, .slice A2 n2 c2] 27)) (by omega) hn2 (Blk.new wp _ _) ((hrp.below hal).more hal.size) ((hr2.below (hbWp.alloc hbWp.size _)).more (by simp; omega))).mono ?_
    rintro e wc ⟨vc, rfl, hoc, hbc⟩
    obtain ⟨Ac, cc, rfl⟩ := hoc.shape
    have hrc := hoc.rd
    have hlc : (padk (keyOf l) 0x36 ++ b).length = 64 + n2 := by rw [List.length_append, padk_len, HL2.out]
    rw [hlc] at hrc ⊢
    have hbWc : Below w.heap.size w wc := (hbWp.alloc hbWp.size _).trans (hbc.mono (by simp; omega))
    have hsc := hbWc.size
    go_wp2_with fail
    refine (Sum_any Ac (64 + n2) cc wc (padk (keyOf l) 0x36 ++ b) (hk.below hbWc hB0) (by omega) hrc).mono ?_
    rintro e wi ⟨vi, rfl, hoi, hbi⟩
    obtain ⟨Ai, ci, rfl⟩ := hoi.shape
    have hri := hoi.rd
    rw [sha_len] at hri ⊢
    have hbWi := hbWc.trans (hbi.mono hsc)
    have hsi := hbWi.size
    have hrk2 : Rd wi wi.heap.size A n (keyOf l) := (hrk.below (((hbp.alloc hsp _).trans (hbc.mono (by simp; omega))).trans (hbi.mono (by have := hbc.size; simp at this; omega)))).more (by have := hbc.size; have := hbi.size; simp at *; omega)
    generalize sha (padk (keyOf l) 0x36 ++ b) = inn at HM hoi hri
    clear hoc hrc hlc hop hrp hbc hbi hal
    go_wp2_with fail
    refine (pad_any A n c 0x5c wi (keyOf l) hm hrk2).mono ?_
    rintro e wp2 ⟨vp2, rfl, hop, hbp2⟩
    obtain ⟨Ap2, cp2, rfl⟩ := hop.shape
    have hrp := hop.rd
    rw [padk_len] at hrp ⊢
    have hsp2 := hbp2.size
    have hbWp2 := hbWi.trans (hbp2.mono hsi)
    go_wp2_with fail
    have hal : Below wp2.heap.size wp2 (wp2.alloc (.cells #[.slice Ap2 64 cp2, .slice Ai 32 ci] 27)) := (Below.refl _ _).alloc (Nat.le_refl _) _
    refine (Concat_any wp2.heap.size Ap2 Ai 64 cp2 32 ci (padk (keyOf l) 0x5c) inn (wp2.alloc (.cells #[.slice Ap2 64 cp2, .slice Ai 32 ci] 27)) (by omega) (by omega) (Blk.new wp2 _ _) ((hrp.below hal).more hal.size) ((hri.below (hbp2.alloc hsp2 _)).more (by simp; omega))).mono ?_
    rintro e wc2 ⟨vc2, rfl, hoc, hbc2⟩
    obtain ⟨Ac2, cc2, rfl⟩ := hoc.shape
    have hrc := hoc.rd
    have hlc : (padk (keyOf l) 0x5c ++ inn).length = 64 + 32 := by rw [List.length_append, padk_len, ← hri.len]
    rw [hlc] at hrc ⊢
    have hbWc2 : Below w.heap.size w wc2 := (hbWp2.alloc hbWp2.size _).trans (hbc2.mono (by simp; omega))
    have hsc2 := hbWc2.size
    go_wp2_with fail
    refine (Sum_any Ac2 (64 + 32) cc2 wc2 (padk (keyOf l) 0x5c ++ inn) (hk.below hbWc2 hB0) (by omega) hrc).mono ?_
    rintro e wf ⟨vf, rfl, hof, hbf⟩
    have hbWf := hbWc2.trans (hbf.mono hsc2)
    go_wp2
    go_ret
    exact ⟨_, rfl, by rw [HM.out]; exact hof.mono hsc2, hbWf⟩
end Go.Proofs.YtinkclcdpcjnfaaDoor
