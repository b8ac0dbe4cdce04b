/- The walk of the reference's Mac. Conditions: the slices take at most the form's own reach. -/
import Derived.Test.YtinkclcdpcjnfaaDoorRef3
import Derived.Test.YtinkclcdpcjnfaaDoorMac3
namespace Go.Proofs.YtinkclcdpcjnfaaDoor
open Go.RowKit
attribute [local irreducible] padk
theorem padk_take (l : List UInt8) (y : UInt8) (j : Nat) (h : j < 64) : (padk l y).take j ++ [l.getD j 0 ^^^ y] = (padk l y).take (j + 1) := by
  rw [List.take_add_one, padk_getD l y j h]
  rfl
theorem two_rows {base : Nat} {w0 wr wA wB : World} {vi vo vA vB : Value} {li lo la : List UInt8} {o o2 : Obj} (hb : Below base w0 wr) (hoi : Own wr base vi li) (hoo : Own wr base vo lo) (hD : ∀ k, vi.ownBlock = some k → vo.ownBlock ≠ some k)
    (hownA : Own wA base vA la) (hgA : (wr.alloc o).grownBy wA vi.ownBlock) (hatA : vA.ownBlock = vi.ownBlock ∨ vA.ownBlock = some (wr.alloc o).heap.size)
    (hgB : (wA.alloc o2).grownBy wB vo.ownBlock) (hatB : vB.ownBlock = vo.ownBlock ∨ vB.ownBlock = some (wA.alloc o2).heap.size) (hB : base ≤ wr.heap.size) :
    Own wB base vA la ∧ (∀ k, vA.ownBlock = some k → vB.ownBlock ≠ some k) ∧ Below base w0 wB := by
  have hB1 : base ≤ (wr.alloc o).heap.size := by simp; omega
  have hB2 : base ≤ (wA.alloc o2).heap.size := by have := hgA.size; simp at *; omega
  have hbA := below_app (hb.alloc hB o) (hoi.alloc o) hB1 hgA
  have hne : ∀ k, vA.ownBlock = some k → vo.ownBlock ≠ some k := by
    intro k hk hv
    rcases hatA with e | e
    · exact hD k (e.symm.trans hk) hv
    · have h1 := (hoo.lt k hv).2
      rw [e] at hk
      injection hk with hk
      simp at hk
      omega
  refine ⟨(hownA.alloc o2).kept hgB ?_, fun k hk hv => ?_, below_app (hbA.alloc (by have := hgA.size; simp at this; omega) o2) (((hoo.alloc o).kept hgA ?_).alloc o2) hB2 hgB⟩
  · cases hu : vA.ownBlock with
    | none => exact Or.inl rfl
    | some k => exact Or.inr (fun e => hne k hu e.symm)
  · rcases hatB with e | e
    · exact hne k hk (e.symm.trans hv)
    · have h1 := (hownA.lt k hk).2
      rw [e] at hv
      injection hv with hv
      simp at hv
      omega
  · cases hu : vo.ownBlock with
    | none => exact Or.inl rfl
    | some k => exact Or.inr (fun e => hD k e.symm hu)
set_option maxRecDepth 100000 in
set_option maxHeartbeats 2000000 in
theorem RefMac_any (A : Option Addr) (n c : Nat) (A2 : Option Addr) (n2 c2 : Nat) (w : World) (l b : List UInt8) (hn : n ≤ 140737488351232) (hn2 : n2 ≤ 140737488351232) (hr : Rd w w.heap.size A n l) (hr2 : Rd w w.heap.size A2 n2 b) :
    Calls Tryd.prog 42 #[.slice A n c, .slice A2 n2 c2] w fun e w' => ∃ v, e = .returned v ∧ Own w' w.heap.size v (mac l b) ∧ Below w.heap.size w w' := by
  have HL := Lib.hid hr.len
  have HL2 := Lib.hid hr2.len
  have hmac : mac l b = sha (padk (keyOf l) 0x5c ++ sha (padk (keyOf l) 0x36 ++ b)) := by unfold mac; rfl
  have HM := Lib.hid hmac; clear hmac
  have HPI := Lib.hid (padk_len (keyOf l) 0x36)
  have HPO := Lib.hid (padk_len (keyOf l) 0x5c)
  by_cases h64 : 64 < n
  · have hkey : keyOf l = sha l := by unfold keyOf; rw [if_pos (by rw [← HL.out]; exact h64)]
    have hp : (n : Int) > 64 := by omega
    go_enter Tryd.func42, Tryd.ntmps42
    go_wp2_with fail
    refine (RefSum_any A n c w l (by omega) hr).mono ?_
    rintro e w1 ⟨v1, rfl, hown1, hb1⟩
    obtain ⟨A1, c1, rfl⟩ := hown1.shape
    have hr1 := hown1.rd
    rw [sha_len] at hr1 ⊢
    rw [← hkey] at hr1
    clear hkey hown1
    go_wp2_with fail
    have hm : 32 ≤ 64 := by omega
    have hrk := hr1
    have hbW := hb1
    have hsW := hbW.size
    have hr2W : Rd w1 w1.heap.size A2 n2 b := (hr2.below hbW).more hsW
    have HLK := Lib.hid hrk.len
    go_loopw [7, 5, 6, 8] (fun q vi vo _ wr => ∃ j : Nat, j ≤ 64 ∧ q = .int .i64 (j : Int) ∧ Own wr w1.heap.size vi ((padk (keyOf l) 0x36).take j) ∧ Own wr w1.heap.size vo ((padk (keyOf l) 0x5c).take j) ∧ (∀ k, vi.ownBlock = some k → vo.ownBlock ≠ some k) ∧ Below w1.heap.size w1 wr) (fun q _ _ _ _ => 64 - (intOf q).toNat)
    case atStart => exact ⟨0, by omega, rfl, Own.nil_ _ _, Own.nil_ _ _, (fun k h => by cases h), Below.refl _ _⟩
    case round =>
      obtain ⟨j, hj, rfl, hoi, hoo, hD, hb⟩ := hrel
      by_cases h64 : j < 64
      · have hti := padk_take (keyOf l) 0x36 j h64
        have hto := padk_take (keyOf l) 0x5c j h64
        have hli : ((padk (keyOf l) 0x36).take j).length = j := by rw [List.length_take, padk_len]; omega
        have hlo : ((padk (keyOf l) 0x5c).take j).length = j := by rw [List.length_take, padk_len]; omega
        have hcj : j < 32 → ∃ ad, A1 = some ad ∧ wr.cell? (ad.add j) = some (.int .u8 ((keyOf l).getD j 0).toNat) := fun hjm => by
          obtain ⟨ad, h1, _, h3⟩ := (hrk.below hb).at_ hjm
          exact ⟨ad, h1, h3⟩
        have hc0 : ¬ j < 32 → (keyOf l).getD j 0 = 0 := fun h => by rw [List.getD_eq_getElem?_getD, List.getElem?_eq_none (by rw [← HLK.out]; omega)]; rfl
        generalize (keyOf l).getD j 0 = x at hti hto hcj hc0
        have HTI := Lib.hid hti; have HTO := Lib.hid hto; have HLI := Lib.hid hli; have HLO := Lib.hid hlo
        generalize (padk (keyOf l) 0x36).take j = li at HTI HLI hoi
        generalize (padk (keyOf l) 0x5c).take j = lo at HTO HLO hoo
        have hx1 : #[Value.int .u8 (bits .xor .u8 (x.toNat : Int) 54)] = ([x ^^^ 0x36].map B8).toArray := congrArg (fun z => #[Value.int .u8 z]) (u8_xor x 0x36)
        have hx2 : #[Value.int .u8 (bits .xor .u8 (x.toNat : Int) 92)] = ([x ^^^ 0x5c].map B8).toArray := congrArg (fun z => #[Value.int .u8 z]) (u8_xor x 0x5c)
        have HX1 := Lib.hid hx1; have HX2 := Lib.hid hx2
        have hne : u6.ownBlock = none ∨ u6.ownBlock ≠ u5.ownBlock := by
          cases hu : u6.ownBlock with
          | none => exact Or.inl rfl
          | some k => exact Or.inr (fun e => hD k e.symm hu)
        clear hti hto hli hlo hx1 hx2
        by_cases hjm : j < 32
        · obtain ⟨ad, rfl, hcell⟩ := hcj hjm
          have hjm' : (j : Int) < (32 : Int) := by omega
          clear hc0 hcj
          go_wp2_with (first
            | (at_builtin; refine app_bytes rfl (.tmp 26) (.tmp 29) rfl w1.heap.size _ _ rfl (hoi.alloc _) (wr.heap.size + 1) _ 1 1 [x ^^^ 0x36] rfl (Rd.new_ wr _ _ HX1.out 1 rfl) (by rw [HLI.out]; omega) (by have := hb.size; simp; omega) ?_; intro vA wA hownA hgA hatA)
            | (at_builtin; refine app_bytes rfl (.tmp 31) (.tmp 34) rfl w1.heap.size _ _ rfl (((hoo.alloc _).kept hgA hne).alloc _) (wA.heap.size + 1) _ 1 1 [x ^^^ 0x5c] rfl (Rd.new_ wA _ _ HX2.out 1 rfl) (by rw [HLO.out]; omega) (by have := hb.size; have := hgA.size; simp at *; omega) ?_; intro vB wB hownB hgB hatB)
            | fail)
          have key := two_rows hb hoi hoo hD hownA hgA hatA hgB hatB hb.size
          clear hgA hatA hgB hatB
          rw [HTI.out] at key
          rw [HTO.out] at hownB
          go_roundw
          case rel => exact ⟨j + 1, by omega, by go_num, key.1, hownB, key.2.1, key.2.2⟩
          case measure => simp [intOf]; omega
        · have hjm' : ¬ (j : Int) < (32 : Int) := by omega
          have hx := hc0 hjm
          subst hx
          clear hc0 hcj
          replace HX1 := Lib.hid (show #[Value.int .u8 (bits .xor .u8 0 54)] = ([(0 : UInt8) ^^^ 0x36].map B8).toArray from HX1.out)
          replace HX2 := Lib.hid (show #[Value.int .u8 (bits .xor .u8 0 92)] = ([(0 : UInt8) ^^^ 0x5c].map B8).toArray from HX2.out)
          go_wp2_with (first
            | (at_builtin; refine app_bytes rfl (.tmp 26) (.tmp 29) rfl w1.heap.size _ _ rfl (hoi.alloc _) (wr.heap.size + 1) _ 1 1 [(0 : UInt8) ^^^ 0x36] rfl (Rd.new_ wr _ _ HX1.out 1 rfl) (by rw [HLI.out]; omega) (by have := hb.size; simp; omega) ?_; intro vA wA hownA hgA hatA)
            | (at_builtin; refine app_bytes rfl (.tmp 31) (.tmp 34) rfl w1.heap.size _ _ rfl (((hoo.alloc _).kept hgA hne).alloc _) (wA.heap.size + 1) _ 1 1 [(0 : UInt8) ^^^ 0x5c] rfl (Rd.new_ wA _ _ HX2.out 1 rfl) (by rw [HLO.out]; omega) (by have := hb.size; have := hgA.size; simp at *; omega) ?_; intro vB wB hownB hgB hatB)
            | fail)
          have key := two_rows hb hoi hoo hD hownA hgA hatA hgB hatB hb.size
          clear hgA hatA hgB hatB
          rw [HTI.out] at key
          rw [HTO.out] at hownB
          go_roundw
          case rel => exact ⟨j + 1, by omega, by go_num, key.1, hownB, key.2.1, key.2.2⟩
          case measure => simp [intOf]; omega
      · obtain rfl : j = 64 := by omega
        rw [List.take_of_length_le (by rw [padk_len]; omega)] at hoi hoo
        generalize padk (keyOf l) 0x36 = pi at hoi HM HPI
        generalize padk (keyOf l) 0x5c = po at hoo HM HPO
        have hsz := hb.size
        have hne : u6.ownBlock = none ∨ u6.ownBlock ≠ u5.ownBlock := by
          cases hu : u6.ownBlock with
          | none => exact Or.inl rfl
          | some k => exact Or.inr (fun e => hD k e.symm hu)
        go_wp2_with (at_builtin; refine app_bytes rfl (.tmp 37) (.tmp 38) rfl w1.heap.size _ _ rfl hoi w1.heap.size A2 n2 c2 b rfl (hr2W.below hb) (by rw [HPI.out]; omega) hsz ?_; intro vC wC hownC hgC _)
        have hoC := hoo.kept hgC hne
        have hbC := below_app hb hoi hsz hgC
        clear hgC hoi hoo
        obtain ⟨AC, cC, rfl⟩ := hownC.shape
        have hlC : (pi ++ b).length = 64 + n2 := by rw [List.length_append, HPI.out, HL2.out]
        go_wp2_with fail
        refine (RefSum_any AC _ cC wC (pi ++ b) (by rw [hlC]; omega) hownC.rd).mono ?_
        rintro e wS ⟨vS, rfl, hownS, hbS⟩
        generalize hins : sha (pi ++ b) = ins at hownS HM
        have hlS : ins.length = 32 := by rw [← hins, sha_len]
        have hoS := hoC.below hbS
        have hbWS := hbC.trans (hbS.mono hbC.size)
        obtain ⟨AS, cS, rfl⟩ := hownS.shape
        have hrS := hownS.rd
        clear hins
        rw [hlS] at hrS ⊢
        have HLS := Lib.hid hlS; clear hlS
        go_wp2_with (at_builtin; refine app_bytes rfl (.tmp 36) (.tmp 40) rfl w1.heap.size _ _ rfl hoS wS.heap.size AS 32 cS ins rfl hrS (by rw [HPO.out]; omega) hbWS.size ?_; intro vE wE hownE hgE _)
        have hbE := below_app hbWS hoS hbWS.size hgE
        clear hgE
        obtain ⟨AE, cE, rfl⟩ := hownE.shape
        have hlE : (po ++ ins).length = 96 := by rw [List.length_append, HPO.out, HLS.out]
        go_wp2_with fail
        refine (RefSum_any AE _ cE wE (po ++ ins) (by rw [hlE]; omega) hownE.rd).mono ?_
        rintro e wF ⟨vF, rfl, hownF, hbF⟩
        go_wp2
        go_ret
        have hsE := hbE.size
        exact ⟨_, rfl, by rw [HM.out]; exact hownF.mono (by omega), (hbW.trans (hbE.mono hsW)).trans (hbF.mono (by omega))⟩
  · have hkey : keyOf l = l := by unfold keyOf; rw [if_neg (by rw [← HL.out]; exact h64)]
    have hp : ¬ (n : Int) > 64 := by omega
    have hrk0 := hr
    rw [← hkey] at hrk0
    clear hkey
    go_enter Tryd.func42, Tryd.ntmps42
    go_wp2_with fail
    have hm : n ≤ 64 := by omega
    have hrk := hrk0
    have hbW := (Below.refl w.heap.size w)
    have hsW := hbW.size
    have hr2W : Rd w w.heap.size A2 n2 b := (hr2.below hbW).more hsW
    have HLK := Lib.hid hrk.len
    go_loopw [7, 5, 6, 8] (fun q vi vo _ wr => ∃ j : Nat, j ≤ 64 ∧ q = .int .i64 (j : Int) ∧ Own wr w.heap.size vi ((padk (keyOf l) 0x36).take j) ∧ Own wr w.heap.size vo ((padk (keyOf l) 0x5c).take j) ∧ (∀ k, vi.ownBlock = some k → vo.ownBlock ≠ some k) ∧ Below w.heap.size w wr) (fun q _ _ _ _ => 64 - (intOf q).toNat)
    case atStart => exact ⟨0, by omega, rfl, Own.nil_ _ _, Own.nil_ _ _, (fun k h => by cases h), Below.refl _ _⟩
    case round =>
      obtain ⟨j, hj, rfl, hoi, hoo, hD, hb⟩ := hrel
      by_cases h64 : j < 64
      · have hti := padk_take (keyOf l) 0x36 j h64
        have hto := padk_take (keyOf l) 0x5c j h64
        have hli : ((padk (keyOf l) 0x36).take j).length = j := by rw [List.length_take, padk_len]; omega
        have hlo : ((padk (keyOf l) 0x5c).take j).length = j := by rw [List.length_take, padk_len]; omega
        have hcj : j < n → ∃ ad, A = some ad ∧ wr.cell? (ad.add j) = some (.int .u8 ((keyOf l).getD j 0).toNat) := fun hjm => by
          obtain ⟨ad, h1, _, h3⟩ := (hrk.below hb).at_ hjm
          exact ⟨ad, h1, h3⟩
        have hc0 : ¬ j < n → (keyOf l).getD j 0 = 0 := fun h => by rw [List.getD_eq_getElem?_getD, List.getElem?_eq_none (by rw [← HLK.out]; omega)]; rfl
        generalize (keyOf l).getD j 0 = x at hti hto hcj hc0
        have HTI := Lib.hid hti; have HTO := Lib.hid hto; have HLI := Lib.hid hli; have HLO := Lib.hid hlo
        generalize (padk (keyOf l) 0x36).take j = li at HTI HLI hoi
        generalize (padk (keyOf l) 0x5c).take j = lo at HTO HLO hoo
        have hx1 : #[Value.int .u8 (bits .xor .u8 (x.toNat : Int) 54)] = ([x ^^^ 0x36].map B8).toArray := congrArg (fun z => #[Value.int .u8 z]) (u8_xor x 0x36)
        have hx2 : #[Value.int .u8 (bits .xor .u8 (x.toNat : Int) 92)] = ([x ^^^ 0x5c].map B8).toArray := congrArg (fun z => #[Value.int .u8 z]) (u8_xor x 0x5c)
        have HX1 := Lib.hid hx1; have HX2 := Lib.hid hx2
        have hne : u6.ownBlock = none ∨ u6.ownBlock ≠ u5.ownBlock := by
          cases hu : u6.ownBlock with
          | none => exact Or.inl rfl
          | some k => exact Or.inr (fun e => hD k e.symm hu)
        clear hti hto hli hlo hx1 hx2
        by_cases hjm : j < n
        · obtain ⟨ad, rfl, hcell⟩ := hcj hjm
          have hjm' : (j : Int) < (n : Int) := by omega
          clear hc0 hcj
          go_wp2_with (first
            | (at_builtin; refine app_bytes rfl (.tmp 26) (.tmp 29) rfl w.heap.size _ _ rfl (hoi.alloc _) (wr.heap.size + 1) _ 1 1 [x ^^^ 0x36] rfl (Rd.new_ wr _ _ HX1.out 1 rfl) (by rw [HLI.out]; omega) (by have := hb.size; simp; omega) ?_; intro vA wA hownA hgA hatA)
            | (at_builtin; refine app_bytes rfl (.tmp 31) (.tmp 34) rfl w.heap.size _ _ rfl (((hoo.alloc _).kept hgA hne).alloc _) (wA.heap.size + 1) _ 1 1 [x ^^^ 0x5c] rfl (Rd.new_ wA _ _ HX2.out 1 rfl) (by rw [HLO.out]; omega) (by have := hb.size; have := hgA.size; simp at *; omega) ?_; intro vB wB hownB hgB hatB)
            | fail)
          have key := two_rows hb hoi hoo hD hownA hgA hatA hgB hatB hb.size
          clear hgA hatA hgB hatB
          rw [HTI.out] at key
          rw [HTO.out] at hownB
          go_roundw
          case rel => exact ⟨j + 1, by omega, by go_num, key.1, hownB, key.2.1, key.2.2⟩
          case measure => simp [intOf]; omega
        · have hjm' : ¬ (j : Int) < (n : Int) := by omega
          have hx := hc0 hjm
          subst hx
          clear hc0 hcj
          replace HX1 := Lib.hid (show #[Value.int .u8 (bits .xor .u8 0 54)] = ([(0 : UInt8) ^^^ 0x36].map B8).toArray from HX1.out)
          replace HX2 := Lib.hid (show #[Value.int .u8 (bits .xor .u8 0 92)] = ([(0 : UInt8) ^^^ 0x5c].map B8).toArray from HX2.out)
          go_wp2_with (first
            | (at_builtin; refine app_bytes rfl (.tmp 26) (.tmp 29) rfl w.heap.size _ _ rfl (hoi.alloc _) (wr.heap.size + 1) _ 1 1 [(0 : UInt8) ^^^ 0x36] rfl (Rd.new_ wr _ _ HX1.out 1 rfl) (by rw [HLI.out]; omega) (by have := hb.size; simp; omega) ?_; intro vA wA hownA hgA hatA)
            | (at_builtin; refine app_bytes rfl (.tmp 31) (.tmp 34) rfl w.heap.size _ _ rfl (((hoo.alloc _).kept hgA hne).alloc _) (wA.heap.size + 1) _ 1 1 [(0 : UInt8) ^^^ 0x5c] rfl (Rd.new_ wA _ _ HX2.out 1 rfl) (by rw [HLO.out]; omega) (by have := hb.size; have := hgA.size; simp at *; omega) ?_; intro vB wB hownB hgB hatB)
            | fail)
          have key := two_rows hb hoi hoo hD hownA hgA hatA hgB hatB hb.size
          clear hgA hatA hgB hatB
          rw [HTI.out] at key
          rw [HTO.out] at hownB
          go_roundw
          case rel => exact ⟨j + 1, by omega, by go_num, key.1, hownB, key.2.1, key.2.2⟩
          case measure => simp [intOf]; omega
      · obtain rfl : j = 64 := by omega
        rw [List.take_of_length_le (by rw [padk_len]; omega)] at hoi hoo
        generalize padk (keyOf l) 0x36 = pi at hoi HM HPI
        generalize padk (keyOf l) 0x5c = po at hoo HM HPO
        have hsz := hb.size
        have hne : u6.ownBlock = none ∨ u6.ownBlock ≠ u5.ownBlock := by
          cases hu : u6.ownBlock with
          | none => exact Or.inl rfl
          | some k => exact Or.inr (fun e => hD k e.symm hu)
        go_wp2_with (at_builtin; refine app_bytes rfl (.tmp 37) (.tmp 38) rfl w.heap.size _ _ rfl hoi w.heap.size A2 n2 c2 b rfl (hr2W.below hb) (by rw [HPI.out]; omega) hsz ?_; intro vC wC hownC hgC _)
        have hoC := hoo.kept hgC hne
        have hbC := below_app hb hoi hsz hgC
        clear hgC hoi hoo
        obtain ⟨AC, cC, rfl⟩ := hownC.shape
        have hlC : (pi ++ b).length = 64 + n2 := by rw [List.length_append, HPI.out, HL2.out]
        go_wp2_with fail
        refine (RefSum_any AC _ cC wC (pi ++ b) (by rw [hlC]; omega) hownC.rd).mono ?_
        rintro e wS ⟨vS, rfl, hownS, hbS⟩
        generalize hins : sha (pi ++ b) = ins at hownS HM
        have hlS : ins.length = 32 := by rw [← hins, sha_len]
        have hoS := hoC.below hbS
        have hbWS := hbC.trans (hbS.mono hbC.size)
        obtain ⟨AS, cS, rfl⟩ := hownS.shape
        have hrS := hownS.rd
        clear hins
        rw [hlS] at hrS ⊢
        have HLS := Lib.hid hlS; clear hlS
        go_wp2_with (at_builtin; refine app_bytes rfl (.tmp 36) (.tmp 40) rfl w.heap.size _ _ rfl hoS wS.heap.size AS 32 cS ins rfl hrS (by rw [HPO.out]; omega) hbWS.size ?_; intro vE wE hownE hgE _)
        have hbE := below_app hbWS hoS hbWS.size hgE
        clear hgE
        obtain ⟨AE, cE, rfl⟩ := hownE.shape
        have hlE : (po ++ ins).length = 96 := by rw [List.length_append, HPO.out, HLS.out]
        go_wp2_with fail
        refine (RefSum_any AE _ cE wE (po ++ ins) (by rw [hlE]; omega) hownE.rd).mono ?_
        rintro e wF ⟨vF, rfl, hownF, hbF⟩
        go_wp2
        go_ret
        have hsE := hbE.size
        exact ⟨_, rfl, by rw [HM.out]; exact hownF.mono (by omega), (hbW.trans (hbE.mono hsW)).trans (hbF.mono (by omega))⟩
end Go.Proofs.YtinkclcdpcjnfaaDoor
