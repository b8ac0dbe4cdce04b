/- Names compared and found; slices.Insert. Conditions stand with each theorem. -/
import Derived.Test.YtlabebapjhhkaaaM10
import Derived.Laws.Externs
import Derived.Lib.Overlaps
import Derived.Lib.AppendZerosOnto
import Derived.Laws.IdiomCopy
namespace Go.Proofs.Ytlabebapjhhkaaa
open Go.RowKit Go.Shelf
theorem run_cmp (a b : List UInt8) (w : World) : (callFunc 105 #[.string ⟨a.toArray⟩, .string ⟨b.toArray⟩]).run Try.prog w = .ok (.value (.int .i64 (Lib.compareBytes a b))) w := by
  rw [run_callFunc_extern Try.func105 (by kernel_rfl) (by kernel_rfl) (by kernel_rfl) (e := Extern.BytealgCompare.compare) (by kernel_rfl), Lib.run_compareString]
  rfl
theorem cmpS_any (w : World) (a b : List UInt8) : Calls Try.prog 100 #[.string ⟨a.toArray⟩, .string ⟨b.toArray⟩] w fun e w' => e = .returned (.int .i64 (Lib.compareBytes a b)) ∧ w' = w := by
  have hc := run_cmp a b
  generalize (ByteArray.mk a.toArray) = x at hc ⊢
  generalize (ByteArray.mk b.toArray) = y at hc ⊢
  go_enter Try.func100, Try.ntmps100
  go_wp2_with (simp only [hc])
  go_ret
  exact ⟨rfl, rfl⟩
theorem Compare_any (w : World) (a b : List UInt8) : Calls Try.prog 79 #[.string ⟨a.toArray⟩, .string ⟨b.toArray⟩] w fun e w' => e = .returned (.int .i64 (Lib.compareBytes a b)) ∧ w' = w := by
  go_enter Try.func79, Try.ntmps79
  go_wp2_with (go_at_call 100; refine (cmpS_any _ a b).mono ?_; rintro e w7 ⟨rfl, rfl⟩)
  go_ret
  exact ⟨rfl, rfl⟩
theorem find1_any (w : World) (h : HeadV) (id : List UInt8) : Calls Try.prog 78 #[.agg #[.string ⟨h.id.toArray⟩, .int .i64 h.size], .string ⟨id.toArray⟩] w fun e w' => e = .returned (.int .i64 (Lib.compareBytes h.id id)) ∧ Below w.heap.size w w' := by
  go_enter Try.func78, Try.ntmps78
  go_upto_region 1 with (fail)
  have hB := Blk.new w 35 #[.string ⟨h.id.toArray⟩, .int .i64 h.size]
  have hb : Below w.heap.size w (w.alloc (.cells #[.string ⟨h.id.toArray⟩, .int .i64 h.size] 35)) := (Below.refl _ _).alloc (Nat.le_refl _) _
  generalize w.alloc (.cells #[.string ⟨h.id.toArray⟩, .int .i64 h.size] 35) = w1 at hB hb ⊢
  have c0 : w1.cell? ⟨w.heap.size, 0, none⟩ = some (.string ⟨h.id.toArray⟩) := (hB.cell 0).trans rfl
  have HB := Lib.hid hb
  clear hB hb
  go_wp2_with (go_at_call 79; refine (Compare_any _ h.id id).mono ?_; rintro e w7 ⟨rfl, rfl⟩)
  go_ret
  exact ⟨rfl, HB.out⟩
/-! The order of names. -/
theorem cmp_refl (a : List UInt8) : Lib.compareBytes a a = 0 := by
  induction a with
  | nil => rfl
  | cons x r ih => unfold Lib.compareBytes; simp [UInt8.lt_irrefl, ih]
theorem cmp_eq0 : ∀ (a b : List UInt8), Lib.compareBytes a b = 0 → a = b
  | [], [], _ => rfl
  | [], _ :: _, h => by unfold Lib.compareBytes at h; cases h
  | _ :: _, [], h => by unfold Lib.compareBytes at h; cases h
  | x :: a, y :: b, h => by
    unfold Lib.compareBytes at h
    by_cases h1 : x < y
    · rw [if_pos h1] at h; cases h
    · by_cases h2 : y < x
      · rw [if_neg h1, if_pos h2] at h; cases h
      · rw [if_neg h1, if_neg h2] at h
        rw [cmp_eq0 a b h, UInt8.le_antisymm (UInt8.not_lt.1 h2) (UInt8.not_lt.1 h1)]
theorem lt_trans' : ∀ (a b c : List UInt8), ltB a b → ltB b c → ltB a c
  | [], [], _, h, _ => by unfold ltB Lib.compareBytes at h; simp at h
  | [], _ :: _, [], _, h => by unfold ltB Lib.compareBytes at h; simp at h
  | [], _ :: _, _ :: _, _, _ => by unfold ltB Lib.compareBytes; simp
  | _ :: _, [], _, h, _ => by unfold ltB Lib.compareBytes at h; simp at h
  | _ :: _, _ :: _, [], _, h => by unfold ltB Lib.compareBytes at h; simp at h
  | x :: a, y :: b, z :: c, h, h' => by
    have ih := lt_trans' a b c
    unfold ltB at ih h h' ⊢
    unfold Lib.compareBytes at h h' ⊢
    by_cases h1 : x < y
    · by_cases h2 : y < z
      · rw [if_pos (UInt8.lt_trans h1 h2)]; decide
      · by_cases h3 : z < y
        · rw [if_neg h2, if_pos h3] at h'; simp at h'
        · have e : y = z := UInt8.le_antisymm (UInt8.not_lt.1 h3) (UInt8.not_lt.1 h2)
          subst e
          rw [if_pos h1]; decide
    · by_cases h3 : y < x
      · rw [if_neg h1, if_pos h3] at h; simp at h
      · have e : x = y := UInt8.le_antisymm (UInt8.not_lt.1 h3) (UInt8.not_lt.1 h1)
        subst e
        rw [if_neg h1, if_neg h3] at h
        by_cases h2 : x < z
        · rw [if_pos h2]; decide
        · by_cases h4 : z < x
          · rw [if_neg h2, if_pos h4] at h'; simp at h'
          · rw [if_neg h2, if_neg h4] at h' ⊢
            exact ih h h'
/-- Where an object is, or would be. -/
structure PosAt (l : List HeadV) (id : List UInt8) (i : Nat) : Prop where
  le : i ≤ l.length
  lo : ∀ (k : Nat) (h : HeadV), l[k]? = some h → k < i → ltB h.id id
  hi : ∀ (k : Nat) (h : HeadV), l[k]? = some h → i ≤ k → ¬ ltB h.id id
theorem PosAt.uniq {l : List HeadV} {id : List UInt8} {i j : Nat} (h : PosAt l id i) (h' : PosAt l id j) : i = j := by
  rcases Nat.lt_trichotomy i j with e | e | e
  · have hl : i < l.length := Nat.lt_of_lt_of_le e h'.le
    exact absurd (h'.lo i _ (List.getElem?_eq_getElem hl) e) (h.hi i _ (List.getElem?_eq_getElem hl) (Nat.le_refl _))
  · exact e
  · have hl : j < l.length := Nat.lt_of_lt_of_le e h.le
    exact absurd (h.lo j _ (List.getElem?_eq_getElem hl) e) (h'.hi j _ (List.getElem?_eq_getElem hl) (Nat.le_refl _))
theorem rising_at {l : List HeadV} (h : Rising l) {i j : Nat} {x y : HeadV} (hx : l[i]? = some x) (hy : l[j]? = some y) (hij : i < j) : ltB x.id y.id := by
  have h1 := (List.getElem?_eq_some_iff.1 hx).1
  have h2 := (List.getElem?_eq_some_iff.1 hy).1
  have h3 := List.pairwise_iff_getElem.1 h i j h1 h2 hij
  rw [List.getElem?_eq_getElem h1] at hx
  rw [List.getElem?_eq_getElem h2] at hy
  injection hx with hx; injection hy with hy
  rw [hx, hy] at h3
  exact h3
end Go.Proofs.Ytlabebapjhhkaaa
namespace Go.Proofs.Ytlabebapjhhkaaa
open Go.RowKit Go.Shelf
/-- Is there such a name? -/
def hasId (l : List HeadV) (id : List UInt8) : Bool := (l.map HeadV.id).contains id
theorem hasId_at {l : List HeadV} {id : List UInt8} {i : Nat} (hr : Rising l) (h : PosAt l id i) : hasId l id = (match l[i]? with | some x => decide (Lib.compareBytes x.id id = 0) | none => false) := by
  unfold hasId
  by_cases hm : id ∈ l.map HeadV.id
  · rw [List.contains_eq_mem, decide_eq_true hm]
    obtain ⟨x, hx, rfl⟩ := List.mem_map.1 hm
    obtain ⟨k, hk, rfl⟩ := List.getElem_of_mem hx
    have hk' : l[k]? = some l[k] := List.getElem?_eq_getElem hk
    have e : k = i := by
      rcases Nat.lt_trichotomy k i with e | e | e
      · have := h.lo k _ hk' e
        unfold ltB at this; rw [cmp_refl] at this; omega
      · exact e
      · have hi : l[i]? = some (l[i]'(by omega)) := List.getElem?_eq_getElem _
        exact absurd (rising_at hr hi hk' e) (h.hi i _ hi (Nat.le_refl _))
    subst e
    rw [hk']
    exact (decide_eq_true (cmp_refl _)).symm
  · rw [List.contains_eq_mem, decide_eq_false hm]
    cases hx : l[i]? with
    | none => rfl
    | some x =>
      refine (decide_eq_false fun e => hm ?_).symm
      rw [← cmp_eq0 _ _ e]
      exact List.mem_map.2 ⟨x, List.mem_of_getElem? hx, rfl⟩
set_option maxRecDepth 100000 in
set_option maxHeartbeats 4000000 in
theorem Search_any (w : World) (A : Option Addr) (c : Nat) (l : List HeadV) (id : List UInt8) (h : HeadsRd w w.heap.size A l) (hr : Rising l) (hl : l.length ≤ 8) :
    Calls Try.prog 77 #[.slice A l.length c, .string ⟨id.toArray⟩, .func (.func 78) #[] #[]] w fun e w' => ∃ i, PosAt l id i ∧ e = .returned (.tuple #[.int .i64 (i : Int), .bool (hasId l id)]) ∧ Below w.heap.size w w' := by
  have eg := enters_of Try.func78 (by kernel_rfl) rfl
  have H := Lib.hid h; have HR := Lib.hid hr; have HL := Lib.hid hl
  clear h hr hl
  obtain ⟨S, hS⟩ : ∃ S : ByteArray, S = ⟨id.toArray⟩ := ⟨_, rfl⟩
  have HFD := Lib.hid (show ∀ (w : World) (h : HeadV), Calls Try.prog 78 #[.agg #[.string ⟨h.id.toArray⟩, .int .i64 h.size], .string S] w fun e w' => e = .returned (.int .i64 (Lib.compareBytes h.id id)) ∧ Below w.heap.size w w' by rw [hS]; exact fun w h => find1_any w h id)
  rw [← hS]
  clear hS
  obtain ⟨n, hn⟩ : ∃ n, n = l.length := ⟨_, rfl⟩
  rw [← hn] at HL ⊢
  have HN := Lib.hid hn; clear hn
  go_enter Try.func77, Try.ntmps77
  go_wp2
  go_loopw [9, 10, 11, 15, 16, 17, 18, 19, 20, 21, 22, 23, 24, 25, 26, 27, 28, 29, 30, 31, 32, 33, 34] (fun a b _ _ _ _ _ _ _ _ _ _ _ _ _ _ _ _ _ _ _ _ _ wr => ∃ i j : Nat, i ≤ j ∧ j ≤ n ∧ a = .int .i64 (i : Int) ∧ b = .int .i64 (j : Int) ∧ (∀ (k : Nat) (x : HeadV), l[k]? = some x → k < i → ltB x.id id) ∧ (∀ (k : Nat) (x : HeadV), l[k]? = some x → j ≤ k → ¬ ltB x.id id) ∧ Below w.heap.size w wr) (fun a b _ _ _ _ _ _ _ _ _ _ _ _ _ _ _ _ _ _ _ _ _ _ => (intOf b).toNat - (intOf a).toNat)
  case atStart => exact ⟨0, n, by omega, Nat.le_refl _, rfl, rfl, fun k x _ h => by omega, fun k x hx h => by have := (List.getElem?_eq_some_iff.1 hx).1; have := HN.out; omega, Below.refl _ _⟩
  case round =>
    obtain ⟨i, j, hij, hjn, rfl, rfl, hlo, hhi, hb⟩ := hrel
    have hn8 := HL.out
    have HB := Lib.hid hb
    have hh := (H.out.off (Keeps.of_below (F := fun _ => False) hb) (Nat.le_refl _) (fun _ _ _ e => e))
    by_cases hlt : i < j
    · have hlt' : (i : Int) < (j : Int) := by omega
      obtain ⟨m, hm⟩ : ∃ m, m = (i + j) / 2 := ⟨_, rfl⟩
      have hm2 : ((i : Int) + (j : Int)) / 2 = (m : Int) := by omega
      have him : i ≤ m := by omega
      have hmj : m < j := by omega
      have hml : m < l.length := by have := HN.out; omega
      have hmn' : (m : Int) < (n : Int) := by omega
      obtain ⟨ad, rfl, hadb, hc⟩ := hh (by omega)
      have hx := List.getElem?_eq_getElem hml
      obtain ⟨c0, c1⟩ := hc m _ hx
      generalize l[m] = x at c0 c1 hx
      have HX := Lib.hid hx; have HLO := Lib.hid hlo; have HHI := Lib.hid hhi; have HM := Lib.hid hm
      clear hc hx hlo hhi hm hml hb hh
      go_upto_region 5 with (fail)
      by_cases hr : Lib.compareBytes x.id id < 0
      · go_wp2_with fail
        refine (HFD.out wr x).mono ?_
        rintro e w7 ⟨rfl, hb7⟩
        go_wp2
        go_roundw
        case rel =>
          refine ⟨m + 1, j, by omega, hjn, by go_num, rfl, fun k y hy hk => ?_, HHI.out, HB.out.trans (hb7.mono HB.out.size)⟩
          rcases Nat.lt_or_ge k m with e | e
          · exact lt_trans' _ _ _ (rising_at HR.out hy HX.out e) hr
          · obtain rfl : k = m := by omega
            rw [HX.out] at hy; injection hy with hy; rw [← hy]; exact hr
        case measure => simp [intOf]; omega
      · go_wp2_with fail
        refine (HFD.out wr x).mono ?_
        rintro e w7 ⟨rfl, hb7⟩
        go_wp2
        go_roundw
        case rel =>
          refine ⟨i, m, him, by omega, rfl, by go_num, HLO.out, fun k y hy hk => ?_, HB.out.trans (hb7.mono HB.out.size)⟩
          rcases Nat.lt_or_ge m k with e | e
          · exact fun e2 => Int.not_lt.2 hr (lt_trans' _ _ _ (rising_at HR.out HX.out hy e) e2)
          · obtain rfl : k = m := by omega
            rw [HX.out] at hy; injection hy with hy; rw [← hy]; exact Int.not_lt.2 hr
        case measure => simp [intOf]; omega
    · obtain rfl : i = j := by omega
      have hp : PosAt l id i := ⟨by have := HN.out; omega, hlo, hhi⟩
      have hid := hasId_at HR.out hp
      have HP := Lib.hid hp
      clear hlo hhi hp hb
      by_cases hin : i < n
      · have hin' : (i : Int) < (n : Int) := by omega
        have hil : i < l.length := by have := HN.out; omega
        obtain ⟨ad, rfl, hadb, hc⟩ := hh (by omega)
        have hx := List.getElem?_eq_getElem hil
        obtain ⟨c0, c1⟩ := hc i _ hx
        rw [hx] at hid
        generalize l[i] = x at c0 c1 hid
        simp only at hid
        have HID := Lib.hid hid
        clear hc hx hid hh hil
        go_wp2_with fail
        refine (HFD.out wr x).mono ?_
        rintro e w7 ⟨rfl, hb7⟩
        go_wp2
        go_ret2
        refine ⟨i, HP.out, ?_, HB.out.trans (hb7.mono HB.out.size)⟩
        rw [HID.out]
        first | rfl | (by_cases h0 : Lib.compareBytes x.id id = 0 <;> simp [h0])
      · have hil : l[i]? = none := List.getElem?_eq_none (by have := HN.out; omega)
        rw [hil] at hid
        have HID := Lib.hid hid
        have hin' : ¬ (i : Int) < (n : Int) := by omega
        clear hid hil hh
        go_wp2_with fail
        go_ret2
        exact ⟨i, HP.out, by rw [HID.out]; rfl, HB.out⟩
theorem VIs.dirV {W : World} {B V : Nat} {v : BookV} (h : VIs W B V v) : ∃ A c, W.cell? ⟨V, 3, none⟩ = some (.slice A v.dir.length c) ∧ HeadsRd W W.heap.size A v.dir := by
  obtain ⟨Ad, Au, Ac, cd, cu, cc, h1, h2⟩ := h
  exact ⟨Ad, cd, (h1.cell 3).trans rfl, h2.rd.dir⟩
theorem find_any (w : World) (B V : Nat) (v : BookV) (id : List UInt8) (h : VIs w B V v) (hr : Rising v.dir) (hl : v.dir.length ≤ 8) :
    Calls Try.prog 44 #[.pointer (some ⟨V, 0, none⟩), .string ⟨id.toArray⟩] w fun e w' => ∃ i, PosAt v.dir id i ∧ e = .returned (.tuple #[.int .i64 (i : Int), .bool (hasId v.dir id)]) ∧ Below w.heap.size w w' := by
  obtain ⟨A, c, c3, hh⟩ := h.dirV
  have HS := Lib.hid (Search_any w A c v.dir id hh hr hl)
  clear hh h hr hl
  generalize (ByteArray.mk id.toArray) = S at HS ⊢
  go_enter Try.func44, Try.ntmps44
  go_wp2_with fail
  refine HS.out.mono ?_
  rintro e w7 ⟨i, hi, rfl, hb⟩
  go_wp2
  go_ret2
  exact ⟨i, hi, rfl, hb⟩
end Go.Proofs.Ytlabebapjhhkaaa
namespace Go.Proofs.Ytlabebapjhhkaaa
open Go.RowKit Go.Shelf
theorem head_two : (Try.prog.info? 35).map (·.size) = some 2 := by kernel_rfl
/-- Cells laid over a row. -/
def over (l : List Value) (o : Nat) (cs : List Value) : List Value := l.take o ++ cs ++ l.drop (o + cs.length)
theorem over_len (l : List Value) (o : Nat) (cs : List Value) (h : o + cs.length ≤ l.length) : (over l o cs).length = l.length := by
  unfold over
  simp
  omega
theorem over_take (l : List Value) (o : Nat) (cs : List Value) (h : o + cs.length ≤ l.length) : (over l o cs).take (o + cs.length) = l.take o ++ cs := by
  unfold over
  exact List.take_left' (by simp; omega)
/-- copy(d, s), of heads. -/
theorem run_copy2 (w : World) (ty : TypeId) (g o dLen dCap : Nat) (a : Addr) (sLen sCap : Nat) (cur : Array Value) (t : TypeId) (cs : List Value)
    (hg : w.heap[g]? = some (.cells cur t (0, 0))) (hn : cs.length = Nat.min sLen dLen * 2) (hsrc : ∀ j v, cs[j]? = some v → w.cell? (a.add j) = some v) (hfit : o + cs.length ≤ cur.size) (h1 : ∀ v ∈ cs, v.oneCell' = true) :
    (Builtin.copy_ #[41, 41] ty #[.slice (some ⟨g, o, none⟩) dLen dCap, .slice (some a) sLen sCap]).run Try.prog w = .ok (goInt (Nat.min sLen dLen)) (w.setRow g (over cur.toList o cs).toArray) := by
  have hl := run_loadCells_list (P := Try.prog) w a cs hsrc
  have hst := run_storeCells_at Try.prog g o t cs 0 cur w hg (by simpa using hfit) h1
  have hu : Try.prog.underlying 41 = some (.slice 35) := Try.underlying41
  have hs := head_two
  cases hq : Try.prog.info? 35 with
  | none => rw [hq] at hs; cases hs
  | some i =>
    have hi : i.size = 2 := by rw [hq] at hs; simpa using hs
    unfold over
    simp [Builtin.copy_, run_underlying hu, Builtin.lenOf, Builtin.firstCells, sizeOf, typeInfo, hq, hi, ← hn, hl, hst]
theorem wpList_copy2 (w : World) {ops : Array Oper} {rest : List Oper} {o : Oper} {a : Act} {Q : Exit → Act → World → Prop} (hgd : o.guard = none) (d s : Operand)
    (ho : o.op = .call { callee := .builtin .copy, args := #[d, s], argTypes := #[41, 41] }) (v u : Value) (hd : a.eval d = v) (hs : a.eval s = u) {v' : Value} {w' : World}
    (hr : ∀ ty, (Builtin.copy_ #[41, 41] ty #[v, u]).run Try.prog w = .ok v' w') (h : wpList Try.prog ops Q rest (a.put o.dst v') w') : wpList Try.prog ops Q (o :: rest) a w :=
  wpList_plain hgd fun _ hK => by
    unfold Oper.wp execOp
    simp only [ho, resolve, invoke, builtin, Sem.run_bind, Sem.run_pure, Result.andThen_ok, List.map_toArray, List.map_cons, List.map_nil, hd, hs, hr]
    exact hK _ _ h
theorem wpList_appz {w : World} {ops : Array Oper} {rest : List Oper} {o : Oper} {a : Act} {Q : Exit → Act → World → Prop} (hgd : o.guard = none) (d s : Operand)
    (ho : o.op = .call { callee := .builtin .append, args := #[d, s], argTypes := #[41, 3] }) (v u : Value) (hd : a.eval d = v) (hs : a.eval s = u) {v' : Value} {w' : World}
    (hr : ∀ ty, (Builtin.append_ #[41, 3] ty #[v, u]).run Try.prog w = .ok v' w') (h : wpList Try.prog ops Q rest (a.put o.dst v') w') : wpList Try.prog ops Q (o :: rest) a w :=
  wpList_plain hgd fun _ hK => by
    unfold Oper.wp execOp
    simp only [ho, resolve, invoke, builtin, Sem.run_bind, Sem.run_pure, Result.andThen_ok, List.map_toArray, List.map_cons, List.map_nil, hd, hs, hr]
    exact hK _ _ h
section
variable {w : World} {B n cap : Nat} {D : List Value}
theorem shift_cells {L0 D hc : List Value} {n i : Nat} (hD : L0.take (n * 2) = D) (hl : (n + 1) * 2 ≤ L0.length) (hi : i < n) (hh : hc.length = 2) :
    (over (over L0 ((i + 1) * 2) (D.drop (i * 2))) (i * 2) hc).take ((n + 1) * 2) = D.take (i * 2) ++ hc ++ D.drop (i * 2) ∧ (over (over L0 ((i + 1) * 2) (D.drop (i * 2))) (i * 2) hc).length = L0.length := by
  have hDl : D.length = n * 2 := by rw [← hD, List.length_take]; omega
  have hd : (D.drop (i * 2)).length = n * 2 - i * 2 := by rw [List.length_drop, hDl]
  have h1 : (over L0 ((i + 1) * 2) (D.drop (i * 2))).length = L0.length := over_len _ _ _ (by omega)
  refine ⟨?_, by rw [over_len _ _ _ (by omega), h1]⟩
  have ha : (over L0 ((i + 1) * 2) (D.drop (i * 2))).take (i * 2) = D.take (i * 2) := by
    unfold over
    rw [List.append_assoc, List.take_append_of_le_length (by simp; omega), List.take_take, ← hD, List.take_take]
    congr 1
    omega
  have hb : (over L0 ((i + 1) * 2) (D.drop (i * 2))).drop (i * 2 + hc.length) = D.drop (i * 2) ++ L0.drop ((n + 1) * 2) := by
    unfold over
    rw [List.append_assoc, List.drop_append_of_le_length (by simp; omega), List.drop_take, hd, hh]
    rw [show (i + 1) * 2 - (i * 2 + 2) = 0 by omega, List.take_zero, List.nil_append]
    congr 2
    omega
  show (List.take (i * 2) (over L0 ((i + 1) * 2) (D.drop (i * 2))) ++ hc ++ List.drop (i * 2 + hc.length) (over L0 ((i + 1) * 2) (D.drop (i * 2)))).take ((n + 1) * 2) = _
  rw [ha, hb, ← List.append_assoc]
  exact List.take_left' (by simp [hDl, hd, hh]; omega)
theorem grow_cells {L0 D hc : List Value} {n i : Nat} (hD : L0.take (i * 2) = D.take (i * 2)) (hDl : D.length = n * 2) (hl : (n + 1) * 2 ≤ L0.length) (hi : i < n) (hh : hc.length = 2) :
    (over (over L0 (i * 2) hc) ((i + 1) * 2) (D.drop (i * 2))).take ((n + 1) * 2) = D.take (i * 2) ++ hc ++ D.drop (i * 2) ∧ (over (over L0 (i * 2) hc) ((i + 1) * 2) (D.drop (i * 2))).length = L0.length := by
  have hd : (D.drop (i * 2)).length = n * 2 - i * 2 := by rw [List.length_drop, hDl]
  have h1 : (over L0 (i * 2) hc).length = L0.length := over_len _ _ _ (by omega)
  refine ⟨?_, by rw [over_len _ _ _ (by omega), h1]⟩
  have h2 := over_take (over L0 (i * 2) hc) ((i + 1) * 2) (D.drop (i * 2)) (by omega)
  have h3 := over_take L0 (i * 2) hc (by omega)
  rw [hd, show (i + 1) * 2 + (n * 2 - i * 2) = (n + 1) * 2 by omega] at h2
  rw [hh, show i * 2 + 2 = (i + 1) * 2 by omega, hD] at h3
  rw [h2, h3]
end
end Go.Proofs.Ytlabebapjhhkaaa
namespace Go.Proofs.Ytlabebapjhhkaaa
open Go.RowKit Go.Shelf
def InsPost (w : World) (B : Nat) (v : Value) (n : Nat) (D : List Value) (e : Ending) (w' : World) : Prop :=
  ∃ A' c', e = .returned (.slice A' (n + 1) c') ∧ w'.ownsRow B 35 2 (.slice A' (n + 1) c') (n + 1) D ∧ Keeps (fun k => v.ownBlock = some k) w w'
set_option maxRecDepth 100000 in
theorem Insert_end (w : World) (B : Nat) (A : Option Addr) (n c : Nat) (D : List Value) (Q : Nat) (x0 x1 : Value) (h : w.ownsRow B 35 2 (.slice A n c) n D) (hQ : Blk w Q 35 #[x0, x1]) (h1 : x0.oneCell' = true ∧ x1.oneCell' = true) (hn : n ≤ 8) (hB : B ≤ w.heap.size) :
    Calls Try.prog 49 #[.slice A n c, .int .i64 (n : Int), .slice (some ⟨Q, 0, none⟩) 1 1] w (InsPost w B (.slice A n c) n (D ++ [x0, x1])) := by
  obtain ⟨i0, hi0, hz0, hz1, hz2⟩ := info_parts head_info
  have HI0 := Lib.hid (And.intro hi0 (And.intro hz0 (And.intro hz1 hz2)))
  have H := Lib.hid h; have HQ := Lib.hid hQ; have H1 := Lib.hid h1
  clear h hQ h1 hi0 hz0 hz1 hz2
  go_enter Try.func49, Try.ntmps49
  go_wp2_with (at_builtin; refine wpList_append_any _ rfl (.tmp 23) (.tmp 24) _ rfl B 35 i0 _ 2 24 Try.underlying41 HI0.out.1 HI0.out.2.1 HI0.out.2.2.1 HI0.out.2.2.2 rfl (by omega) (.slice A n c) n _ rfl H.out _ (some ⟨Q, 0, none⟩) 1 1 [x0, x1] rfl (reads_row HQ.out rfl) (by intro u hu; simp only [List.mem_cons, List.not_mem_nil, or_false] at hu; rcases hu with rfl | rfl; exact H1.out.1; exact H1.out.2) (by simp only [maxLen]; omega) (by omega) hB ?_; intro v' w' hown' hg' hat'; obtain ⟨A', c', rfl⟩ := row_shape hown'; have HKK := Lib.hid ((Keeps.refl (fun k => (Value.slice A n c).ownBlock = some k) w).grown hg' (fun k e => Or.inr e)))
  all_goals
    go_ret
    exact ⟨A', c', rfl, hown', by cases A <;> exact HKK.out⟩
set_option maxRecDepth 100000 in
set_option maxHeartbeats 4000000 in
theorem Insert_shift (w : World) (B g n c i : Nat) (D : List Value) (Q : Nat) (x0 x1 : Value) (h : w.ownsRow B 35 2 (.slice (some ⟨g, 0, none⟩) n c) n D) (hD1 : ∀ v ∈ D, v.oneCell' = true) (hQ : Blk w Q 35 #[x0, x1]) (h1 : x0.oneCell' = true ∧ x1.oneCell' = true) (hn : n ≤ 8) (hi : i < n) (hroom : n + 1 ≤ c) (hgQ : g ≠ Q) :
    Calls Try.prog 49 #[.slice (some ⟨g, 0, none⟩) n c, .int .i64 (i : Int), .slice (some ⟨Q, 0, none⟩) 1 1] w (InsPost w B (.slice (some ⟨g, 0, none⟩) n c) n (D.take (i * 2) ++ [x0, x1] ++ D.drop (i * 2))) := by
  obtain ⟨cur, hBg, hg, hnc, hcm, hcs, htk⟩ : ∃ cur, B ≤ g ∧ Blk w g 35 cur ∧ n ≤ c ∧ c ≤ maxLen ∧ cur.size = c * 2 ∧ cur.toList.take (n * 2) = D := by
    rcases h.2 with ⟨e, _⟩ | ⟨g', cap, cur, e, q1, q2, q3, q4, q5, q6⟩
    · cases e
    · injection e with e1 _ e3
      simp only [Option.some.injEq, Addr.mk.injEq, and_true] at e1
      subst e1 e3
      exact ⟨cur, q1, q2, q3, q4, q5, q6⟩
  have hc63 : c ≤ 9223372036854775807 := hcm
  have hDl : D.length = n * 2 := h.1
  have hsh := shift_cells (L0 := cur.toList) (hc := [x0, x1]) htk (by rw [Array.length_toList, hcs]; omega) hi rfl
  have hdl : (D.drop (i * 2)).length = (n - i) * 2 := by rw [List.length_drop, hDl]; omega
  have hcell : ∀ j v, (D.drop (i * 2))[j]? = some v → w.cell? ⟨g, i * 2 + j, none⟩ = some v := fun j v hj => by
    rw [hg.cell, ← Array.getElem?_toList]
    rw [List.getElem?_drop, ← htk, List.getElem?_take] at hj
    split at hj
    · exact hj
    · cases hj
  have hmin : Nat.min (n - i) (n - i) = n - i := Nat.min_self _
  have hcp1 : ∀ (W : World), W.heap = w.heap → ∀ dc sc ty, (Builtin.copy_ #[41, 41] ty #[.slice (some ⟨g, (i + 1) * 2, none⟩) (n - i) dc, .slice (some ⟨g, i * 2, none⟩) (n + 1 - i) sc]).run Try.prog W = .ok (goInt (Nat.min (n + 1 - i) (n - i))) (W.setRow g (over cur.toList ((i + 1) * 2) (D.drop (i * 2))).toArray) := fun W hW dc sc ty =>
    run_copy2 W ty g ((i + 1) * 2) (n - i) dc ⟨g, i * 2, none⟩ (n + 1 - i) sc cur _ (D.drop (i * 2)) (by rw [hW]; exact hg) (by rw [hdl, show Nat.min (n + 1 - i) (n - i) = n - i from Nat.min_eq_right (by omega)])
      (fun j v hj => by
        have ha : (⟨g, i * 2, none⟩ : Addr).add j = ⟨g, i * 2 + j, none⟩ := by unfold Addr.add; split <;> simp_all
        rw [ha]
        have := hcell j v hj
        unfold World.cell? at this ⊢
        rw [hW]; exact this) (by rw [hdl, hcs]; omega) (fun v hv => hD1 v (List.mem_of_mem_drop hv))
  obtain ⟨L1, hL1⟩ : ∃ L1, L1 = over cur.toList ((i + 1) * 2) (D.drop (i * 2)) := ⟨_, rfl⟩
  have hL1l : L1.length = c * 2 := by rw [hL1, over_len _ _ _ (by rw [hdl, Array.length_toList, hcs]; omega), Array.length_toList, hcs]
  rw [← hL1] at hcp1 hsh
  have hcp2 : ∀ (W : World), Blk W g 35 L1.toArray → Blk W Q 35 #[x0, x1] → ∀ dc ty, (Builtin.copy_ #[41, 41] ty #[.slice (some ⟨g, i * 2, none⟩) (n + 1 - i) dc, .slice (some ⟨Q, 0, none⟩) 1 1]).run Try.prog W = .ok (goInt (Nat.min 1 (n + 1 - i))) (W.setRow g (over L1 (i * 2) [x0, x1]).toArray) := fun W hW hWQ dc ty => by
    have := run_copy2 W ty g (i * 2) (n + 1 - i) dc ⟨Q, 0, none⟩ 1 1 L1.toArray _ [x0, x1] hW (by rw [show Nat.min 1 (n + 1 - i) = 1 from Nat.min_eq_left (by omega)]; rfl)
      (fun j v hj => by
        have ha : (⟨Q, 0, none⟩ : Addr).add j = ⟨Q, j, none⟩ := by unfold Addr.add; split <;> simp_all
        rw [ha, hWQ.cell]
        simpa using hj) (by show i * 2 + 2 ≤ L1.length; omega) (fun v hv => by simp only [List.mem_cons, List.not_mem_nil, or_false] at hv; rcases hv with rfl | rfl; exact h1.1; exact h1.2)
    exact this
  have hsa : w.shape? Q = some (35, 2) := by have := hQ; unfold Blk at this; simp [World.shape?, this]
  have hsb : w.shape? g = some (35, c * 2) := by have := hg; unfold Blk at this; simp [World.shape?, this, hcs]
  have hov : ∀ lb cb, (callFunc 80 #[.slice (some ⟨Q, 0, none⟩) 1 1, .slice (some ⟨g, (i + 1) * 2, none⟩) lb cb]).run Try.prog w = .ok (.value (.bool false)) w := fun lb cb => by
    rw [run_callFunc_extern Try.func80 (by kernel_rfl) (by kernel_rfl) (by kernel_rfl) (e := Extern.SlicesOverlaps.overlaps #[41, 41] #[4]) (by kernel_rfl),
      Lib.run_overlaps_apart w 41 4 35 Try.underlying41 2 (fun _ => by kernel_rfl) ⟨Q, 0, none⟩ ⟨g, (i + 1) * 2, none⟩ 1 1 lb cb (fun e => hgQ e.symm) _ _ 2 (c * 2) hsa hsb (by omega) (hQ.frozen 0) (hQ.frozen 2)]
    rfl
  have hz2 : ¬ ((i : Int) = (n : Int)) := by omega
  have hw1 : IntKind.i64.wrap ((i : Int) + 1) = (i : Int) + 1 := by rw [IntKind.wrap_i64]; omega
  have hb1 : (0 : Int) ≤ (i : Int) + 1 := by omega
  have hin : i ≤ n := by omega
  have htn : ((i : Int) + 1).toNat = i + 1 := by omega
  have hb2 : ¬ (c = i + 1) := by omega
  have hb3 : (i : Int) ≤ (n : Int) + 1 := by omega
  have hb4 : ¬ (c = i) := by omega
  have H := Lib.hid h; have HQ := Lib.hid hQ; have HG := Lib.hid hg; have HSH := Lib.hid hsh; have HC1 := Lib.hid hcp1; have HC2 := Lib.hid hcp2
  have HX := Lib.hid (show over L1 (i * 2) [x0, x1] = over L1 (i * 2) [x0, x1] from rfl)
  have HHB := Lib.hid (And.intro hBg (And.intro hcm hcs)); have HL1L := Lib.hid hL1l
  have HD1 := Lib.hid hD1
  clear h hQ hg hsh hcp1 hcp2 hcell hsa hsb hL1 hL1l hD1 hdl hmin htk hcs hDl hBg hcm
  go_enter Try.func49, Try.ntmps49
  go_wp2_with (simp only [hov])
  have hc1 := fun dc sc ty => HC1.out w.drew rfl dc sc ty
  have hB1 : Blk (w.drew.setRow g L1.toArray) g 35 L1.toArray := HG.out.drew.setRow _
  have hQ1 : Blk (w.drew.setRow g L1.toArray) Q 35 #[x0, x1] := HQ.out.drew.setRow_ne (fun e => hgQ e.symm) _
  have hc2 := fun dc ty => HC2.out (w.drew.setRow g L1.toArray) hB1 hQ1 dc ty
  have HB1 := Lib.hid hB1
  clear hB1 hQ1
  refine wp_region_qt 8 (by kernel_rfl) (by kernel_rfl) ?_
  simp only [List.take_succ_cons, List.take_zero, List.drop_succ_cons, List.drop_zero]
  repeat (first | go_big_quiet_skip | (go_big_quiet_want; go_big_quiet_op; first | go_big_quiet_on))
  refine wpQuiet_nil ?_
  go_wp2
  clear hc1 hc2
  go_ret
  refine ⟨some ⟨g, 0, none⟩, c, rfl, ⟨?_, Or.inr ⟨g, c, (over L1 (i * 2) [x0, x1]).toArray, rfl, HHB.out.1, HB1.out.setRow _, hroom, HHB.out.2.1, ?_, ?_⟩⟩, ?_⟩
  · have hDl := H.out.1
    simp [hDl]
    omega
  · rw [List.size_toArray, HSH.out.2, Array.length_toList, HHB.out.2.2]
  · exact HSH.out.1
  · refine ⟨rfl, rfl, rfl, by simp only [World.setRow, Array.size_modify]; exact Nat.le_refl _, fun k hk hne => ?_⟩
    have hkg : k ≠ g := fun e => hne (by rw [e]; rfl)
    rw [setRow_other _ g k _ hkg]
    exact setRow_other w.drew g k _ hkg
set_option maxRecDepth 100000 in
set_option maxHeartbeats 4000000 in
theorem Insert_grow (w : World) (B g n c i : Nat) (D : List Value) (Q : Nat) (x0 x1 : Value) (h : w.ownsRow B 35 2 (.slice (some ⟨g, 0, none⟩) n c) n D) (hD1 : ∀ v ∈ D, v.oneCell' = true) (hQ : Blk w Q 35 #[x0, x1]) (h1 : x0.oneCell' = true ∧ x1.oneCell' = true) (hn : n ≤ 8) (hi : i < n) (hroom : ¬ n + 1 ≤ c) (hB : B ≤ w.heap.size) :
    Calls Try.prog 49 #[.slice (some ⟨g, 0, none⟩) n c, .int .i64 (i : Int), .slice (some ⟨Q, 0, none⟩) 1 1] w (InsPost w B (.slice (some ⟨g, 0, none⟩) n c) n (D.take (i * 2) ++ [x0, x1] ++ D.drop (i * 2))) := by
  obtain ⟨cur, hBg, hg, hnc, hcm, hcs, htk⟩ : ∃ cur, B ≤ g ∧ Blk w g 35 cur ∧ n ≤ c ∧ c ≤ maxLen ∧ cur.size = c * 2 ∧ cur.toList.take (n * 2) = D := by
    rcases h.2 with ⟨e, _⟩ | ⟨g', cap, cur, e, q1, q2, q3, q4, q5, q6⟩
    · cases e
    · injection e with e1 _ e3
      simp only [Option.some.injEq, Addr.mk.injEq, and_true] at e1
      subst e1 e3
      exact ⟨cur, q1, q2, q3, q4, q5, q6⟩
  have hc63 : c ≤ 9223372036854775807 := hcm
  obtain rfl : c = n := by omega
  have hDl : D.length = c * 2 := h.1
  have hdl : (D.drop (i * 2)).length = (c - i) * 2 := by rw [List.length_drop, hDl]; omega
  have hcell0 : ∀ j v, D[j]? = some v → w.cell? ⟨g, j, none⟩ = some v := fun j v hj => by
    rw [hg.cell, ← Array.getElem?_toList]
    rw [← htk, List.getElem?_take] at hj
    split at hj
    · exact hj
    · cases hj
  obtain ⟨i0, hi0, hz0, hz1, hz2⟩ := info_parts head_info
  obtain ⟨G, hG⟩ : ∃ G, G = grownCap w (c + 1) c 35 := ⟨_, rfl⟩
  have hGn : c + 1 ≤ G := by rw [hG]; exact grownCap_ge w _ _ _
  have hG63 : G ≤ maxLen := by rw [hG]; exact grownCap_le_maxLen w (c + 1) c 35 (by unfold maxLen; omega)
  obtain ⟨R0, hR0⟩ : ∃ R0 : Array Value, R0 = (D.take (i * 2)).toArray ++ Builtin.zeroCells (Value.cells (.agg #[.string ⟨#[]⟩, .int .i64 0])) (c + 1 - i) ++ Builtin.zeroCells (Value.cells (.agg #[.string ⟨#[]⟩, .int .i64 0])) (G - (c + 1)) := ⟨_, rfl⟩
  have hR0s : R0.size = G * 2 := by
    rw [hR0]
    simp only [Array.size_append, List.size_toArray, List.length_take, hDl, size_zeroCells]
    have : (Value.cells (.agg #[.string ⟨#[]⟩, .int .i64 0])).size = 2 := rfl
    rw [this]
    omega
  have hR0t : R0.toList.take (i * 2) = D.take (i * 2) := by
    rw [hR0, Array.toList_append, Array.toList_append, List.append_assoc]
    exact List.take_left' (by simp [hDl]; omega)
  have hik : i + (c + 1 - i) = c + 1 := by omega
  have hold : (Builtin.firstCells i0.size i (.slice (some ⟨g, 0, none⟩) i c)).run Try.prog w.drew = .ok (D.take (i * 2)).toArray w.drew := by
    rw [hz1]
    exact run_firstCells_some w.drew 2 i ⟨g, 0, none⟩ i c (D.take (i * 2)) (by rw [List.length_take, hDl]; omega) (fun j v hj => by
      have ha : (⟨g, 0, none⟩ : Addr).add j = ⟨g, j, none⟩ := by unfold Addr.add; split <;> simp_all
      rw [ha]
      rw [List.getElem?_take] at hj
      split at hj
      · exact hcell0 j v hj
      · cases hj)
  have hrz : ∀ ty, (Builtin.append_ #[41, 3] ty #[.slice (some ⟨g, 0, none⟩) i c, .int .i64 ((c : Int) + 1 - (i : Int))]).run Try.prog w =
      .ok (.slice (some ⟨w.heap.size, 0, none⟩) (c + 1) G) (w.drew.alloc (.cells R0 35)) := fun ty => by
    have h := Lib.run_append_grow_zeros w 41 3 ty 35 i0 _ .i64 .i64 Try.underlying41 Try.underlying3 hi0 hz0 (some ⟨g, 0, none⟩) i c _ hold (c + 1 - i) (by omega) (by omega) (by omega) (by omega) (by rw [hz2]; omega) (by rw [hz2, hik]; exact growslice_fits (by omega) (by omega))
    rw [hik, ← hG, ← hR0, show ((c + 1 - i : Nat) : Int) = (c : Int) + 1 - (i : Int) by omega] at h
    exact h
  have hgr := grow_cells (L0 := R0.toList) (D := D) (hc := [x0, x1]) hR0t hDl (by rw [Array.length_toList, hR0s]; omega) hi rfl
  obtain ⟨L1, hL1⟩ : ∃ L1, L1 = over R0.toList (i * 2) [x0, x1] := ⟨_, rfl⟩
  have hL1l : L1.length = G * 2 := by rw [hL1, over_len _ _ _ (by show i * 2 + 2 ≤ _; rw [Array.length_toList, hR0s]; omega), Array.length_toList, hR0s]
  rw [← hL1] at hgr
  have hcp1 : ∀ (W : World), Blk W w.heap.size 35 R0 → Blk W Q 35 #[x0, x1] → ∀ dc ty, (Builtin.copy_ #[41, 41] ty #[.slice (some ⟨w.heap.size, i * 2, none⟩) (c + 1 - i) dc, .slice (some ⟨Q, 0, none⟩) 1 1]).run Try.prog W = .ok (goInt (Nat.min 1 (c + 1 - i))) (W.setRow w.heap.size L1.toArray) := fun W hW hWQ dc ty => by
    have := run_copy2 W ty w.heap.size (i * 2) (c + 1 - i) dc ⟨Q, 0, none⟩ 1 1 R0 _ [x0, x1] hW (by rw [show Nat.min 1 (c + 1 - i) = 1 from Nat.min_eq_left (by omega)]; rfl)
      (fun j v hj => by
        have ha : (⟨Q, 0, none⟩ : Addr).add j = ⟨Q, j, none⟩ := by unfold Addr.add; split <;> simp_all
        rw [ha, hWQ.cell]
        simpa using hj) (by show i * 2 + 2 ≤ R0.size; omega) (fun v hv => by simp only [List.mem_cons, List.not_mem_nil, or_false] at hv; rcases hv with rfl | rfl; exact h1.1; exact h1.2)
    rw [← hL1] at this
    exact this
  have hcp2 : ∀ (W : World), Blk W w.heap.size 35 L1.toArray → Blk W g 35 cur → ∀ dc sc ty, (Builtin.copy_ #[41, 41] ty #[.slice (some ⟨w.heap.size, (i + 1) * 2, none⟩) (c - i) dc, .slice (some ⟨g, i * 2, none⟩) (c - i) sc]).run Try.prog W = .ok (goInt (Nat.min (c - i) (c - i))) (W.setRow w.heap.size (over L1 ((i + 1) * 2) (D.drop (i * 2))).toArray) := fun W hW hWg dc sc ty =>
    run_copy2 W ty w.heap.size ((i + 1) * 2) (c - i) dc ⟨g, i * 2, none⟩ (c - i) sc L1.toArray _ (D.drop (i * 2)) hW (by rw [hdl, show Nat.min (c - i) (c - i) = c - i from Nat.min_self _])
      (fun j v hj => by
        have ha : (⟨g, i * 2, none⟩ : Addr).add j = ⟨g, i * 2 + j, none⟩ := by unfold Addr.add; split <;> simp_all
        rw [List.getElem?_drop] at hj
        have := hcell0 _ v hj
        rw [hg.cell] at this
        rw [ha, hWg.cell]
        exact this) (by show _ ≤ L1.length; rw [hdl, hL1l]; omega) (fun v hv => hD1 v (List.mem_of_mem_drop hv))
  have hz2' : ¬ ((i : Int) = (c : Int)) := by omega
  have hz3 : (c : Int) < (c : Int) + 1 := by omega
  have hw1 : IntKind.i64.wrap ((i : Int) + 1) = (i : Int) + 1 := by rw [IntKind.wrap_i64]; omega
  have hb1 : (0 : Int) ≤ (i : Int) + 1 := by omega
  have hin : i ≤ c := by omega
  have htn : ((i : Int) + 1).toNat = i + 1 := by omega
  have hGi : ¬ (G = i) := by omega
  have hGim : ¬ (G = i + 1) := by omega
  have hci : ¬ (c = i) := by omega
  have hb3 : (i : Int) ≤ (c : Int) + 1 := by omega
  have hb4 : (i : Int) + 1 ≤ (c : Int) + 1 := by omega
  have hG63' : G ≤ 9223372036854775807 := hG63
  have hgw : g ≠ w.heap.size := by have := hg.lt; omega
  have hQw : Q ≠ w.heap.size := by have := hQ.lt; omega
  have H := Lib.hid h; have HQ := Lib.hid hQ; have HG := Lib.hid hg; have HGR := Lib.hid hgr
  have hW1 : Blk (w.alloc (.cells R0 35)).drew w.heap.size 35 R0 := (Blk.new w _ _).drew
  have hWQ : Blk (w.alloc (.cells R0 35)).drew Q 35 #[x0, x1] := (hQ.alloc _).drew
  have hWg : Blk (w.alloc (.cells R0 35)).drew g 35 cur := (hg.alloc _).drew
  have hWb : Below w.heap.size w (w.alloc (.cells R0 35)).drew := ((Below.refl _ _).alloc (Nat.le_refl _) _).drew
  have HWW := Lib.hid (And.intro hW1 (And.intro hWQ (And.intro hWg hWb)))
  clear hW1 hWQ hWg hWb
  have HC1 := Lib.hid hcp1; have HC2 := Lib.hid hcp2; have HRZ := Lib.hid hrz
  have HHB := Lib.hid (And.intro hB (And.intro hG63 (And.intro hGn hR0s)))
  clear h hQ hg hgr hcp1 hcp2 hcell0 hL1 hL1l hD1 hdl htk hcs hDl hBg hcm hR0 hR0t hold hG hi0 hz0 hz1 hz2 hR0s hrz
  go_enter Try.func49, Try.ntmps49
  go_upto_region 10 with (at_builtin; refine wpList_appz rfl (.tmp 34) (.tmp 39) rfl _ _ rfl rfl HRZ.out ?_)
  have hww := HWW.out
  generalize (w.alloc (.cells R0 35)).drew = W at hww ⊢
  have hc1 := fun dc ty => HC1.out W hww.1 hww.2.1 dc ty
  have hB2 : Blk (W.setRow w.heap.size L1.toArray) w.heap.size 35 L1.toArray := hww.1.setRow _
  have hg2 : Blk (W.setRow w.heap.size L1.toArray) g 35 cur := hww.2.2.1.setRow_ne hgw _
  have HB2 := Lib.hid hB2; have HG2 := Lib.hid hg2; have HWB := Lib.hid hww.2.2.2
  clear hB2 hg2 hww HWW HRZ
  go_wp2_with fail
  clear hc1
  have hc2 := fun dc sc ty => HC2.out (W.setRow w.heap.size L1.toArray).drew HB2.out.drew HG2.out.drew dc sc ty
  refine wp_region_qt 8 (by kernel_rfl) (by kernel_rfl) ?_
  simp only [List.take_succ_cons, List.take_zero, List.drop_succ_cons, List.drop_zero]
  repeat (first | go_big_quiet_skip | (go_big_quiet_want; go_big_quiet_op; first | go_big_quiet_on))
  refine wpQuiet_nil ?_
  go_wp2
  clear hc2
  go_ret
  refine ⟨some ⟨w.heap.size, 0, none⟩, G, rfl, ⟨?_, Or.inr ⟨w.heap.size, G, (over L1 ((i + 1) * 2) (D.drop (i * 2))).toArray, rfl, HHB.out.1, HB2.out.drew.setRow _, HHB.out.2.2.1, HHB.out.2.1, ?_, HGR.out.1⟩⟩, ?_⟩
  · have hDl := H.out.1
    simp [hDl]
    omega
  · rw [List.size_toArray, HGR.out.2, Array.length_toList, HHB.out.2.2.2]
  · have hb := below_setRow (below_setRow HWB.out (Nat.le_refl _) L1.toArray).drew (Nat.le_refl _) (over L1 ((i + 1) * 2) (D.drop (i * 2))).toArray
    exact Keeps.of_below hb
end Go.Proofs.Ytlabebapjhhkaaa
