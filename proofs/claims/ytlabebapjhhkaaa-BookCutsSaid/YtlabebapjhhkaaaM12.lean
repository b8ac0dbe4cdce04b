/- Put and Delete of a book. Conditions stand with each theorem. -/
import Derived.Test.YtlabebapjhhkaaaM11
namespace Go.Proofs.Ytlabebapjhhkaaa
open Go.RowKit Go.Shelf
theorem flat_take (l : List HeadV) : ∀ (i : Nat), (l.flatMap headC).take (i * 2) = (l.take i).flatMap headC := by
  induction l with
  | nil => intro i; simp
  | cons x r ih =>
    intro i
    cases i with
    | zero => simp
    | succ i =>
      rw [List.flatMap_cons, List.take_succ_cons, List.flatMap_cons, ← ih]
      show (Value.string ⟨x.id.toArray⟩ :: Value.int .i64 x.size :: r.flatMap headC).take ((i + 1) * 2) = _
      rw [show (i + 1) * 2 = i * 2 + 1 + 1 by omega, List.take_succ_cons, List.take_succ_cons]
      rfl
theorem flat_drop (l : List HeadV) : ∀ (i : Nat), (l.flatMap headC).drop (i * 2) = (l.drop i).flatMap headC := by
  induction l with
  | nil => intro i; simp
  | cons x r ih =>
    intro i
    cases i with
    | zero => simp
    | succ i =>
      rw [List.drop_succ_cons, ← ih, List.flatMap_cons]
      show (Value.string ⟨x.id.toArray⟩ :: Value.int .i64 x.size :: r.flatMap headC).drop ((i + 1) * 2) = _
      rw [show (i + 1) * 2 = i * 2 + 1 + 1 by omega, List.drop_succ_cons, List.drop_succ_cons]
theorem flat_one (l : List HeadV) : ∀ v ∈ l.flatMap headC, v.oneCell' = true := by
  intro v hv
  obtain ⟨x, _, hx⟩ := List.mem_flatMap.1 hv
  unfold headC at hx
  simp only [List.mem_cons, List.not_mem_nil, or_false] at hx
  rcases hx with rfl | rfl <;> rfl
theorem lt_of_not : ∀ {a b : List UInt8}, ¬ ltB a b → a ≠ b → ltB b a
  | [], [], _, h => absurd rfl h
  | [], _ :: _, h, _ => absurd (by unfold ltB Lib.compareBytes; decide) h
  | _ :: _, [], _, _ => by unfold ltB Lib.compareBytes; decide
  | x :: a, y :: b, h, h' => by
    have ih := @lt_of_not a b
    unfold ltB at ih h ⊢
    unfold Lib.compareBytes at h ⊢
    by_cases h1 : x < y
    · rw [if_pos h1] at h; exact absurd (by decide) h
    · by_cases h2 : y < x
      · rw [if_pos h2]; decide
      · have e : x = y := UInt8.le_antisymm (UInt8.not_lt.1 h2) (UInt8.not_lt.1 h1)
        subst e
        rw [if_neg h1, if_neg h1] at h
        rw [if_neg h1, if_neg h1]
        exact ih h (fun e => h' (by rw [e]))
def insAt (l : List HeadV) (i : Nat) (h : HeadV) : List HeadV := l.take i ++ h :: l.drop i
theorem insAt_len {l : List HeadV} {i : Nat} {h : HeadV} (hi : i ≤ l.length) : (insAt l i h).length = l.length + 1 := by unfold insAt; simp; omega
theorem insAt_flat (l : List HeadV) (i : Nat) (h : HeadV) : (insAt l i h).flatMap headC = (l.flatMap headC).take (i * 2) ++ [.string ⟨h.id.toArray⟩, .int .i64 h.size] ++ (l.flatMap headC).drop (i * 2) := by
  unfold insAt
  rw [List.flatMap_append, List.flatMap_cons, flat_take, flat_drop]
  simp [headC]
theorem Insert_any (w : World) (B : Nat) (A : Option Addr) (c i Q : Nat) (l : List HeadV) (h : HeadV) (ho : w.ownsRow B 35 2 (.slice A l.length c) l.length (l.flatMap headC)) (hQ : Blk w Q 35 #[.string ⟨h.id.toArray⟩, .int .i64 h.size]) (hn : l.length ≤ 8) (hi : i ≤ l.length)
    (hQ2 : ∀ k, (Value.slice A l.length c).ownBlock = some k → k ≠ Q) (hB : B ≤ w.heap.size) :
    Calls Try.prog 49 #[.slice A l.length c, .int .i64 (i : Int), .slice (some ⟨Q, 0, none⟩) 1 1] w (InsPost w B (.slice A l.length c) l.length ((insAt l i h).flatMap headC)) := by
  rw [insAt_flat]
  rcases Nat.lt_or_ge i l.length with hlt | hge
  · rcases ho.2 with ⟨e, e2⟩ | ⟨g, cap, cur, e, _, hg, _⟩
    · omega
    · injection e with e1 _ e3
      subst e1 e3
      by_cases hr : l.length + 1 ≤ c
      · exact Insert_shift w B g l.length c i _ Q _ _ ho (flat_one l) hQ ⟨rfl, rfl⟩ hn hlt hr (hQ2 g rfl)
      · exact Insert_grow w B g l.length c i _ Q _ _ ho (flat_one l) hQ ⟨rfl, rfl⟩ hn hlt hr hB
  · obtain rfl : i = l.length := by omega
    have e1 : (l.flatMap headC).take (l.length * 2) = l.flatMap headC := by rw [flat_take, List.take_length]
    have e2 : (l.flatMap headC).drop (l.length * 2) = [] := by rw [flat_drop, List.drop_length]; rfl
    rw [e1, e2, List.append_nil]
    exact Insert_end w B A l.length c _ Q _ _ ho hQ ⟨rfl, rfl⟩ hn hB
/-- Where a name is, or would be. -/
def pos (l : List HeadV) (id : List UInt8) : Nat := (l.takeWhile fun x => decide (Lib.compareBytes x.id id < 0)).length
theorem pos_at {l : List HeadV} (id : List UInt8) (hr : Rising l) : PosAt l id (pos l id) := by
  unfold pos
  induction l with
  | nil => exact ⟨Nat.le_refl _, fun k h e => by simp at e, fun k h e => by simp at e⟩
  | cons x r ih =>
    have ih := ih (List.pairwise_cons.1 hr).2
    rw [List.takeWhile_cons]
    by_cases hx : Lib.compareBytes x.id id < 0
    · rw [if_pos (decide_eq_true hx), List.length_cons]
      refine ⟨by rw [List.length_cons]; exact Nat.succ_le_succ ih.le, fun k h e hk => ?_, fun k h e hk => ?_⟩
      · cases k with
        | zero => injection e with e; rw [← e]; exact hx
        | succ k => exact ih.lo k h (by simpa using e) (by omega)
      · cases k with
        | zero => omega
        | succ k => exact ih.hi k h (by simpa using e) (by omega)
    · rw [if_neg (by simpa using hx), List.length_nil]
      refine ⟨Nat.zero_le _, fun k h e hk => by omega, fun k h e _ e2 => ?_⟩
      cases k with
      | zero => injection e with e; rw [← e] at e2; exact hx e2
      | succ k => exact hx (lt_trans' _ _ _ (rising_at hr (i := 0) (j := k + 1) rfl e (by omega)) e2)
theorem ins_rising {l : List HeadV} {h : HeadV} {i : Nat} (hr : Rising l) (hp : PosAt l h.id i) (hno : hasId l h.id = false) : Rising (insAt l i h) := by
  have hnx : ∀ x ∈ l, x.id ≠ h.id := fun x hx e => by
    unfold hasId at hno
    rw [List.contains_eq_mem, decide_eq_false_iff_not] at hno
    exact hno (by rw [← e]; exact List.mem_map.2 ⟨x, hx, rfl⟩)
  have hsp : l = l.take i ++ l.drop i := (List.take_append_drop i l).symm
  unfold Rising at hr ⊢
  rw [hsp, List.pairwise_append] at hr
  obtain ⟨h1, h2, h3⟩ := hr
  have hlo : ∀ x ∈ l.take i, ltB x.id h.id := fun x hx => by
    obtain ⟨k, hk, rfl⟩ := List.getElem_of_mem hx
    rw [List.length_take] at hk
    rw [List.getElem_take]
    exact hp.lo k _ (List.getElem?_eq_getElem (by omega)) (by omega)
  have hhi : ∀ x ∈ l.drop i, ltB h.id x.id := fun x hx => by
    obtain ⟨k, hk, rfl⟩ := List.getElem_of_mem hx
    rw [List.length_drop] at hk
    rw [List.getElem_drop]
    have hne := hnx _ (List.getElem_mem (l := l) (n := i + k) (by omega))
    have hge := hp.hi (i + k) _ (List.getElem?_eq_getElem (by omega)) (by omega)
    exact lt_of_not hge hne
  unfold insAt
  rw [List.pairwise_append]
  refine ⟨h1, List.pairwise_cons.2 ⟨hhi, h2⟩, fun a ha b hb => ?_⟩
  rcases List.mem_cons.1 hb with rfl | hb
  · exact hlo a ha
  · exact h3 a ha b hb
def putV (h : HeadV) (l : List Int) (v : BookV) : Int × BookV :=
  if h.id.length < 1 ∨ 16 < h.id.length then (1, v) else if h.size < 0 ∨ 256 < h.size then (8, v) else if hasId v.dir h.id = true then (9, v) else if 8 ≤ v.dir.length then (7, v) else (0, countV { v with dir := insAt v.dir (pos v.dir h.id) h } l)
theorem putV_good {N : Nat} {v : BookV} (g : GoodV N v) (h : HeadV) (l : List Int) : (putV h l v).1 = 0 → GoodV N (putV h l v).2 := by
  unfold putV
  intro e
  by_cases h1 : h.id.length < 1 ∨ 16 < h.id.length
  · rw [if_pos h1] at e; cases e
  rw [if_neg h1] at e ⊢
  by_cases h2 : h.size < 0 ∨ 256 < h.size
  · rw [if_pos h2] at e; cases e
  rw [if_neg h2] at e ⊢
  by_cases h3 : hasId v.dir h.id = true
  · rw [if_pos h3] at e; cases e
  rw [if_neg h3] at e ⊢
  by_cases h4 : 8 ≤ v.dir.length
  · rw [if_pos h4] at e; cases e
  rw [if_neg h4]
  have hp := pos_at h.id g.srt
  refine countV_good (v := { v with dir := insAt v.dir (pos v.dir h.id) h }) ⟨g.s0, g.s1, g.d0, g.d1, g.e0, g.e1, ?_, fun x hx => ?_, ins_rising g.srt hp (by simpa using h3), g.ul, g.cl, g.c⟩ l
  · show (insAt v.dir (pos v.dir h.id) h).length ≤ 8
    rw [insAt_len hp.le]
    omega
  · have hx' : x ∈ v.dir.take (pos v.dir h.id) ++ h :: v.dir.drop (pos v.dir h.id) := hx
    rcases List.mem_append.1 hx' with e1 | e1
    · exact g.dh x (List.mem_of_mem_take e1)
    · rcases List.mem_cons.1 e1 with rfl | e1
      · omega
      · exact g.dh x (List.mem_of_mem_drop e1)
end Go.Proofs.Ytlabebapjhhkaaa
namespace Go.Proofs.Ytlabebapjhhkaaa
open Go.RowKit Go.Shelf
/-- Behind a change of the directory's row. -/
theorem dir_set {W W2 : World} {B V n : Nat} {v : BookV} {Ad Au Ac A' : Option Addr} {cd cu cc c' : Nat} {l : List HeadV} (hV : Blk W V 44 (bookCells v Ad Au Ac cd cu cc)) (hO : BookOwn W B v (.slice Ad v.dir.length cd) (.slice Au v.up.length cu) (.slice Ac v.commit.length cc))
    (hown : W2.ownsRow B 35 2 (.slice A' n c') n (l.flatMap headC)) (hn : l.length = n) (hk : Keeps (fun k => (Value.slice Ad v.dir.length cd).ownBlock = some k) W W2) :
    Blk W2 V 44 (bookCells v Ad Au Ac cd cu cc) ∧ VIs (W2.setCell ⟨V, 3, none⟩ (.slice A' n c')) B V { v with dir := l } := by
  subst hn
  have hne : ∀ k, (Value.slice Ad v.dir.length cd).ownBlock = some k → ∃ cur, Blk W k 35 cur := fun k e => by
    rcases hO.dir.2 with ⟨e1, _⟩ | ⟨g, cap, cur, e1, _, hg, _⟩
    · rw [e1] at e; cases e
    · rw [e1] at e
      injection e with e
      simp only at e
      exact ⟨cur, e ▸ hg⟩
  have hV2 : Blk W2 V 44 (bookCells v Ad Au Ac cd cu cc) := hV.keeps hk (fun e => by
    obtain ⟨cur, hc⟩ := hne _ e
    exact Blk.ne_ hc hV (by decide) rfl)
  refine ⟨hV2, A', Au, Ac, c', cu, cc, ?_, ?_, ?_, ?_⟩
  · exact hV2.set_ 3 _
  · exact row_far hown hV2 (by decide) _ (keeps_set _ _ _ _)
  · refine row_far (row_keeps hO.up hk fun k e e2 => ?_) hV2 (by decide) _ (keeps_set _ _ _ _)
    obtain ⟨cur, hc⟩ := hne _ e2
    rcases hO.up.2 with ⟨e1, _⟩ | ⟨g, cap, cur', e1, _, hg, _⟩
    · rw [e1] at e; cases e
    · rw [e1] at e
      injection e with e
      simp only at e
      subst e
      exact Blk.ne_ hc (show Blk W g _ cur' from hg) (by decide) rfl
  · refine row_far (row_keeps hO.commit hk fun k e e2 => ?_) hV2 (by decide) _ (keeps_set _ _ _ _)
    obtain ⟨cur, hc⟩ := hne _ e2
    rcases hO.commit.2 with ⟨e1, _⟩ | ⟨g, cap, cur', e1, _, hg, _⟩
    · rw [e1] at e; cases e
    · rw [e1] at e
      injection e with e
      simp only at e
      subst e
      exact Blk.ne_ hc (show Blk W g _ cur' from hg) (by decide) rfl
def PutC (V b1 : Nat) (vd : Value) (cs : Array Value) (W : World) : Prop := W.cell? ⟨V, 3, none⟩ = some vd ∧ Blk W b1 35 cs
theorem run_len_str (s : List UInt8) : ByteArray.size ⟨s.toArray⟩ = s.length := rfl
set_option maxRecDepth 100000 in
set_option maxHeartbeats 4000000 in
theorem Put1_any (w : World) (v : BookV) (b1 b2 b3 : Nat) (kv : Value) (h : HeadV) (A : Option Addr) (n c : Nat) (l : List Int) (h1 : Blk w b1 35 #[.string ⟨h.id.toArray⟩, .int .i64 h.size]) (h2 : ∀ W, Below w.heap.size w W → W.cell? ⟨b2, 0, none⟩ = some kv) (h3 : ∀ W, Below w.heap.size w W → W.cell? ⟨b3, 0, none⟩ = some (.slice A n c)) (hr : IRd w w.heap.size A n l) (hn : n ≤ 9223372036854775807)
    (hkv : ∃ q, kv = .pointer q) (hl : v.up.length = v.commit.length) (hu : v.up.length ≤ 255) (hs : Rising v.dir) (hd : v.dir.length ≤ 8) :
    How w.heap.size (fun _ => False) (fun _ => True) w v 48 #[.pointer (some ⟨b1, 0, none⟩), .pointer (some ⟨b2, 0, none⟩), .pointer (some ⟨b3, 0, none⟩)] (putV h l v) := by
  intro W V Ad Au Ac cd cu cc hW hB hVB hV hO
  obtain ⟨q, rfl⟩ := hkv
  have H := Lib.hid (show VIs W w.heap.size V v from ⟨Ad, Au, Ac, cd, cu, cc, hV, hO⟩)
  have HB1 := Lib.hid (show ∀ W, Below w.heap.size w W → Blk W b1 35 #[.string ⟨h.id.toArray⟩, .int .i64 h.size] from fun W hW => h1.below hW h1.lt)
  have HB1L := Lib.hid h1.lt
  have H2 := Lib.hid h2; have H3 := Lib.hid h3; have HR := Lib.hid hr; have HW := Lib.hid hW; have HS := Lib.hid hs; have HD := Lib.hid hd
  have HVV := Lib.hid hV; have HOO := Lib.hid hO
  clear h1 h2 h3 hr hW hs hd hV hO
  obtain ⟨id, size⟩ := h
  simp only at HB1 ⊢
  have HFIND := Lib.hid (find_any W w.heap.size V v id H.out HS.out HD.out)
  have hsz := run_len_str id
  simp only [List.cons_append, List.nil_append, List.append_toArray]
  have HPV := Lib.hid (show putV ⟨id, size⟩ l v = if id.length < 1 ∨ 16 < id.length then (1, v) else if size < 0 ∨ 256 < size then (8, v) else if hasId v.dir id = true then (9, v) else if 8 ≤ v.dir.length then (7, v) else (0, countV { v with dir := insAt v.dir (pos v.dir id) ⟨id, size⟩ } l) from rfl)
  obtain ⟨Z, hZ⟩ : ∃ Z, Z = putV ⟨id, size⟩ l v := ⟨_, rfl⟩
  rw [← hZ] at HPV ⊢
  clear hZ
  obtain ⟨S, hS⟩ : ∃ S : ByteArray, S = ⟨id.toArray⟩ := ⟨_, rfl⟩
  rw [← hS] at HFIND HB1 hsz
  have HSS := Lib.hid hS
  clear hS
  have c10 : W.cell? ⟨b1, 0, none⟩ = some (.string S) := ((HB1.out W HW.out).cell 0).trans rfl
  go_enter Try.func48, Try.ntmps48
  go_upto_region 2 with (go_at_call 44; refine HFIND.out.mono ?_; rintro e W2 ⟨i, hi, rfl, hb2⟩)
  have hiP : i = pos v.dir id := hi.uniq (pos_at id HS.out)
  subst hiP
  have hb02 := HW.out.trans (hb2.mono HW.out.size)
  have k10 : W2.cell? ⟨b1, 0, none⟩ = some (.string S) := ((HB1.out W2 hb02).cell 0).trans rfl
  have k11 : W2.cell? ⟨b1, 1, none⟩ = some (.int .i64 size) := ((HB1.out W2 hb02).cell 1).trans rfl
  have hv2 := H.out.below hB hb2
  have kV3 : W2.cell? ⟨V, 3, none⟩ = some (.slice Ad v.dir.length cd) := (((HVV.out.below hb2 HVV.out.lt)).cell 3).trans rfl
  have HB02 := Lib.hid hb02; have HV2 := Lib.hid hv2; have HVV2 := Lib.hid (HVV.out.below hb2 HVV.out.lt); have HOO2 := Lib.hid (HOO.out.below hb2); have HIP := Lib.hid hi; have HBB2 := Lib.hid hb2
  have HKB := Lib.hid (Keeps.of_below (F := fun k => w.heap.size ≤ k ∨ False) hb2)
  clear hb02 hv2 hi hb2 c10
  obtain ⟨hb, hhb⟩ : ∃ hb, hb = hasId v.dir id := ⟨_, rfl⟩
  rw [← hhb] at HPV ⊢
  clear hhb
  by_cases q1 : id.length < 1
  · have hz : Z = (1, v) := by rw [HPV.out, if_pos (Or.inl q1)]
    have q1' : (id.length : Int) < 1 := by omega
    go_wp2
    go_ret
    try rw [hz]
    exact ⟨rfl, HKB.out, fun e => by cases e⟩
  have q1' : ¬ (id.length : Int) < 1 := by omega
  by_cases q2 : 16 < id.length
  · have hz : Z = (1, v) := by rw [HPV.out, if_pos (Or.inr q2)]
    have q2' : (16 : Int) < (id.length : Int) := by omega
    go_wp2
    go_ret
    try rw [hz]
    exact ⟨rfl, HKB.out, fun e => by cases e⟩
  have q2' : ¬ (16 : Int) < (id.length : Int) := by omega
  by_cases q3 : size < 0
  · have hz : Z = (8, v) := by rw [HPV.out, if_neg (by omega), if_pos (Or.inl q3)]
    go_wp2
    go_ret
    try rw [hz]
    exact ⟨rfl, HKB.out, fun e => by cases e⟩
  by_cases q4 : 256 < size
  · have hz : Z = (8, v) := by rw [HPV.out, if_neg (by omega), if_pos (Or.inr q4)]
    go_wp2
    go_ret
    try rw [hz]
    exact ⟨rfl, HKB.out, fun e => by cases e⟩
  cases hb with
  | true =>
    have hz : Z = (9, v) := by rw [HPV.out, if_neg (by omega), if_neg (by omega), if_pos rfl]
    go_wp2
    go_ret
    try rw [hz]
    exact ⟨rfl, HKB.out, fun e => by cases e⟩
  | false =>
  by_cases q6 : 8 ≤ v.dir.length
  · have hz : Z = (7, v) := by rw [HPV.out, if_neg (by omega), if_neg (by omega), if_neg (fun e => by cases e), if_pos q6]
    have q6' : (8 : Int) ≤ (v.dir.length : Int) := by omega
    go_wp2
    go_ret
    try rw [hz]
    exact ⟨rfl, HKB.out, fun e => by cases e⟩
  have q6' : ¬ (8 : Int) ≤ (v.dir.length : Int) := by omega
  have hz : Z = (0, countV { v with dir := insAt v.dir (pos v.dir id) ⟨id, size⟩ } l) := by rw [HPV.out, if_neg (by omega), if_neg (by omega), if_neg (fun e => by cases e), if_neg q6]
  have HZ := Lib.hid hz
  have HQ6 := Lib.hid q6
  clear hz HPV
  go_upto_region 10 with (fail)
  clear q1 q1' q2 q2' q3 q4 q6 q6' k10 k11 hsz
  have hPC : ∀ W', Keeps (fun k => (Value.slice Ad v.dir.length cd).ownBlock = some k) W2 W' → PutC V b1 (.slice Ad v.dir.length cd) #[.string S, .int .i64 size] W' := fun W' hk => by
    have hne : ∀ k, (Value.slice Ad v.dir.length cd).ownBlock = some k → w.heap.size ≤ k ∧ ∃ cur, Blk W2 k 35 cur := fun k e => by
      rcases HOO2.out.dir.2 with ⟨e1, _⟩ | ⟨g, cap, cur, e1, hg0, hg, _⟩
      · rw [e1] at e; cases e
      · rw [e1] at e
        injection e with e
        simp only at e
        exact ⟨e ▸ hg0, cur, e ▸ hg⟩
    refine ⟨((HVV2.out.keeps hk (fun e => ?_)).cell 3).trans rfl, (HB1.out W2 HB02.out).keeps hk (fun e => ?_)⟩
    · obtain ⟨_, cur, hc⟩ := hne _ e
      exact Blk.ne_ hc HVV2.out (by decide) rfl
    · have := (hne _ e).1
      have := HB1L.out
      omega
  have HPC := Lib.hid hPC
  have hC0 := hPC _ (Keeps.refl _ W2).drew
  have HC0 := Lib.hid hC0
  clear hPC hC0 kV3
  refine wp_region_anyDN (PutC V b1 (.slice Ad v.dir.length cd) #[.string S, .int .i64 size]) 11 (by kernel_rfl) ?_
  refine anyD_takes (by kernel_rfl) (fun _ _ _ _ _ h => h) [0, 1, 2, 3, 4, 5, 6] 5 _ _ (by kernel_rfl) ?_
  simp only [List.filterMap_cons, List.filterMap_nil, List.getElem?_toArray, List.getElem?_cons_succ, List.getElem?_cons_zero]
  show wpQuiet _ _ _ _ (_ :: _ :: _ :: _ :: _ :: _ :: _ :: List.nil) _
  repeat (first | go_big_quiet_skip | (go_big_quiet_want; first | (refine quiet_load 41 (.tmp 47) rfl ⟨V, 3, none⟩ rfl _ (fun W hW => hW.1) (fun _ => by kernel_rfl) ?_; simp only [Act.put, List.setIfInBounds_toArray, List.set_cons_succ, List.set_cons_zero]; go_big_quiet_on) | (refine quiet_load_row 35 (.tmp 1) rfl b1 rfl _ _ _ (fun W hW => hW.2) Try.underlying35 rfl (by kernel_rfl) ?_; simp only [Act.put, List.setIfInBounds_toArray, List.set_cons_succ, List.set_cons_zero]; go_big_quiet_on) | (go_big_quiet_op; first | go_big_quiet_on | (refine ⟨_, fun _ _ => rfl, ?_⟩; go_big_quiet_on))))
  refine wpQuiet_nil ?_
  refine anyD_only (i := 7) rfl (by kernel_rfl) HC0.out ?_
  go_wp2_with fail
  have hal : Below W2.heap.size W2 (W2.alloc (.cells #[.string S, .int .i64 size] 35)).drew := ((Below.refl _ _).alloc (Nat.le_refl _) _).drew
  have hQ : Blk (W2.alloc (.cells #[.string S, .int .i64 size] 35)).drew W2.heap.size 35 #[.string S, .int .i64 size] := (Blk.new _ _ _).drew
  have hql : W2.heap.size < (W2.alloc (.cells #[.string S, .int .i64 size] 35)).drew.heap.size := hQ.lt
  obtain ⟨Q, hQe⟩ : ∃ Q, Q = W2.heap.size := ⟨_, rfl⟩
  rw [← hQe] at hQ hql ⊢
  generalize (W2.alloc (.cells #[.string S, .int .i64 size] 35)).drew = W3 at hal hQ hql ⊢
  have hO3 := HOO2.out.below hal
  have hV3 := HVV2.out.below hal HVV2.out.lt
  have hb03 := HB02.out.trans (hal.mono HB02.out.size)
  have hC3 := HPC.out W3 (Keeps.of_below hal)
  have hINS := Insert_any W3 w.heap.size Ad cd (pos v.dir id) Q v.dir ⟨id, size⟩ hO3.dir (by rw [← HSS.out]; exact hQ) HD.out HIP.out.le (fun k e => by have := (HOO2.out.dir.lt k e).2; omega) hb03.size
  have HINS := Lib.hid hINS; have HV3 := Lib.hid hV3; have HO3 := Lib.hid hO3; have HB03 := Lib.hid hb03; have HC3 := Lib.hid hC3; have HAL := Lib.hid hal
  clear hINS hV3 hO3 hb03 hC3 hal hQ hql hQe
  refine anyD_only (i := 8) rfl (by kernel_rfl) HC3.out ?_
  go_wp2_with fail
  refine HINS.out.mono ?_
  rintro e W4 ⟨A', c', rfl, hown, hk4⟩
  have hlen := insAt_len (h := ⟨id, size⟩) HIP.out.le
  obtain ⟨hV4, hv4⟩ := dir_set HV3.out HO3.out hown hlen hk4
  have hC4 : PutC V b1 (.slice Ad v.dir.length cd) #[.string S, .int .i64 size] W4 := HPC.out W4 ((Keeps.of_below (F := fun k => (Value.slice Ad v.dir.length cd).ownBlock = some k) HAL.out).trans hk4 (fun _ _ e => e))
  have q3 : W4.cell? ⟨V, 3, none⟩ = some (.slice Ad v.dir.length cd) := hC4.1
  have f3 : W4.frozen? ⟨V, 3, none⟩ = false := hV4.frozen 3
  have hk24 : Keeps (fun k => w.heap.size ≤ k ∨ False) W W4 := (HKB.out.trans (Keeps.of_below (F := fun k => w.heap.size ≤ k ∨ False) HAL.out) (fun _ _ e => e)).trans hk4 (fun k _ e => Or.inl (HO3.out.dir.lt k e).1)
  have HV4 := Lib.hid hv4; have HC4 := Lib.hid hC4; have HK4 := Lib.hid hk24
  clear hown hk4 hV4 hv4 hC4 hk24 hlen HC3 HC0 HPC HINS
  go_wp2_with fail
  refine anyD_only (i := 9) rfl (by kernel_rfl) HC4.out ?_
  go_wp2_with fail
  refine anyD_only (i := 10) rfl (by kernel_rfl) HC4.out ?_
  go_wp2_with fail
  refine anyD_only (i := 11) rfl (by kernel_rfl) HC4.out ?_
  go_wp2_with fail
  refine anyD_end (by kernel_rfl) (by kernel_rfl) ?_
  have hk5 := HK4.out.setCell (p := ⟨V, 3, none⟩) (Or.inl hB) (.slice A' (v.dir.length + 1) c')
  have hv5 := HV4.out
  generalize W4.setCell ⟨V, 3, none⟩ (.slice A' (v.dir.length + 1) c') = W5 at hk5 hv5 ⊢
  have hb5 : Below w.heap.size w W5 := HW.out.trans (hk5.below (fun _ e => e.elim (fun e => e) False.elim) HW.out.size)
  have c2 := H2.out W5 hb5
  have c3 := H3.out W5 hb5
  have HK5 := Lib.hid hk5; have HV5 := Lib.hid hv5; have HR5 := Lib.hid (HR.out.below hb5)
  clear q3 f3 hk5 hv5 hb5 HV4 HK4 HC4
  go_wp2_with (go_at_call 50; refine (count_any W5 w.heap.size V _ _ A n c l hB HV5.out HR5.out hn hl hu).mono ?_; rintro e w7 ⟨rfl, h7, hk7⟩)
  go_ret
  rw [HZ.out]
  exact ⟨rfl, HK5.out.trans hk7 (fun _ _ e => Or.inl e), fun _ => ⟨trivial, h7⟩⟩
set_option maxRecDepth 100000 in
theorem BPut_any (w : World) (F : Nat → Prop) (K : Nat) (p : PrmV) (m : BM) (h : HeadV) (A : Option Addr) (n c : Nat) (l : List Int) (hr : IRd w w.heap.size A n l) (hn : n ≤ 9223372036854775807) (hK : KbIs w F K p m) (hwr : m.pw.writes ≤ 4611686018400000000) :
    Calls Try.prog 23 #[.pointer (some ⟨K, 0, none⟩), .agg #[.string ⟨h.id.toArray⟩, .int .i64 h.size], .slice A n c] w fun e w' => e = .returned (.int .i64 (m.change (putV h l)).1) ∧ KbIs w' (Grown F w) K p (m.change (putV h l)).2 ∧ Keeps F w w' := by
  have H := Lib.hid hK.tight; have HW := Lib.hid hwr
  have HGV := Lib.hid hK.good.kv.good; have HN := Lib.hid hK.good.n
  clear hK hwr
  obtain ⟨Z, hZ⟩ : ∃ Z, Z = m.change (putV h l) := ⟨_, rfl⟩
  rw [← hZ]
  have HZ := Lib.hid hZ; clear hZ
  go_enter Try.func23, Try.ntmps23
  go_upto_region 1 with (fail)
  have hb : Below w.heap.size w (((w.alloc (.cells #[.pointer (some ⟨K, 0, none⟩)] 27)).alloc (.cells #[.string ⟨h.id.toArray⟩, .int .i64 h.size] 35)).alloc (.cells #[.slice A n c] 36)) := below3 _ _ _ _
  have h2 : Blk (((w.alloc (.cells #[.pointer (some ⟨K, 0, none⟩)] 27)).alloc (.cells #[.string ⟨h.id.toArray⟩, .int .i64 h.size] 35)).alloc (.cells #[.slice A n c] 36)) w.heap.size 27 #[.pointer (some ⟨K, 0, none⟩)] := ((Blk.new _ _ _).alloc _).alloc _
  have h1 : Blk (((w.alloc (.cells #[.pointer (some ⟨K, 0, none⟩)] 27)).alloc (.cells #[.string ⟨h.id.toArray⟩, .int .i64 h.size] 35)).alloc (.cells #[.slice A n c] 36)) (w.heap.size + 1) 35 #[.string ⟨h.id.toArray⟩, .int .i64 h.size] := (Blk.new' (by simp)).alloc _
  have h3 : Blk (((w.alloc (.cells #[.pointer (some ⟨K, 0, none⟩)] 27)).alloc (.cells #[.string ⟨h.id.toArray⟩, .int .i64 h.size] 35)).alloc (.cells #[.slice A n c] 36)) (w.heap.size + 1 + 1) 36 #[.slice A n c] := Blk.new' (by simp)
  obtain ⟨b2, e2⟩ : ∃ b, b = w.heap.size := ⟨_, rfl⟩
  obtain ⟨b1, e1⟩ : ∃ b, b = w.heap.size + 1 := ⟨_, rfl⟩
  obtain ⟨b3, e3⟩ : ∃ b, b = w.heap.size + 1 + 1 := ⟨_, rfl⟩
  rw [← e3] at h3 ⊢
  rw [← e1] at h1 ⊢
  rw [← e2] at h2 ⊢
  obtain ⟨w1, hw1⟩ : ∃ w1, w1 = (((w.alloc (.cells #[.pointer (some ⟨K, 0, none⟩)] 27)).alloc (.cells #[.string ⟨h.id.toArray⟩, .int .i64 h.size] 35)).alloc (.cells #[.slice A n c] 36)) := ⟨_, rfl⟩
  rw [← hw1] at hb h1 h2 h3 ⊢
  have HB := Lib.hid hb; have H2 := Lib.hid h2; have H3 := Lib.hid h3; have HH1 := Lib.hid h1; have H1 := Lib.hid (H.out.below hb)
  clear hw1 hb h1 h2 h3 e1 e2 e3
  have hmf : ∀ W, Sem.run Try.prog (Instr.makeFunc (Fn.func 48) #[] #[.pointer (some ⟨b1, 0, none⟩), .pointer (some ⟨b2, 0, none⟩), .pointer (some ⟨b3, 0, none⟩)]) W = .ok (.func (.func 48) #[] #[.pointer (some ⟨b1, 0, none⟩), .pointer (some ⟨b2, 0, none⟩), .pointer (some ⟨b3, 0, none⟩)]) W := fun W => by kernel_rfl
  have c2 : w1.cell? ⟨b2, 0, none⟩ = some (.pointer (some ⟨K, 0, none⟩)) := (H2.out.cell 0).trans rfl
  go_wp2_with fail
  refine (change_any w1 (fun k => F k ∧ k < w.heap.size) (fun _ => False) K p m 48 #[.pointer (some ⟨b1, 0, none⟩), .pointer (some ⟨b2, 0, none⟩), .pointer (some ⟨b3, 0, none⟩)] (enters_of Try.func48 (by kernel_rfl) rfl) (putV h l) (fun _ => True) H1.out (fun k _ e => e) HW.out (putV_good HGV.out h l)
    (Put1_any w1 m.v b1 b2 b3 _ h A n c l HH1.out (fun W hW => ((H2.out.below hW H2.out.lt).cell 0).trans rfl) (fun W hW => ((H3.out.below hW H3.out.lt).cell 0).trans rfl) ((hr.below HB.out).more HB.out.size) hn ⟨_, rfl⟩ (HGV.out.ul.trans HGV.out.cl.symm) (by rw [HGV.out.ul]; exact HN.out) HGV.out.srt HGV.out.dl) (fun _ _ _ _ => trivial)).mono ?_
  rintro e w2 ⟨rfl, h4, hk4, _⟩
  rw [← HZ.out] at h4 ⊢
  have hend := chg_end HB.out h4 hk4 (fun k e => e.elim)
  clear h4 hk4 hmf c2
  go_wp2
  go_ret
  exact ⟨rfl, hend.1, hend.2⟩
end Go.Proofs.Ytlabebapjhhkaaa
namespace Go.Proofs.Ytlabebapjhhkaaa
open Go.RowKit Go.Shelf
theorem run_app2 (w : World) (ty : TypeId) (g sLen sCap : Nat) (a : Addr) (m c : Nat) (cur : Array Value) (t : TypeId) (cs : List Value)
    (hg : w.heap[g]? = some (.cells cur t (0, 0))) (hn : cs.length = m * 2) (hsrc : ∀ j v, cs[j]? = some v → w.cell? (a.add j) = some v) (hroom : sLen + m ≤ sCap) (hfit : sLen * 2 + cs.length ≤ cur.size) (h1 : ∀ v ∈ cs, v.oneCell' = true) :
    (Builtin.append_ #[41, 41] ty #[.slice (some ⟨g, 0, none⟩) sLen sCap, .slice (some a) m c]).run Try.prog w = .ok (.slice (some ⟨g, 0, none⟩) (sLen + m) sCap) (w.setRow g (over cur.toList (sLen * 2) cs).toArray) := by
  have hu : Try.prog.underlying 41 = some (.slice 35) := Try.underlying41
  have hfc := run_firstCells_some (P := Try.prog) w 2 m a m c cs hn hsrc
  have hst := run_storeCells_at Try.prog g (sLen * 2) t cs 0 cur w hg (by simpa using hfit) h1
  have hs := head_two
  have ha : (⟨g, 0, none⟩ : Addr).add (sLen * 2) = ⟨g, sLen * 2, none⟩ := by unfold Addr.add; split <;> simp_all
  cases hq : Try.prog.info? 35 with
  | none => rw [hq] at hs; cases hs
  | some i =>
    have hi : i.size = 2 := by rw [hq] at hs; simpa using hs
    unfold over
    simp [Builtin.append_, run_underlying hu, sizeOf, typeInfo, hq, hi, Builtin.lenOf, hroom, hfc, ha, hst]
theorem wpList_app2 {w : World} {ops : Array Oper} {rest : List Oper} {o : Oper} {a : Act} {Q : Exit → Act → World → Prop} (hgd : o.guard = none) (d s : Operand)
    (ho : o.op = .call { callee := .builtin .append, args := #[d, s], argTypes := #[41, 41] }) (v u : Value) (hd : a.eval d = v) (hs : a.eval s = u) {v' : Value} {w' : World}
    (hr : ∀ ty, (Builtin.append_ #[41, 41] ty #[v, u]).run Try.prog w = .ok v' w') (h : wpList Try.prog ops Q rest (a.put o.dst v') w') : wpList Try.prog ops Q (o :: rest) a w :=
  wpList_plain hgd fun _ hK => by
    unfold Oper.wp execOp
    simp only [ho, resolve, invoke, builtin, Sem.run_bind, Sem.run_pure, Result.andThen_ok, List.map_toArray, List.map_cons, List.map_nil, hd, hs, hr]
    exact hK _ _ h
theorem wpList_clr {w : World} {ops : Array Oper} {rest : List Oper} {o : Oper} {a : Act} {Q : Exit → Act → World → Prop} (hgd : o.guard = none) (d : Operand)
    (ho : o.op = .call { callee := .builtin .clear, args := #[d], argTypes := #[41] }) (v : Value) (hd : a.eval d = v) {v' : Value} {w' : World}
    (hr : ∀ ty, (Builtin.clear_ #[41] ty #[v]).run Try.prog w = .ok v' w') (h : wpList Try.prog ops Q rest (a.put o.dst v') w') : wpList Try.prog ops Q (o :: rest) a w :=
  wpList_plain hgd fun _ hK => by
    unfold Oper.wp execOp
    simp only [ho, resolve, invoke, builtin, Sem.run_bind, Sem.run_pure, Result.andThen_ok, List.map_toArray, List.map_cons, List.map_nil, hd, hr]
    exact hK _ _ h
def zero2 : List Value := [.string ⟨#[]⟩, .int .i64 0]
theorem run_clear2 (w : World) (ty : TypeId) (g o c : Nat) (cur : Array Value) (t : TypeId) (hg : w.heap[g]? = some (.cells cur t (0, 0))) (hfit : o + 2 ≤ cur.size) :
    (Builtin.clear_ #[41] ty #[.slice (some ⟨g, o, none⟩) 1 c]).run Try.prog w = .ok (.tuple #[]) (w.setRow g (over cur.toList o zero2).toArray) := by
  have hu : Try.prog.underlying 41 = some (.slice 35) := Try.underlying41
  have hst := run_storeCells_at Try.prog g o t zero2 0 cur w hg (by simpa [zero2] using hfit) (by intro v hv; unfold zero2 at hv; simp only [List.mem_cons, List.not_mem_nil, or_false] at hv; rcases hv with rfl | rfl <;> rfl)
  have hz : ∀ W, (zeroValue 35).run Try.prog W = .ok (.agg #[.string ⟨#[]⟩, .int .i64 0]) W := fun W => by kernel_rfl
  have hzc : (Builtin.zeroCells (Value.cells (.agg #[.string ⟨#[]⟩, .int .i64 0])) 1).toList = zero2 := by kernel_rfl
  unfold over
  simp only [Builtin.clear_, List.getElem?_toArray, List.getElem?_cons_zero, Sem.run_bind, run_underlying hu, Result.andThen_ok, hz, hzc, hst, Sem.run_pure]
  rfl
theorem del_cells {L0 D : List Value} {n i : Nat} (hD : L0.take (n * 2) = D) (hl : n * 2 ≤ L0.length) (hi : i < n) :
    (over (over L0 (i * 2) (D.drop ((i + 1) * 2))) ((n - 1) * 2) zero2).take ((n - 1) * 2) = D.take (i * 2) ++ D.drop ((i + 1) * 2) ∧ (over (over L0 (i * 2) (D.drop ((i + 1) * 2))) ((n - 1) * 2) zero2).length = L0.length := by
  have hDl : D.length = n * 2 := by rw [← hD, List.length_take]; omega
  have hd : (D.drop ((i + 1) * 2)).length = n * 2 - (i + 1) * 2 := by rw [List.length_drop, hDl]
  have h1 : (over L0 (i * 2) (D.drop ((i + 1) * 2))).length = L0.length := over_len _ _ _ (by omega)
  refine ⟨?_, by rw [over_len _ _ _ (by show _ + 2 ≤ _; omega), h1]⟩
  have h2 := over_take L0 (i * 2) (D.drop ((i + 1) * 2)) (by omega)
  rw [hd, show i * 2 + (n * 2 - (i + 1) * 2) = (n - 1) * 2 by omega] at h2
  have h3 : L0.take (i * 2) = D.take (i * 2) := by rw [← hD, List.take_take]; congr 1; omega
  rw [h3] at h2
  unfold over at h2 ⊢
  rw [List.append_assoc (List.take ((n - 1) * 2) _)]
  rw [List.take_append_of_le_length (by rw [List.length_take]; unfold over at h1; rw [h1]; omega), List.take_take, Nat.min_self]
  exact h2
def DelPost (w : World) (B : Nat) (v : Value) (n : Nat) (D : List Value) (e : Ending) (w' : World) : Prop :=
  ∃ A' c', e = .returned (.slice A' n c') ∧ w'.ownsRow B 35 2 (.slice A' n c') n D ∧ Keeps (fun k => v.ownBlock = some k) w w'
set_option maxRecDepth 100000 in
set_option maxHeartbeats 4000000 in
theorem Delete_cells (w : World) (B : Nat) (A : Option Addr) (n c i : Nat) (D : List Value) (h : w.ownsRow B 35 2 (.slice A n c) n D) (hD1 : ∀ v ∈ D, v.oneCell' = true) (hn : n ≤ 8) (hi : i < n) :
    Calls Try.prog 46 #[.slice A n c, .int .i64 (i : Int), .int .i64 ((i : Int) + 1)] w (DelPost w B (.slice A n c) (n - 1) (D.take (i * 2) ++ D.drop ((i + 1) * 2))) := by
  obtain ⟨g, cur, rfl, hBg, hg, hnc, hcm, hcs, htk⟩ : ∃ g cur, A = some ⟨g, 0, none⟩ ∧ B ≤ g ∧ Blk w g 35 cur ∧ n ≤ c ∧ c ≤ maxLen ∧ cur.size = c * 2 ∧ cur.toList.take (n * 2) = D := by
    rcases h.2 with ⟨e, e2⟩ | ⟨g', cap, cur, e, q1, q2, q3, q4, q5, q6⟩
    · omega
    · injection e with e1 _ e3
      subst e1 e3
      exact ⟨g', cur, rfl, q1, q2, q3, q4, q5, q6⟩
  have hc63 : c ≤ 9223372036854775807 := hcm
  have hDl : D.length = n * 2 := h.1
  have hdl : (D.drop ((i + 1) * 2)).length = (n - (i + 1)) * 2 := by rw [List.length_drop, hDl]; omega
  have hsh := del_cells (L0 := cur.toList) htk (by rw [Array.length_toList, hcs]; omega) hi
  have hcell0 : ∀ j v, D[j]? = some v → w.cell? ⟨g, j, none⟩ = some v := fun j v hj => by
    rw [hg.cell, ← Array.getElem?_toList]
    rw [← htk, List.getElem?_take] at hj
    split at hj
    · exact hj
    · cases hj
  obtain ⟨L1, hL1⟩ : ∃ L1, L1 = over cur.toList (i * 2) (D.drop ((i + 1) * 2)) := ⟨_, rfl⟩
  have hL1l : L1.length = c * 2 := by rw [hL1, over_len _ _ _ (by rw [hdl, Array.length_toList, hcs]; omega), Array.length_toList, hcs]
  obtain ⟨X, hX⟩ : ∃ X : Option Addr, X = (if c = i + 1 then some ⟨g, 0, none⟩ else some ⟨g, (i + 1) * 2, none⟩) := ⟨_, rfl⟩
  have hap : ∀ dc ty, (Builtin.append_ #[41, 41] ty #[.slice (some ⟨g, 0, none⟩) i c, .slice X (n - (i + 1)) dc]).run Try.prog w.drew = .ok (.slice (some ⟨g, 0, none⟩) (n - 1) c) (w.drew.setRow g L1.toArray) := fun dc ty => by
    obtain ⟨ad, hXe, hsrc⟩ : ∃ ad, X = some ad ∧ ∀ j v, (D.drop ((i + 1) * 2))[j]? = some v → w.drew.cell? (ad.add j) = some v := by
      by_cases hci : c = i + 1
      · rw [hX, if_pos hci]
        refine ⟨_, rfl, fun j v hj => ?_⟩
        have hd0 : D.drop ((i + 1) * 2) = [] := List.eq_nil_of_length_eq_zero (by rw [hdl]; omega)
        rw [hd0] at hj
        simp at hj
      · rw [hX, if_neg hci]
        refine ⟨_, rfl, fun j v hj => ?_⟩
        have ha : (⟨g, (i + 1) * 2, none⟩ : Addr).add j = ⟨g, (i + 1) * 2 + j, none⟩ := by unfold Addr.add; split <;> simp_all
        rw [ha]
        rw [List.getElem?_drop] at hj
        exact hcell0 _ v hj
    rw [hXe]
    have h9 := run_app2 w.drew ty g i c ad (n - (i + 1)) dc cur _ (D.drop ((i + 1) * 2)) hg.drew hdl hsrc (by omega) (by rw [hdl, hcs]; omega) (fun v hv => hD1 v (List.mem_of_mem_drop hv))
    rw [← hL1, show i + (n - (i + 1)) = n - 1 by omega] at h9
    exact h9
  have hcl : ∀ (W : World), Blk W g 35 L1.toArray → ∀ dc ty, (Builtin.clear_ #[41] ty #[.slice (some ⟨g, (n - 1) * 2, none⟩) 1 dc]).run Try.prog W = .ok (.tuple #[]) (W.setRow g (over L1 ((n - 1) * 2) zero2).toArray) := fun W hW dc ty =>
    run_clear2 W ty g ((n - 1) * 2) dc L1.toArray _ hW (by show _ ≤ L1.length; omega)
  rw [← hL1] at hsh
  have h1 : ¬ ((i : Int) = (i : Int) + 1) := by omega
  have h2 : (i : Int) + 1 ≤ (n : Int) := by omega
  have h3 : (0 : Int) ≤ (i : Int) + 1 := by omega
  have h4 : ((i : Int) + 1).toNat = i + 1 := by omega
  have h5 : n - 1 ≤ c := by omega
  have h6 : ¬ (c = n - 1) := by omega
  have h7 : n - 1 ≤ n := by omega
  have h8 : n - (n - 1) = 1 := by omega
  have H := Lib.hid h; have HG := Lib.hid hg; have HSH := Lib.hid hsh; have HAP := Lib.hid hap; have HCL := Lib.hid hcl; have HX := Lib.hid hX
  have HHB := Lib.hid (And.intro hBg (And.intro hcm hcs))
  clear h hg hsh hap hcl hcell0 hL1 hL1l hD1 hdl htk hcs hDl hBg hcm hX
  go_enter Try.func46, Try.ntmps46
  go_upto_region 5 with (fail)
  have hB2 : Blk (w.drew.setRow g L1.toArray) g 35 L1.toArray := HG.out.drew.setRow _
  have HB2 := Lib.hid hB2
  clear hB2
  by_cases hci : c = i + 1
  · obtain rfl : n = i + 1 := by omega
    subst hci
    have hap := HAP.out
    have hcl := HCL.out (w.drew.setRow g L1.toArray) HB2.out
    rw [HX.out, if_pos rfl] at hap
    have hshh := HSH.out
    simp only [Nat.sub_self, Nat.add_sub_cancel] at hap hcl hshh
    have HA2 := Lib.hid hap; have HC2 := Lib.hid hcl; have HSS := Lib.hid hshh
    clear hap hcl hshh h5 h6 h7 h8 HSH HAP HCL HX
    refine wp_region_qt 6 (by kernel_rfl) (by kernel_rfl) ?_
    simp only [List.take_succ_cons, List.take_zero, List.drop_succ_cons, List.drop_zero]
    repeat (first | go_big_quiet_skip | (go_big_quiet_want; go_big_quiet_op; first | go_big_quiet_on))
    refine wpQuiet_nil ?_
    refine wpList_app2 rfl (.tmp 22) (.tmp 25) rfl _ _ rfl rfl (HA2.out _) ?_
    simp only [Act.put, List.setIfInBounds_toArray, List.set_cons_succ, List.set_cons_zero]
    go_upto_region 6 with (fail)
    have hc2 := HC2.out
    have g1 : ((i + 1 : Nat) : Int) = (i : Int) + 1 := rfl
    have g2 : ¬ (i + 1 = i) := by omega
    have g3 : i + 1 - i = 1 := by omega
    go_wp2
    clear hc2 g1 g2 g3
    go_ret
    refine ⟨some ⟨g, 0, none⟩, i + 1, rfl, ⟨?_, Or.inr ⟨g, i + 1, (over L1 (i * 2) zero2).toArray, rfl, HHB.out.1, HB2.out.setRow _, by omega, HHB.out.2.1, ?_, HSS.out.1⟩⟩, ?_⟩
    · have hDl := H.out.1
      simp [hDl]
      try omega
    · rw [List.size_toArray, HSS.out.2, Array.length_toList, HHB.out.2.2]
    · refine ⟨rfl, rfl, rfl, by simp only [World.setRow, Array.size_modify]; exact Nat.le_refl _, fun k hk hne => ?_⟩
      have hkg : k ≠ g := fun e => hne (by rw [e]; rfl)
      rw [setRow_other _ g k _ hkg]
      exact setRow_other w.drew g k _ hkg
  · have hap := HAP.out
    rw [HX.out, if_neg hci] at hap
    have HA2 := Lib.hid hap; have HC2 := Lib.hid (HCL.out (w.drew.setRow g L1.toArray) HB2.out)
    clear hap
    refine wp_region_qt 6 (by kernel_rfl) (by kernel_rfl) ?_
    simp only [List.take_succ_cons, List.take_zero, List.drop_succ_cons, List.drop_zero]
    repeat (first | go_big_quiet_skip | (go_big_quiet_want; go_big_quiet_op; first | go_big_quiet_on))
    refine wpQuiet_nil ?_
    refine wpList_app2 rfl (.tmp 22) (.tmp 25) rfl _ _ rfl rfl (HA2.out _) ?_
    simp only [Act.put, List.setIfInBounds_toArray, List.set_cons_succ, List.set_cons_zero]
    go_upto_region 6 with (fail)
    have hc2 := HC2.out
    go_wp2
    clear hc2
    go_ret
    refine ⟨some ⟨g, 0, none⟩, _, rfl, ⟨?_, Or.inr ⟨g, _, (over L1 ((n - 1) * 2) zero2).toArray, rfl, HHB.out.1, HB2.out.setRow _, h5, HHB.out.2.1, ?_, HSH.out.1⟩⟩, ?_⟩
    · have hDl := H.out.1
      simp [hDl]
      try omega
    · rw [List.size_toArray, HSH.out.2, Array.length_toList, HHB.out.2.2]
    · refine ⟨rfl, rfl, rfl, by simp only [World.setRow, Array.size_modify]; exact Nat.le_refl _, fun k hk hne => ?_⟩
      have hkg : k ≠ g := fun e => hne (by rw [e]; rfl)
      rw [setRow_other _ g k _ hkg]
      exact setRow_other w.drew g k _ hkg
end Go.Proofs.Ytlabebapjhhkaaa
namespace Go.Proofs.Ytlabebapjhhkaaa
open Go.RowKit Go.Shelf
def delAt (l : List HeadV) (i : Nat) : List HeadV := l.take i ++ l.drop (i + 1)
theorem delAt_len {l : List HeadV} {i : Nat} (hi : i < l.length) : (delAt l i).length = l.length - 1 := by unfold delAt; simp; omega
theorem delAt_flat (l : List HeadV) (i : Nat) : (delAt l i).flatMap headC = (l.flatMap headC).take (i * 2) ++ (l.flatMap headC).drop ((i + 1) * 2) := by
  unfold delAt
  rw [List.flatMap_append, flat_take, flat_drop]
theorem delAt_mem {l : List HeadV} {i : Nat} {x : HeadV} (h : x ∈ delAt l i) : x ∈ l := by
  unfold delAt at h
  rcases List.mem_append.1 h with h | h
  · exact List.mem_of_mem_take h
  · exact List.mem_of_mem_drop h
theorem delAt_rising {l : List HeadV} (i : Nat) (h : Rising l) : Rising (delAt l i) := by
  unfold Rising delAt at *
  have hs : List.Sublist (l.take i ++ l.drop (i + 1)) (l.take i ++ l.drop i) := by
    refine List.Sublist.append (List.Sublist.refl _) ?_
    rw [← List.drop_drop]
    exact List.drop_sublist _ _
  rw [List.take_append_drop] at hs
  exact List.Pairwise.sublist hs h
def deleteV (id : List UInt8) (v : BookV) : Int × BookV :=
  if hasId v.dir id = false then (10, v) else if v.session ≥ 1073741824 then (5, v) else (0, { v with session := v.session + 1, dir := delAt v.dir (pos v.dir id), decided := v.session + 1 })
theorem has_lt {l : List HeadV} {id : List UInt8} (hr : Rising l) (h : hasId l id = true) : pos l id < l.length := by
  have hp := pos_at id hr
  rcases Nat.lt_or_ge (pos l id) l.length with h1 | h1
  · exact h1
  · rw [hasId_at hr hp, List.getElem?_eq_none h1] at h
    cases h
theorem deleteV_good {N : Nat} {v : BookV} (g : GoodV N v) (id : List UInt8) : (deleteV id v).1 = 0 → GoodV N (deleteV id v).2 := by
  unfold deleteV
  intro e
  by_cases h1 : hasId v.dir id = false
  · rw [if_pos h1] at e; cases e
  rw [if_neg h1] at e ⊢
  by_cases h2 : v.session ≥ 1073741824
  · rw [if_pos h2] at e; cases e
  rw [if_neg h2]
  have hlt := has_lt g.srt (by simpa using h1)
  have hdl := g.dl
  have hl := delAt_len hlt
  exact ⟨by show 0 ≤ v.session + 1; have := g.s0; omega, by show v.session + 1 ≤ _; omega, by show 0 ≤ v.session + 1; have := g.s0; omega, Int.le_refl _, g.e0, g.e1, by show (delAt _ _).length ≤ 8; omega, fun x hx => g.dh x (delAt_mem hx), delAt_rising _ g.srt, g.ul, g.cl, g.c⟩
set_option maxRecDepth 100000 in
set_option maxHeartbeats 4000000 in
theorem Delete1_any (w : World) (v : BookV) (b1 : Nat) (id : List UInt8) (h1 : Blk w b1 9 #[.string ⟨id.toArray⟩]) (hs : Rising v.dir) (hd : v.dir.length ≤ 8) (hv : 0 ≤ v.session) :
    How w.heap.size (fun _ => False) (fun _ => True) w v 43 #[.pointer (some ⟨b1, 0, none⟩)] (deleteV id v) := by
  intro W V Ad Au Ac cd cu cc hW hB hVB hV hO
  have H := Lib.hid (show VIs W w.heap.size V v from ⟨Ad, Au, Ac, cd, cu, cc, hV, hO⟩)
  have HB1 := Lib.hid (show ∀ W, Below w.heap.size w W → Blk W b1 9 #[.string ⟨id.toArray⟩] from fun W hW => h1.below hW h1.lt)
  have HW := Lib.hid hW; have HS := Lib.hid hs; have HD := Lib.hid hd; have HVS := Lib.hid hv
  have HVV := Lib.hid hV; have HOO := Lib.hid hO
  clear h1 hW hs hd hV hO hv
  have HFIND := Lib.hid (find_any W w.heap.size V v id H.out HS.out HD.out)
  simp only [List.cons_append, List.nil_append, List.append_toArray]
  have HPV := Lib.hid (show deleteV id v = if hasId v.dir id = false then (10, v) else if v.session ≥ 1073741824 then (5, v) else (0, { v with session := v.session + 1, dir := delAt v.dir (pos v.dir id), decided := v.session + 1 }) from rfl)
  have HLT := Lib.hid (show hasId v.dir id = true → pos v.dir id < v.dir.length from has_lt HS.out)
  obtain ⟨Z, hZ⟩ : ∃ Z, Z = deleteV id v := ⟨_, rfl⟩
  rw [← hZ] at HPV ⊢
  clear hZ
  obtain ⟨S, hS⟩ : ∃ S : ByteArray, S = ⟨id.toArray⟩ := ⟨_, rfl⟩
  rw [← hS] at HFIND HB1
  clear hS
  have c10 : W.cell? ⟨b1, 0, none⟩ = some (.string S) := ((HB1.out W HW.out).cell 0).trans rfl
  go_enter Try.func43, Try.ntmps43
  go_upto_region 2 with (go_at_call 44; refine HFIND.out.mono ?_; rintro e W2 ⟨i, hi, rfl, hb2⟩)
  have hiP : i = pos v.dir id := hi.uniq (pos_at id HS.out)
  subst hiP
  have hv2 := H.out.below hB hb2
  have HV2 := Lib.hid hv2; have HVV2 := Lib.hid (HVV.out.below hb2 HVV.out.lt); have HOO2 := Lib.hid (HOO.out.below hb2)
  have HKB := Lib.hid (Keeps.of_below (F := fun k => w.heap.size ≤ k ∨ False) hb2)
  have HSZ := Lib.hid (Nat.le_trans HW.out.size hb2.size)
  clear hv2 hi hb2 c10
  obtain ⟨hb, hhb⟩ : ∃ hb, hb = hasId v.dir id := ⟨_, rfl⟩
  rw [← hhb] at HPV HLT ⊢
  clear hhb
  cases hb with
  | false =>
    have hz : Z = (10, v) := by rw [HPV.out, if_pos rfl]
    go_wp2
    go_ret
    try rw [hz]
    exact ⟨rfl, HKB.out, fun e => by cases e⟩
  | true =>
  have hlt := HLT.out rfl
  have HNX := Lib.hid (next_any W2 w.heap.size V v hB HV2.out (by have := HVS.out; omega))
  by_cases q6 : v.session ≥ 1073741824
  · have hz : Z = (5, v) := by rw [HPV.out, if_neg (fun e => by cases e), if_pos q6]
    have hnv : nextV v = (5, v) := by unfold nextV; rw [if_pos q6]
    rw [hnv] at HNX
    clear hnv
    go_wp2_with (go_at_call 45; refine HNX.out.mono ?_; rintro e W3 ⟨rfl, h3, hk3⟩)
    go_ret
    try rw [hz]
    exact ⟨rfl, HKB.out.trans hk3 (fun i _ e => Or.inl (by rw [e]; exact hB)), fun e => by cases e⟩
  have hz : Z = (0, { v with session := v.session + 1, dir := delAt v.dir (pos v.dir id), decided := v.session + 1 }) := by rw [HPV.out, if_neg (fun e => by cases e), if_neg q6]
  have HZ := Lib.hid hz
  have hnv : nextV v = (0, { v with session := v.session + 1 }) := by unfold nextV; rw [if_neg q6]
  rw [hnv] at HNX
  have HQ6 := Lib.hid q6
  clear hz HPV hnv q6
  go_upto_region 7 with (go_at_call 45; refine HNX.out.mono ?_; rintro e W3 ⟨rfl, h3, hk3⟩)
  obtain ⟨Bd, Bu, Bc, dd, du, dc, hV3, hO3⟩ := h3
  have hk3' : Keeps (fun k => w.heap.size ≤ k ∨ False) W W3 := HKB.out.trans hk3 (fun i _ e => Or.inl (by rw [e]; exact hB))
  obtain ⟨v1, hv1⟩ : ∃ v1 : BookV, v1 = { v with session := v.session + 1 } := ⟨_, rfl⟩
  have hd1 : v1.dir = v.dir := by rw [hv1]
  rw [← hv1] at hV3 hO3
  have hze : ({ v1 with dir := delAt v.dir (pos v.dir id), decided := v1.session } : BookV) = { v with session := v.session + 1, dir := delAt v.dir (pos v.dir id), decided := v.session + 1 } := by rw [hv1]
  have hzz : Z = (0, { v1 with dir := delAt v.dir (pos v.dir id), decided := v1.session }) := by rw [hze]; exact HZ.out
  rw [hd1] at hO3
  have HZZ := Lib.hid hzz; have HD1 := Lib.hid hd1
  clear hze hzz hv1 hk3 HZ
  have hown0 : W3.ownsRow w.heap.size 35 2 (.slice Bd v.dir.length dd) v.dir.length (v.dir.flatMap headC) := by
    have := hO3.dir
    rw [hd1] at this
    exact this
  have hDEL := Delete_cells W3 w.heap.size Bd v.dir.length dd (pos v.dir id) _ hown0 (flat_one v.dir) HD.out hlt
  rw [← delAt_flat] at hDEL
  have k3 : W3.cell? ⟨V, 3, none⟩ = some (.slice Bd v.dir.length dd) := by
    exact (hV3.cell 3).trans (by show some (Value.slice Bd v1.dir.length dd) = _; rw [hd1])
  have HDEL := Lib.hid hDEL; have HV3 := Lib.hid hV3; have HO3 := Lib.hid hO3; have HK3 := Lib.hid hk3'
  clear hDEL hV3 hO3 hk3' hown0 hd1
  have hp8 : (pos v.dir id : Int) < 8 := by have := HD.out; omega
  go_wp2_with fail
  refine HDEL.out.mono ?_
  rintro e W4 ⟨A', c', rfl, hown, hk4⟩
  have hds := dir_set HV3.out (by rw [HD1.out]; exact HO3.out) hown (delAt_len hlt) (by rw [HD1.out]; exact hk4)
  have q3 : W4.cell? ⟨V, 3, none⟩ = some (.slice Bd v1.dir.length dd) := (hds.1.cell 3).trans rfl
  have f3 := hds.1.frozen 3
  have HDS := Lib.hid hds.2; have HW4 := Lib.hid hown; have HK4 := Lib.hid hk4
  clear hown hk4 hds k3 hp8
  go_upto_region 8 with (fail)
  have hv5 := HDS.out
  have hk5 := (HK3.out.trans HK4.out (fun k _ e => Or.inl (by
    have hr := HO3.out.dir
    rw [HD1.out] at hr
    exact (hr.lt k e).1))).setCell (p := ⟨V, 3, none⟩) (Or.inl hB) (.slice A' (v.dir.length - 1) c')
  generalize W4.setCell ⟨V, 3, none⟩ (.slice A' (v.dir.length - 1) c') = W5 at hk5 hv5 ⊢
  have k0 := hv5.c0
  have k1 := hv5.c1
  have f1 := hv5.fz 1
  have HK5 := Lib.hid hk5; have HV5 := Lib.hid hv5
  clear q3 f3 hk5 hv5 HDS HW4 HK4
  go_wp2
  go_ret
  rw [HZZ.out]
  exact ⟨rfl, HK5.out.setCell (p := ⟨V, 1, none⟩) (Or.inl hB) _, fun _ => ⟨trivial, HV5.out.decided _⟩⟩
set_option maxRecDepth 100000 in
theorem BDelete_any (w : World) (F : Nat → Prop) (K : Nat) (p : PrmV) (m : BM) (id : List UInt8) (hK : KbIs w F K p m) (hwr : m.pw.writes ≤ 4611686018400000000) :
    Calls Try.prog 21 #[.pointer (some ⟨K, 0, none⟩), .string ⟨id.toArray⟩] w fun e w' => e = .returned (.int .i64 (m.change (deleteV id)).1) ∧ KbIs w' (Grown F w) K p (m.change (deleteV id)).2 ∧ Keeps F w w' := by
  have H := Lib.hid hK.tight; have HW := Lib.hid hwr
  have HGV := Lib.hid hK.good.kv.good
  clear hK hwr
  obtain ⟨Z, hZ⟩ : ∃ Z, Z = m.change (deleteV id) := ⟨_, rfl⟩
  rw [← hZ]
  have HZ := Lib.hid hZ; clear hZ
  go_enter Try.func21, Try.ntmps21
  go_upto_region 1 with (fail)
  have hb : Below w.heap.size w (w.alloc (.cells #[.string ⟨id.toArray⟩] 9)) := (Below.refl _ _).alloc (Nat.le_refl _) _
  have h1 : Blk (w.alloc (.cells #[.string ⟨id.toArray⟩] 9)) w.heap.size 9 #[.string ⟨id.toArray⟩] := Blk.new _ _ _
  obtain ⟨b1, e1⟩ : ∃ b, b = w.heap.size := ⟨_, rfl⟩
  rw [← e1] at h1 ⊢
  obtain ⟨w1, hw1⟩ : ∃ w1, w1 = w.alloc (.cells #[.string ⟨id.toArray⟩] 9) := ⟨_, rfl⟩
  rw [← hw1] at hb h1 ⊢
  have HB := Lib.hid hb; have HH1 := Lib.hid h1; have H1 := Lib.hid (H.out.below hb)
  clear hw1 hb h1 e1
  have hmf : ∀ W, Sem.run Try.prog (Instr.makeFunc (Fn.func 43) #[] #[.pointer (some ⟨b1, 0, none⟩)]) W = .ok (.func (.func 43) #[] #[.pointer (some ⟨b1, 0, none⟩)]) W := fun W => by kernel_rfl
  go_wp2_with fail
  refine (change_any w1 (fun k => F k ∧ k < w.heap.size) (fun _ => False) K p m 43 #[.pointer (some ⟨b1, 0, none⟩)] (enters_of Try.func43 (by kernel_rfl) rfl) (deleteV id) (fun _ => True) H1.out (fun k _ e => e) HW.out (deleteV_good HGV.out id)
    (Delete1_any w1 m.v b1 id HH1.out HGV.out.srt HGV.out.dl HGV.out.s0) (fun _ _ _ _ => trivial)).mono ?_
  rintro e w2 ⟨rfl, h4, hk4, _⟩
  rw [← HZ.out] at h4 ⊢
  have hend := chg_end HB.out h4 hk4 (fun k e => e.elim)
  clear h4 hk4 hmf
  go_wp2
  go_ret
  exact ⟨rfl, hend.1, hend.2⟩
end Go.Proofs.Ytlabebapjhhkaaa
