/- The walks of the net: At, drop, Take, Twice. Conditions: sizes. Printed by mknet4.py. -/
import Derived.Test.YtoekmgpnmhknoaaNet3
namespace Go.Proofs.Ytoekmgpnmhknoaa
open Go.RowKit
def atN (its : List (List UInt8)) (k : Int) : MsgV × Bool := if 0 ≤ k ∧ k < (its.length : Int) then decode (its.getD k.toNat []) else (MsgV.zero, false)
/-- What At leaves. -/
def AtPost (w : World) (r : MsgV × Bool) (e : Ending) (w' : World) : Prop := ∃ (Ah Ad Ap Ax : Option Addr) (ch cd cp cx : Nat),
  e = .returned (.tuple #[.agg (msgCells r.1 Ah Ad Ap Ax ch cd cp cx), .bool r.2]) ∧ MsgRd w' w'.heap.size r.1 Ah Ad Ap Ax ∧
  (∀ ad, (Ah = some ad ∨ Ad = some ad ∨ Ap = some ad ∨ Ax = some ad) → w.heap.size ≤ ad.block) ∧ Below w.heap.size w w'
def takeN (its : List (List UInt8)) (k : Int) : List (List UInt8) := if (atN its k).2 then its.eraseIdx k.toNat else its
/-- What Take leaves. -/
def TakePost (w : World) (F : Nat → Prop) (D : Nat) (its : List (List UInt8)) (r : MsgV × Bool) (e : Ending) (w' : World) : Prop := ∃ (Ah Ad Ap Ax : Option Addr) (ch cd cp cx : Nat),
  e = .returned (.tuple #[.agg (msgCells r.1 Ah Ad Ap Ax ch cd cp cx), .bool r.2]) ∧ MsgRd w' w'.heap.size r.1 Ah Ad Ap Ax ∧
  (∀ ad, (Ah = some ad ∨ Ad = some ad ∨ Ap = some ad ∨ Ax = some ad) → w.heap.size ≤ ad.block) ∧ (NetIs w' F D its ∧ Keeps F w w')
theorem MsgRd.zero_ (w : World) (B : Nat) : MsgRd w B MsgV.zero none none none none := ⟨fun h => by simp [MsgV.zero] at h, ⟨rfl, fun h => by simp [MsgV.zero] at h⟩, ⟨rfl, fun h => by simp [MsgV.zero] at h⟩, ⟨rfl, fun h => by simp [MsgV.zero] at h⟩⟩
theorem at_fin {w w1 : World} {F : Nat → Prop} {r : MsgV × Bool} {R : Nat} {a : Act} {old : Array Value} {Ah Ad Ap Ax : Option Addr} {ch cd cp cx : Nat} (hR : Blk w1 R 31 old) (hb : Keeps F w w1) (hRw : w.heap.size ≤ R)
    (hMR : MsgRd w1 w1.heap.size r.1 Ah Ad Ap Ax) (hfr : ∀ ad, (Ah = some ad ∨ Ad = some ad ∨ Ap = some ad ∨ Ax = some ad) → R < ad.block) (cs : Array Value) (hcs : cs = msgCells r.1 Ah Ad Ap Ax ch cd cp cx)
    (h2 : a.tmps.getD 4 undef = .pointer (some ⟨R, 0, none⟩)) (h3 : a.tmps.getD 5 undef = .bool r.2) (h0 : a.defers = []) (hF : ∀ k, ¬ F k) : bodyPost Try.prog Try.f11 (AtPost w r) .ret a (w1.setRow R cs) := by
  have hR' := setRow_heap w1 R _ cs _ _ hR
  have hcz : cs.size = 16 := by rw [hcs]; rfl
  have hrow := run_loadVar_row (P := Try.prog) (w1.setRow R cs) R 31 31 cs (0, 0) _ hR' Try.underlying31 rfl (by rw [hcz]; kernel_rfl)
  have hk : Keeps (fun k => k = R) w1 (w1.setRow R cs) := ⟨rfl, rfl, rfl, by simp, fun k _ hn => setRow_other w1 R k cs hn⟩
  have hsz : (w1.setRow R cs).heap.size = w1.heap.size := by simp
  have hkb : Keeps F w (w1.setRow R cs) := ⟨hb.os, hb.tape, hb.output, by rw [hsz]; exact hb.size, fun k hk2 hn => (setRow_other w1 R k cs (by omega)).trans (hb.block k hk2 hn)⟩
  refine bodyPost_ret (v := .tuple #[.agg cs, .bool r.2]) ?_ h0 ?_
  · rw [results_cell_tmp rfl, h2, h3]
    simp only [asAddr, Sem.run_pure, Result.andThen_ok, hrow]
  · refine ⟨Ah, Ad, Ap, Ax, ch, cd, cp, cx, by rw [hcs], ?_, fun ad e => by have := hfr ad e; omega, hkb.below (B := w.heap.size) (fun k e => absurd e (hF k)) (Nat.le_refl _)⟩
    rw [hsz]
    exact ⟨hMR.heads.off hk (Nat.le_refl _) (fun ad e _ e2 => by have := hfr ad (Or.inl e); omega), reads_off2 hMR.dealers hk (Nat.le_refl _) (fun ad e _ e2 => by have := hfr ad (Or.inr (Or.inl e)); omega),
      reads_off2 hMR.parts hk (Nat.le_refl _) (fun ad e _ e2 => by have := hfr ad (Or.inr (Or.inr (Or.inl e))); omega), rd_off hMR.data hk (Nat.le_refl _) (fun ad e _ e2 => by have := hfr ad (Or.inr (Or.inr (Or.inr e))); omega)⟩
theorem take_fin {w w1 : World} {F : Nat → Prop} {D : Nat} {its : List (List UInt8)} {r : MsgV × Bool} {R : Nat} {a : Act} {old : Array Value} {Ah Ad Ap Ax : Option Addr} {ch cd cp cx : Nat} (hR : Blk w1 R 31 old) (hb : Keeps F w w1) (hRw : w.heap.size ≤ R)
    (hMR : MsgRd w1 w1.heap.size r.1 Ah Ad Ap Ax) (hfr : ∀ ad, (Ah = some ad ∨ Ad = some ad ∨ Ap = some ad ∨ Ax = some ad) → R < ad.block) (cs : Array Value) (hcs : cs = msgCells r.1 Ah Ad Ap Ax ch cd cp cx)
    (h2 : a.tmps.getD 4 undef = .pointer (some ⟨R, 0, none⟩)) (h3 : a.tmps.getD 5 undef = .bool r.2) (h0 : a.defers = []) (hN : NetIs w1 F D its) (hF : ¬ F R) : bodyPost Try.prog Try.f12 (TakePost w F D its r) .ret a (w1.setRow R cs) := by
  have hR' := setRow_heap w1 R _ cs _ _ hR
  have hcz : cs.size = 16 := by rw [hcs]; rfl
  have hrow := run_loadVar_row (P := Try.prog) (w1.setRow R cs) R 31 31 cs (0, 0) _ hR' Try.underlying31 rfl (by rw [hcz]; kernel_rfl)
  have hk : Keeps (fun k => k = R) w1 (w1.setRow R cs) := ⟨rfl, rfl, rfl, by simp, fun k _ hn => setRow_other w1 R k cs hn⟩
  have hsz : (w1.setRow R cs).heap.size = w1.heap.size := by simp
  have hkb : Keeps F w (w1.setRow R cs) := ⟨hb.os, hb.tape, hb.output, by rw [hsz]; exact hb.size, fun k hk2 hn => (setRow_other w1 R k cs (by omega)).trans (hb.block k hk2 hn)⟩
  refine bodyPost_ret (v := .tuple #[.agg cs, .bool r.2]) ?_ h0 ?_
  · rw [results_cell_tmp rfl, h2, h3]
    simp only [asAddr, Sem.run_pure, Result.andThen_ok, hrow]
  · refine ⟨Ah, Ad, Ap, Ax, ch, cd, cp, cx, by rw [hcs], ?_, fun ad e => by have := hfr ad e; omega, hN.keeps hk (fun k e e2 => hF (e2 ▸ e)), hkb⟩
    rw [hsz]
    exact ⟨hMR.heads.off hk (Nat.le_refl _) (fun ad e _ e2 => by have := hfr ad (Or.inl e); omega), reads_off2 hMR.dealers hk (Nat.le_refl _) (fun ad e _ e2 => by have := hfr ad (Or.inr (Or.inl e)); omega),
      reads_off2 hMR.parts hk (Nat.le_refl _) (fun ad e _ e2 => by have := hfr ad (Or.inr (Or.inr (Or.inl e))); omega), rd_off hMR.data hk (Nat.le_refl _) (fun ad e _ e2 => by have := hfr ad (Or.inr (Or.inr (Or.inr e))); omega)⟩
set_option maxRecDepth 100000 in
set_option maxHeartbeats 2000000 in
theorem At_any (w : World) (F : Nat → Prop) (D : Nat) (its : List (List UInt8)) (k : Int) (h : NetIs w F D its) (hl : ∀ b ∈ its, b.length ≤ 67108864) :
    Calls Try.prog 11 #[.pointer (some ⟨D, 0, none⟩), .int .i64 k] w (AtPost w (atN its k)) := by
  have hb1 : Below w.heap.size w (w.alloc (.cells zeroMsg 31)) := (Below.refl _ _).alloc (Nat.le_refl _) _
  have HR1 := Lib.hid (Blk.new w 31 zeroMsg); have H1 := Lib.hid (h.below hb1); have HB1 := Lib.hid hb1
  clear hb1 h
  go_enter Try.func11, Try.ntmps11
  go_upto_region 1 with (fail)
  obtain ⟨R, hRe⟩ : ∃ R, R = w.heap.size := ⟨_, rfl⟩
  rw [← hRe] at HR1 HB1 ⊢
  obtain ⟨w1, hw1⟩ : ∃ w1, w1 = w.alloc (.cells zeroMsg 31) := ⟨_, rfl⟩
  rw [← hw1] at HR1 H1 HB1 ⊢
  have HRE := Lib.hid hRe; clear hRe hw1
  by_cases hk : 0 ≤ k ∧ k < (its.length : Int)
  · have hat : atN its k = decode (its.getD k.toNat []) := by unfold atN; rw [if_pos hk]
    have HAT := Lib.hid hat; clear hat
    have hth := there_any w1 F D its k H1.out
    rw [decide_eq_true hk] at hth
    have HTH := Lib.hid hth; clear hth
    obtain ⟨kn, rfl⟩ : ∃ kn : Nat, k = kn := ⟨k.toNat, by omega⟩
    have hkn : kn < its.length := by omega
    obtain ⟨v, gs, h1, h2, h3, h4, h5⟩ := H1.out
    obtain ⟨g, c, rfl⟩ : ∃ g c, v = .slice (some ⟨g, 0, none⟩) gs.length c := by
      have hgl : its.length = gs.length := by rw [← h2, List.length_map]
      rcases h1.own.2 with ⟨rfl, e⟩ | ⟨g, cap, cur, rfl, _⟩
      · omega
      · exact ⟨_, _, rfl⟩
    have hgl : its.length = gs.length := by rw [← h2, List.length_map]
    have hkg : kn < gs.length := by omega
    have p0 := h1.c0
    have hcell : w1.cell? ⟨g, kn, none⟩ = some (.slice gs[kn].A gs[kn].l.length gs[kn].c) := by
      rw [World.ownsRow.cellAt h1.own kn (by omega), List.getElem?_map, List.getElem?_eq_getElem hkg]; rfl
    have hrd := h1.items gs[kn] (List.getElem_mem hkg)
    have hll : gs[kn].l = its.getD kn [] := by rw [← h2, List.getD_eq_getElem?_getD, List.getElem?_map, List.getElem?_eq_getElem hkg]; rfl
    have hle := hl (its.getD kn []) (by rw [List.getD_eq_getElem?_getD, List.getElem?_eq_getElem hkn]; exact List.getElem_mem hkn)
    rw [← hll] at hle
    generalize gs[kn] = it at hcell hrd hll hle
    have HRD := Lib.hid hrd; have HLL := Lib.hid hll
    clear hrd hll h1 h2 h3 h4 h5 hl
    rw [Int.toNat_natCast] at HAT
    go_wp2_with (go_at_call 23; refine HTH.out.mono ?_; rintro e w2 ⟨rfl, hw2⟩; obtain rfl := hw2.symm)
    refine (Decode_any w1 it.A _ it.c it.l hle HRD.out).mono ?_
    rintro e w2 ⟨Bh, Bd, Bp, Bx, eh, ed, ep, ex, rfl, hm, hnew, hb2⟩
    have hr2 := HR1.out.below hb2 HR1.out.lt
    rw [HLL.out, ← HAT.out] at hm ⊢
    have HR2 := Lib.hid hr2; have HM := Lib.hid hm; have HNEW := Lib.hid hnew; have HB2 := Lib.hid (Below.trans (by rw [HRE.out] at HB1; exact HB1.out) (hb2.mono HB1.out.size) : Below w.heap.size w w2)
    have HRL := Lib.hid HR1.out.lt
    clear hr2 hm hnew hb2 p0 hcell HTH HRD HLL HAT
    go_wp2_with (refine wpList_store_row rfl 31 (.tmp 4) (.tmp 26) rfl R _ (by rfl) (by rfl) _ _ HR2.out (by kernel_rfl) (by rfl) (by simp [Value.oneCell']) ?_)
    exact at_fin HR2.out (Keeps.of_below (F := fun _ => False) HB2.out) (by have := HRE.out; omega) HM.out (fun ad e => by have h7 := HNEW.out ad e; have h8 := HRL.out; omega) _ rfl (by rfl) (by rfl) (by rfl) (fun _ => id)
  · have hat : atN its k = (MsgV.zero, false) := by unfold atN; rw [if_neg hk]
    have HAT := Lib.hid hat; clear hat
    have hth := there_any w1 F D its k H1.out
    rw [decide_eq_false hk] at hth
    have HTH := Lib.hid hth; clear hth hk
    go_wp2_with (first | (go_at_call 23; refine HTH.out.mono ?_; rintro e w2 ⟨rfl, rfl⟩) | (refine wpList_store_row rfl 31 (.tmp 4) (.tmp 16) rfl R zeroMsg (by rfl) (by rfl) _ _ HR1.out (by kernel_rfl) rfl (by kernel_rfl) ?_))
    rw [HAT.out]
    exact at_fin (r := (MsgV.zero, false)) (Ah := none) (Ad := none) (Ap := none) (Ax := none) (ch := 0) (cd := 0) (cp := 0) (cx := 0) HR1.out (Keeps.of_below (F := fun _ => False) (by rw [HRE.out] at HB1; exact HB1.out)) (by have := HRE.out; omega) (MsgRd.zero_ _ _) (fun ad e => by rcases e with e | e | e | e <;> cases e) _ rfl (by rfl) (by rfl) (by rfl) (fun _ => id)
theorem map_erase {α β : Type} (f : α → β) (l : List α) (k : Nat) : (l.eraseIdx k).map f = (l.map f).eraseIdx k := by
  rw [List.eraseIdx_eq_take_drop_succ, List.eraseIdx_eq_take_drop_succ, List.map_append, List.map_take, List.map_drop]
theorem eH_len_ (l : List HeadV) : (l.flatMap eH).length = costH l := by
  induction l with
  | nil => rfl
  | cons x r ih => rw [List.flatMap_cons, List.length_append, ih]; simp only [eH, List.length_append, eB_len, eI_len, costH]; omega
theorem eI_lens_ (l : List Int) : (l.flatMap eI).length = 4 * l.length := by
  induction l with
  | nil => rfl
  | cons x r ih => rw [List.flatMap_cons, List.length_append, ih, eI_len, List.length_cons]; omega
theorem enc_cost_ (m : MsgV) : m.enc.length = m.cost := by
  unfold MsgV.enc MsgV.cost
  simp only [List.length_append, eI_len, eB_len, eI_lens_, eH_len_, List.length_cons, List.length_nil]
  omega
theorem decode_cost_ {b : List UInt8} : (decode b).1.cost ≤ 60 + b.length := by
  cases h : (decode b).2
  · rw [decode_no h]; show 60 ≤ _; omega
  · obtain ⟨h1, h2⟩ := decode_ok h
    rw [← enc_cost_, ← (msg_enc h1).2, h2]; omega
theorem wpList_wantedN {P : Program} {ops : Array Oper} {Q : Exit → Act → World → Prop} {rest : List Oper} {o : Oper} {a : Act} {w : World} (hw : Region.wanted o (yielded ops a.tmps) = true) (h : wpList P ops Q ({ o with guard := none } :: rest) a w) : wpList P ops Q (o :: rest) a w := by
  obtain ⟨dst, op, ty, pos, after, guard⟩ := o
  unfold wpList at h ⊢
  rw [if_pos hw]
  rw [if_pos (by rfl)] at h
  exact h
theorem Keeps.trans_ {F : Nat → Prop} {a b c : World} (h : Keeps F a b) (k : Keeps F b c) : Keeps F a c := h.trans k (fun _ _ e => e)
theorem drop_any (w : World) (F : Nat → Prop) (D : Nat) (its : List (List UInt8)) (k : Nat) (h : NetIs w F D its) (hk : k < its.length) (hn : its.length ≤ 67108864) :
    Calls Try.prog 25 #[.pointer (some ⟨D, 0, none⟩), .int .i64 (k : Int)] w fun e w' => e = .returned (.tuple #[]) ∧ NetIs w' F D (its.eraseIdx k) ∧ Keeps F w w' := by
  obtain ⟨v, gs, h1, h2, h3, h4, h5⟩ := h
  have hgl : its.length = gs.length := by rw [← h2, List.length_map]
  obtain ⟨g, c, rfl⟩ : ∃ g c, v = .slice (some ⟨g, 0, none⟩) gs.length c := by
    rcases h1.own.2 with ⟨rfl, e⟩ | ⟨g, cap, cur, rfl, _⟩
    · omega
    · exact ⟨_, _, rfl⟩
  have p0 := h1.c0
  have HD := Lib.hid (Delete_any g c gs.length k (gs.map ItV.val) w 0 h1.own (by omega) (by intro u hu; obtain ⟨x, _, rfl⟩ := List.mem_map.1 hu; rfl))
  have H1 := Lib.hid h1; have H25 := Lib.hid (And.intro h2 (And.intro h3 (And.intro h4 h5)))
  have hkk : (k : Int) ≤ 67108864 := by omega
  have HKG := Lib.hid (show k < gs.length by omega)
  clear h1 h2 h3 h4 h5 hk hgl hn
  go_enter Try.func25, Try.ntmps25
  go_wp2_with fail
  refine (show Calls Try.prog 39 #[.slice (some ⟨g, 0, none⟩) gs.length c, .int .i64 (k : Int), .int .i64 ((k : Int) + 1)] w _ from HD.out).mono ?_
  rintro e w2 ⟨rfl, hown, hk2⟩
  have hDg : D ≠ g := fun e => H1.out.apart g rfl e.symm
  have hD2 := H1.out.cells.keeps hk2 hDg
  have q0 : w2.cell? ⟨D, 0, none⟩ = some (.slice (some ⟨g, 0, none⟩) gs.length c) := (hD2.cell 0).trans rfl
  have f0 : w2.frozen? ⟨D, 0, none⟩ = false := hD2.frozen 0
  have HOWN := Lib.hid hown; have HK2 := Lib.hid hk2; have HD2 := Lib.hid hD2
  clear hown hk2 hD2
  go_wp2
  go_end0
  have hsub : ∀ x ∈ gs.eraseIdx k, x ∈ gs := fun x hx => List.mem_of_mem_eraseIdx hx
  have hkW : Keeps (fun j => j = D ∨ j = g) w (w2.setCell ⟨D, 0, none⟩ (.slice (some ⟨g, 0, none⟩) (gs.length - 1) c)) := (HK2.out.weaken (F' := fun j => j = D ∨ j = g) (fun _ _ e => Or.inr e)).setCell (p := ⟨D, 0, none⟩) (Or.inl rfl) _
  have hel : (gs.eraseIdx k).length = gs.length - 1 := List.length_eraseIdx_of_lt HKG.out
  refine ⟨rfl, ⟨.slice (some ⟨g, 0, none⟩) (gs.length - 1) c, gs.eraseIdx k, ⟨HD2.out.set_ 0 _, ?_, H1.out.apart, fun x hx => ?_⟩, ?_, H25.out.2.1, H25.out.2.2.1, fun x hx => H25.out.2.2.2 x (hsub x hx)⟩, hkW.weaken (fun i _ e => ?_)⟩
  · have h7 := row_keeps HOWN.out ((Keeps.refl (fun j => j = D) w2).setCell (p := ⟨D, 0, none⟩) rfl (.slice (some ⟨g, 0, none⟩) (gs.length - 1) c)) (fun kk e e2 => hDg (by have h1 : g = kk := Option.some.inj e; omega))
    rw [hel, map_erase, List.eraseIdx_eq_take_drop_succ]
    exact h7
  · exact Rd.more (reads_off (H1.out.items x (hsub x hx)) hkW (Nat.le_refl _) (fun ad e h0 e2 => by
      have h8 := H25.out.2.2.2 x (hsub x hx) ad e h0
      rcases e2 with e2 | e2
      · exact h8.2.1 e2
      · exact h8.2.2 (by rw [e2]; rfl))) hkW.size
  · rw [map_erase, H25.out.1]
  · rcases e with e | e
    · rw [e]; exact H25.out.2.1
    · rw [e]; exact H25.out.2.2.1 g rfl
theorem erase_len {its : List (List UInt8)} {k : Nat} (hl : ∀ b ∈ its, b.length ≤ 67108864) : ∀ b ∈ its.eraseIdx k, b.length ≤ 67108864 := fun b hb => hl b (List.mem_of_mem_eraseIdx hb)
set_option maxRecDepth 100000 in
set_option maxHeartbeats 2000000 in
theorem Take_any (w : World) (F : Nat → Prop) (D : Nat) (its : List (List UInt8)) (k : Int) (h : NetIs w F D its) (hF : ∀ k, F k → k < w.heap.size) (hl : ∀ b ∈ its, b.length ≤ 67108864) (hn : its.length ≤ 67108864) :
    Calls Try.prog 12 #[.pointer (some ⟨D, 0, none⟩), .int .i64 k] w (TakePost w F D (takeN its k) (atN its k)) := by
  have hb1 : Below w.heap.size w (w.alloc (.cells zeroMsg 31)) := (Below.refl _ _).alloc (Nat.le_refl _) _
  have HR1 := Lib.hid (Blk.new w 31 zeroMsg); have H1 := Lib.hid (h.below hb1); have HB1 := Lib.hid hb1
  clear hb1 h
  go_enter Try.func12, Try.ntmps12
  go_upto_region 1 with (fail)
  obtain ⟨R, hRe⟩ : ∃ R, R = w.heap.size := ⟨_, rfl⟩
  rw [← hRe] at HR1 HB1 hF ⊢
  obtain ⟨w1, hw1⟩ : ∃ w1, w1 = w.alloc (.cells zeroMsg 31) := ⟨_, rfl⟩
  rw [← hw1] at HR1 H1 HB1 ⊢
  have HB01 := Lib.hid (show Below w.heap.size w w1 by rw [← hRe]; exact HB1.out)
  have HRE := Lib.hid hRe; clear hRe hw1
  have HFR := Lib.hid (show ¬ F R from fun e => Nat.lt_irrefl _ (hF _ e))
  go_wp2_with fail
  refine (At_any w1 F D its k H1.out hl).mono ?_
  rintro e w2 ⟨Bh, Bd, Bp, Bx, eh, ed, ep, ex, rfl, hm, hnew, hb2⟩
  have HR2 := Lib.hid (HR1.out.below hb2 HR1.out.lt); have H2 := Lib.hid (H1.out.below hb2); have HM := Lib.hid hm; have HNEW := Lib.hid hnew; have HB2 := Lib.hid (HB01.out.trans (hb2.mono HB01.out.size)); have HRL := Lib.hid HR1.out.lt
  have HL12 := Lib.hid hb2.size
  clear hm hnew hb2
  have htk : takeN its k = if (atN its k).2 then its.eraseIdx k.toNat else its := rfl
  have hat : atN its k = if 0 ≤ k ∧ k < (its.length : Int) then decode (its.getD k.toNat []) else (MsgV.zero, false) := rfl
  have HTK0 := Lib.hid htk; have HAT0 := Lib.hid hat
  clear htk hat
  go_upto_region 2 with (fail)
  have hbq : Below w2.heap.size w2 (w2.alloc (.cells (msgCells (atN its k).1 Bh Bd Bp Bx eh ed ep ex) 31)) := (Below.refl _ _).alloc (Nat.le_refl _) _
  have HQ := Lib.hid (Blk.new w2 31 (msgCells (atN its k).1 Bh Bd Bp Bx eh ed ep ex))
  have HR3 := Lib.hid (HR2.out.below hbq HR2.out.lt); have H3 := Lib.hid (H2.out.below hbq); have HM3 := Lib.hid ((HM.out.below hbq (Nat.le_refl _)).more hbq.size); have HB3 := Lib.hid (HB2.out.trans (hbq.mono HB2.out.size))
  have HQL := Lib.hid (show R < w2.heap.size from HR2.out.lt)
  generalize hQe : w2.heap.size = Q at HQ HQL ⊢
  obtain ⟨w3, hw3⟩ : ∃ w3, w3 = w2.alloc (.cells (msgCells (atN its k).1 Bh Bd Bp Bx eh ed ep ex) 31) := ⟨_, rfl⟩
  rw [← hw3] at HQ HR3 H3 HM3 HB3 ⊢
  have HFQ := Lib.hid (show ¬ F Q from fun e => by have := hF _ e; have := HQL.out; omega)
  have HQN := Lib.hid (show ∀ ad, (Bh = some ad ∨ Bd = some ad ∨ Bp = some ad ∨ Bx = some ad) → R < ad.block from fun ad e => by have h1 := HNEW.out ad e; have h2 := HRL.out; omega)
  clear hbq hQe hw3 HR2 H2 HM HB2
  cases hok : (atN its k).2
  · have htk2 : takeN its k = its := by rw [HTK0.out, hok]; rfl
    have HTK := Lib.hid htk2; have HOK := Lib.hid hok
    clear htk2 hok
    go_wp2_with (first | (refine wpList_load_row rfl 31 (.tmp 6) rfl Q rfl _ _ _ _ HQ.out Try.underlying31 rfl (by kernel_rfl) ?_) | (refine wpList_store_row rfl 31 (.tmp 4) (.tmp 20) rfl R _ (by rfl) (by rfl) _ _ HR3.out (by kernel_rfl) (by rfl) (by simp [Value.oneCell']) ?_))
    exact take_fin HR3.out (Keeps.of_below HB3.out) (by have := HRE.out; omega) HM3.out HQN.out _ rfl (by rfl) (by rw [HOK.out]; rfl) (by rfl) (by rw [HTK.out]; exact H3.out) HFR.out
  · have htk2 : takeN its k = its.eraseIdx k.toNat := by rw [HTK0.out, hok]; rfl
    have hkk : 0 ≤ k ∧ k < (its.length : Int) := by
      by_cases hc : 0 ≤ k ∧ k < (its.length : Int)
      · exact hc
      · rw [HAT0.out, if_neg hc] at hok; cases hok
    obtain ⟨kn, rfl⟩ : ∃ kn : Nat, k = kn := ⟨k.toNat, by omega⟩
    rw [Int.toNat_natCast] at htk2
    have HTK := Lib.hid htk2; have HOK := Lib.hid hok
    have hkn : kn < its.length := by omega
    clear htk2 hok hkk
    go_wp2_with fail
    refine (drop_any w3 F D its kn H3.out hkn hn).mono ?_
    rintro e w4 ⟨rfl, h4, hk4⟩
    have HR4 := Lib.hid (HR3.out.keeps hk4 HFR.out); have HQ4 := Lib.hid (HQ.out.keeps hk4 HFQ.out); have H4 := Lib.hid h4; have HK4 := Lib.hid ((Keeps.of_below (F := F) HB3.out).trans_ hk4)
    have HM4 := Lib.hid (show MsgRd w4 w4.heap.size (atN its (kn : Int)).1 Bh Bd Bp Bx from by
      have hnf : ∀ ad, (Bh = some ad ∨ Bd = some ad ∨ Bp = some ad ∨ Bx = some ad) → ¬ F ad.block := fun ad e hf => by have h1 := HQN.out ad e; have h2 := hF _ hf; omega
      exact MsgRd.more ⟨HM3.out.heads.off hk4 (Nat.le_refl _) (fun ad e _ => hnf ad (Or.inl e)), reads_off2 HM3.out.dealers hk4 (Nat.le_refl _) (fun ad e _ => hnf ad (Or.inr (Or.inl e))), reads_off2 HM3.out.parts hk4 (Nat.le_refl _) (fun ad e _ => hnf ad (Or.inr (Or.inr (Or.inl e)))), rd_off HM3.out.data hk4 (Nat.le_refl _) (fun ad e _ => hnf ad (Or.inr (Or.inr (Or.inr e))))⟩ hk4.size)
    clear h4 hk4 HR3 HQ H3 HM3
    go_wp2_with (first | (refine wpList_load_row rfl 31 (.tmp 6) rfl Q rfl _ _ _ _ HQ4.out Try.underlying31 rfl (by kernel_rfl) ?_) | (refine wpList_store_row rfl 31 (.tmp 4) (.tmp 20) rfl R _ (by rfl) (by rfl) _ _ HR4.out (by kernel_rfl) (by rfl) (by simp [Value.oneCell']) ?_))
    exact take_fin HR4.out HK4.out (by have := HRE.out; omega) HM4.out HQN.out _ rfl (by rfl) (by rw [HOK.out]; rfl) (by rfl) (by rw [HTK.out]; exact H4.out) HFR.out
def twiceB (its : List (List UInt8)) (k : Int) : Bool := (atN its k).2 && decide (sendE its (WS.msg ⟨[], false⟩ (atN its k).1) = 0)
def twiceN (its : List (List UInt8)) (k : Int) : List (List UInt8) := if (atN its k).2 then sendN its (WS.msg ⟨[], false⟩ (atN its k).1) else its
set_option maxRecDepth 100000 in
set_option maxHeartbeats 2000000 in
theorem Twice_any (w : World) (F : Nat → Prop) (D : Nat) (its : List (List UInt8)) (k : Int) (h : NetIs w F D its) (hl : ∀ b ∈ its, b.length ≤ 67108864) (hn : its.length ≤ 4096) :
    Calls Try.prog 13 #[.pointer (some ⟨D, 0, none⟩), .int .i64 k] w fun e w' => e = .returned (.bool (twiceB its k)) ∧ NetIs w' (Grown F w) D (twiceN its k) ∧ Keeps F w w' := by
  go_enter Try.func13, Try.ntmps13
  have H0 := Lib.hid h; clear h
  go_wp2_with fail
  refine (At_any w F D its k H0.out hl).mono ?_
  rintro e w2 ⟨Bh, Bd, Bp, Bx, eh, ed, ep, ex, rfl, hm, hnew, hb2⟩
  have hcost : (atN its k).1.cost ≤ 140737488200000 := by
    unfold atN
    split
    · next hc =>
      have h1 := decode_cost_ (b := its.getD k.toNat [])
      have h2 := hl (its.getD k.toNat []) (by rw [List.getD_eq_getElem?_getD, List.getElem?_eq_getElem (by omega)]; exact List.getElem_mem (by omega))
      omega
    · decide
  have HCO := Lib.hid hcost
  have htb : twiceB its k = ((atN its k).2 && decide (sendE its (WS.msg ⟨[], false⟩ (atN its k).1) = 0)) := rfl
  have htn : twiceN its k = if (atN its k).2 then sendN its (WS.msg ⟨[], false⟩ (atN its k).1) else its := rfl
  have H2 := Lib.hid (H0.out.below hb2); have HM := Lib.hid hm; have HB2 := Lib.hid hb2
  have HTB := Lib.hid htb; have HTN := Lib.hid htn
  clear hm hnew hb2 hcost htb htn hl
  generalize hr1 : (atN its k).1 = m at HM HCO HTB HTN ⊢
  generalize hr2 : (atN its k).2 = ok at HTB HTN ⊢
  clear hr1 hr2
  go_upto_region 2 with (fail)
  have hbq : Below w2.heap.size w2 (w2.alloc (.cells (msgCells m Bh Bd Bp Bx eh ed ep ex) 31)) := (Below.refl _ _).alloc (Nat.le_refl _) _
  have HQ := Lib.hid (Blk.new w2 31 (msgCells m Bh Bd Bp Bx eh ed ep ex)); have H3 := Lib.hid (H2.out.below hbq); have HM3 := Lib.hid ((HM.out.below hbq (Nat.le_refl _)).more hbq.size); have HB3 := Lib.hid (HB2.out.trans (hbq.mono HB2.out.size))
  generalize hQe : w2.heap.size = Q at HQ ⊢
  obtain ⟨w3, hw3⟩ : ∃ w3, w3 = w2.alloc (.cells (msgCells m Bh Bd Bp Bx eh ed ep ex) 31) := ⟨_, rfl⟩
  rw [← hw3] at HQ H3 HM3 HB3 ⊢
  clear hbq hQe hw3
  cases ok
  · have htb := HTB.out
    have htn := HTN.out
    simp only [Bool.false_and, Bool.false_eq_true, if_false] at htb htn
    have HTB := Lib.hid htb; have HTN := Lib.hid htn
    clear htb htn
    go_wp2
    go_ret
    exact ⟨by rw [HTB.out]; rfl, by rw [HTN.out]; exact H3.out.weaken (fun k e => Or.inl e), Keeps.of_below HB3.out⟩
  · have htb := HTB.out
    have htn := HTN.out
    simp only [Bool.true_and, if_true] at htb htn
    have HTB := Lib.hid htb; have HTN := Lib.hid htn
    clear htb htn
    go_wp2_with (refine wpList_wantedN rfl ?_; refine wpList_load_row rfl 31 (.tmp 5) rfl Q rfl _ _ _ _ HQ.out Try.underlying31 rfl (by kernel_rfl) ?_)
    refine (Send_any w3 F D its m Bh Bd Bp Bx eh ed ep ex H3.out HM3.out HCO.out hn).mono ?_
    rintro e w4 ⟨rfl, h4, hk4⟩
    have H4 := Lib.hid (h4.weaken (G := Grown F w) (fun k e => e.elim Or.inl (fun e => Or.inr (Nat.le_trans HB3.out.size e)))); have HK4 := Lib.hid ((Keeps.of_below (F := F) HB3.out).trans_ hk4)
    clear h4 hk4
    generalize sendE its (WS.msg ⟨[], false⟩ m) = se at HTB ⊢
    by_cases hse : se = 0
    · have HT := Lib.hid (show twiceB its k = true by rw [HTB.out, hse]; rfl)
      subst hse
      go_wp2
      go_ret
      exact ⟨by rw [HT.out]; rfl, by rw [HTN.out]; exact H4.out, HK4.out⟩
    · have HT := Lib.hid (show twiceB its k = false by rw [HTB.out]; exact decide_eq_false hse)
      have hse2 : (se == 0) = false := by simpa using hse
      go_wp2
      go_ret
      exact ⟨by rw [HT.out]; rfl, by rw [HTN.out]; exact H4.out, HK4.out⟩
end Go.Proofs.Ytoekmgpnmhknoaa

