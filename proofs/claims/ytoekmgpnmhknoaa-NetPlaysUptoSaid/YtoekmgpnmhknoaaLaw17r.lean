/- The walk of layer 17's law NetOrder. Condition: the messages are no great ones. -/
import Derived.Test.YtoekmgpnmhknoaaNet5
namespace Go.Proofs.Ytoekmgpnmhknoaa
open Go.RowKit
def MsgP.out (p : MsgP) : List UInt8 := (WS.msg ⟨[], false⟩ p.m).out
theorem out_len (p : MsgP) (hb : (WS.msg ⟨[], false⟩ p.m).bad = false) (hc : p.m.cost ≤ 67108864) : p.out.length ≤ 67108864 := by
  unfold MsgP.out; rw [(msg_enc hb).2, enc_cost_]; exact hc
/-- The net, and a row of the law's own that lies apart from it. -/
def NetAp (w : World) (B D : Nat) (v : Value) (its : List (List UInt8)) : Prop := ∃ F, NetIs w F D its ∧ (∀ k, F k → B ≤ k ∧ k < w.heap.size) ∧ ∀ k, v.ownBlock = some k → ¬ F k
theorem NetAp.below {w w' : World} {B D : Nat} {v : Value} {its : List (List UInt8)} (h : NetAp w B D v its) (hb : Below w.heap.size w w') : NetAp w' B D v its := by
  obtain ⟨F, h1, h2, h3⟩ := h
  exact ⟨F, h1.below hb, fun k e => ⟨(h2 k e).1, Nat.lt_of_lt_of_le (h2 k e).2 hb.size⟩, h3⟩
theorem NetAp.grown {w w' : World} {B D : Nat} {v v' : Value} {its : List (List UInt8)} (h : NetAp w B D v its) (hg : w.grownBy w' v.ownBlock) (hat : v'.ownBlock = v.ownBlock ∨ ∃ k, v'.ownBlock = some k ∧ w.heap.size ≤ k) : NetAp w' B D v' its := by
  obtain ⟨F, h1, h2, h3⟩ := h
  have hk : Keeps (fun k => v.ownBlock = some k) w w' := (Keeps.refl _ w).grown hg (fun k e => Or.inr e)
  refine ⟨F, h1.keeps hk (fun k e e2 => h3 k e2 e), fun k e => ⟨(h2 k e).1, Nat.lt_of_lt_of_le (h2 k e).2 hk.size⟩, fun k e e2 => ?_⟩
  rcases hat with e3 | ⟨k', e3, e4⟩
  · exact h3 k (e3 ▸ e) e2
  · rw [e3] at e; injection e with e; have := (h2 k e2).2; omega
theorem Send_ap (w : World) (B D : Nat) (v : Value) (its : List (List UInt8)) (p : MsgP) (h : NetAp w B D v its) (hB : B ≤ w.heap.size) (hv : ∀ k, v.ownBlock = some k → k < w.heap.size) (hr : p.Rd w w.heap.size) (hs : p.m.cost ≤ 67108864) (hn : its.length ≤ 4096) :
    Calls Try.prog 10 #[.pointer (some ⟨D, 0, none⟩), .agg p.arr] w fun e w' => e = .returned (.int .i64 (sendE its (WS.msg ⟨[], false⟩ p.m))) ∧ NetAp w' B D v (sendN its (WS.msg ⟨[], false⟩ p.m)) ∧ Below B w w' ∧ ∀ e size n xs B', w.ownsRow B' e size v n xs → w'.ownsRow B' e size v n xs := by
  obtain ⟨F, h1, h2, h3⟩ := h
  refine (Send_any w F D its p.m p.Ah p.Ad p.Ap p.Ax p.ch p.cd p.cp p.cx h1 hr (by omega) hn).mono fun e w' ⟨g1, g2, g3⟩ => ⟨g1, ⟨_, g2.tight, fun k e => ⟨?_, e.2⟩, fun k e e2 => ?_⟩, g3.below (fun k e => (h2 k e).1) hB, fun _ _ _ _ _ ho => row_keeps ho g3 h3⟩
  · rcases e.1 with e1 | e1
    · exact (h2 k e1).1
    · omega
  · rcases e2.1 with e1 | e1
    · exact h3 k e e1
    · have := hv k e; omega
theorem at0_ {p : MsgP} {its : List (List UInt8)} (hb : (WS.msg ⟨[], false⟩ p.m).bad = false) : atN (p.out :: its) 0 = (p.m, true) ∧ takeN (p.out :: its) 0 = its := by
  have h : atN (p.out :: its) 0 = (p.m, true) := by unfold atN; rw [if_pos ⟨by omega, by simp⟩]; exact decode_enc hb
  exact ⟨h, by unfold takeN; rw [h]; rfl⟩
theorem Take_ap (w : World) (B D : Nat) (v : Value) (its : List (List UInt8)) (p : MsgP) (h : NetAp w B D v (p.out :: its)) (hB : B ≤ w.heap.size) (hb : (WS.msg ⟨[], false⟩ p.m).bad = false) (hl : ∀ b ∈ p.out :: its, b.length ≤ 67108864) (hn : (p.out :: its).length ≤ 67108864) :
    Calls Try.prog 12 #[.pointer (some ⟨D, 0, none⟩), .int .i64 0] w fun e w' => (∃ (Ah Ad Ap Ax : Option Addr) (ch cd cp cx : Nat), e = .returned (.tuple #[.agg (msgCells p.m Ah Ad Ap Ax ch cd cp cx), .bool true]) ∧ MsgRd w' w'.heap.size p.m Ah Ad Ap Ax) ∧ NetAp w' B D v its ∧ Below B w w' ∧ ∀ e size n xs B', w.ownsRow B' e size v n xs → w'.ownsRow B' e size v n xs := by
  obtain ⟨F, h1, h2, h3⟩ := h
  refine (Take_any w F D _ 0 h1 (fun k e => (h2 k e).2) hl hn).mono fun e w' ⟨Ah, Ad, Ap, Ax, ch, cd, cp, cx, g1, g2, _, g3, g4⟩ => ?_
  rw [(at0_ hb).1] at g1 g2
  rw [(at0_ hb).2] at g3
  exact ⟨⟨Ah, Ad, Ap, Ax, ch, cd, cp, cx, g1, g2⟩, ⟨F, g3, fun k e => ⟨(h2 k e).1, Nat.lt_of_lt_of_le (h2 k e).2 g4.size⟩, h3⟩, g4.below (fun k e => (h2 k e).1) hB, fun _ _ _ _ _ ho => row_keeps ho g4 h3⟩
theorem below_app2 {w0 w w' : World} {base size n : Nat} {e : TypeId} {v : Value} {xs : List Value} (h : Below base w0 w) (hown : w.ownsRow base e size v n xs) (hB : base ≤ w.heap.size) (hg : w.grownBy w' v.ownBlock) : Below base w0 w' := h.grown hg hB fun k hk => (World.ownsRow.lt hown k hk).1
set_option maxRecDepth 100000 in
set_option maxHeartbeats 1000000 in
theorem NetOrder_any (A : Option Addr) (n c : Nat) (w : World) (ps : List MsgP) (hpn : ps.length = n) (hn : n ≤ 67108864) (hs : ∀ p ∈ ps, p.m.cost ≤ 67108864) (hr : MsgsRd w w.heap.size A ps) :
    Calls Try.prog 7 #[.slice A n c] w fun e w' => e = .returned (.bool true) ∧ Below w.heap.size w w' := by
  subst hpn
  have HR := Lib.hid hr; have HS := Lib.hid hs
  clear hr hs
  go_enter Try.func7, Try.ntmps7
  go_wp2_with fail
  refine (NNew_G w w.heap.size (Nat.le_refl _)).mono ?_
  rintro e w1 ⟨D, rfl, hn1, hb1⟩
  have HN1 := Lib.hid (show NetAp w1 w.heap.size D (.slice none 0 0) [] by obtain ⟨F, h1, h2⟩ := hn1; exact ⟨F, h1, h2, fun k e => by cases e⟩)
  have HB1 := Lib.hid hb1
  clear hn1 hb1
  generalize hBe : w.heap.size = B at HR HN1 HB1
  have HBE := Lib.hid hBe
  go_wp2_with fail
  go_loopw [4, 5] (fun v q wr => ∃ (i : Nat) (qs : List MsgP), i ≤ ps.length ∧ i ≤ 1000 ∧ q = .int .i64 (i : Int) ∧ qs.length ≤ i ∧ (∀ p ∈ qs, p ∈ ps ∧ (WS.msg ⟨[], false⟩ p.m).bad = false) ∧ wr.ownsRow B 31 16 v qs.length (msgsC qs) ∧ NetAp wr B D v (qs.map MsgP.out) ∧ Below B w wr) (fun _ q _ => ps.length - (intOf q).toNat)
  case atStart => exact ⟨0, [], Nat.zero_le _, by omega, rfl, Nat.le_refl _, (fun p hp => by cases hp), World.ownsRow_nil _ _ _ _, HN1.out, HB1.out⟩
  case round =>
    obtain ⟨i, qs, hi, hi2, rfl, hql, hqs, hv, hN, hB⟩ := hrel
    obtain ⟨As, cs, rfl⟩ := row_shape hv
    have HV := Lib.hid hv; have HN := Lib.hid hN; have HB := Lib.hid hB; have HQS := Lib.hid hqs; have HQL := Lib.hid hql
    have HL := Lib.hid (HR.out.below hB (Nat.le_of_eq hBe.symm))
    have HBwr := Lib.hid (show B ≤ wr.heap.size by have := hB.size; omega)
    clear hv hN hB hqs hql
    by_cases hil : i < ps.length ∧ i < 1000
    · obtain ⟨hil1, hil2⟩ := hil
      have hil1' : (i : Int) < (ps.length : Int) := by omega
      have hil2' : (i : Int) < 1000 := by omega
      obtain ⟨p, hp⟩ : ∃ p, ps[i]? = some p := ⟨_, List.getElem?_eq_getElem hil1⟩
      obtain ⟨ad, rfl, had, hcell⟩ := HL.out.cells hp
      have hpm := List.mem_of_getElem? hp
      have HCE := Lib.hid hcell; have HPM := Lib.hid hpm; have HAD := Lib.hid had
      have HPR := Lib.hid (show p.Rd wr wr.heap.size from (HL.out.each p hpm).more HBwr.out)
      clear hcell hpm hp had
      go_wp2_with (refine wpList_load_at rfl 31 (.tmp 23) rfl (ad.add (i * 16)) rfl (msgCells p.m p.Ah p.Ad p.Ap p.Ax p.ch p.cd p.cp p.cx) _ HCE.out Try.underlying31 rfl (by kernel_rfl) ?_)
      have hvl : ∀ k, (Value.slice As qs.length cs).ownBlock = some k → k < wr.heap.size := fun k e => (World.ownsRow.lt HV.out k e).2
      refine (Send_ap wr B D (.slice As qs.length cs) (qs.map MsgP.out) p HN.out HBwr.out hvl HPR.out (HS.out p HPM.out) (by rw [List.length_map]; have := HQL.out; omega)).mono ?_
      rintro e w2 ⟨rfl, hn2, hb2, hv2⟩
      have HB2 := Lib.hid (HB.out.trans hb2); have HV2 := Lib.hid (hv2 _ _ _ _ _ HV.out)
      have HL2 := Lib.hid (HL.out.below hb2 HBwr.out)
      have HBw2 := Lib.hid (Nat.le_trans HBwr.out hb2.size)
      clear hvl hv2 HPR
      cases hbad : (WS.msg ⟨[], false⟩ p.m).bad
      · rw [sendE_ok hbad (by rw [List.length_map]; have := HQL.out; omega)]
        rw [sendN_ok hbad (by rw [List.length_map]; have := HQL.out; omega)] at hn2
        have HN2 := Lib.hid hn2; have HBAD := Lib.hid hbad
        have hcell2 : ∀ j v, p.cells[j]? = some v → w2.cell? ((ad.add (i * 16)).add j) = some v := fun j v hv => (hb2.cell (by rw [block_of_add, block_of_add]; exact HAD.out)).trans (HCE.out j v hv)
        have HCE2 := Lib.hid hcell2
        clear hn2 hbad hcell2 HV HN HCE hb2
        have hbq : Below w2.heap.size w2 (w2.alloc (.cells (msgCells p.m p.Ah p.Ad p.Ap p.Ax p.ch p.cd p.cp p.cx) 31)) := (Below.refl _ _).alloc (Nat.le_refl _) _
        have HOWN := Lib.hid (World.ownsRow.alloc HV2.out (.cells (msgCells p.m p.Ah p.Ad p.Ap p.Ax p.ch p.cd p.cp p.cx) 31)); have HQ := Lib.hid (show Blk (w2.alloc (.cells (msgCells p.m p.Ah p.Ad p.Ap p.Ax p.ch p.cd p.cp p.cx) 31)) w2.heap.size 31 p.cells.toArray from Blk.new w2 31 (msgCells p.m p.Ah p.Ad p.Ap p.Ax p.ch p.cd p.cp p.cx))
        have HN3 := Lib.hid (HN2.out.below hbq)
        obtain ⟨im, hi0, hz0, hz1, hz2⟩ := info_parts msg_info
        have HIM := Lib.hid (And.intro hi0 (And.intro hz0 (And.intro hz1 hz2)))
        have HBw3 := Lib.hid (Nat.le_trans HBw2.out hbq.size); have HB3 := Lib.hid (HB2.out.trans (hbq.mono HBw2.out))
        have hql := HQL.out
        clear hi0 hz0 hz1 hz2 hbq
        go_wp2_with (first | (refine wpList_load_at rfl 31 (.tmp 30) rfl (ad.add (i * 16)) rfl (msgCells p.m p.Ah p.Ad p.Ap p.Ax p.ch p.cd p.cp p.cx) _ HCE2.out Try.underlying31 rfl (by kernel_rfl) ?_) | (at_builtin; refine wpList_append_any _ rfl (.tmp 27) (.tmp 32) _ rfl B 31 im _ 16 200 Try.underlying25 HIM.out.1 HIM.out.2.1 HIM.out.2.2.1 HIM.out.2.2.2 rfl (by omega) _ qs.length _ rfl HOWN.out _ (some ⟨w2.heap.size, 0, none⟩) 1 1 p.cells rfl (reads_row HQ.out rfl) p.one (by simp only [maxLen]; omega) (by omega) HBw3.out ?_; intro v' wA hown' hg' hat'; obtain ⟨A1, c1, rfl⟩ := row_shape hown'))
        have hnA := HN3.out.grown hg' (v' := .slice A1 (qs.length + 1) c1) (hat'.elim Or.inl (fun e => Or.inr ⟨_, e, Nat.le_refl _⟩))
        have hbA : Below B w wA := below_app2 HB3.out HOWN.out HBw3.out hg'
        go_roundw
        case rel =>
          refine ⟨i + 1, qs ++ [p], by omega, by omega, by go_num, by rw [List.length_append]; simp only [List.length_singleton]; omega, fun x hx => ?_, ?_, ?_, hbA⟩
          · rcases List.mem_append.1 hx with hx | hx
            · exact HQS.out x hx
            · rw [List.mem_singleton.1 hx]; exact ⟨HPM.out, HBAD.out⟩
          · rw [List.length_append, msgsC, List.flatMap_append]
            exact (by simpa using hown' : wA.ownsRow B 31 16 (.slice A1 (qs.length + 1) c1) (qs.length + 1) (qs.flatMap MsgP.cells ++ [p].flatMap MsgP.cells))
          · rw [List.map_append]; exact hnA
        case measure => simp [intOf]; omega
      · have hE : sendE (qs.map MsgP.out) (WS.msg ⟨[], false⟩ p.m) = 1 := by unfold sendE; rw [hbad]; rfl
        have hN : sendN (qs.map MsgP.out) (WS.msg ⟨[], false⟩ p.m) = qs.map MsgP.out := by unfold sendN; rw [hbad]; rfl
        rw [hE]
        rw [hN] at hn2
        have HN2 := Lib.hid hn2
        clear hn2 hbad hE hN hb2
        go_wp2
        go_roundw
        case rel => exact ⟨i + 1, qs, by omega, by omega, by go_num, by have := HQL.out; omega, HQS.out, HV2.out, HN2.out, HB2.out⟩
        case measure => simp [intOf]; omega
    · have hil' : ¬ ((i : Int) < (ps.length : Int) ∧ (i : Int) < 1000) := by omega
      have HX := Lib.hid hi
      by_cases h1 : (i : Int) < (ps.length : Int)
      · have h2 : ¬ (i : Int) < 1000 := fun h => hil' ⟨h1, h⟩
        clear hil hil' hi hi2
        have hql : qs.length ≤ 67108864 := by have := HQL.out; have := HX.out; omega
        go_wp2_with fail
        go_loopw [6, 7, 8] (fun q _ _ wx => ∃ j : Nat, j ≤ qs.length ∧ q = .int .i64 (j : Int) ∧ NetAp wx B D (.slice As qs.length cs) ((qs.drop j).map MsgP.out) ∧ wx.ownsRow B 31 16 (.slice As qs.length cs) qs.length (msgsC qs) ∧ Below B w wx) (fun q _ _ _ => qs.length - (intOf q).toNat)
        case atStart => exact ⟨0, Nat.zero_le _, rfl, HN.out, HV.out, HB.out⟩
        case round =>
          obtain ⟨j, hj, rfl, hn, hv, hb⟩ := hrel
          have HL2 := Lib.hid (HR.out.below hb (Nat.le_of_eq hBe.symm))
          clear HV HN HB HL HBwr
          have HV := Lib.hid hv; have HN := Lib.hid hn; have HB := Lib.hid hb; have HBwr := Lib.hid (show B ≤ wr.heap.size by have := hb.size; omega)
          clear hn hv hb
          by_cases hjl : j < qs.length
          · have hjl' : (j : Int) < (qs.length : Int) := by omega
            obtain ⟨p, hp⟩ : ∃ p, qs[j]? = some p := ⟨_, List.getElem?_eq_getElem hjl⟩
            have hpm := HQS.out p (List.mem_of_getElem? hp)
            have hdr : (qs.drop j).map MsgP.out = p.out :: (qs.drop (j + 1)).map MsgP.out := by
              rw [List.drop_eq_getElem_cons hjl, List.map_cons]
              have h9 : qs[j] = p := by rw [List.getElem?_eq_getElem hjl] at hp; exact Option.some.inj hp
              rw [h9]
            have hns := HN.out
            rw [hdr] at hns
            have HNS := Lib.hid hns; have HPM := Lib.hid hpm; have HP := Lib.hid hp; have HDR := Lib.hid hdr
            have hbl : ∀ b ∈ p.out :: (qs.drop (j + 1)).map MsgP.out, b.length ≤ 67108864 := by
              rw [← hdr]
              intro b hb
              obtain ⟨x, hx, rfl⟩ := List.mem_map.1 hb
              have h8 := HQS.out x (List.mem_of_mem_drop hx)
              exact out_len x h8.2 (HS.out x h8.1)
            have HBLL := Lib.hid hbl; have hlen : (p.out :: (qs.drop (j + 1)).map MsgP.out).length ≤ 67108864 := by rw [← hdr, List.length_map, List.length_drop]; omega
            have HLEN := Lib.hid hlen
            clear hns hpm hp hdr hbl hlen
            go_wp2_with fail
            refine (Take_ap wr B D (.slice As qs.length cs) _ p HNS.out HBwr.out HPM.out.2 HBLL.out HLEN.out).mono ?_
            rintro e w2 ⟨⟨Ch, Cd, Cp, Cx, fh, fd, fp, fx, rfl, hm2⟩, hn2, hb2, hv2⟩
            have hbq : Below w2.heap.size w2 (w2.alloc (.cells (msgCells p.m Ch Cd Cp Cx fh fd fp fx) 31)) := (Below.refl _ _).alloc (Nat.le_refl _) _
            have hbz := hb2.trans (hbq.mono (Nat.le_trans HBwr.out hb2.size))
            have HM3 := Lib.hid ((hm2.below hbq (Nat.le_refl _)).more hbq.size); have HN3 := Lib.hid (hn2.below hbq); have HV3 := Lib.hid (World.ownsRow.alloc (hv2 _ _ _ _ _ HV.out) (.cells (msgCells p.m Ch Cd Cp Cx fh fd fp fx) 31))
            have HB3 := Lib.hid (HB.out.trans hbz); have HL3 := Lib.hid (HL2.out.below hbz HBwr.out); have HBw3 := Lib.hid (Nat.le_trans HBwr.out hbz.size)
            have HROW := Lib.hid (Blk.new w2 31 (msgCells p.m Ch Cd Cp Cx fh fd fp fx))
            have HRL := Lib.hid (show w2.heap.size < (w2.alloc (.cells (msgCells p.m Ch Cd Cp Cx fh fd fp fx) 31)).heap.size by simp)
            clear hbq hbz hn2 hb2 hv2 hm2 HV HN HL2 HB HBwr
            go_upto_region 12 with (fail)
            generalize w2.heap.size = R at HROW HRL ⊢
            obtain ⟨w3, hw3⟩ : ∃ w3, w3 = w2.alloc (.cells (msgCells p.m Ch Cd Cp Cx fh fd fp fx) 31) := ⟨_, rfl⟩
            rw [← hw3] at HM3 HN3 HV3 HB3 HL3 HBw3 HROW HRL ⊢
            clear hw3
            obtain ⟨ad, rfl⟩ : ∃ ad, As = some ad := by
              rcases HV3.out.2 with ⟨_, e⟩ | ⟨g, cap, cur, e, _⟩
              · omega
              · injection e with e1; exact ⟨_, e1⟩
            have hrd := Reads.of_own HV3.out
            obtain ⟨ad', e1, hadl, hcell⟩ := hrd.2 (by omega)
            obtain rfl := Option.some.inj e1
            have HCELL := Lib.hid (show ∀ W, Below w3.heap.size w3 W → ∀ (k : Nat) (v : Value), (msgCells p.m p.Ah p.Ad p.Ap p.Ax p.ch p.cd p.cp p.cx).toList[k]? = some v → W.cell? ((ad.add (j * 16)).add k) = some v from fun W hW k v hk => by
              rw [add_of_add]
              exact (hW.cell (by rw [block_of_add]; exact hadl)).trans (hcell _ v (msgsC_at qs j p HP.out k v hk)))
            have HRC := Lib.hid (fun W (hW : Below w3.heap.size w3 W) => HROW.out.below hW HRL.out)
            clear hrd hadl hcell
            have hC0 : Below w3.heap.size w3 w3.drew := (Below.refl _ _).drew
            refine wp_region_anyN (Below w3.heap.size w3) (by kernel_rfl) ?_
            refine anyC_takes (by kernel_rfl) (fun _ _ _ _ _ h => h) [0, 1, 2, 3, 4, 5, 6, 7] 3 _ _ (by kernel_rfl) ?_
            simp only [List.filterMap_cons, List.filterMap_nil, List.getElem?_toArray, List.getElem?_cons_succ, List.getElem?_cons_zero]
            show wpQuiet _ _ _ _ (_ :: _ :: _ :: _ :: _ :: _ :: _ :: _ :: List.nil) _
            repeat (first | go_big_quiet_skip | (go_big_quiet_want; first | (refine quiet_load_row 31 (.tmp 7) rfl R rfl _ _ _ HRC.out Try.underlying31 rfl (by kernel_rfl) ?_; simp only [Act.put, List.setIfInBounds_toArray, List.set_cons_succ, List.set_cons_zero]; go_big_quiet_on) | (refine quiet_load_at 31 (.tmp 51) rfl (ad.add (j * 16)) rfl (msgCells p.m p.Ah p.Ad p.Ap p.Ax p.ch p.cd p.cp p.cx) _ HCELL.out Try.underlying31 rfl (by kernel_rfl) ?_; simp only [Act.put, List.setIfInBounds_toArray, List.set_cons_succ, List.set_cons_zero]; go_big_quiet_on) | (go_big_quiet_op; first | go_big_quiet_on | (refine ⟨_, fun _ _ => rfl, ?_⟩; go_big_quiet_on))))
            refine wpQuiet_nil ?_
            refine anyC_only (i := 8) rfl (by kernel_rfl) hC0 ?_
            go_wp2_with fail
            have hm3d : MsgRd w3.drew w3.drew.heap.size p.m Ch Cd Cp Cx := HM3.out.below hC0 (Nat.le_refl _)
            have hpd : MsgRd w3.drew w3.drew.heap.size p.m p.Ah p.Ad p.Ap p.Ax := ((HL3.out.each p HPM.out.1).below (hC0.mono HBw3.out) HBw3.out).more HBw3.out
            have hcp := HS.out p HPM.out.1
            refine (same_any w3.drew p.m Ch Cd Cp Cx fh fd fp fx p.m p.Ah p.Ad p.Ap p.Ax p.ch p.cd p.cp p.cx hm3d hpd (by omega) (by omega)).mono ?_
            rintro e w4 ⟨rfl, hb4⟩
            rw [decide_eq_true rfl]
            have hb34 : Below w3.heap.size w3 w4 := hC0.trans hb4
            have HB34 := Lib.hid hb34
            clear hb4 hm3d hpd hcp
            go_wp2_with fail
            refine anyC_takes (by kernel_rfl) (fun _ _ _ _ _ h => h) [9, 10] 0 _ _ (by kernel_rfl) ?_
            simp only [List.filterMap_cons, List.filterMap_nil, List.getElem?_toArray, List.getElem?_cons_succ, List.getElem?_cons_zero]
            show wpQuiet _ _ _ _ (_ :: _ :: List.nil) _
            repeat (first | go_big_quiet_skip | (go_big_quiet_want; first | (fail; simp only [Act.put, List.setIfInBounds_toArray, List.set_cons_succ, List.set_cons_zero]; go_big_quiet_on) | (go_big_quiet_op; first | go_big_quiet_on | (refine ⟨_, fun _ _ => rfl, ?_⟩; go_big_quiet_on))))
            refine wpQuiet_nil ?_
            refine ⟨hb34, by kernel_rfl, ?_⟩
            have HN4 := Lib.hid (HN3.out.below HB34.out); have HB4 := Lib.hid (HB3.out.trans (HB34.out.mono HBw3.out))
            have HV4 := Lib.hid (row_keeps HV3.out (Keeps.of_below (F := fun _ => False) HB34.out) (fun _ _ => id))
            clear hb34
            go_wp2_with fail
            go_roundw
            case rel => exact ⟨j + 1, by omega, by go_num, HN4.out, HV4.out, HB4.out⟩
            case measure => simp [intOf]; omega
          · obtain rfl : j = qs.length := by omega
            have hns := HN.out
            rw [List.drop_length, List.map_nil] at hns
            have HNS := Lib.hid hns
            clear hns hjl
            go_wp2_with fail
            refine (answers17_any wr).mono ?_
            rintro e w2 ⟨rfl, hb2⟩
            have HN2 := Lib.hid (HNS.out.below hb2); have HB2 := Lib.hid (HB.out.trans (hb2.mono HBwr.out))
            clear hb2
            go_wp2_with fail
            obtain ⟨F2, hF2, _⟩ := HN2.out
            refine (Len_any w2 F2 D [] hF2).mono ?_
            rintro e w3 ⟨rfl, rfl⟩
            clear hF2
            go_wp2_with fail
            go_ret
            exact ⟨rfl, by rw [hBe]; exact HB2.out⟩
      · clear hi2
        have hi2 := hi
        clear hil hil' hi hi2
        have hql : qs.length ≤ 67108864 := by have := HQL.out; have := HX.out; omega
        go_wp2_with fail
        go_loopw [6, 7, 8] (fun q _ _ wx => ∃ j : Nat, j ≤ qs.length ∧ q = .int .i64 (j : Int) ∧ NetAp wx B D (.slice As qs.length cs) ((qs.drop j).map MsgP.out) ∧ wx.ownsRow B 31 16 (.slice As qs.length cs) qs.length (msgsC qs) ∧ Below B w wx) (fun q _ _ _ => qs.length - (intOf q).toNat)
        case atStart => exact ⟨0, Nat.zero_le _, rfl, HN.out, HV.out, HB.out⟩
        case round =>
          obtain ⟨j, hj, rfl, hn, hv, hb⟩ := hrel
          have HL2 := Lib.hid (HR.out.below hb (Nat.le_of_eq hBe.symm))
          clear HV HN HB HL HBwr
          have HV := Lib.hid hv; have HN := Lib.hid hn; have HB := Lib.hid hb; have HBwr := Lib.hid (show B ≤ wr.heap.size by have := hb.size; omega)
          clear hn hv hb
          by_cases hjl : j < qs.length
          · have hjl' : (j : Int) < (qs.length : Int) := by omega
            obtain ⟨p, hp⟩ : ∃ p, qs[j]? = some p := ⟨_, List.getElem?_eq_getElem hjl⟩
            have hpm := HQS.out p (List.mem_of_getElem? hp)
            have hdr : (qs.drop j).map MsgP.out = p.out :: (qs.drop (j + 1)).map MsgP.out := by
              rw [List.drop_eq_getElem_cons hjl, List.map_cons]
              have h9 : qs[j] = p := by rw [List.getElem?_eq_getElem hjl] at hp; exact Option.some.inj hp
              rw [h9]
            have hns := HN.out
            rw [hdr] at hns
            have HNS := Lib.hid hns; have HPM := Lib.hid hpm; have HP := Lib.hid hp; have HDR := Lib.hid hdr
            have hbl : ∀ b ∈ p.out :: (qs.drop (j + 1)).map MsgP.out, b.length ≤ 67108864 := by
              rw [← hdr]
              intro b hb
              obtain ⟨x, hx, rfl⟩ := List.mem_map.1 hb
              have h8 := HQS.out x (List.mem_of_mem_drop hx)
              exact out_len x h8.2 (HS.out x h8.1)
            have HBLL := Lib.hid hbl; have hlen : (p.out :: (qs.drop (j + 1)).map MsgP.out).length ≤ 67108864 := by rw [← hdr, List.length_map, List.length_drop]; omega
            have HLEN := Lib.hid hlen
            clear hns hpm hp hdr hbl hlen
            go_wp2_with fail
            refine (Take_ap wr B D (.slice As qs.length cs) _ p HNS.out HBwr.out HPM.out.2 HBLL.out HLEN.out).mono ?_
            rintro e w2 ⟨⟨Ch, Cd, Cp, Cx, fh, fd, fp, fx, rfl, hm2⟩, hn2, hb2, hv2⟩
            have hbq : Below w2.heap.size w2 (w2.alloc (.cells (msgCells p.m Ch Cd Cp Cx fh fd fp fx) 31)) := (Below.refl _ _).alloc (Nat.le_refl _) _
            have hbz := hb2.trans (hbq.mono (Nat.le_trans HBwr.out hb2.size))
            have HM3 := Lib.hid ((hm2.below hbq (Nat.le_refl _)).more hbq.size); have HN3 := Lib.hid (hn2.below hbq); have HV3 := Lib.hid (World.ownsRow.alloc (hv2 _ _ _ _ _ HV.out) (.cells (msgCells p.m Ch Cd Cp Cx fh fd fp fx) 31))
            have HB3 := Lib.hid (HB.out.trans hbz); have HL3 := Lib.hid (HL2.out.below hbz HBwr.out); have HBw3 := Lib.hid (Nat.le_trans HBwr.out hbz.size)
            have HROW := Lib.hid (Blk.new w2 31 (msgCells p.m Ch Cd Cp Cx fh fd fp fx))
            have HRL := Lib.hid (show w2.heap.size < (w2.alloc (.cells (msgCells p.m Ch Cd Cp Cx fh fd fp fx) 31)).heap.size by simp)
            clear hbq hbz hn2 hb2 hv2 hm2 HV HN HL2 HB HBwr
            go_upto_region 12 with (fail)
            generalize w2.heap.size = R at HROW HRL ⊢
            obtain ⟨w3, hw3⟩ : ∃ w3, w3 = w2.alloc (.cells (msgCells p.m Ch Cd Cp Cx fh fd fp fx) 31) := ⟨_, rfl⟩
            rw [← hw3] at HM3 HN3 HV3 HB3 HL3 HBw3 HROW HRL ⊢
            clear hw3
            obtain ⟨ad, rfl⟩ : ∃ ad, As = some ad := by
              rcases HV3.out.2 with ⟨_, e⟩ | ⟨g, cap, cur, e, _⟩
              · omega
              · injection e with e1; exact ⟨_, e1⟩
            have hrd := Reads.of_own HV3.out
            obtain ⟨ad', e1, hadl, hcell⟩ := hrd.2 (by omega)
            obtain rfl := Option.some.inj e1
            have HCELL := Lib.hid (show ∀ W, Below w3.heap.size w3 W → ∀ (k : Nat) (v : Value), (msgCells p.m p.Ah p.Ad p.Ap p.Ax p.ch p.cd p.cp p.cx).toList[k]? = some v → W.cell? ((ad.add (j * 16)).add k) = some v from fun W hW k v hk => by
              rw [add_of_add]
              exact (hW.cell (by rw [block_of_add]; exact hadl)).trans (hcell _ v (msgsC_at qs j p HP.out k v hk)))
            have HRC := Lib.hid (fun W (hW : Below w3.heap.size w3 W) => HROW.out.below hW HRL.out)
            clear hrd hadl hcell
            have hC0 : Below w3.heap.size w3 w3.drew := (Below.refl _ _).drew
            refine wp_region_anyN (Below w3.heap.size w3) (by kernel_rfl) ?_
            refine anyC_takes (by kernel_rfl) (fun _ _ _ _ _ h => h) [0, 1, 2, 3, 4, 5, 6, 7] 3 _ _ (by kernel_rfl) ?_
            simp only [List.filterMap_cons, List.filterMap_nil, List.getElem?_toArray, List.getElem?_cons_succ, List.getElem?_cons_zero]
            show wpQuiet _ _ _ _ (_ :: _ :: _ :: _ :: _ :: _ :: _ :: _ :: List.nil) _
            repeat (first | go_big_quiet_skip | (go_big_quiet_want; first | (refine quiet_load_row 31 (.tmp 7) rfl R rfl _ _ _ HRC.out Try.underlying31 rfl (by kernel_rfl) ?_; simp only [Act.put, List.setIfInBounds_toArray, List.set_cons_succ, List.set_cons_zero]; go_big_quiet_on) | (refine quiet_load_at 31 (.tmp 51) rfl (ad.add (j * 16)) rfl (msgCells p.m p.Ah p.Ad p.Ap p.Ax p.ch p.cd p.cp p.cx) _ HCELL.out Try.underlying31 rfl (by kernel_rfl) ?_; simp only [Act.put, List.setIfInBounds_toArray, List.set_cons_succ, List.set_cons_zero]; go_big_quiet_on) | (go_big_quiet_op; first | go_big_quiet_on | (refine ⟨_, fun _ _ => rfl, ?_⟩; go_big_quiet_on))))
            refine wpQuiet_nil ?_
            refine anyC_only (i := 8) rfl (by kernel_rfl) hC0 ?_
            go_wp2_with fail
            have hm3d : MsgRd w3.drew w3.drew.heap.size p.m Ch Cd Cp Cx := HM3.out.below hC0 (Nat.le_refl _)
            have hpd : MsgRd w3.drew w3.drew.heap.size p.m p.Ah p.Ad p.Ap p.Ax := ((HL3.out.each p HPM.out.1).below (hC0.mono HBw3.out) HBw3.out).more HBw3.out
            have hcp := HS.out p HPM.out.1
            refine (same_any w3.drew p.m Ch Cd Cp Cx fh fd fp fx p.m p.Ah p.Ad p.Ap p.Ax p.ch p.cd p.cp p.cx hm3d hpd (by omega) (by omega)).mono ?_
            rintro e w4 ⟨rfl, hb4⟩
            rw [decide_eq_true rfl]
            have hb34 : Below w3.heap.size w3 w4 := hC0.trans hb4
            have HB34 := Lib.hid hb34
            clear hb4 hm3d hpd hcp
            go_wp2_with fail
            refine anyC_takes (by kernel_rfl) (fun _ _ _ _ _ h => h) [9, 10] 0 _ _ (by kernel_rfl) ?_
            simp only [List.filterMap_cons, List.filterMap_nil, List.getElem?_toArray, List.getElem?_cons_succ, List.getElem?_cons_zero]
            show wpQuiet _ _ _ _ (_ :: _ :: List.nil) _
            repeat (first | go_big_quiet_skip | (go_big_quiet_want; first | (fail; simp only [Act.put, List.setIfInBounds_toArray, List.set_cons_succ, List.set_cons_zero]; go_big_quiet_on) | (go_big_quiet_op; first | go_big_quiet_on | (refine ⟨_, fun _ _ => rfl, ?_⟩; go_big_quiet_on))))
            refine wpQuiet_nil ?_
            refine ⟨hb34, by kernel_rfl, ?_⟩
            have HN4 := Lib.hid (HN3.out.below HB34.out); have HB4 := Lib.hid (HB3.out.trans (HB34.out.mono HBw3.out))
            have HV4 := Lib.hid (row_keeps HV3.out (Keeps.of_below (F := fun _ => False) HB34.out) (fun _ _ => id))
            clear hb34
            go_wp2_with fail
            go_roundw
            case rel => exact ⟨j + 1, by omega, by go_num, HN4.out, HV4.out, HB4.out⟩
            case measure => simp [intOf]; omega
          · obtain rfl : j = qs.length := by omega
            have hns := HN.out
            rw [List.drop_length, List.map_nil] at hns
            have HNS := Lib.hid hns
            clear hns hjl
            go_wp2_with fail
            refine (answers17_any wr).mono ?_
            rintro e w2 ⟨rfl, hb2⟩
            have HN2 := Lib.hid (HNS.out.below hb2); have HB2 := Lib.hid (HB.out.trans (hb2.mono HBwr.out))
            clear hb2
            go_wp2_with fail
            obtain ⟨F2, hF2, _⟩ := HN2.out
            refine (Len_any w2 F2 D [] hF2).mono ?_
            rintro e w3 ⟨rfl, rfl⟩
            clear hF2
            go_wp2_with fail
            go_ret
            exact ⟨rfl, by rw [hBe]; exact HB2.out⟩
end Go.Proofs.Ytoekmgpnmhknoaa
