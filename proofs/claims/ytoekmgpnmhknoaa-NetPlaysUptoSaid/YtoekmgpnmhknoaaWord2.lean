/- The walks of word's Reader. Conditions: sizes. -/
import Derived.Test.YtoekmgpnmhknoaaWord1
namespace Go.Proofs.Ytoekmgpnmhknoaa
open Go.RowKit
/-- A reader: what is left, and whether something was lacking. -/
structure RS where
  left : List UInt8
  bad : Bool
structure ReAt (w : World) (D : Nat) (A : Option Addr) (c : Nat) (s : RS) : Prop where
  cells : Blk w D 87 #[.slice A s.left.length c, .bool s.bad]
  rd : Rd w w.heap.size A s.left.length s.left
  cap : s.left.length ≤ c
  capLe : c ≤ 9223372036854775807
  apart : ∀ ad, A = some ad → ad.block ≠ D
  blk : ∀ ad, A = some ad → ad.block < w.heap.size
def ReIs (w : World) (F : Nat → Prop) (D : Nat) (s : RS) : Prop := ∃ A c, ReAt w D A c s ∧ F D ∧ ∀ ad, A = some ad → F ad.block
section
variable {w w' : World} {D c : Nat} {A : Option Addr} {s : RS} {F G : Nat → Prop}
theorem Rd.keeps {B n : Nat} {l : List UInt8} (h : Rd w B A n l) (hk : Keeps G w w') (hB : B ≤ w.heap.size) (hn : ∀ ad, A = some ad → ¬ G ad.block) : Rd w' B A n l := by
  refine ⟨h.1, fun h0 => ?_⟩
  obtain ⟨ad, e, hb, hc⟩ := h.2 h0
  refine ⟨ad, e, hb, fun j u hu => ?_⟩
  rw [← hc j u hu]
  apply World.cell?_of_block
  rw [block_of_add]
  exact hk.block ad.block (by omega) (hn ad e)
theorem ReAt.keeps (h : ReAt w D A c s) (hk : Keeps G w w') (hD : ¬ G D) (hv : ∀ ad, A = some ad → ¬ G ad.block) : ReAt w' D A c s :=
  ⟨h.cells.keeps hk hD, (h.rd.keeps hk (Nat.le_refl _) hv).more hk.size, h.cap, h.capLe, h.apart, fun ad e => Nat.lt_of_lt_of_le (h.blk ad e) hk.size⟩
theorem ReIs.keeps (h : ReIs w F D s) (hk : Keeps G w w') (hn : ∀ k, F k → ¬ G k) : ReIs w' F D s := by
  obtain ⟨A, c, h1, h2, h3⟩ := h
  exact ⟨A, c, h1.keeps hk (hn D h2) (fun ad e => hn _ (h3 ad e)), h2, h3⟩
theorem ReIs.below (h : ReIs w F D s) (hb : Below w.heap.size w w') : ReIs w' F D s := by
  obtain ⟨A, c, h1, h2, h3⟩ := h
  exact ⟨A, c, h1.keeps (Keeps.of_below (F := fun _ => False) hb) id (fun _ _ => id), h2, h3⟩
theorem ReAt.c0 (h : ReAt w D A c s) : w.cell? ⟨D, 0, none⟩ = some (.slice A s.left.length c) := (h.cells.cell 0).trans rfl
theorem ReAt.c1 (h : ReAt w D A c s) : w.cell? ⟨D, 1, none⟩ = some (.bool s.bad) := (h.cells.cell 1).trans rfl
theorem ReAt.fz (h : ReAt w D A c s) (i : Nat) : w.frozen? ⟨D, i, none⟩ = false := h.cells.frozen i
end
theorem Read_any (A : Option Addr) (n c : Nat) (w : World) (l : List UInt8) (hn : n ≤ 140737488355328) (hr : Rd w w.heap.size A n l) :
    Calls Try.prog 33 #[.slice A n c] w fun e w' => ∃ D, e = .returned (.pointer (some ⟨D, 0, none⟩)) ∧ ReIs w' (fun k => w.heap.size ≤ k) D { left := l, bad := false } ∧ Below w.heap.size w w' := by
  go_enter Try.func33, Try.ntmps33
  go_wp2_with fail
  refine (Clone_any A n c w l hn hr).mono ?_
  rintro e w1 ⟨v1, rfl, ho, hb⟩
  obtain ⟨A1, c1, rfl⟩ := ho.shape
  obtain ⟨_, hle, hc, had⟩ := ho.cap
  have HO := Lib.hid ho; have HB := Lib.hid hb; have HAD := Lib.hid had
  clear ho hb had hr
  go_wp2
  go_ret
  have hbn : ∀ o, Below w1.heap.size w1 (w1.alloc o) := fun o => (Below.refl _ w1).alloc (Nat.le_refl _) o
  refine ⟨w1.heap.size, rfl, ⟨A1, c1, ⟨Blk.new w1 _ _, (HO.out.rd.below (hbn _)).more (hbn _).size, hle, hc, fun ad e => ?_, fun ad e => by have := (HAD.out ad e).2.1; simp; omega⟩, HB.out.size, fun ad e => (HAD.out ad e).1⟩, HB.out.alloc HB.out.size _⟩
  have := (HAD.out ad e).2.1
  omega
theorem Rd.front {w : World} {B n k : Nat} {A : Option Addr} {l : List UInt8} (h : Rd w B A n l) (hk : k ≤ n) : Rd w B A k (l.take k) := by
  have hn := h.len
  refine ⟨by simp; omega, fun h0 => ?_⟩
  obtain ⟨ad, h1, h2, h3⟩ := h.2 (by omega)
  refine ⟨ad, h1, h2, fun j u hu => h3 j u ?_⟩
  rw [List.map_take, List.getElem?_take] at hu
  by_cases hj : j < k
  · rw [if_pos hj] at hu; exact hu
  · rw [if_neg hj] at hu; cases hu
theorem ReAt.took {w : World} {F : Nat → Prop} {D c k : Nat} {A A' : Option Addr} {s : RS} (h : ReAt w D A c s) (hk : k ≤ s.left.length) (hA : A' = if c = k then A else A.map (·.add k)) (h2 : F D) (h3 : ∀ ad, A = some ad → F ad.block) :
    Keeps F w (w.setCell ⟨D, 0, none⟩ (.slice A' (s.left.length - k) (c - k))) ∧ Rd (w.setCell ⟨D, 0, none⟩ (.slice A' (s.left.length - k) (c - k))) (w.setCell ⟨D, 0, none⟩ (.slice A' (s.left.length - k) (c - k))).heap.size A k (s.left.take k) ∧
      ReIs (w.setCell ⟨D, 0, none⟩ (.slice A' (s.left.length - k) (c - k))) F D { s with left := s.left.drop k } := by
  have hb : ∀ ad', A' = some ad' → ∃ ad, A = some ad ∧ ad'.block = ad.block := by
    intro ad' e
    rw [hA] at e
    split at e
    · exact ⟨ad', e, rfl⟩
    · cases hx : A with
      | none => rw [hx] at e; cases e
      | some ad => rw [hx] at e; injection e with e; exact ⟨ad, rfl, by rw [← e, block_of_add]⟩
  have hr := rd_cell h.rd ⟨D, 0, none⟩ (.slice A' (s.left.length - k) (c - k)) h.c0 (fun _ e => by cases e)
  have hsz : (w.setCell ⟨D, 0, none⟩ (.slice A' (s.left.length - k) (c - k))).heap.size = w.heap.size := by simp [World.setCell]
  refine ⟨(Keeps.refl F w).setCell (p := ⟨D, 0, none⟩) h2 _, by rw [hsz]; exact hr.front hk, A', c - k, ⟨?_, ?_, by simp only [List.length_drop]; have := h.cap; omega, by have := h.capLe; omega, fun ad' e => ?_, fun ad' e => by obtain ⟨ad, e1, e2⟩ := hb ad' e; rw [e2, hsz]; exact h.blk ad e1⟩, h2, fun ad' e => ?_⟩
  · have := h.cells.set_ 0 (.slice A' (s.left.length - k) (c - k))
    simp only [List.length_drop]
    exact this
  · have hcut := Reads.cut hr hk h.cap
    rw [hsz]
    simp only [Nat.mul_one] at hcut
    rw [← hA] at hcut
    simp only [List.length_drop]
    unfold Rd
    rw [List.map_drop]
    exact hcut
  · obtain ⟨ad, e1, e2⟩ := hb ad' e
    rw [e2]; exact h.apart ad e1
  · obtain ⟨ad, e1, e2⟩ := hb ad' e
    rw [e2]; exact h3 ad e1
theorem take_any (w : World) (F : Nat → Prop) (D : Nat) (A : Option Addr) (c : Nat) (s : RS) (k : Nat) (hk : k ≤ 65535) (h : ReAt w D A c s) (h2 : F D) (h3 : ∀ ad, A = some ad → F ad.block) :
    Calls Try.prog 42 #[.pointer (some ⟨D, 0, none⟩), .int .i64 k] w fun e w' => ∃ v, e = .returned v ∧ Keeps F w w' ∧
      (if s.bad = false ∧ k ≤ s.left.length then v = .slice A k k ∧ Rd w' w'.heap.size A k (s.left.take k) ∧ ReIs w' F D { s with left := s.left.drop k } else v = .slice none 0 0 ∧ ReIs w' F D { s with bad := true }) := by
  have c0 := h.c0
  have c1 := h.c1
  have f0 := h.fz 0
  have f1 := h.fz 1
  have hcap := h.cap
  have hcl := h.capLe
  have H := Lib.hid h
  clear h
  by_cases hb : s.bad = false
  · rw [hb] at c1
    by_cases hlen : k ≤ s.left.length
    · simp only [if_pos (show s.bad = false ∧ k ≤ s.left.length from ⟨hb, hlen⟩)]
      have hl' : ¬ ((k : Int) > (s.left.length : Int)) := by omega
      have HS := Lib.hid hb
      clear hb
      obtain ⟨m, hm⟩ : ∃ m, m = s.left.length := ⟨_, rfl⟩
      rw [← hm] at hlen hl' hcap c0
      have HM := Lib.hid hm; clear hm
      have HLEN := Lib.hid hlen
      by_cases hck : c = k
      · have key := H.out.took (k := k) (F := F) (A' := A) (by rw [← HM.out]; exact hlen) (by rw [if_pos hck]) h2 h3
        rw [← HM.out] at key
        have K := Lib.hid key
        clear key
        subst hck
        rw [Nat.sub_self, show m - c = 0 by omega] at K
        go_enter Try.func42, Try.ntmps42
        go_wp2
        go_ret
        exact ⟨_, rfl, K.out.1, rfl, K.out.2.1, K.out.2.2⟩
      · have key := H.out.took (k := k) (F := F) (A' := A.map (·.add k)) (by rw [← HM.out]; exact hlen) (by rw [if_neg hck]) h2 h3
        rw [← HM.out] at key
        have K := Lib.hid key
        clear key
        go_enter Try.func42, Try.ntmps42
        go_wp2
        go_ret
        exact ⟨_, rfl, K.out.1, rfl, K.out.2.1, K.out.2.2⟩
    · simp only [if_neg (show ¬ (s.bad = false ∧ k ≤ s.left.length) from fun e => hlen e.2)]
      have hl' : ((k : Int) > (s.left.length : Int)) := by omega
      have hkk : Keeps F w (w.setCell ⟨D, 1, none⟩ (.bool true)) := (Keeps.refl F w).setCell (p := ⟨D, 1, none⟩) h2 _
      have key : ReIs (w.setCell ⟨D, 1, none⟩ (.bool true)) F D { s with bad := true } := ⟨A, c, ⟨H.out.cells.set_ 1 _, rd_cell H.out.rd _ _ c1 (fun _ e => by cases e) |>.more (by simp [World.setCell]), H.out.cap, H.out.capLe, H.out.apart, fun ad e => by simp only [World.setCell, Array.size_modify]; exact H.out.blk ad e⟩, h2, h3⟩
      have K := Lib.hid key; have HK := Lib.hid hkk
      clear key hkk
      go_enter Try.func42, Try.ntmps42
      go_wp2
      go_ret
      exact ⟨_, rfl, HK.out, rfl, K.out⟩
  · simp only [if_neg (show ¬ (s.bad = false ∧ k ≤ s.left.length) from fun e => hb e.1)]
    have hb' : s.bad = true := by simpa using hb
    have hkk : Keeps F w (w.setCell ⟨D, 1, none⟩ (.bool true)) := (Keeps.refl F w).setCell (p := ⟨D, 1, none⟩) h2 _
    have key : ReIs (w.setCell ⟨D, 1, none⟩ (.bool true)) F D { s with bad := true } := ⟨A, c, ⟨H.out.cells.set_ 1 _, rd_cell H.out.rd _ _ c1 (fun _ e => by cases e) |>.more (by simp [World.setCell]), H.out.cap, H.out.capLe, H.out.apart, fun ad e => by simp only [World.setCell, Array.size_modify]; exact H.out.blk ad e⟩, h2, h3⟩
    have K := Lib.hid key; have HK := Lib.hid hkk
    rw [hb'] at c1
    clear key hkk hb hb'
    go_enter Try.func42, Try.ntmps42
    go_wp2
    go_ret
    exact ⟨_, rfl, HK.out, rfl, K.out⟩
/-- What Int answers, and what is left. -/
def i4 (l : List UInt8) : Int := (l.getD 0 0).toNat * 16777216 + (l.getD 1 0).toNat * 65536 + (l.getD 2 0).toNat * 256 + (l.getD 3 0).toNat - 2
def RS.int (s : RS) : Int × RS := if s.bad = false ∧ 4 ≤ s.left.length then (if (s.left.getD 0 0).toNat < 128 then (i4 s.left, { s with left := s.left.drop 4 }) else (0, { left := s.left.drop 4, bad := true })) else (0, { s with bad := true })
def RS.bytes (s : RS) : List UInt8 × RS :=
  if s.bad = false ∧ 2 ≤ s.left.length then
    (if (s.left.getD 0 0).toNat * 256 + (s.left.getD 1 0).toNat ≤ s.left.length - 2 then ((s.left.drop 2).take ((s.left.getD 0 0).toNat * 256 + (s.left.getD 1 0).toNat), { s with left := (s.left.drop 2).drop ((s.left.getD 0 0).toNat * 256 + (s.left.getD 1 0).toNat) }) else ([], { left := s.left.drop 2, bad := true }))
  else ([], { s with bad := true })
theorem ReIs.set_bad {w : World} {F : Nat → Prop} {D : Nat} {s : RS} (h : ReIs w F D s) : Keeps F w (w.setCell ⟨D, 1, none⟩ (.bool true)) ∧ ReIs (w.setCell ⟨D, 1, none⟩ (.bool true)) F D { s with bad := true } := by
  obtain ⟨A, c, h1, h2, h3⟩ := h
  exact ⟨(Keeps.refl F w).setCell (p := ⟨D, 1, none⟩) h2 _, ⟨A, c, ⟨h1.cells.set_ 1 _, rd_cell h1.rd _ _ h1.c1 (fun _ e => by cases e) |>.more (by simp [World.setCell]), h1.cap, h1.capLe, h1.apart, fun ad e => by simp only [World.setCell, Array.size_modify]; exact h1.blk ad e⟩, h2, h3⟩⟩
set_option maxRecDepth 100000 in
theorem RInt_any (w : World) (F : Nat → Prop) (D : Nat) (s : RS) (h : ReIs w F D s) :
    Calls Try.prog 34 #[.pointer (some ⟨D, 0, none⟩)] w fun e w' => e = .returned (.int .i64 s.int.1) ∧ ReIs w' F D s.int.2 ∧ Keeps F w w' := by
  obtain ⟨A, c, h1, h2, h3⟩ := h
  by_cases hok : s.bad = false ∧ 4 ≤ s.left.length
  · by_cases h128 : (s.left.getD 0 0).toNat < 128
    · have hint : s.int = (i4 s.left, { s with left := s.left.drop 4 }) := by unfold RS.int; rw [if_pos hok, if_pos h128]
      rw [hint]
      go_enter Try.func34, Try.ntmps34
      go_wp2_with fail
      refine (take_any w F D A c s 4 (by omega) h1 h2 h3).mono ?_
      simp only [if_pos hok]
      rintro e w1 ⟨v, rfl, hk, rfl, hr, hi⟩
      obtain ⟨ad, hA, _, _⟩ := hr.at_ (k := 0) (by omega)
      subst hA
      have hget : ∀ j, j < 4 → (s.left.take 4).getD j 0 = s.left.getD j 0 := fun j hj => by rw [List.getD_eq_getElem?_getD, List.getElem?_take, if_pos hj, List.getD_eq_getElem?_getD]
      have hcell : ∀ j, j < 4 → w1.cell? (ad.add j) = some (.int .u8 (s.left.getD j 0).toNat) := fun j hj => by
        obtain ⟨ad', e, _, h5⟩ := hr.at_ (k := j) hj
        injection e with e
        subst e
        rw [h5, hget j hj]
      have q0 : w1.cell? ad = some (.int .u8 (s.left.getD 0 0).toNat) := hcell 0 (by omega)
      have hadd : ∀ j, 0 < j → ad.add j = ⟨ad.block, ad.off + j, none⟩ := by
        intro j hj
        unfold Addr.add
        split
        · omega
        · rfl
      have q1 := hcell 1 (by omega)
      have q2 := hcell 2 (by omega)
      have q3 := hcell 3 (by omega)
      rw [hadd _ (by omega)] at q1 q2 q3
      clear hadd
      have hi4 : i4 s.left = (s.left.getD 0 0).toNat * 16777216 + (s.left.getD 1 0).toNat * 65536 + (s.left.getD 2 0).toNat * 256 + (s.left.getD 3 0).toNat - 2 := rfl
      have HI4 := Lib.hid hi4; have HK := Lib.hid hk; have HI := Lib.hid hi
      have he := run_some_slice w1 ad 4 4
      have l0 := (s.left.getD 0 0).toNat_lt
      have l1 := (s.left.getD 1 0).toNat_lt
      have l2 := (s.left.getD 2 0).toNat_lt
      have l3 := (s.left.getD 3 0).toNat_lt
      generalize (s.left.getD 0 0).toNat = x0 at *
      generalize (s.left.getD 1 0).toNat = x1 at *
      generalize (s.left.getD 2 0).toNat = x2 at *
      generalize (s.left.getD 3 0).toNat = x3 at *
      clear hcell hget hr hk hi hi4 hint
      go_wp2_with fail
      refine wp_region_q (by kernel_rfl) (by kernel_rfl) ?_
      repeat (first | go_big_quiet_skip | (go_big_quiet_want; go_big_quiet_op; first | go_big_quiet_on))
      refine wpQuiet_nil ?_
      go_wp2
      go_ret
      refine ⟨?_, HI.out.below ((Below.refl _ _).drew), HK.out.drew⟩
      rw [HI4.out]
      rfl
    · have hint : s.int = (0, { left := s.left.drop 4, bad := true }) := by unfold RS.int; rw [if_pos hok, if_neg h128]
      rw [hint]
      go_enter Try.func34, Try.ntmps34
      go_wp2_with fail
      refine (take_any w F D A c s 4 (by omega) h1 h2 h3).mono ?_
      simp only [if_pos hok]
      rintro e w1 ⟨v, rfl, hk, rfl, hr, hi⟩
      obtain ⟨ad, hA, _, q0⟩ := hr.at_ (k := 0) (by omega)
      subst hA
      have hget : (s.left.take 4).getD 0 0 = s.left.getD 0 0 := by rw [List.getD_eq_getElem?_getD, List.getElem?_take, if_pos (by omega), List.getD_eq_getElem?_getD]
      rw [hget] at q0
      replace q0 : w1.cell? ad = some (.int .u8 (s.left.getD 0 0).toNat) := q0
      have he := run_some_slice w1 ad 4 4
      have hsb := hi.set_bad
      obtain ⟨A3, c3, h4, _, _⟩ := hi
      have q1 := h4.c1
      have qf := h4.fz 1
      have HS := Lib.hid hsb; have HK := Lib.hid hk
      generalize (s.left.getD 0 0).toNat = x0 at *
      clear hget hr hk hsb hint h4
      go_wp2
      go_ret
      exact ⟨rfl, HS.out.2, HK.out.trans HS.out.1 (fun _ _ e => e)⟩
  · have hint : s.int = (0, { s with bad := true }) := by unfold RS.int; rw [if_neg hok]
    rw [hint]
    go_enter Try.func34, Try.ntmps34
    go_wp2_with fail
    refine (take_any w F D A c s 4 (by omega) h1 h2 h3).mono ?_
    simp only [if_neg hok]
    rintro e w1 ⟨v, rfl, hk, rfl, hi⟩
    have he := run_nil_slice w1 0
    have hsb := hi.set_bad
    obtain ⟨A3, c3, h4, _, _⟩ := hi
    have q1 := h4.c1
    have qf := h4.fz 1
    have HS := Lib.hid hsb; have HK := Lib.hid hk
    clear hk hsb hint h4
    go_wp2
    go_ret
    exact ⟨rfl, HS.out.2, HK.out.trans HS.out.1 (fun _ _ e => e)⟩
set_option maxRecDepth 100000 in
set_option maxHeartbeats 2000000 in
theorem RBytes_any (w : World) (F : Nat → Prop) (D : Nat) (s : RS) (h : ReIs w F D s) :
    Calls Try.prog 36 #[.pointer (some ⟨D, 0, none⟩)] w fun e w' => ∃ v, e = .returned v ∧ Fresh w' w.heap.size v s.bytes.1 ∧ ReIs w' F D s.bytes.2 ∧ Keeps F w w' := by
  obtain ⟨A, c, h1, h2, h3⟩ := h
  by_cases hok : s.bad = false ∧ 2 ≤ s.left.length
  · obtain ⟨k, hk⟩ : ∃ k, k = (s.left.getD 0 0).toNat * 256 + (s.left.getD 1 0).toNat := ⟨_, rfl⟩
    have l0 := (s.left.getD 0 0).toNat_lt
    have l1 := (s.left.getD 1 0).toNat_lt
    have hk6 : k ≤ 65535 := by omega
    have hbytes : s.bytes = if k ≤ s.left.length - 2 then ((s.left.drop 2).take k, { s with left := (s.left.drop 2).drop k }) else ([], { left := s.left.drop 2, bad := true }) := by
      unfold RS.bytes
      rw [if_pos hok, ← hk]
    have HBY := Lib.hid hbytes; clear hbytes
    go_enter Try.func36, Try.ntmps36
    go_wp2_with fail
    refine (take_any w F D A c s 2 (by omega) h1 h2 h3).mono ?_
    simp only [if_pos hok]
    rintro e w1 ⟨v, rfl, hkp, rfl, hr, hi⟩
    obtain ⟨ad, hA, _, _⟩ := hr.at_ (k := 0) (by omega)
    subst hA
    have hget : ∀ j, j < 2 → (s.left.take 2).getD j 0 = s.left.getD j 0 := fun j hj => by rw [List.getD_eq_getElem?_getD, List.getElem?_take, if_pos hj, List.getD_eq_getElem?_getD]
    have hcell : ∀ j, j < 2 → w1.cell? (ad.add j) = some (.int .u8 (s.left.getD j 0).toNat) := fun j hj => by
      obtain ⟨ad', e, _, h5⟩ := hr.at_ (k := j) hj
      injection e with e
      subst e
      rw [h5, hget j hj]
    have q0 : w1.cell? ad = some (.int .u8 (s.left.getD 0 0).toNat) := hcell 0 (by omega)
    have q1 := hcell 1 (by omega)
    rw [show ad.add 1 = ⟨ad.block, ad.off + 1, none⟩ by unfold Addr.add; split; omega; rfl] at q1
    have he := run_some_slice w1 ad 2 2
    generalize (s.left.getD 0 0).toNat = x0 at *
    generalize (s.left.getD 1 0).toNat = x1 at *
    have hk' : (x0 : Int) * 256 + (x1 : Int) = (k : Int) := by omega
    have HKP := Lib.hid hkp; have HI := Lib.hid hi; have HKK := Lib.hid hk'
    clear hcell hget hr hkp hi hk hk'
    go_wp2_with fail
    refine wp_region_qt 11 (by kernel_rfl) (by kernel_rfl) ?_
    simp only [List.take_succ_cons, List.take_zero, List.drop_succ_cons, List.drop_zero]
    repeat (first | go_big_quiet_skip | (go_big_quiet_want; go_big_quiet_op; first | go_big_quiet_on))
    refine wpQuiet_nil ?_
    go_wp2_with fail
    rw [HKK.out]
    obtain ⟨A3, c3, h4, _, h6⟩ := HI.out
    have h4' : ReAt w1.drew D A3 c3 { s with left := s.left.drop 2 } := h4.keeps (Keeps.of_below (F := fun _ => False) ((Below.refl _ _).drew)) id (fun _ _ => id)
    refine (take_any w1.drew F D A3 c3 { s with left := s.left.drop 2 } k hk6 h4' h2 h6).mono ?_
    by_cases hkl : k ≤ s.left.length - 2
    · have hok2 : ({ s with left := s.left.drop 2 } : RS).bad = false ∧ k ≤ ({ s with left := s.left.drop 2 } : RS).left.length := ⟨hok.1, by simp only [List.length_drop]; exact hkl⟩
      have hb : s.bytes = ((s.left.drop 2).take k, { s with left := (s.left.drop 2).drop k }) := by rw [HBY.out, if_pos hkl]
      have HBB := Lib.hid hb
      simp only [if_pos hok2]
      rintro e w2 ⟨v2, rfl, hkp2, rfl, hr2, hi2⟩
      obtain ⟨L, hL⟩ : ∃ L, L = (s.left.drop 2).take k := ⟨_, rfl⟩
      obtain ⟨S2, hS2⟩ : ∃ S2 : RS, S2 = { s with left := (s.left.drop 2).drop k } := ⟨_, rfl⟩
      have hr2' : Rd w2 w2.heap.size A3 k L := by rw [hL]; exact hr2
      have hi2' : ReIs w2 F D S2 := by rw [hS2]; exact hi2
      rw [← hL, ← hS2] at HBB
      have HR2 := Lib.hid hr2'; have HI2 := Lib.hid hi2'; have HK2 := Lib.hid hkp2
      clear hr2 hi2 hkp2 hb hok2 h4 h4' hr2' hi2' hL hS2
      go_wp2_with fail
      refine (Clone_any A3 k k w2 _ (by omega) HR2.out).mono ?_
      rintro e w3 ⟨v3, rfl, ho, hb3⟩
      obtain ⟨A4, c4, rfl⟩ := ho.shape
      obtain ⟨_, hle, _, had⟩ := ho.cap
      have HO := Lib.hid ho; have HB := Lib.hid hb3; have HAD := Lib.hid had
      clear ho hb3 had
      go_wp2_with (go_at_call 40; refine (Clip_any _ _ _ _ hle).mono ?_; rintro e w4 ⟨rfl, rfl⟩)
      go_ret
      rw [HBB.out]
      dsimp only
      have hs1 := HKP.out.size
      have hs2 := HK2.out.size
      have hfr := HO.out.rd
      refine ⟨_, rfl, ⟨A4, _, rfl, hfr, fun ad e => Nat.le_trans (Nat.le_trans hs1 hs2) (HAD.out ad e).1⟩, HI2.out.below HB.out, ?_⟩
      exact (HKP.out.drew.trans HK2.out (fun _ _ e => e)).trans (Keeps.of_below (F := F) HB.out) (fun _ _ e => e)
    · have hok2 : ¬ (({ s with left := s.left.drop 2 } : RS).bad = false ∧ k ≤ ({ s with left := s.left.drop 2 } : RS).left.length) := fun e => hkl (by have := e.2; simp only [List.length_drop] at this; exact this)
      have hb : s.bytes = ([], { left := s.left.drop 2, bad := true }) := by rw [HBY.out, if_neg hkl]
      have HBB := Lib.hid hb
      simp only [if_neg hok2]
      rintro e w2 ⟨v2, rfl, hkp2, rfl, hi2⟩
      have HI2 := Lib.hid hi2; have HK2 := Lib.hid hkp2
      clear hi2 hkp2 hb hok2 h4 h4'
      go_wp2_with fail
      refine (Clone_any none 0 0 w2 [] (by omega) Rd.nil_).mono ?_
      rintro e w3 ⟨v3, rfl, ho, hb3⟩
      obtain ⟨A4, c4, rfl⟩ := ho.shape
      obtain ⟨_, hle, _, had⟩ := ho.cap
      have HO := Lib.hid ho; have HB := Lib.hid hb3; have HAD := Lib.hid had
      clear ho hb3 had
      go_wp2_with (go_at_call 40; refine (Clip_any _ _ _ _ hle).mono ?_; rintro e w4 ⟨rfl, rfl⟩)
      go_ret
      rw [HBB.out]
      dsimp only
      have hs1 := HKP.out.size
      have hs2 := HK2.out.size
      have hfr := HO.out.rd
      refine ⟨_, rfl, ⟨A4, _, rfl, hfr, fun ad e => Nat.le_trans (Nat.le_trans hs1 hs2) (HAD.out ad e).1⟩, HI2.out.below HB.out, ?_⟩
      exact (HKP.out.drew.trans HK2.out (fun _ _ e => e)).trans (Keeps.of_below (F := F) HB.out) (fun _ _ e => e)
  · have hbytes : s.bytes = ([], { s with bad := true }) := by unfold RS.bytes; rw [if_neg hok]
    rw [hbytes]
    go_enter Try.func36, Try.ntmps36
    go_wp2_with fail
    refine (take_any w F D A c s 2 (by omega) h1 h2 h3).mono ?_
    simp only [if_neg hok]
    rintro e w1 ⟨v, rfl, hkp, rfl, hi⟩
    have he := run_nil_slice w1 0
    have HKP := Lib.hid hkp; have HI := Lib.hid hi
    clear hkp hi hbytes
    go_wp2
    go_ret
    exact ⟨_, rfl, Fresh.nil_ _ _, HI.out, HKP.out⟩
theorem Done_any (w : World) (F : Nat → Prop) (D : Nat) (s : RS) (h : ReIs w F D s) :
    Calls Try.prog 38 #[.pointer (some ⟨D, 0, none⟩)] w fun e w' => e = .returned (.bool (!s.bad && decide (s.left.length = 0))) ∧ w' = w := by
  obtain ⟨A, c, h1, h2, h3⟩ := h
  have c0 := h1.c0
  have c1 := h1.c1
  clear h1
  obtain ⟨left, bad⟩ := s
  simp only at c0 c1 ⊢
  generalize left.length = m at *
  cases bad
  · by_cases hm : m = 0
    · subst hm
      go_enter Try.func38, Try.ntmps38
      go_wp2
      go_ret
      exact ⟨rfl, rfl⟩
    · have hm' : ¬ (m : Int) = 0 := by omega
      have hd : decide (m = 0) = false := by simp [hm]
      have hq : ((m : Int) == 0) = false := by simp; omega
      have HQ := Lib.hid hq
      rw [hd]
      clear hq
      go_enter Try.func38, Try.ntmps38
      go_wp2
      go_ret
      refine ⟨?_, rfl⟩
      show Ending.returned (.bool ((m : Int) == 0)) = _
      rw [HQ.out]
      rfl
  · go_enter Try.func38, Try.ntmps38
    go_wp2
    go_ret
    exact ⟨rfl, rfl⟩
end Go.Proofs.Ytoekmgpnmhknoaa
