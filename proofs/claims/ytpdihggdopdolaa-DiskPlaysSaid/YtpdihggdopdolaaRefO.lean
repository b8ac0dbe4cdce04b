/- The document's disk: its Do. No conditions but that the bytes are read. -/
import Derived.Test.YtpdihggdopdolaaRefN
import Derived.Laws.CopyOwn
namespace Go.Proofs.Ytpdihggdopdolaa
open Go.RowKit
theorem quo32 (k : Nat) (h : k ≤ 2048) : (((32 * k : Nat) : Int)).tdiv 32 = (k : Int) := by
  rw [Int.tdiv_eq_ediv_of_nonneg (by omega)]; omega
theorem addG (G k : Nat) : (⟨G, 0, none⟩ : Addr).add k = ⟨G, k, none⟩ := by unfold Addr.add; split <;> simp_all
theorem slice32 (G i N : Nat) (h : 32 * i + 32 ≤ N) (W : World) : (Instr.sliceAt 22 (.slice (some ⟨G, 0, none⟩) N N) (some (.int .i64 ((i : Int) * 32))) (some (.int .i64 ((i : Int) * 32 + 32))) none).run Try.prog W = .ok (.slice (some ⟨G, 32 * i, none⟩) 32 (N - 32 * i)) W := by
  have hsl := run_slice_bytes Try.prog 22 (some ⟨G, 0, none⟩) N N (32 * i) 32 (by kernel_rfl) (fun _ => by kernel_rfl) (by omega) ((i : Int) * 32 + 32) (by omega) W
  rw [if_neg (by omega), Option.map_some, addG, show ((32 * i : Nat) : Int) = (i : Int) * 32 by omega] at hsl
  exact hsl
theorem slice_from (G i N : Nat) (h : 32 * i < N) (W : World) : (Instr.sliceAt 22 (.slice (some ⟨G, 0, none⟩) N N) (some (.int .i64 ((i : Int) * 32))) none none).run Try.prog W = .ok (.slice (some ⟨G, 32 * i, none⟩) (N - 32 * i) (N - 32 * i)) W := by
  have e : ∀ W, (sizeOf (Try.prog.elem 22)).run Try.prog W = .ok 1 W := fun _ => by kernel_rfl
  rw [run_sliceAt_slice W 22 _ _ _ _ Try.underlying22, run_slice_l W 22 _ N N Try.underlying22 .i64 ((i : Int) * 32) (by omega) (by omega), e W]
  have h2 : ((i : Int) * 32).toNat = 32 * i := by omega
  have h3 : ((N : Int) - (i : Int) * 32).toNat = N - 32 * i := by omega
  simp [sliced, Result.andThen, h2, addG]
  omega
theorem quiet_slice_lh {P : Program} {C : World → Prop} {o : Oper} {a : Act} {K : Act → Prop} (ty : TypeId) (x y z : Operand) (ho : o.op = .slice ty x (some y) (some z) none) (xv v : Value) (lo hi : Int) (hx : a.eval x = xv) (hy : a.eval y = .int .i64 lo) (hz : a.eval z = .int .i64 hi)
    (hs : ∀ W, (Instr.sliceAt ty xv (some (.int .i64 lo)) (some (.int .i64 hi)) none).run P W = .ok v W) (h : K (a.put o.dst v)) : o.quiet P a C K := by
  refine ⟨_, fun W _ => ?_, h⟩
  unfold Oper.quietAt execOp
  simp only [ho, hx, hy, hz, Option.map_some, Option.map_none, Sem.run_bind, hs, Result.andThen_ok, Sem.run_pure, Oper.quietUpon, and_self]
theorem quiet_slice_l {P : Program} {C : World → Prop} {o : Oper} {a : Act} {K : Act → Prop} (ty : TypeId) (x y : Operand) (ho : o.op = .slice ty x (some y) none none) (xv v : Value) (lo : Int) (hx : a.eval x = xv) (hy : a.eval y = .int .i64 lo)
    (hs : ∀ W, (Instr.sliceAt ty xv (some (.int .i64 lo)) none none).run P W = .ok v W) (h : K (a.put o.dst v)) : o.quiet P a C K := by
  refine ⟨_, fun W _ => ?_, h⟩
  unfold Oper.quietAt execOp
  simp only [ho, hx, hy, Option.map_some, Option.map_none, Sem.run_bind, hs, Result.andThen_ok, Sem.run_pure, Oper.quietUpon, and_self]
/-- A call of the disk: what it answers, and what the disk is behind it. -/
def DS.do_ (s : DS) (k n at_ : Int) (x : UInt8) (l : List UInt8) : (Int × List UInt8 × Bool) × DS :=
  if k = 1 then (((s.write n l).1, [], false), (s.write n l).2)
  else if k = 2 then ((0, if s.has n then s.bl.getD n.toNat [] else [], s.has n), s)
  else if k = 3 then ((0, [], (s.turn n at_ x).1), (s.turn n at_ x).2)
  else if k = 4 then ((0, [], false), { s with fuse := max n 0 })
  else if k = 5 then ((0, [], false), { s with fuse := -1, down := false })
  else ((0, [], false), s)
/-- What Do leaves. -/
def DoPost (w : World) (E G : Nat) (r : (Int × List UInt8 × Bool) × DS) (e : Ending) (w' : World) : Prop :=
  e = .returned (.tuple #[.int .i64 r.1.1, .string ⟨r.1.2.1.toArray⟩, .bool r.1.2.2]) ∧ RefAt w' E G r.2 ∧ Keeps (fun k => k = E ∨ k = G) w w'
theorem RefAt.drew {w : World} {E G : Nat} {s : DS} (h : RefAt w E G s) : RefAt w.drew E G s := ⟨h.cells, h.row, h.l32, h.small, h.fuseLe, h.fuseGe⟩
theorem do_end {w w' : World} {E G : Nat} {s : DS} {k n at_ : Int} {x : UInt8} {l : List UInt8} {r : (Int × List UInt8 × Bool) × DS} (hd : Hid (s.do_ k n at_ x l = r)) (h : RefAt w' E G r.2) (hk : Keeps (fun k => k = E ∨ k = G) w w') :
    DoPost w E G (s.do_ k n at_ x l) (.returned (.tuple #[.int .i64 r.1.1, .string ⟨r.1.2.1.toArray⟩, .bool r.1.2.2])) w'.drew := by
  rw [hd.out]
  exact ⟨rfl, h.drew, hk.drew⟩
theorem do_end0 {w w' : World} {E G : Nat} {s : DS} {k n at_ : Int} {x : UInt8} {l : List UInt8} {r : (Int × List UInt8 × Bool) × DS} (hd : Hid (s.do_ k n at_ x l = r)) (h : RefAt w' E G r.2) (hk : Keeps (fun k => k = E ∨ k = G) w w') :
    DoPost w E G (s.do_ k n at_ x l) (.returned (.tuple #[.int .i64 r.1.1, .string ⟨r.1.2.1.toArray⟩, .bool r.1.2.2])) w' := by
  rw [hd.out]
  exact ⟨rfl, h, hk⟩
theorem RefAt.set_fuse2 {w : World} {E G : Nat} {s : DS} (h : RefAt w E G s) (u : Value) (f : Int) (h1 : f ≤ 9223372036854775807) (h2 : -1 ≤ f) : RefAt ((w.setCell ⟨E, 1, none⟩ u).setCell ⟨E, 1, none⟩ (.int .i64 f)) E G { s with fuse := f } :=
  ⟨(h.cells.set_ 1 u).set_ 1 _, (h.row.far (fun e => h.ne e.symm) _).far (fun e => h.ne e.symm) _, h.l32, h.small, h1, h2⟩
/-- The bytes of a block are copied. -/
theorem RefAt.copied {w : World} {E G : Nat} {s : DS} (h : RefAt w E G s) (i : Nat) (hi : i < s.bl.length) (l : List UInt8) (hl : l.length = 32) :
    RefAt (w.setRow G ((s.bl.flatten.map B8).toArray.toList.take (32 * i) ++ (l.map B8 ++ (s.bl.flatten.map B8).toArray.toList.drop (32 * i + (l.map B8).length))).toArray) E G { s with bl := s.bl.set i l } := by
  have hs := flat_splice h.l32 i hi l hl
  unfold splice at hs
  rw [List.toList_toArray, hs]
  refine ⟨?_, setRow_heap w G _ _ _ _ h.row, ?_, by simpa using h.small, h.fuseLe, h.fuseGe⟩
  · have := (setRow_other w G E (((s.bl.set i l).flatten).map B8).toArray h.ne).trans h.cells
    show Blk _ E _ #[.slice (some ⟨G, 0, none⟩) (32 * (s.bl.set i l).length) (32 * (s.bl.set i l).length), .int .i64 s.fuse, .int .i64 (s.writes : Int), .bool s.down]
    rw [List.length_set]
    exact this
  · intro m hm
    rcases List.mem_or_eq_of_mem_set hm with hm | rfl
    · exact h.l32 m hm
    · exact hl
theorem Keeps.setRow {F : Nat → Prop} {a b : World} (h : Keeps F a b) {g : Nat} (hg : F g) (cs : Array Value) : Keeps F a (b.setRow g cs) :=
  h.trans (F' := F) ⟨rfl, rfl, rfl, by simp, fun k _ hn => setRow_other b g k cs (fun e => hn (e ▸ hg))⟩ (fun _ _ e => e)
set_option maxRecDepth 100000 in
set_option maxHeartbeats 4000000 in
theorem Do_any (w : World) (E G : Nat) (s : DS) (k n at_ : Int) (x : UInt8) (A : Option Addr) (m c : Nat) (l : List UInt8) (hn1 : n ≤ 9223372036854775807) (h : RefAt w E G s) (hr : Rd w w.heap.size A m l) (hw : s.writes ≤ 4611686018427387904) :
    Calls Try.prog 21 #[.pointer (some ⟨E, 0, none⟩), .agg #[.int .i64 k, .int .i64 n, .int .i64 at_, .int .u8 (x.toNat : Int), .slice A m c]] w (DoPost w E G (s.do_ k n at_ x l)) := by
  go_enter Try.func21, Try.ntmps21
  go_wp2_with fail
  have hq := Blk.new w 40 #[.int .i64 k, .int .i64 n, .int .i64 at_, .int .u8 (x.toNat : Int), .slice A m c]
  have hb1 : Below w.heap.size w (w.alloc (.cells #[.int .i64 k, .int .i64 n, .int .i64 at_, .int .u8 (x.toNat : Int), .slice A m c] 40)) := (Below.refl _ _).alloc (Nat.le_refl _) _
  have hr1 := h.below hb1
  have hEw := h.cells.lt
  have hGw := h.row.lt
  obtain ⟨q, hqw⟩ : ∃ q, q = w.heap.size := ⟨_, rfl⟩
  rw [← hqw] at hq ⊢
  generalize w.alloc (.cells #[.int .i64 k, .int .i64 n, .int .i64 at_, .int .u8 (x.toNat : Int), .slice A m c] 40) = w1 at hq hb1 hr1 ⊢
  have hEq : E ≠ q := by omega
  have hGq : G ≠ q := by omega
  have hqB : w.heap.size ≤ q := by omega
  clear hqw
  have q0 : w1.cell? ⟨q, 0, none⟩ = some (.int .i64 k) := (hq.cell 0).trans rfl
  have q1 : w1.cell? ⟨q, 1, none⟩ = some (.int .i64 n) := (hq.cell 1).trans rfl
  have q2 : w1.cell? ⟨q, 2, none⟩ = some (.int .i64 at_) := (hq.cell 2).trans rfl
  have q3 : w1.cell? ⟨q, 3, none⟩ = some (.int .u8 (x.toNat : Int)) := (hq.cell 3).trans rfl
  have q4 : w1.cell? ⟨q, 4, none⟩ = some (.slice A m c) := (hq.cell 4).trans rfl
  have e0 := hr1.e0
  have e1 := hr1.e1
  have e2 := hr1.e2
  have e3 := hr1.e3
  have f1 := hr1.fz 1
  have f2 := hr1.fz 2
  have f3 := hr1.fz 3
  have hquo := quo32 s.bl.length h.small
  have hk := h.small
  obtain ⟨N, hN⟩ : ∃ N, N = 32 * s.bl.length := ⟨_, rfl⟩
  rw [← hN] at e0 hquo
  have hNle : N ≤ 65536 := by omega
  have hrm := hr.below hb1
  have HR := Lib.hid hr1; have HQ := Lib.hid hq; have HB := Lib.hid hb1; have HN := Lib.hid hN; have HH := Lib.hid h; have HRM := Lib.hid hrm
  clear hr1 hq hb1 hN h hrm hr
  go_upto_region 1 with (fail)
  go_cut [7] (fun s7 wx => s7 = .bool (s.has n) ∧ wx = w1.drew)
  case first =>
    by_cases h0 : 0 ≤ n
    · by_cases h1 : n < (s.bl.length : Int)
      · have hh : s.has n = true := by simp [DS.has, h0, h1]
        have HHH := Lib.hid hh; clear hh
        refine wp_region_q (by kernel_rfl) (by kernel_rfl) ?_
        repeat (first | go_big_quiet_skip | (go_big_quiet_want; go_big_quiet_op; first | go_big_quiet_on))
        refine wpQuiet_nil ?_
        go_wp2_with fail
        go_meet
        exact ⟨by rw [HHH.out], rfl⟩
      · have hh : s.has n = false := by simp [DS.has, h1]
        have h1' : (n < (s.bl.length : Int)) = False := eq_false h1
        have HHH := Lib.hid hh; clear hh
        clear h1
        refine wp_region_q (by kernel_rfl) (by kernel_rfl) ?_
        repeat (first | go_big_quiet_skip | (go_big_quiet_want; go_big_quiet_op; first | go_big_quiet_on))
        refine wpQuiet_nil ?_
        go_wp2_with fail
        go_meet
        exact ⟨by rw [HHH.out], rfl⟩
    · have hh : s.has n = false := by simp [DS.has, h0]
      have h0' : (0 ≤ n) = False := eq_false h0
      have HHH := Lib.hid hh; clear hh
      clear h0
      refine wp_region_q (by kernel_rfl) (by kernel_rfl) ?_
      repeat (first | go_big_quiet_skip | (go_big_quiet_want; go_big_quiet_op; first | go_big_quiet_on))
      refine wpQuiet_nil ?_
      go_wp2_with fail
      go_meet
      exact ⟨by rw [HHH.out], rfl⟩
  case rest =>
    obtain ⟨rfl, rfl⟩ := hcut
    have hkp : Keeps (fun k => k = E ∨ k = G) w w1 := Keeps.of_below HB.out
    have HK := Lib.hid hkp
    clear hkp
    by_cases k1 : k = 1
    · subst k1
      cases hh : s.has n
      · have hd : s.do_ 1 n at_ x l = ((1, [], false), s) := by unfold DS.do_ DS.write; rw [if_pos rfl, hh]; simp
        have HDO := Lib.hid hd; clear hd
        clear hh
        go_wp2
        go_ret3
        exact do_end HDO (HR.out) (HK.out)
      · by_cases hm : m = 32
        · have hl : l.length = 32 := by rw [← hm]; exact HRM.out.len.symm
          subst hm
          cases hdn : s.down
          · by_cases hf : s.fuse = 0
            · have hd : s.do_ 1 n at_ x l = ((3, [], false), { s with down := true }) := by unfold DS.do_ DS.write; rw [if_pos rfl, if_pos ⟨hh, hl⟩, hf]; simp
              rw [hf] at e1
              have HDO := Lib.hid hd; clear hd
              have HHH := Lib.hid hh; clear hh
              have HL := Lib.hid hl; clear hl
              rw [hdn] at e3
              clear hdn hf
              go_wp2
              go_ret3
              exact do_end HDO (HR.out.set_down true) (HK.out.setCell (p := ⟨E, 3, none⟩) (Or.inl rfl) _)
            · have hge : -1 ≤ s.fuse := HR.out.fuseGe
              have hle : s.fuse ≤ 9223372036854775807 := HR.out.fuseLe
              by_cases hfp : 0 < s.fuse
              · skip
                obtain ⟨i, rfl⟩ : ∃ i : Nat, n = i := ⟨n.toNat, by simp [DS.has] at hh; omega⟩
                have hi : i < s.bl.length := by simp [DS.has] at hh; omega
                have hd : s.do_ 1 (i : Int) at_ x l = ((0, [], false), { s with bl := s.bl.set i l, fuse := s.fuse - 1, writes := s.writes + 1 }) := by
                  unfold DS.do_ DS.write
                  rw [if_pos rfl, if_pos ⟨hh, hl⟩, if_neg (by rw [hdn]; simpa using hf), if_pos hfp, hdn, Int.toNat_natCast]
                have hR0 : RefAt ((w1.setCell ⟨E, 1, none⟩ (.int .i64 (s.fuse - 1))).setCell ⟨E, 2, none⟩ (.int .i64 ((s.writes : Int) + 1))) E G { s with fuse := s.fuse - 1, writes := s.writes + 1 } := (HR.out.set_fuse (s.fuse - 1) (by omega) (by omega)).set_writes (s.writes + 1)
                have hK0 : Keeps (fun k => k = E ∨ k = G) w ((w1.setCell ⟨E, 1, none⟩ (.int .i64 (s.fuse - 1))).setCell ⟨E, 2, none⟩ (.int .i64 ((s.writes : Int) + 1))) := (HK.out.setCell (p := ⟨E, 1, none⟩) (Or.inl rfl) _).setCell (p := ⟨E, 2, none⟩) (Or.inl rfl) _
                have hQ0 : Blk ((w1.setCell ⟨E, 1, none⟩ (.int .i64 (s.fuse - 1))).setCell ⟨E, 2, none⟩ (.int .i64 ((s.writes : Int) + 1))) q 40 _ := (HQ.out.far (p := ⟨E, 1, none⟩) (Ne.symm hEq) _).far (p := ⟨E, 2, none⟩) (Ne.symm hEq) _
                have hM0 : Rd ((w1.setCell ⟨E, 1, none⟩ (.int .i64 (s.fuse - 1))).setCell ⟨E, 2, none⟩ (.int .i64 ((s.writes : Int) + 1))) w.heap.size A 32 l := rd_cell (rd_cell HRM.out _ _ e1 (by intro k e; cases e)) _ _ (HR.out.set_fuse (s.fuse - 1) (by omega) (by omega)).e2 (by intro k e; cases e)
                have HDO := Lib.hid hd; have HHH := Lib.hid hh; have HL := Lib.hid hl
                rw [hdn] at e3
                have hsl := slice_from G i N (by have := HN.out; omega)
                have HSL := Lib.hid hsl
                have HR0 := Lib.hid hR0; have HK0 := Lib.hid hK0; have HQ0 := Lib.hid hQ0; have HM0 := Lib.hid hM0
                clear hd hh hl hdn hf hR0 hK0 hQ0 hM0 hsl
                obtain ⟨W0, hW0⟩ : ∃ W0, W0 = (w1.setCell ⟨E, 1, none⟩ (.int .i64 (s.fuse - 1))).setCell ⟨E, 2, none⟩ (.int .i64 ((s.writes : Int) + 1)) := ⟨_, rfl⟩
                rw [← hW0] at HR0 HK0 HQ0 HM0
                have HW0 := Lib.hid hW0; clear hW0
                go_wp2_with fail
                rw [← HW0.out]
                have c0 := HR0.out.e0
                have d1 : W0.cell? ⟨q, 1, none⟩ = some (.int .i64 (i : Int)) := (HQ0.out.cell 1).trans rfl
                have d4 : W0.cell? ⟨q, 4, none⟩ = some (.slice A 32 c) := (HQ0.out.cell 4).trans rfl
                have hN0 := HN.out
                dsimp only at c0
                rw [← hN0] at c0
                have HN0 := Lib.hid hN0
                have hi2 : i ≤ 2048 := by omega
                clear hN0 e0 e1 e2 e3 q0 q1 q2 q3 q4 f1 f2 f3 hquo
                refine wp_region_qt 10 (by kernel_rfl) (by kernel_rfl) ?_
                simp only [List.take_succ_cons, List.take_zero, List.drop_succ_cons, List.drop_zero]
                repeat (first | go_big_quiet_skip | (go_big_quiet_want; first | (refine quiet_slice_l 22 (.tmp 68) (.tmp 71) rfl _ _ _ rfl rfl HSL.out ?_; simp only [Act.put, List.setIfInBounds_toArray, List.set_cons_succ, List.set_cons_zero]; go_big_quiet_on) | (go_big_quiet_op; first | go_big_quiet_on | (refine ⟨_, fun _ _ => rfl, ?_⟩; go_big_quiet_on))))
                refine wpQuiet_nil ?_
                have hm0 := HM0.out
                obtain ⟨ad, rfl, _, hsrc⟩ := hm0.2 (by omega)
                have hlen1 : (l.map B8).length = Nat.min 32 (N - 32 * i) := by
                  rw [List.length_map, HL.out]
                  have h1 := HN0.out
                  show 32 = min 32 (N - 32 * i)
                  omega
                have hfit1 : 32 * i + (l.map B8).length ≤ ((s.bl.flatten.map B8).toArray).size := by
                  have h1 := flat_len HR0.out.l32
                  dsimp only at h1
                  rw [List.length_map, HL.out, List.size_toArray, List.length_map, h1]
                  omega
                refine wpList_copy_own rfl (.tmp 72) (.tmp 74) 22 22 rfl 5 Try.underlying22 (by kernel_rfl) G (32 * i) (N - 32 * i) (N - 32 * i) ad 32 c rfl rfl _ _ HR0.out.drew.drew.row (l.map B8) hlen1 hsrc hfit1 (by intro v hv; obtain ⟨y, _, rfl⟩ := List.mem_map.1 hv; rfl) ?_
                obtain ⟨X, hX⟩ : ∃ X, X = ((s.bl.flatten.map B8).toArray.toList.take (32 * i) ++ (l.map B8 ++ (s.bl.flatten.map B8).toArray.toList.drop (32 * i + (l.map B8).length))).toArray := ⟨_, rfl⟩
                have key := HR0.out.drew.drew.copied i hi l HL.out
                rw [← hX] at key
                dsimp only
                rw [← hX]
                clear hX
                have hkk := HK0.out.drew.drew.setRow (g := G) (Or.inr rfl) X
                have KEY := Lib.hid key; have HKK := Lib.hid hkk
                clear key hkk hsrc hfit1 hlen1 hm0
                go_wp2
                go_ret3
                exact do_end0 HDO KEY.out HKK.out
              · skip
                obtain ⟨i, rfl⟩ : ∃ i : Nat, n = i := ⟨n.toNat, by simp [DS.has] at hh; omega⟩
                have hi : i < s.bl.length := by simp [DS.has] at hh; omega
                have hd : s.do_ 1 (i : Int) at_ x l = ((0, [], false), { s with bl := s.bl.set i l, fuse := s.fuse, writes := s.writes + 1 }) := by
                  unfold DS.do_ DS.write
                  rw [if_pos rfl, if_pos ⟨hh, hl⟩, if_neg (by rw [hdn]; simpa using hf), if_neg hfp, hdn, Int.toNat_natCast]
                have hR0 : RefAt (w1.setCell ⟨E, 2, none⟩ (.int .i64 ((s.writes : Int) + 1))) E G { s with writes := s.writes + 1 } := HR.out.set_writes (s.writes + 1)
                have hK0 : Keeps (fun k => k = E ∨ k = G) w (w1.setCell ⟨E, 2, none⟩ (.int .i64 ((s.writes : Int) + 1))) := HK.out.setCell (p := ⟨E, 2, none⟩) (Or.inl rfl) _
                have hQ0 : Blk (w1.setCell ⟨E, 2, none⟩ (.int .i64 ((s.writes : Int) + 1))) q 40 _ := HQ.out.far (p := ⟨E, 2, none⟩) (Ne.symm hEq) _
                have hM0 : Rd (w1.setCell ⟨E, 2, none⟩ (.int .i64 ((s.writes : Int) + 1))) w.heap.size A 32 l := rd_cell HRM.out _ _ e2 (by intro k e; cases e)
                have HDO := Lib.hid hd; have HHH := Lib.hid hh; have HL := Lib.hid hl
                have hfp' : (0 < s.fuse) = False := eq_false hfp
                have hf0 : (s.fuse == 0) = false := by simpa using hf
                clear hfp
                rw [hdn] at e3
                have hsl := slice_from G i N (by have := HN.out; omega)
                have HSL := Lib.hid hsl
                have HR0 := Lib.hid hR0; have HK0 := Lib.hid hK0; have HQ0 := Lib.hid hQ0; have HM0 := Lib.hid hM0
                clear hd hh hl hdn hf hR0 hK0 hQ0 hM0 hsl
                obtain ⟨W0, hW0⟩ : ∃ W0, W0 = w1.setCell ⟨E, 2, none⟩ (.int .i64 ((s.writes : Int) + 1)) := ⟨_, rfl⟩
                rw [← hW0] at HR0 HK0 HQ0 HM0
                have HW0 := Lib.hid hW0; clear hW0
                go_wp2_with fail
                rw [← HW0.out]
                have c0 := HR0.out.e0
                have d1 : W0.cell? ⟨q, 1, none⟩ = some (.int .i64 (i : Int)) := (HQ0.out.cell 1).trans rfl
                have d4 : W0.cell? ⟨q, 4, none⟩ = some (.slice A 32 c) := (HQ0.out.cell 4).trans rfl
                have hN0 := HN.out
                dsimp only at c0
                rw [← hN0] at c0
                have HN0 := Lib.hid hN0
                have hi2 : i ≤ 2048 := by omega
                clear hN0 e0 e1 e2 e3 q0 q1 q2 q3 q4 f1 f2 f3 hquo
                refine wp_region_qt 10 (by kernel_rfl) (by kernel_rfl) ?_
                simp only [List.take_succ_cons, List.take_zero, List.drop_succ_cons, List.drop_zero]
                repeat (first | go_big_quiet_skip | (go_big_quiet_want; first | (refine quiet_slice_l 22 (.tmp 68) (.tmp 71) rfl _ _ _ rfl rfl HSL.out ?_; simp only [Act.put, List.setIfInBounds_toArray, List.set_cons_succ, List.set_cons_zero]; go_big_quiet_on) | (go_big_quiet_op; first | go_big_quiet_on | (refine ⟨_, fun _ _ => rfl, ?_⟩; go_big_quiet_on))))
                refine wpQuiet_nil ?_
                have hm0 := HM0.out
                obtain ⟨ad, rfl, _, hsrc⟩ := hm0.2 (by omega)
                have hlen1 : (l.map B8).length = Nat.min 32 (N - 32 * i) := by
                  rw [List.length_map, HL.out]
                  have h1 := HN0.out
                  show 32 = min 32 (N - 32 * i)
                  omega
                have hfit1 : 32 * i + (l.map B8).length ≤ ((s.bl.flatten.map B8).toArray).size := by
                  have h1 := flat_len HR0.out.l32
                  dsimp only at h1
                  rw [List.length_map, HL.out, List.size_toArray, List.length_map, h1]
                  omega
                refine wpList_copy_own rfl (.tmp 72) (.tmp 74) 22 22 rfl 5 Try.underlying22 (by kernel_rfl) G (32 * i) (N - 32 * i) (N - 32 * i) ad 32 c rfl rfl _ _ HR0.out.drew.drew.row (l.map B8) hlen1 hsrc hfit1 (by intro v hv; obtain ⟨y, _, rfl⟩ := List.mem_map.1 hv; rfl) ?_
                obtain ⟨X, hX⟩ : ∃ X, X = ((s.bl.flatten.map B8).toArray.toList.take (32 * i) ++ (l.map B8 ++ (s.bl.flatten.map B8).toArray.toList.drop (32 * i + (l.map B8).length))).toArray := ⟨_, rfl⟩
                have key := HR0.out.drew.drew.copied i hi l HL.out
                rw [← hX] at key
                dsimp only
                rw [← hX]
                clear hX
                have hkk := HK0.out.drew.drew.setRow (g := G) (Or.inr rfl) X
                have KEY := Lib.hid key; have HKK := Lib.hid hkk
                clear key hkk hsrc hfit1 hlen1 hm0
                go_wp2
                go_ret3
                exact do_end0 HDO KEY.out HKK.out
          · have hsd : ({ s with down := true } : DS) = s := by cases s; simp_all
            have hd : s.do_ 1 n at_ x l = ((3, [], false), s) := by unfold DS.do_ DS.write; rw [if_pos rfl, if_pos ⟨hh, hl⟩, hdn, ← hsd]; simp
            have hr2 := HR.out.set_down true
            rw [hsd] at hr2
            have HR2 := Lib.hid hr2; clear hr2 hsd
            have HDO := Lib.hid hd; clear hd
            have HHH := Lib.hid hh; clear hh
            have HL := Lib.hid hl; clear hl
            rw [hdn] at e3
            clear hdn
            by_cases hf : s.fuse = 0
            · rw [hf] at e1
              clear hf
              go_wp2
              go_ret3
              exact do_end HDO HR2.out (HK.out.setCell (p := ⟨E, 3, none⟩) (Or.inl rfl) _)
            · have hf0 : (s.fuse == 0) = false := by simpa using hf
              go_wp2
              go_ret3
              exact do_end HDO HR.out HK.out
        · have hl : ¬ l.length = 32 := by rw [← HRM.out.len]; exact hm
          have hd : s.do_ 1 n at_ x l = ((1, [], false), s) := by unfold DS.do_ DS.write; rw [if_pos rfl, if_neg (fun e => hl e.2)]
          have HDO := Lib.hid hd; clear hd
          have HHH := Lib.hid hh; clear hh
          have hm' : ((m : Int) == 32) = false := by simp; omega
          clear hl hm
          go_wp2
          go_ret3
          exact do_end HDO (HR.out) (HK.out)
    · have k1' : (k == 1) = false := by simpa using k1
      by_cases k2 : k = 2
      · subst k2
        clear k1 k1'
        cases hh : s.has n
        · have hd : s.do_ 2 n at_ x l = ((0, [], false), s) := by unfold DS.do_; rw [if_neg (by decide), if_pos rfl, hh]; rfl
          have HDO := Lib.hid hd
          clear hd hh
          go_wp2
          go_ret3
          exact do_end HDO HR.out HK.out
        · obtain ⟨i, rfl⟩ : ∃ i : Nat, n = i := ⟨n.toNat, by simp [DS.has] at hh; omega⟩
          have hi : i < s.bl.length := by simp [DS.has] at hh; omega
          have hl0 : s.bl[i]? = some s.bl[i] := List.getElem?_eq_getElem hi
          have hd : s.do_ 2 (i : Int) at_ x l = ((0, s.bl[i], true), s) := by
            unfold DS.do_
            rw [if_neg (by decide), if_pos rfl, hh, if_pos rfl, Int.toNat_natCast, List.getD_eq_getElem?_getD, hl0]
            rfl
          have hrd := HR.out.rd i _ hl0
          have HDO := Lib.hid hd
          have HSL := Lib.hid (slice32 G i N (by have := HN.out; omega))
          have HRD := Lib.hid hrd
          have hi2 : i ≤ 2048 := by omega
          clear hd hh hl0 hrd
          generalize s.bl[i] = b at *
          go_wp2_with fail
          have KD := Lib.hid (fun W (e : W = w1.drew.drew) => (show Rd W w1.heap.size (some ⟨G, 32 * i, none⟩) 32 b from e ▸ HRD.out))
          refine wp_region_q (by kernel_rfl) (by kernel_rfl) ?_
          repeat (first | go_big_quiet_skip | (go_big_quiet_want; first | (refine quiet_slice_lh 22 (.tmp 82) (.tmp 85) (.tmp 89) rfl _ _ _ _ rfl rfl rfl HSL.out ?_; simp only [Act.put, List.setIfInBounds_toArray, List.set_cons_succ, List.set_cons_zero]; go_big_quiet_on) | (refine quiet_str 22 9 5 (.tmp 90) rfl (some ⟨G, 32 * i, none⟩) 32 (N - 32 * i) b rfl Try.underlying22 Try.underlying5 Try.underlying9 _ (KD.out) ?_; simp only [Act.put, List.setIfInBounds_toArray, List.set_cons_succ, List.set_cons_zero]; go_big_quiet_on) | (go_big_quiet_op; first | go_big_quiet_on | (refine ⟨_, fun _ _ => rfl, ?_⟩; go_big_quiet_on))))
          refine wpQuiet_nil ?_
          go_wp2
          go_ret3
          exact do_end HDO HR.out.drew HK.out.drew
      · have k2' : (k == 2) = false := by simpa using k2
        by_cases k3 : k = 3
        · subst k3
          clear k1 k1' k2 k2'
          cases hh : s.has n
          · have hd : s.do_ 3 n at_ x l = ((0, [], false), s) := by unfold DS.do_ DS.turn; rw [if_neg (by decide), if_neg (by decide), if_pos rfl, hh]; simp
            have HDO := Lib.hid hd
            clear hd hh
            go_wp2
            go_ret3
            exact do_end HDO HR.out HK.out
          · by_cases ha : 0 ≤ at_
            · by_cases hb : at_ < 32
              · obtain ⟨i, rfl⟩ : ∃ i : Nat, n = i := ⟨n.toNat, by simp [DS.has] at hh; omega⟩
                have hi : i < s.bl.length := by simp [DS.has] at hh; omega
                obtain ⟨j, rfl⟩ : ∃ j : Nat, at_ = j := ⟨at_.toNat, by omega⟩
                have hj : j < 32 := by omega
                have hl0 : s.bl[i]? = some s.bl[i] := List.getElem?_eq_getElem hi
                have hd : s.do_ 3 (i : Int) (j : Int) x l = ((0, [], true), { s with bl := s.bl.set i (s.bl[i].set j (s.bl[i].getD j 0 ^^^ x)) }) := by
                  unfold DS.do_ DS.turn turned
                  rw [if_neg (by decide), if_neg (by decide), if_pos rfl, if_pos ⟨hh, ha, hb⟩, Int.toNat_natCast, Int.toNat_natCast, List.getD_eq_getElem?_getD, hl0]
                  rfl
                have hby := HR.out.byte i _ hl0 j hj
                have hfz : w1.frozen? ⟨G, 32 * i + j, none⟩ = false := HR.out.row.frozen _
                have key := HR.out.rot i _ hl0 j hj (s.bl[i].getD j 0 ^^^ x)
                have hxor := bits_xor8 (s.bl[i].getD j 0) x
                have HDO := Lib.hid hd; have KEY := Lib.hid key
                have hi2 : i ≤ 2048 := by omega
                have hNN := HN.out
                have hlt : 32 * i + j < N := by omega
                have hcm : 32 * i + j = i * 32 + j := by omega
                rw [hcm] at hby hfz hlt
                clear hcm
                clear hd hh hl0 key ha hb hNN
                generalize s.bl[i].getD j 0 = y at hby hxor KEY HDO
                generalize (y.toNat : Int) = vy at hby hxor
                have q3' := q3
                generalize (x.toNat : Int) = vx at hxor q3' ⊢
                have HX := Lib.hid hxor
                clear hxor q3
                go_wp2_with fail
                refine wp_region_qt 16 (by kernel_rfl) (by kernel_rfl) ?_
                simp only [List.take_succ_cons, List.take_zero, List.drop_succ_cons, List.drop_zero]
                repeat (first | go_big_quiet_skip | (go_big_quiet_want; first | (fail; simp only [Act.put, List.setIfInBounds_toArray, List.set_cons_succ, List.set_cons_zero]; go_big_quiet_on) | (go_big_quiet_op; first | go_big_quiet_on | (refine ⟨_, fun _ _ => rfl, ?_⟩; go_big_quiet_on))))
                refine wpQuiet_nil ?_
                go_wp2_with fail
                go_wp2
                go_ret3
                rw [HX.out]
                rw [show i * 32 + j = 32 * i + j by omega]
                exact do_end HDO KEY.out.drew ((HK.out.setCell (p := ⟨G, 32 * i + j, none⟩) (Or.inr rfl) _)).drew
              · have hd : s.do_ 3 n at_ x l = ((0, [], false), s) := by unfold DS.do_ DS.turn; rw [if_neg (by decide), if_neg (by decide), if_pos rfl, if_neg (fun e => hb e.2.2)]
                have HDO := Lib.hid hd; have HHH := Lib.hid hh
                have hb' : (at_ < 32) = False := eq_false hb
                clear hd hh hb
                go_wp2
                go_ret3
                exact do_end HDO HR.out HK.out
            · have hd : s.do_ 3 n at_ x l = ((0, [], false), s) := by unfold DS.do_ DS.turn; rw [if_neg (by decide), if_neg (by decide), if_pos rfl, if_neg (fun e => ha e.2.1)]
              have HDO := Lib.hid hd; have HHH := Lib.hid hh
              have ha' : (0 ≤ at_) = False := eq_false ha
              clear hd hh ha
              go_wp2
              go_ret3
              exact do_end HDO HR.out HK.out
        · have k3' : (k == 3) = false := by simpa using k3
          by_cases k4 : k = 4
          · subst k4
            clear k1 k1' k2 k2' k3 k3'
            by_cases hneg : n < 0
            · have hd : s.do_ 4 n at_ x l = ((0, [], false), { s with fuse := 0 }) := by
                unfold DS.do_
                rw [if_neg (by decide), if_neg (by decide), if_neg (by decide), if_pos rfl, show max n 0 = 0 by omega]
              have key := (HR.out.set_fuse2 (.int .i64 n) 0 (by omega) (by omega))
              have HDO := Lib.hid hd
              have KEY := Lib.hid key
              clear hd key
              go_wp2
              go_ret3
              exact do_end HDO KEY.out ((HK.out.setCell (p := ⟨E, 1, none⟩) (Or.inl rfl) _).setCell (p := ⟨E, 1, none⟩) (Or.inl rfl) _)
            · have hd : s.do_ 4 n at_ x l = ((0, [], false), { s with fuse := n }) := by
                unfold DS.do_
                rw [if_neg (by decide), if_neg (by decide), if_neg (by decide), if_pos rfl, show max n 0 = n by omega]
              have key := (HR.out.set_fuse n hn1 (by omega))
              have KEY := Lib.hid key
              have HDO := Lib.hid hd
              have hneg' : (n < 0) = False := eq_false hneg
              clear hd key hneg
              go_wp2
              go_ret3
              exact do_end HDO KEY.out (HK.out.setCell (p := ⟨E, 1, none⟩) (Or.inl rfl) _)
          · have k4' : (k == 4) = false := by simpa using k4
            by_cases k5 : k = 5
            · subst k5
              clear k1 k1' k2 k2' k3 k3' k4 k4'
              have hd : s.do_ 5 n at_ x l = ((0, [], false), { s with fuse := -1, down := false }) := by
                unfold DS.do_
                rw [if_neg (by decide), if_neg (by decide), if_neg (by decide), if_neg (by decide), if_pos rfl]
              have key := (HR.out.set_fuse (-1) (by omega) (by omega)).set_down false
              have KEY := Lib.hid key
              have HDO := Lib.hid hd
              clear hd key
              go_wp2
              go_ret3
              exact do_end HDO KEY.out ((HK.out.setCell (p := ⟨E, 1, none⟩) (Or.inl rfl) _).setCell (p := ⟨E, 3, none⟩) (Or.inl rfl) _)
            · have k5' : (k == 5) = false := by simpa using k5
              have hd : s.do_ k n at_ x l = ((0, [], false), s) := by
                unfold DS.do_
                rw [if_neg k1, if_neg k2, if_neg k3, if_neg k4, if_neg k5]
              have HDO := Lib.hid hd
              clear hd k1 k2 k3 k4 k5
              go_wp2
              go_ret3
              exact do_end HDO HR.out HK.out
end Go.Proofs.Ytpdihggdopdolaa
