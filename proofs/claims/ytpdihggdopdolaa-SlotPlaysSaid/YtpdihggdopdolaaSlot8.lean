/- What Save does. Conditions: the sizes. -/
import Derived.Test.YtpdihggdopdolaaSlot7
namespace Go.Proofs.Ytpdihggdopdolaa
open Go.RowKit Go.Shelf
attribute [local go_sem] Oper.semAt_some
theorem results_cell_one {P : Program} {fn : Func} {p : Tmp} {ty : TypeId} (h : fn.results = #[.cell p ty]) (tmps : Array Value) (w : World) (g : Nat) (v : Value) (hp : tmps.getD p undef = .pointer (some ⟨g, 0, none⟩)) (hc : w.cell? ⟨g, 0, none⟩ = some v) (hag : (isAgg ty).run P w = .ok false w) :
    (results fn tmps).run P w = .ok v w := by
  have hp' : tmps[p]?.getD undef = .pointer (some ⟨g, 0, none⟩) := by simpa using hp
  have hl : Sem.run P (loadVar ty ⟨g, 0, none⟩) w = .ok v w := by simp [loadVar, hag, Sem.run, load, hc]
  simp [results, h, hp', asAddr, hl]
section
variable {P : Program} {ops : Array Oper} {md : Region.Mode} {Q : Exit → Act → World → Prop} {C : World → Prop}
theorem wpOp_of_list {i : Nat} {o : Oper} {K : Act → World → Prop} {a : Act} {w : World} (hi : ops[i]? = some o) (h : wpList P ops (Exit.then K Q) [o] a w) : wpOp P ops Q i K a w := by
  unfold wpOp
  simp only [hi]
  unfold wpList at h
  have e : (wpList P ops (Exit.then K Q) []) = K := by funext a w; rfl
  split
  · rename_i hw
    rw [if_pos hw] at h
    rcases h with h | ⟨h1, h2⟩
    · left
      rw [e] at h
      unfold Oper.wp at h ⊢
      generalize (execOp a.eval o).run P w = r at *
      cases r with
      | ok n w' =>
        cases n <;> simp only [Oper.upon] at h ⊢ <;> try exact h
      | halt x w' =>
        cases x <;> simp only [Oper.upon] at h ⊢
        case panic u => exact h
    · exact Or.inr ⟨h1, h2⟩
  · rename_i hw
    rw [if_neg hw] at h
    exact h
/-- Two operations may come up. -/
theorem anyC_two {i j : Nat} {oi oj : Oper} {f : Nat} {listed : Array Bool} {a : Act} {w : World} (hi : ops[i]? = some oi) (hj : ops[j]? = some oj) (hr : Region.ready md ops listed = [i, j]) (hC : C w)
    (h1 : wpList P ops (Exit.then (anyC P md ops C Q f (listed.setIfInBounds i true)) Q) [oi] a w) (h2 : wpList P ops (Exit.then (anyC P md ops C Q f (listed.setIfInBounds j true)) Q) [oj] a w) : anyC P md ops C Q (f + 1) listed a w := by
  refine ⟨hC, fun h0 => (by rw [hr] at h0; cases h0), fun k hk => ?_⟩
  rw [hr] at hk
  rcases List.mem_cons.1 hk with rfl | hk
  · exact wpOp_of_list hi h1
  · obtain rfl : k = j := by simpa using hk
    exact wpOp_of_list hj h2
end
theorem Rd.of_blk {w : World} {g : Nat} {l : List UInt8} (h : Blk w g 5 (l.map B8).toArray) (n : Nat) (hn : n = l.length) : Rd w w.heap.size (some ⟨g, 0, none⟩) n l := by
  subst hn
  refine ⟨by simp, fun _ => ⟨_, rfl, h.lt, fun j u hu => ?_⟩⟩
  have ha : (⟨g, 0, none⟩ : Addr).add j = ⟨g, j, none⟩ := by unfold Addr.add; split <;> simp_all
  rw [ha, h.cell]
  simpa using hu
abbrev pcV (Bb : Nat) : Value := .func (.func 46) #[] #[.pointer (some ⟨Bb, 0, none⟩)]
theorem root_splice (o n : Nat) (ho : o ≤ 1) (hn : n ≤ 16384) : splice (zero32.map B8) 0 [.int .u8 (o : Int), .int .u8 ((n : Int) / 16777216), .int .u8 ((n : Int) / 65536), .int .u8 ((n : Int) / 256), .int .u8 ((n : Int) % 256)] = (rootB o n).map B8 := by
  have e1 : (n : Int) / 16777216 = 0 := by omega
  have e2 : (n : Int) / 65536 = 0 := by omega
  have e3 : ((UInt8.ofNat (n / 256)).toNat : Int) = (n : Int) / 256 := by simp; omega
  have e4 : ((UInt8.ofNat n).toNat : Int) = (n : Int) % 256 := by simp
  have e5 : ((UInt8.ofNat o).toNat : Int) = (o : Int) := by simp; omega
  rw [e1, e2]
  unfold splice rootB zero32
  simp only [List.map_append, List.map_cons, List.map_nil, List.map_replicate, B8, e3, e4, e5, List.take_zero, List.nil_append, List.drop_replicate, List.length_cons, List.length_nil]
  rfl
def SaveC (B S D R o : Nat) (X : World) : Prop := X.cell? ⟨B, 0, none⟩ = some (.pointer (some ⟨S, 0, none⟩)) ∧ X.cell? ⟨S, 0, none⟩ = some (.pointer (some ⟨D, 0, none⟩)) ∧ X.cell? ⟨R + 1, 0, none⟩ = some (.int .i64 (o : Int))
def SaveE (B S D R side : Nat) (X : World) : Prop := X.cell? ⟨B, 0, none⟩ = some (.pointer (some ⟨S, 0, none⟩)) ∧ X.cell? ⟨S, 0, none⟩ = some (.pointer (some ⟨D, 0, none⟩)) ∧ X.cell? ⟨R, 0, none⟩ = some (.int .i64 (side : Int))
theorem KeepsFrom.any {B : Nat} {w w' : World} (h : KeepsFrom 0 w w') : KeepsFrom B w w' := ⟨h.size, fun k o _ => h.same k o (Nat.zero_le _)⟩
set_option maxRecDepth 100000 in
theorem Save_big (w : World) (F : Nat → Prop) (S room : Nat) (s : DS) (A : Option Addr) (n c : Nat) (h : SlotIs w F S room s) (hn : n ≤ 9223372036854775000) (hbig : room < takesOf n) :
    Calls Try.prog 25 #[.pointer (some ⟨S, 0, none⟩), .slice A n c] w fun e w' => e = .returned (.int .i64 7) ∧ Below w.heap.size w w' := by
  obtain ⟨D, G, hS, _⟩ := h
  obtain ⟨W2, hW2⟩ : ∃ W2, W2 = (w.alloc (.cells #[.pointer (some ⟨S, 0, none⟩)] 46)).alloc (.cells #[.int .i64 0] 24) := ⟨_, rfl⟩
  have hb : Below w.heap.size w W2 := by rw [hW2]; exact ((Below.refl _ w).alloc (Nat.le_refl _) _).alloc (by simp) _
  have HB := Lib.hid hb
  have HS := Lib.hid (hS.below hb hS.lt)
  have hc2 : W2.cell? ⟨w.heap.size, 0, none⟩ = some (.pointer (some ⟨S, 0, none⟩)) := by
    rw [hW2]; exact ((Blk.new w 46 #[.pointer (some ⟨S, 0, none⟩)]).alloc _).cell 0
  have hB4 : Blk W2 (w.heap.size + 1) 24 #[.int .i64 0] := by rw [hW2]; exact Blk.new' (by simp)
  have HB4 := Lib.hid hB4; have HC2 := Lib.hid hc2; have HBIG := Lib.hid hbig; have HW2 := Lib.hid hW2
  clear hS hb hW2 hc2 hB4 hbig
  go_enter Try.func25, Try.ntmps25
  go_upto_region 1 with fail
  rw [← HW2.out]
  have hc2 := HC2.out
  go_wp2_with fail
  have HSC := Lib.hid (fun W (hW : Below W2.heap.size W2 W) => ((HS.out.below hW HS.out.lt).cell 1).trans rfl : ∀ W, Below W2.heap.size W2 W → W.cell? ⟨S, 1, none⟩ = some (.int .i64 (room : Int)))
  have HC2C := Lib.hid (fun W (hW : Below W2.heap.size W2 W) => (hW.cell (p := ⟨w.heap.size, 0, none⟩) (World.block_lt_of_cell? W2 _ HC2.out)).trans HC2.out : ∀ W, Below W2.heap.size W2 W → W.cell? ⟨w.heap.size, 0, none⟩ = some (.pointer (some ⟨S, 0, none⟩)))
  have hC0 : Below W2.heap.size W2 W2.drew := (Below.refl _ _).drew
  have hbig := HBIG.out
  have hbig' : (room : Int) < (takesOf n : Int) := by omega
  clear hc2 hbig
  refine wp_region_anyN (Below W2.heap.size W2) (by kernel_rfl) ?_
  refine anyC_takes (by kernel_rfl) (fun _ _ _ _ _ h => h) [0, 1, 3, 4, 5, 6] 3 _ _ (by kernel_rfl) ?_
  simp only [List.filterMap_cons, List.filterMap_nil, List.getElem?_toArray, List.getElem?_cons_succ, List.getElem?_cons_zero]
  show wpQuiet _ _ _ _ (_ :: _ :: _ :: _ :: _ :: _ :: List.nil) _
  repeat (first | go_big_quiet_skip | (go_big_quiet_want; first | (refine quiet_load _ _ rfl ⟨S, 1, none⟩ rfl _ HSC.out (fun _ => by kernel_rfl) ?_; simp only [Act.put, List.setIfInBounds_toArray, List.set_cons_succ, List.set_cons_zero]; go_big_quiet_on) | (refine quiet_load _ _ rfl ⟨w.heap.size, 0, none⟩ rfl _ HC2C.out (fun _ => by kernel_rfl) ?_; simp only [Act.put, List.setIfInBounds_toArray, List.set_cons_succ, List.set_cons_zero]; go_big_quiet_on) | (go_big_quiet_op; first | go_big_quiet_on | (refine ⟨_, fun _ _ => rfl, ?_⟩; go_big_quiet_on))))
  refine wpQuiet_nil ?_
  refine anyC_only (i := 2) rfl (by kernel_rfl) hC0 ?_
  go_wp2_with fail
  refine (takes_any n W2.drew hn).mono ?_
  rintro e w3 ⟨rfl, rfl⟩
  go_wp2_with fail
  refine anyC_takes (by kernel_rfl) (fun _ _ _ _ _ h => h) [7, 8] 0 _ _ (by kernel_rfl) ?_
  simp only [List.filterMap_cons, List.filterMap_nil, List.getElem?_toArray, List.getElem?_cons_succ, List.getElem?_cons_zero]
  show wpQuiet _ _ _ _ (_ :: _ :: List.nil) _
  repeat (first | go_big_quiet_skip | (go_big_quiet_want; first | (fail; simp only [Act.put, List.setIfInBounds_toArray, List.set_cons_succ, List.set_cons_zero]; go_big_quiet_on) | (go_big_quiet_op; first | go_big_quiet_on | (refine ⟨_, fun _ _ => rfl, ?_⟩; go_big_quiet_on))))
  refine wpQuiet_nil ?_
  refine ⟨hC0, by kernel_rfl, ?_⟩
  have k4 : W2.drew.cell? ⟨w.heap.size + 1, 0, none⟩ = some (.int .i64 0) := HB4.out.cell 0
  have f4 : W2.drew.frozen? ⟨w.heap.size + 1, 0, none⟩ = false := HB4.out.frozen 0
  go_wp2_with fail
  refine bodyPost_ret (v := .int .i64 7) (results_cell_one rfl _ _ (w.heap.size + 1) _ rfl ((HB4.out.set_ 0 (.int .i64 7)).cell 0) (by kernel_rfl)) rfl ⟨rfl, ?_⟩
  exact (HB.out.setCell (p := ⟨w.heap.size + 1, 0, none⟩) (Nat.le_succ _) _).drew
theorem save_leaves {w w5 X : World} {F F0 : Nat → Prop} {S room M : Nat} {er : Int} {st : DS} {tmps : Array Value} (h4 : tmps.getD 4 undef = .pointer (some ⟨w.heap.size + 1, 0, none⟩)) (hF0F : ∀ k, F0 k → F k) (_hF0l : ∀ k, F0 k → k < w.heap.size) (hb5 : Below w.heap.size w w5) (hs5 : w.heap.size + 1 < w5.heap.size)
    (hs : SlotIs X (Grown F0 w5) S room st) (hk : Keeps (fun k => F0 k ∨ k = w.heap.size + 1) w5 X) (hc : X.cell? ⟨w.heap.size + 1, 0, none⟩ = some (.int .i64 er)) (hM : w5.heap.size ≤ M) (hd : X.heap[M]? = some (.deferred (some []))) {R : Ending → World → Prop}
    (hR : ∀ X', SlotIs X' (Grown F w) S room st → Keeps F w X' → R (.returned (.int .i64 er)) X') :
    bodyPostM Fence.wide 3 Try.prog Try.f25 R .ret { tmps := tmps, defers := [{ target := .collected M, args := #[] }] } X := by
  refine ⟨by simp, .inl ⟨_, _, rfl, run_takeDeferred hd, ?_⟩⟩
  refine ⟨_, results_cell_one rfl _ _ (w.heap.size + 1) (.int .i64 er) h4 ?_ (by kernel_rfl), hR _ ?_ ?_⟩
  · rw [← hc]
    exact World.cell?_of_block (a := ⟨w.heap.size + 1, 0, none⟩) (World.putObj_heap_other (by show w.heap.size + 1 ≠ M; omega))
  · refine (hs.putObj hd rfl _).weaken fun k e => ?_
    rcases e with e | e
    · exact Or.inl (hF0F k e)
    · exact Or.inr (by omega)
  · have h1 : Keeps F w w5 := Keeps.of_below hb5
    refine (h1.trans hk (fun i hi e => ?_)).trans (keeps_putObj X M _) (fun i hi e => by omega)
    rcases e with e | e
    · exact hF0F i e
    · omega
set_option maxRecDepth 100000 in
set_option maxHeartbeats 2000000 in
theorem Save_fit (w : World) (F : Nat → Prop) (S room : Nat) (s : DS) (side : Nat) (kept b : List UInt8) (A : Option Addr) (n c : Nat) (h : SlotIs w F S room s) (hok : SOk s room side kept) (hr : Rd w w.heap.size A n b) (hnc : n ≤ c) (hoff : 0 < n → ∀ ad, A = some ad → ¬ F ad.block)
    (hwr : s.writes ≤ 4611686018400000000) (hfit : ¬ room < takesOf n) (hFl : ∀ k, F k → k < w.heap.size) :
    CallsIn Fence.wide 3 Try.prog 25 #[.pointer (some ⟨S, 0, none⟩), .slice A n c] w fun e w' => e = .returned (.int .i64 (s.save room side kept b).1) ∧ SlotIs w' (Grown F w) S room (s.save room side kept b).2 ∧ Keeps F w w' := by
  obtain ⟨o, ho⟩ : ∃ o, o = 1 - side := ⟨_, rfl⟩
  have hoi : (1 : Int) - (side : Int) = (o : Int) := by have := hok.sideLe; omega
  have hn : n ≤ 16384 := by have := hok.roomLe; unfold takesOf at hfit; omega
  obtain ⟨D, G, hS, hdk⟩ := id h
  obtain ⟨W2, hW2⟩ : ∃ W2, W2 = (w.alloc (.cells #[.pointer (some ⟨S, 0, none⟩)] 46)).alloc (.cells #[.int .i64 0] 24) := ⟨_, rfl⟩
  have hb : Below w.heap.size w W2 := by rw [hW2]; exact ((Below.refl _ w).alloc (Nat.le_refl _) _).alloc (by simp) _
  have hsz2 : W2.heap.size = w.heap.size + 2 := by rw [hW2]; simp
  have HB := Lib.hid hb
  have HS := Lib.hid (hS.below hb hS.lt)
  have hB2 : Blk W2 w.heap.size 46 #[.pointer (some ⟨S, 0, none⟩)] := by
    rw [hW2]; exact (Blk.new w 46 #[.pointer (some ⟨S, 0, none⟩)]).alloc _
  have hB4 : Blk W2 (w.heap.size + 1) 24 #[.int .i64 0] := by rw [hW2]; exact Blk.new' (by simp)
  have HB4 := Lib.hid hB4; have HB2 := Lib.hid hB2; have HFIT := Lib.hid hfit; have HW2 := Lib.hid hW2; have HOK := Lib.hid hok; have H := Lib.hid h; have HRD := Lib.hid hr; have HO := Lib.hid ho; have HOI := Lib.hid hoi; have HN := Lib.hid hn
  have HWR := Lib.hid hwr; have HOFF := Lib.hid hoff; have HFL := Lib.hid hFl; have HNC := Lib.hid hnc; have HSZ2 := Lib.hid hsz2
  clear hS hb hW2 hB2 hB4 hfit hok h hr ho hoi hn hwr hoff hFl hdk hnc hsz2
  refine callsIn_of_wp_marks Try.func25 rfl trivial (wpIn_wide.2 ?_)
  simp only [Try.ntmps25, List.size_toArray, List.length_cons, List.length_nil, Nat.reduceAdd, Nat.reduceSub, Array.replicate_succ, Array.replicate_zero, List.push_toArray, List.append_toArray, List.nil_append, List.cons_append]
  go_upto_region 1 with fail
  rw [← HW2.out]
  have hc2 := (HB2.out.cell 0).trans rfl
  go_wp2_with fail
  have HSC := Lib.hid (fun W (hW : Below W2.heap.size W2 W) => ((HS.out.below hW HS.out.lt).cell 1).trans rfl : ∀ W, Below W2.heap.size W2 W → W.cell? ⟨S, 1, none⟩ = some (.int .i64 (room : Int)))
  have HC2C := Lib.hid (fun W (hW : Below W2.heap.size W2 W) => ((HB2.out.below hW HB2.out.lt).cell 0).trans rfl : ∀ W, Below W2.heap.size W2 W → W.cell? ⟨w.heap.size, 0, none⟩ = some (.pointer (some ⟨S, 0, none⟩)))
  have hC0 : Below W2.heap.size W2 W2.drew := (Below.refl _ _).drew
  have hfit := HFIT.out
  have hfit' : ¬ (room : Int) < (takesOf n : Int) := by omega
  have hn := HN.out
  clear hc2 hfit
  refine wp_region_anyN (Below W2.heap.size W2) (by kernel_rfl) ?_
  refine anyC_takes (by kernel_rfl) (fun _ _ _ _ _ h => h) [0, 1, 3, 4, 5, 6] 3 _ _ (by kernel_rfl) ?_
  simp only [List.filterMap_cons, List.filterMap_nil, List.getElem?_toArray, List.getElem?_cons_succ, List.getElem?_cons_zero]
  show wpQuiet _ _ _ _ (_ :: _ :: _ :: _ :: _ :: _ :: List.nil) _
  repeat (first | go_big_quiet_skip | (go_big_quiet_want; first | (refine quiet_load _ _ rfl ⟨S, 1, none⟩ rfl _ HSC.out (fun _ => by kernel_rfl) ?_; simp only [Act.put, List.setIfInBounds_toArray, List.set_cons_succ, List.set_cons_zero]; go_big_quiet_on) | (refine quiet_load _ _ rfl ⟨w.heap.size, 0, none⟩ rfl _ HC2C.out (fun _ => by kernel_rfl) ?_; simp only [Act.put, List.setIfInBounds_toArray, List.set_cons_succ, List.set_cons_zero]; go_big_quiet_on) | (go_big_quiet_op; first | go_big_quiet_on | (refine ⟨_, fun _ _ => rfl, ?_⟩; go_big_quiet_on))))
  refine wpQuiet_nil ?_
  refine anyC_only (i := 2) rfl (by kernel_rfl) hC0 ?_
  go_wp2_with fail
  refine (takes_any n W2.drew (by omega)).mono ?_
  rintro e w3 ⟨rfl, rfl⟩
  go_wp2_with fail
  refine anyC_takes (by kernel_rfl) (fun _ _ _ _ _ h => h) [7, 8] 0 _ _ (by kernel_rfl) ?_
  simp only [List.filterMap_cons, List.filterMap_nil, List.getElem?_toArray, List.getElem?_cons_succ, List.getElem?_cons_zero]
  show wpQuiet _ _ _ _ (_ :: _ :: List.nil) _
  repeat (first | go_big_quiet_skip | (go_big_quiet_want; first | (fail; simp only [Act.put, List.setIfInBounds_toArray, List.set_cons_succ, List.set_cons_zero]; go_big_quiet_on) | (go_big_quiet_op; first | go_big_quiet_on | (refine ⟨_, fun _ _ => rfl, ?_⟩; go_big_quiet_on))))
  refine wpQuiet_nil ?_
  refine ⟨hC0, by kernel_rfl, ?_⟩
  have hc2 : W2.drew.cell? ⟨w.heap.size, 0, none⟩ = some (.pointer (some ⟨S, 0, none⟩)) := HC2C.out _ hC0
  go_wp2_with fail
  refine (Root_any W2.drew F S room s side kept.length (H.out.below ((HB.out).trans (hC0.mono HB.out.size))) HOK.out.root HOK.out.sideLe HOK.out.small).mono ?_
  rintro e w3 ⟨rfl, hb3⟩
  have hb23 : Below W2.heap.size W2 w3 := hC0.trans hb3
  obtain ⟨W4, hW4⟩ : ∃ W4, W4 = (w3.alloc (.cells #[.int .i64 (side : Int), .int .i64 (kept.length : Int)] 74)).alloc (.cells #[.int .i64 (o : Int)] 3) := ⟨_, rfl⟩
  have hb24 : Below W2.heap.size W2 W4 := by rw [hW4]; exact (hb23.alloc hb23.size _).alloc (by have := hb23.size; simp; omega) _
  have hT : Blk W4 w3.heap.size 74 #[.int .i64 (side : Int), .int .i64 (kept.length : Int)] := by rw [hW4]; exact (Blk.new w3 74 #[.int .i64 (side : Int), .int .i64 (kept.length : Int)]).alloc _
  have hT6 : Blk W4 (w3.heap.size + 1) 3 #[.int .i64 (o : Int)] := by rw [hW4]; exact Blk.new' (by simp)
  have hsz4 : W4.heap.size = w3.heap.size + 2 := by rw [hW4]; simp
  have HB24 := Lib.hid hb24; have HT := Lib.hid hT; have HT6 := Lib.hid hT6; have HSZ4 := Lib.hid hsz4; have HW4 := Lib.hid hW4; have HSZ3 := Lib.hid hb23.size
  have hsd := HOK.out.sideLe
  clear hb23 hb24 hT hT6 hsz4 hW4 hb3 hc2 hfit' hC0
  go_upto_region 7 with fail
  rw [HOI.out, ← HW4.out]
  generalize w3.heap.size = R5 at HT HT6 HSZ4 HSZ3 ⊢
  clear hsd
  go_wp2_with fail
  refine (pieces_any A n c W4).mono ?_
  rintro e w5 ⟨rfl, hw5⟩
  have hb45 : Below W2.heap.size W2 w5 := by rw [hw5]; exact HB24.out.alloc HB24.out.size _
  have hBb : Blk w5 W4.heap.size 22 #[.slice A n c] := by rw [hw5]; exact Blk.new _ _ _
  have hT5 : Blk w5 R5 74 #[.int .i64 (side : Int), .int .i64 (kept.length : Int)] := by rw [hw5]; exact HT.out.alloc _
  have hT65 : Blk w5 (R5 + 1) 3 #[.int .i64 (o : Int)] := by rw [hw5]; exact HT6.out.alloc _
  have HBb := Lib.hid hBb; have HT5 := Lib.hid hT5; have HT65 := Lib.hid hT65
  have HB5 := Lib.hid (HB.out.trans (hb45.mono HB.out.size))
  have HS5 := Lib.hid (HS.out.below hb45 HS.out.lt)
  have HB25 := Lib.hid (HB2.out.below hb45 HB2.out.lt); have HB45 := Lib.hid (HB4.out.below hb45 HB4.out.lt)
  have HSZ5 := Lib.hid (show W4.heap.size < w5.heap.size by rw [hw5]; simp)
  have HSZ4' := Lib.hid (show w.heap.size + 2 ≤ R5 by have := HSZ2.out; have := HSZ3.out; omega)
  generalize W4.heap.size = Bb at HBb HSZ5 HSZ4 ⊢
  clear hw5 hb45 hBb hT5 hT65 HT HT6 HB24 HW4
  obtain ⟨F0, hF0⟩ : ∃ F0 : Nat → Prop, F0 = fun k => F k ∧ ∃ o, w.heap[k]? = some o ∧ o.isCells = true := ⟨_, rfl⟩
  have hF0F : ∀ k, F0 k → F k := fun k e => by rw [hF0] at e; exact e.1
  have hF0l : ∀ k, F0 k → k < w.heap.size := fun k e => by rw [hF0] at e; obtain ⟨_, o, e1, _⟩ := e; exact lt_of_get e1
  have h5 : SlotIs w5 F0 S room s := by rw [hF0]; exact H.out.tight.below HB5.out
  have hr5 : Rd w5 w.heap.size A n b := HRD.out.below HB5.out
  have HF0F := Lib.hid hF0F; have HF0L := Lib.hid hF0l; have H5 := Lib.hid h5; have HR5 := Lib.hid hr5
  clear hF0 hF0F hF0l h5 hr5
  have hlen : b.length = n := HRD.out.len.symm
  have HLEN := Lib.hid hlen
  clear hlen
  go_wp2_with fail
  refine (wpIn_wide (n := 3)).1 ?_
  refine range_pieces (n := 3) (by omega) Bb A n c HNC.out b w.heap.size HN.out rfl
    (fun k W => SlotIs W (Grown F0 w5) S room (s.writeAll (newList room o b k)).2 ∧ Blk W S 71 #[.pointer (some ⟨D, 0, none⟩), .int .i64 (room : Int)] ∧ Keeps F0 w5 W ∧ (s.writeAll (newList room o b k)).1 = 0)
    (fun W => SlotIs W (Grown F0 w5) S room (s.save room side kept b).2 ∧ Keeps (fun k => F0 k ∨ k = w.heap.size + 1) w5 W ∧ W.cell? ⟨w.heap.size + 1, 0, none⟩ = some (.int .i64 (s.save room side kept b).1))
    ?_ ?_ ?_ ?_ ⟨H5.out.weaken fun k e => Or.inl e, HS5.out, Keeps.refl _ _, rfl⟩
    (fun k g => ⟨List.toArray (.pointer (some ⟨S, 0, none⟩) :: .slice A n c :: .pointer (some ⟨w.heap.size, 0, none⟩) :: undef :: .pointer (some ⟨w.heap.size + 1, 0, none⟩) :: .pointer (some ⟨R5, 0, none⟩) :: .pointer (some ⟨R5 + 1, 0, none⟩) :: .int .i64 (k : Int) :: .slice (some ⟨g, 0, none⟩) 32 32 :: undef :: undef :: undef :: undef :: undef :: undef :: .bool false :: .pointer (some ⟨S, 0, none⟩) :: .bool false :: .bool false :: .slice A n c :: .int .i64 (n : Int) :: .int .i64 (takesOf n : Int) :: .pointer (some ⟨S, 0, none⟩) :: .pointer (some ⟨S, 0, none⟩) :: .pointer (some ⟨S, 1, none⟩) :: .int .i64 (room : Int) :: .bool false :: .pointer (some ⟨S, 0, none⟩) :: .agg #[.int .i64 (side : Int), .int .i64 (kept.length : Int)] :: .pointer (some ⟨R5, 0, none⟩) :: .int .i64 (side : Int) :: .int .i64 (o : Int) :: .slice A n c :: pcV Bb :: .int .i64 (k : Int) :: .slice (some ⟨g, 0, none⟩) 32 32 :: undef :: undef :: undef :: undef :: undef :: undef :: undef :: undef :: undef :: undef :: undef :: undef :: undef :: undef :: undef :: undef :: undef :: undef :: undef :: undef :: undef :: undef :: undef :: undef :: undef :: undef :: undef :: undef :: undef :: undef :: undef :: undef :: undef :: undef :: undef :: undef :: undef :: undef :: undef :: undef :: undef :: undef :: undef :: undef :: undef :: undef :: undef :: undef :: undef :: undef :: undef :: undef :: undef :: undef :: undef :: undef :: undef :: undef :: undef :: undef :: undef :: undef :: List.nil), []⟩) ?_ ?_ ?_ ?_
  · rintro k W ⟨_, _, hk, _⟩
    refine ⟨(HBb.out.keeps hk fun e => by have := HF0L.out _ e; have := HSZ4.out; have := HSZ4'.out; omega).cell 0, ?_, Nat.le_trans HB5.out.size hk.size⟩
    rcases Nat.eq_zero_or_pos n with h0 | h0
    · exact ⟨HR5.out.1, fun h => absurd h (by omega)⟩
    · exact rd_off HR5.out hk HB5.out.size (fun ad e _ e2 => HOFF.out h0 ad e (HF0F.out _ e2))
  · rintro k W W' ⟨h1, h2, h3, h4⟩ hb
    exact ⟨h1.below hb, h2.below hb h2.lt, h3.trans (Keeps.of_below (F := fun _ => False) hb) (fun _ _ e => e.elim), h4⟩
  · rintro k W l o' ob ⟨h1, h2, h3, h4⟩ hl hg hc
    refine ⟨h1.putObj hg hc _, h2.keeps (keeps_putObj W l o') (fun e => ?_), h3.trans (keeps_putObj W l o') (fun i hi e => by omega), h4⟩
    have := HS5.out.lt
    omega
  · rintro W l o' ob ⟨h1, h2, h3⟩ hl hg hc
    refine ⟨h1.putObj hg hc _, h2.trans (keeps_putObj W l o') (fun i hi e => by omega), ?_⟩
    rw [← h3]
    exact World.cell?_of_block (a := ⟨w.heap.size + 1, 0, none⟩) (World.putObj_heap_other (by have := HB5.out.size; have := HSZ5.out; have := HSZ4.out; have := HSZ4'.out; show w.heap.size + 1 ≠ l; omega))
  · intro l k g W K hK
    gi_wp2
    exact hK
  · rintro l k g W hk ⟨h1, h2, h3, h4⟩ hB
    have HJ := Lib.hid h1; have HJS := Lib.hid h2; have HJK := Lib.hid h3; have HJ0 := Lib.hid h4; have HG := Lib.hid hB; have HK := Lib.hid hk
    clear h1 h2 h3 h4 hB hk
    gi_wp2_with fail
    have hc2 : ∀ X, Keeps F0 w5 X → X.cell? ⟨w.heap.size, 0, none⟩ = some (.pointer (some ⟨S, 0, none⟩)) := fun X hX => ((HB25.out.keeps hX fun e => by have := HF0L.out _ e; omega).cell 0).trans rfl
    have hc6 : ∀ X, Keeps F0 w5 X → X.cell? ⟨R5 + 1, 0, none⟩ = some (.int .i64 (o : Int)) := fun X hX => ((HT65.out.keeps hX fun e => by have := HF0L.out _ e; have := HSZ4'.out; omega).cell 0).trans rfl
    have HCC := Lib.hid (fun X hX hS' => ⟨hc2 X hX, hS', hc6 X hX⟩ : ∀ X, Keeps F0 w5 X → X.cell? ⟨S, 0, none⟩ = some (.pointer (some ⟨D, 0, none⟩)) → SaveC w.heap.size S D R5 o X)
    have HCW := Lib.hid (HCC.out W.drew HJK.out.drew ((HJS.out.cell 0).trans rfl))
    clear hc2 hc6
    have hrm := HOK.out.roomLe
    have hko : k ≤ 100000 := by have := HK.out; have := HN.out; unfold takesOf at this; omega
    refine wpIn_region_anyR (SaveC w.heap.size S D R5 o) (by kernel_rfl) (by kernel_rfl) ?_
    refine anyC_takes (by kernel_rfl) (fun _ _ _ _ _ h => h) [0, 1, 2, 3, 4, 5, 6, 8] 3 _ _ (by kernel_rfl) ?_
    simp only [List.filterMap_cons, List.filterMap_nil, List.getElem?_toArray, List.getElem?_cons_succ, List.getElem?_cons_zero]
    show wpQuiet _ _ _ _ (_ :: _ :: _ :: _ :: _ :: _ :: _ :: _ :: List.nil) _
    repeat (first | go_big_quiet_skip | (go_big_quiet_want; first | (refine quiet_load _ _ rfl ⟨w.heap.size, 0, none⟩ rfl _ (fun X hX => hX.1) (fun _ => by kernel_rfl) ?_; simp only [Act.put, List.setIfInBounds_toArray, List.set_cons_succ, List.set_cons_zero]; go_big_quiet_on) | (refine quiet_load _ _ rfl ⟨S, 0, none⟩ rfl _ (fun X hX => hX.2.1) (fun _ => by kernel_rfl) ?_; simp only [Act.put, List.setIfInBounds_toArray, List.set_cons_succ, List.set_cons_zero]; go_big_quiet_on) | (refine quiet_load _ _ rfl ⟨R5 + 1, 0, none⟩ rfl _ (fun X hX => hX.2.2) (fun _ => by kernel_rfl) ?_; simp only [Act.put, List.setIfInBounds_toArray, List.set_cons_succ, List.set_cons_zero]; go_big_quiet_on) | (go_big_quiet_op; first | go_big_quiet_on | (refine ⟨_, fun _ _ => rfl, ?_⟩; go_big_quiet_on))))
    refine wpQuiet_nil ?_
    refine anyC_only (i := 7) rfl (by kernel_rfl) HCW.out ?_
    go_wp2_with fail
    refine (block_any S D room o k W.drew hrm (by have := HO.out; omega) hko (HJS.out.drew)).mono ?_
    rintro e w6 ⟨rfl, rfl⟩
    go_wp2_with fail
    refine anyC_only (i := 9) rfl (by kernel_rfl) HCW.out ?_
    go_wp2_with fail
    have hwk := (writeAll_writes (newList room o b k) s).1
    rw [newList_len] at hwk
    refine (SWrite_any W.drew (Grown F0 w5) S room (s.writeAll (newList room o b k)).2 (1 + o * room + k) (some ⟨g, 0, none⟩) 32 32 (pieceOf b k) D (by have := HWR.out; omega) (HJ.out.below (Below.refl _ _).drew) ((HJS.out.cell 0).trans rfl) (Rd.of_blk (HG.out.drew) 32 (pieceOf_len _ _).symm)).mono ?_
    rintro e w6 ⟨rfl, hs6, hk6, hf6, hb6⟩
    obtain ⟨er, st, hws⟩ : ∃ er st, (s.writeAll (newList room o b k)).2.write ((1 + o * room + k : Nat) : Int) (pieceOf b k) = (er, st) := ⟨_, _, rfl⟩
    rw [hws] at hs6 ⊢
    have HWS := Lib.hid hws
    clear hws
    have HK6 := Lib.hid (HJK.out.drew.trans hk6 (fun i hi e => by rcases e with e | e; exact e; omega))
    have HJ6 := Lib.hid (hs6.weaken (G := Grown F0 w5) (fun i e => by rcases e with e | e; exact e; exact Or.inr (Nat.le_trans HJK.out.size e)))
    have HF6 := Lib.hid (show KeepsFrom w5.heap.size W w6 from KeepsFrom.any ⟨hf6.size, hf6.same⟩)
    have HC6 := Lib.hid (HCC.out w6 HK6.out ((hb6.cell 0).trans rfl)); have HB6 := Lib.hid hb6
    clear hs6 hk6 hf6 hb6
    go_wp2_with fail
    refine anyC_takes (by kernel_rfl) (fun _ _ _ _ _ h => h) [10] 0 _ _ (by kernel_rfl) ?_
    simp only [List.filterMap_cons, List.filterMap_nil, List.getElem?_toArray, List.getElem?_cons_succ, List.getElem?_cons_zero]
    show wpQuiet _ _ _ _ (_ :: List.nil) _
    repeat (first | go_big_quiet_skip | (go_big_quiet_want; first | (fail; simp only [Act.put, List.setIfInBounds_toArray, List.set_cons_succ, List.set_cons_zero]; go_big_quiet_on) | (go_big_quiet_op; first | go_big_quiet_on | (refine ⟨_, fun _ _ => rfl, ?_⟩; go_big_quiet_on))))
    refine wpQuiet_nil ?_
    refine ⟨HC6.out, by kernel_rfl, ?_⟩
    by_cases her : er = 0
    · subst her
      gi_wp2_with fail
      refine ⟨HF6.out, ?_, HB6.out, HK6.out, ?_⟩
      · rw [save_step HJ0.out, HWS.out]; exact HJ6.out
      · rw [save_step HJ0.out, HWS.out]
    · have k4 : w6.cell? ⟨w.heap.size + 1, 0, none⟩ = some (.int .i64 0) := ((HB45.out.keeps HK6.out fun e => by have := HF0L.out _ e; omega).cell 0).trans rfl
      have f4 : w6.frozen? ⟨w.heap.size + 1, 0, none⟩ = false := (HB45.out.keeps HK6.out fun e => by have := HF0L.out _ e; omega).frozen 0
      have HER := Lib.hid her
      gi_wp2_with fail
      have hsv : s.save room side kept b = (er, st) := by
        have ho := HO.out
        rw [← HWS.out]
        rw [ho]
        refine save_new_no (by rw [HLEN.out]; exact HFIT.out) (by rw [HLEN.out]; exact HK.out) (by rw [← ho]; exact HJ0.out) ?_
        rw [← ho, HWS.out]
        exact HER.out
      rw [hsv]
      refine ⟨HF6.out.trans ((KeepsOthers.setCell _ _ _).from _), ?_, ?_, ?_⟩
      · refine HJ6.out.keeps ((Keeps.refl (fun k => k = w.heap.size + 1) w6).setCell (p := ⟨w.heap.size + 1, 0, none⟩) rfl _) fun i e e2 => ?_
        rcases e with e | e
        · have := HF0L.out _ e; omega
        · have := HSZ5.out; have := HSZ4.out; have := HSZ4'.out; omega
      · exact (HK6.out.weaken (F' := fun k => F0 k ∨ k = w.heap.size + 1) (fun _ _ e => Or.inl e)).setCell (p := ⟨w.heap.size + 1, 0, none⟩) (Or.inr rfl) _
      · exact (((HB45.out.keeps HK6.out fun e => by have := HF0L.out _ e; omega).set_ 0 (.int .i64 er)).cell 0).trans rfl
  · rintro M W hM ⟨h1, h2, h3, h4⟩ hD
    have HJ := Lib.hid h1; have HJS := Lib.hid h2; have HJK := Lib.hid h3; have HJ0 := Lib.hid h4; have HM := Lib.hid hM; have HD := Lib.hid hD; have HMK := Lib.hid mk32
    clear h1 h2 h3 h4 hM hD
    have hmk := HMK.out
    have hn := HN.out
    have HT6W := Lib.hid (HT65.out.keeps HJK.out fun e => by have := HF0L.out _ e; have := HSZ4'.out; omega)
    have k6 : (W.alloc (.cells (zero32.map B8).toArray 5)).cell? ⟨R5 + 1, 0, none⟩ = some (.int .i64 (o : Int)) := ((HT6W.out.alloc _).cell 0).trans rfl
    have ho1 : o ≤ 1 := by have := HO.out; omega
    obtain ⟨Wx, hWx⟩ : ∃ Wx, Wx = (W.alloc (.cells (zero32.map B8).toArray 5)).alloc (.cells #[.int .u8 (o : Int), .int .u8 ((n : Int) / 16777216), .int .u8 ((n : Int) / 65536), .int .u8 ((n : Int) / 256), .int .u8 ((n : Int) % 256)] 5) := ⟨_, rfl⟩
    have HZ := Lib.hid (show Blk Wx W.heap.size 5 (zero32.map B8).toArray by rw [hWx]; exact (Blk.new W _ _).alloc _)
    have HV := Lib.hid (show Blk Wx (W.heap.size + 1) 5 #[.int .u8 (o : Int), .int .u8 ((n : Int) / 16777216), .int .u8 ((n : Int) / 65536), .int .u8 ((n : Int) / 256), .int .u8 ((n : Int) % 256)] by rw [hWx]; exact Blk.new' (by simp))
    have HBX := Lib.hid (show Below W.heap.size W Wx by rw [hWx]; exact ((Below.refl _ _).alloc (Nat.le_refl _) _).alloc (by simp) _)
    have HWX := Lib.hid hWx
    obtain ⟨cs5, hcs5⟩ : ∃ cs5, cs5 = [Value.int .u8 (o : Int), .int .u8 ((n : Int) / 16777216), .int .u8 ((n : Int) / 65536), .int .u8 ((n : Int) / 256), .int .u8 ((n : Int) % 256)] := ⟨_, rfl⟩
    have HPOS := Lib.hid (show 0 < cs5.length → some (⟨W.heap.size, 0, none⟩ : Addr) = some ⟨W.heap.size, 0, none⟩ ∧ ∃ ad, some (⟨W.heap.size + 1, 0, none⟩ : Addr) = some ad ∧ ∀ j v, cs5[j]? = some v → Wx.cell? (ad.add j) = some v from fun _ => ⟨rfl, _, rfl, fun j v hv => by
      have ha : (⟨W.heap.size + 1, 0, none⟩ : Addr).add j = ⟨W.heap.size + 1, j, none⟩ := by unfold Addr.add; split <;> simp_all
      rw [ha, HV.out.cell, ← hv, hcs5]
      simp⟩)
    have HC5 := Lib.hid (show cs5.length = Nat.min 5 32 by rw [hcs5]; rfl)
    have HF5 := Lib.hid (show 0 + cs5.length ≤ (zero32.map B8).length by rw [hcs5, List.length_map, zero32_len]; simp)
    have H15 := Lib.hid (show ∀ v ∈ cs5, v.oneCell' = true by rw [hcs5]; intro v hv; simp at hv; rcases hv with rfl | rfl | rfl | rfl | rfl <;> rfl)
    have HSP := Lib.hid (show splice (zero32.map B8) 0 cs5 = (rootB o n).map B8 by rw [hcs5]; exact root_splice o n ho1 hn)
    clear hcs5 hWx
    go_wp2_with (rw [← HWX.out]; refine wpList_copy_splice rfl (.tmp 52) (.tmp 66) 22 22 rfl 5 Try.underlying22 (by kernel_rfl) (some ⟨W.heap.size, 0, none⟩) (some ⟨W.heap.size + 1, 0, none⟩) 32 32 5 5 rfl rfl W.heap.size 0 (zero32.map B8) 5 HZ.out cs5 HC5.out HPOS.out HF5.out H15.out W.heap.size W HBX.out (Nat.le_refl _) ?_; intro w6 hg6 hb6; rw [HSP.out] at hg6; have HG6 := Lib.hid hg6.out; have HB6 := Lib.hid hb6; clear hg6 hb6 k6 hmk; have hc2 := (((HB25.out.keeps HJK.out (fun e => by have := HF0L.out _ e; omega)).below HB6.out (by have := HB5.out.size; have := HSZ5.out; have := HSZ4.out; have := HSZ4'.out; have := HJK.out.size; omega)).cell 0).trans rfl; have hcS := ((HJS.out.below HB6.out HJS.out.lt).cell 0).trans rfl)
    have hmid : s.mid room side b = (s.writeAll (newList room o b (takesOf n))).2.write ((0 : Nat) : Int) (rootB o n) := by unfold DS.mid; rw [← HO.out, HLEN.out]; rfl
    have hwk := (writeAll_writes (newList room o b (takesOf n)) s).1
    rw [newList_len] at hwk
    have HMID := Lib.hid hmid
    clear hmid
    have ht600 : takesOf n ≤ 600 := by unfold takesOf; omega
    refine (SWrite_any w6 (Grown F0 w5) S room (s.writeAll (newList room o b (takesOf n))).2 0 (some ⟨W.heap.size, 0, none⟩) 32 32 (rootB o n) D (by have := HWR.out; omega) (HJ.out.below HB6.out) hcS (Rd.of_blk HG6.out 32 rfl)).mono ?_
    rintro e w7 ⟨rfl, hs7, hk7, hf7, hb7⟩
    have HK6 := Lib.hid (HJK.out.trans (Keeps.of_below (F := fun _ => False) HB6.out) (fun _ _ e => e.elim))
    have HSW6 := Lib.hid (HK6.out.size)
    have HK7 := Lib.hid (HK6.out.trans hk7 (fun i hi e => by rcases e with e | e; exact e; omega))
    have HJ7 := Lib.hid (hs7.weaken (G := Grown F0 w5) (fun i e => by rcases e with e | e; exact e; exact Or.inr (Nat.le_trans HSW6.out e)))
    have hd7 : w7.heap[M]? = some (.deferred (some [])) := hf7.same M _ (Nat.zero_le _) ((HB6.out.block M (lt_of_get HD.out)).trans HD.out) rfl
    have HD7 := Lib.hid hd7; have HB7 := Lib.hid hb7
    have HWK := Lib.hid (Nat.le_trans (write_writes (s.writeAll (newList room o b (takesOf n))).2 ((0 : Nat) : Int) (rootB o n)).1 (Nat.succ_le_succ hwk))
    clear hs7 hk7 hf7 hd7 hc2 hcS hb7
    obtain ⟨er, st, hws⟩ : ∃ er st, (s.writeAll (newList room o b (takesOf n))).2.write ((0 : Nat) : Int) (rootB o n) = (er, st) := ⟨_, _, rfl⟩
    rw [hws] at HJ7 HMID HWK ⊢
    clear hws
    have HB47 := Lib.hid (HB45.out.keeps HK7.out fun e => by have := HF0L.out _ e; omega)
    by_cases her : er = 0
    · subst her
      have kt : w7.cell? ⟨R5, 1, none⟩ = some (.int .i64 (kept.length : Int)) := ((HT5.out.keeps HK7.out fun e => by have := HF0L.out _ e; have := HSZ4'.out; omega).cell 1).trans rfl
      go_wp2_with (go_at_call 38; refine (takes_any kept.length w7 (by have := HOK.out.small; omega)).mono ?_; rintro e w8 ⟨rfl, rfl⟩)
      obtain ⟨T, hT⟩ : ∃ T, T = takesOf kept.length := ⟨_, rfl⟩
      rw [← hT]
      have hT2 : T ≤ 512 := by rw [hT]; exact Nat.le_trans HOK.out.fits HOK.out.roomLe
      have HTT := Lib.hid hT
      clear hT kt
      go_loopw [13, 14, 80] (fun _ _ q wr => ∃ j : Nat, j ≤ T ∧ q = .int .i64 (j : Int) ∧ SlotIs wr (Grown F0 w5) S room (st.writeAll (oldList room side j)).2 ∧ Blk wr S 71 #[.pointer (some ⟨D, 0, none⟩), .int .i64 (room : Int)] ∧ Keeps F0 w5 wr ∧ (st.writeAll (oldList room side j)).1 = 0 ∧ wr.heap[M]? = some (.deferred (some []))) (fun _ _ q _ => T - (intOf q).toNat)
      case atStart => exact ⟨0, by omega, rfl, HJ7.out, HB7.out, HK7.out, rfl, HD7.out⟩
      case round =>
        obtain ⟨j, hj, rfl, hsl, hsr, hkr, hzr, hdr⟩ := hrel
        by_cases hjT : j < T
        · have hjT' : (j : Int) < (T : Int) := by omega
          have HSL := Lib.hid hsl; have HSR := Lib.hid hsr; have HKR := Lib.hid hkr; have HZR := Lib.hid hzr; have HDR := Lib.hid hdr
          have hc2 : ∀ X, Keeps F0 w5 X → X.cell? ⟨w.heap.size, 0, none⟩ = some (.pointer (some ⟨S, 0, none⟩)) := fun X hX => ((HB25.out.keeps hX fun e => by have := HF0L.out _ e; omega).cell 0).trans rfl
          have hc5 : ∀ X, Keeps F0 w5 X → X.cell? ⟨R5, 0, none⟩ = some (.int .i64 (side : Int)) := fun X hX => ((HT5.out.keeps hX fun e => by have := HF0L.out _ e; have := HSZ4'.out; omega).cell 0).trans rfl
          have HCC := Lib.hid (fun X hX hS' => ⟨hc2 X hX, hS', hc5 X hX⟩ : ∀ X, Keeps F0 w5 X → X.cell? ⟨S, 0, none⟩ = some (.pointer (some ⟨D, 0, none⟩)) → SaveE w.heap.size S D R5 side X)
          have HCW := Lib.hid (HCC.out wr.drew HKR.out.drew ((HSR.out.cell 0).trans rfl))
          have HCA := Lib.hid (HCC.out (wr.drew.alloc (.cells (zero32.map B8).toArray 5)) (HKR.out.drew.alloc _) ((HSR.out.drew.alloc _).cell 0))
          clear hsl hsr hkr hzr hdr hc2 hc5
          have hrm := HOK.out.roomLe
          have hsd := HOK.out.sideLe
          have hwj := (writeAll_writes (oldList room side j) st).1
          rw [oldList_len] at hwj
          go_wp2_with fail
          refine wp_region_anyN (SaveE w.heap.size S D R5 side) (by kernel_rfl) ?_
          refine anyC_takes (by kernel_rfl) (fun _ _ _ _ _ h => h) [0, 1, 2, 3, 4, 5, 6, 7] 4 _ _ (by kernel_rfl) ?_
          simp only [List.filterMap_cons, List.filterMap_nil, List.getElem?_toArray, List.getElem?_cons_succ, List.getElem?_cons_zero]
          show wpQuiet _ _ _ _ (_ :: _ :: _ :: _ :: _ :: _ :: _ :: _ :: List.nil) _
          repeat (first | go_big_quiet_skip | (go_big_quiet_want; first | (refine quiet_load _ _ rfl ⟨w.heap.size, 0, none⟩ rfl _ (fun X hX => hX.1) (fun _ => by kernel_rfl) ?_; simp only [Act.put, List.setIfInBounds_toArray, List.set_cons_succ, List.set_cons_zero]; go_big_quiet_on) | (refine quiet_load _ _ rfl ⟨S, 0, none⟩ rfl _ (fun X hX => hX.2.1) (fun _ => by kernel_rfl) ?_; simp only [Act.put, List.setIfInBounds_toArray, List.set_cons_succ, List.set_cons_zero]; go_big_quiet_on) | (refine quiet_load _ _ rfl ⟨R5, 0, none⟩ rfl _ (fun X hX => hX.2.2) (fun _ => by kernel_rfl) ?_; simp only [Act.put, List.setIfInBounds_toArray, List.set_cons_succ, List.set_cons_zero]; go_big_quiet_on) | (go_big_quiet_op; first | go_big_quiet_on | (refine ⟨_, fun _ _ => rfl, ?_⟩; go_big_quiet_on))))
          refine wpQuiet_nil ?_
          refine anyC_two (i := 8) (j := 9) rfl rfl (by kernel_rfl) HCW.out ?_ ?_
          · go_wp2_with fail
            refine (block_any S D room side j wr.drew hrm (by omega) (by omega) HSR.out.drew).mono ?_
            rintro e w8 ⟨rfl, rfl⟩
            go_wp2_with fail
            refine anyC_only (i := 9) rfl (by kernel_rfl) HCW.out ?_
            have hmk := HMK.out
            go_wp2_with fail
            clear hmk
            refine anyC_only (i := 10) rfl (by kernel_rfl) (HCC.out _ (HKR.out.drew.alloc _) ((HSR.out.drew.alloc _).cell 0)) ?_
            go_wp2_with fail
            refine (SWrite_any _ (Grown F0 w5) S room (st.writeAll (oldList room side j)).2 (1 + side * room + j) (some ⟨wr.heap.size, 0, none⟩) 32 32 zero32 D (by have := HWR.out; have := HWK.out; omega) ((HSL.out.below (Below.refl _ _).drew).below ((Below.refl _ _).alloc (Nat.le_refl _) _)) ((HSR.out.drew.alloc _).cell 0) ((Rd.new_ wr.drew zero32 _ rfl 32 (by rw [zero32_len])).more (by simp))).mono ?_
            rintro e w9 ⟨rfl, hs9, hk9, hf9, hb9⟩
            have hkA : Keeps F0 w5 (wr.drew.alloc (.cells (zero32.map B8).toArray 5)) := HKR.out.drew.alloc _
            have HK9 := Lib.hid (hkA.trans hk9 (fun i hi e => by rcases e with e | e; exact e; omega))
            have HJ9 := Lib.hid (hs9.weaken (G := Grown F0 w5) (fun i e => by rcases e with e | e; exact e; exact Or.inr (by have := HKR.out.size; simp at e; omega)))
            have HD9 := Lib.hid (hf9.same M _ (Nat.zero_le _) ((((Below.refl wr.heap.size wr.drew).alloc (Nat.le_refl _) (.cells (zero32.map B8).toArray 5)).block M (lt_of_get HDR.out)).trans HDR.out) rfl)
            have HB9 := Lib.hid hb9
            have HC9 := Lib.hid (HCC.out w9 HK9.out ((hb9.cell 0).trans rfl))
            clear hs9 hk9 hf9 hb9 hkA
            obtain ⟨e9, s9, hws9⟩ : ∃ e9 s9, (st.writeAll (oldList room side j)).2.write ((1 + side * room + j : Nat) : Int) zero32 = (e9, s9) := ⟨_, _, rfl⟩
            rw [hws9] at HJ9 ⊢
            have HW9 := Lib.hid hws9
            clear hws9
            go_wp2_with fail
            refine anyC_takes (by kernel_rfl) (fun _ _ _ _ _ h => h) [11] 0 _ _ (by kernel_rfl) ?_
            simp only [List.filterMap_cons, List.filterMap_nil, List.getElem?_toArray, List.getElem?_cons_succ, List.getElem?_cons_zero]
            show wpQuiet _ _ _ _ (_ :: List.nil) _
            repeat (first | go_big_quiet_skip | (go_big_quiet_want; first | (fail; simp only [Act.put, List.setIfInBounds_toArray, List.set_cons_succ, List.set_cons_zero]; go_big_quiet_on) | (go_big_quiet_op; first | go_big_quiet_on | (refine ⟨_, fun _ _ => rfl, ?_⟩; go_big_quiet_on))))
            refine wpQuiet_nil ?_
            refine ⟨HC9.out, by kernel_rfl, ?_⟩
            have HB49 := Lib.hid (HB45.out.keeps HK9.out fun e => by have := HF0L.out _ e; omega)
            by_cases he9 : e9 = 0
            · subst he9
              go_wp2_with fail
              go_roundw
              case rel =>
                refine ⟨j + 1, hjT, by go_num, ?_, HB9.out, HK9.out, ?_, HD9.out⟩
                · rw [old_step HZR.out, HW9.out]; exact HJ9.out
                · rw [old_step HZR.out, HW9.out]
              case measure => simp [intOf]; omega
            · have k4 : w9.cell? ⟨w.heap.size + 1, 0, none⟩ = some (.int .i64 0) := HB49.out.cell 0
              have f4 : w9.frozen? ⟨w.heap.size + 1, 0, none⟩ = false := HB49.out.frozen 0
              have HER := Lib.hid he9
              go_wp2_with fail
              have hsv : s.save room side kept b = (e9, s9) := by
                rw [save_mid_ok (by rw [HLEN.out]; exact HFIT.out) (by rw [HLEN.out, ← HO.out]; exact HJ0.out) (by rw [HMID.out]), HMID.out, ← HTT.out, save_old_no hjT HZR.out (by rw [HW9.out]; exact HER.out), HW9.out]
              rw [hsv]
              refine save_leaves (w5 := w5) (F0 := F0) (M := M) rfl HF0F.out HF0L.out HB5.out (by have := HSZ5.out; have := HSZ4.out; have := HSZ4'.out; omega) ?_ ?_ ?_ HM.out ?_ (fun X' h1 h2 => ⟨rfl, h1, h2⟩)
              · refine HJ9.out.keeps ((Keeps.refl (fun k => k = w.heap.size + 1) w9).setCell (p := ⟨w.heap.size + 1, 0, none⟩) rfl _) fun i e e2 => ?_
                rcases e with e | e
                · have := HF0L.out _ e; omega
                · have := HSZ5.out; have := HSZ4.out; have := HSZ4'.out; omega
              · exact (HK9.out.weaken (F' := fun k => F0 k ∨ k = w.heap.size + 1) (fun _ _ e => Or.inl e)).setCell (p := ⟨w.heap.size + 1, 0, none⟩) (Or.inr rfl) _
              · exact ((HB49.out.set_ 0 (.int .i64 e9)).cell 0).trans rfl
              · exact (KeepsOthers.setCell w9 _ _).same M _ HD9.out rfl
          · have hmk := HMK.out
            go_wp2_with fail
            clear hmk
            refine anyC_only (i := 8) rfl (by kernel_rfl) HCA.out ?_
            go_wp2_with fail
            refine (block_any S D room side j _ hrm (by omega) (by omega) (HSR.out.drew.alloc _)).mono ?_
            rintro e w8 ⟨rfl, rfl⟩
            go_wp2_with fail
            refine anyC_only (i := 10) rfl (by kernel_rfl) (HCC.out _ (HKR.out.drew.alloc _) ((HSR.out.drew.alloc _).cell 0)) ?_
            go_wp2_with fail
            refine (SWrite_any _ (Grown F0 w5) S room (st.writeAll (oldList room side j)).2 (1 + side * room + j) (some ⟨wr.heap.size, 0, none⟩) 32 32 zero32 D (by have := HWR.out; have := HWK.out; omega) ((HSL.out.below (Below.refl _ _).drew).below ((Below.refl _ _).alloc (Nat.le_refl _) _)) ((HSR.out.drew.alloc _).cell 0) ((Rd.new_ wr.drew zero32 _ rfl 32 (by rw [zero32_len])).more (by simp))).mono ?_
            rintro e w9 ⟨rfl, hs9, hk9, hf9, hb9⟩
            have hkA : Keeps F0 w5 (wr.drew.alloc (.cells (zero32.map B8).toArray 5)) := HKR.out.drew.alloc _
            have HK9 := Lib.hid (hkA.trans hk9 (fun i hi e => by rcases e with e | e; exact e; omega))
            have HJ9 := Lib.hid (hs9.weaken (G := Grown F0 w5) (fun i e => by rcases e with e | e; exact e; exact Or.inr (by have := HKR.out.size; simp at e; omega)))
            have HD9 := Lib.hid (hf9.same M _ (Nat.zero_le _) ((((Below.refl wr.heap.size wr.drew).alloc (Nat.le_refl _) (.cells (zero32.map B8).toArray 5)).block M (lt_of_get HDR.out)).trans HDR.out) rfl)
            have HB9 := Lib.hid hb9
            have HC9 := Lib.hid (HCC.out w9 HK9.out ((hb9.cell 0).trans rfl))
            clear hs9 hk9 hf9 hb9 hkA
            obtain ⟨e9, s9, hws9⟩ : ∃ e9 s9, (st.writeAll (oldList room side j)).2.write ((1 + side * room + j : Nat) : Int) zero32 = (e9, s9) := ⟨_, _, rfl⟩
            rw [hws9] at HJ9 ⊢
            have HW9 := Lib.hid hws9
            clear hws9
            go_wp2_with fail
            refine anyC_takes (by kernel_rfl) (fun _ _ _ _ _ h => h) [11] 0 _ _ (by kernel_rfl) ?_
            simp only [List.filterMap_cons, List.filterMap_nil, List.getElem?_toArray, List.getElem?_cons_succ, List.getElem?_cons_zero]
            show wpQuiet _ _ _ _ (_ :: List.nil) _
            repeat (first | go_big_quiet_skip | (go_big_quiet_want; first | (fail; simp only [Act.put, List.setIfInBounds_toArray, List.set_cons_succ, List.set_cons_zero]; go_big_quiet_on) | (go_big_quiet_op; first | go_big_quiet_on | (refine ⟨_, fun _ _ => rfl, ?_⟩; go_big_quiet_on))))
            refine wpQuiet_nil ?_
            refine ⟨HC9.out, by kernel_rfl, ?_⟩
            have HB49 := Lib.hid (HB45.out.keeps HK9.out fun e => by have := HF0L.out _ e; omega)
            by_cases he9 : e9 = 0
            · subst he9
              go_wp2_with fail
              go_roundw
              case rel =>
                refine ⟨j + 1, hjT, by go_num, ?_, HB9.out, HK9.out, ?_, HD9.out⟩
                · rw [old_step HZR.out, HW9.out]; exact HJ9.out
                · rw [old_step HZR.out, HW9.out]
              case measure => simp [intOf]; omega
            · have k4 : w9.cell? ⟨w.heap.size + 1, 0, none⟩ = some (.int .i64 0) := HB49.out.cell 0
              have f4 : w9.frozen? ⟨w.heap.size + 1, 0, none⟩ = false := HB49.out.frozen 0
              have HER := Lib.hid he9
              go_wp2_with fail
              have hsv : s.save room side kept b = (e9, s9) := by
                rw [save_mid_ok (by rw [HLEN.out]; exact HFIT.out) (by rw [HLEN.out, ← HO.out]; exact HJ0.out) (by rw [HMID.out]), HMID.out, ← HTT.out, save_old_no hjT HZR.out (by rw [HW9.out]; exact HER.out), HW9.out]
              rw [hsv]
              refine save_leaves (w5 := w5) (F0 := F0) (M := M) rfl HF0F.out HF0L.out HB5.out (by have := HSZ5.out; have := HSZ4.out; have := HSZ4'.out; omega) ?_ ?_ ?_ HM.out ?_ (fun X' h1 h2 => ⟨rfl, h1, h2⟩)
              · refine HJ9.out.keeps ((Keeps.refl (fun k => k = w.heap.size + 1) w9).setCell (p := ⟨w.heap.size + 1, 0, none⟩) rfl _) fun i e e2 => ?_
                rcases e with e | e
                · have := HF0L.out _ e; omega
                · have := HSZ5.out; have := HSZ4.out; have := HSZ4'.out; omega
              · exact (HK9.out.weaken (F' := fun k => F0 k ∨ k = w.heap.size + 1) (fun _ _ e => Or.inl e)).setCell (p := ⟨w.heap.size + 1, 0, none⟩) (Or.inr rfl) _
              · exact ((HB49.out.set_ 0 (.int .i64 e9)).cell 0).trans rfl
              · exact (KeepsOthers.setCell w9 _ _).same M _ HD9.out rfl
        · obtain rfl : j = T := by omega
          have HB48 := Lib.hid (HB45.out.keeps hkr fun e => by have := HF0L.out _ e; omega)
          have k4 : wr.cell? ⟨w.heap.size + 1, 0, none⟩ = some (.int .i64 0) := HB48.out.cell 0
          have f4 : wr.frozen? ⟨w.heap.size + 1, 0, none⟩ = false := HB48.out.frozen 0
          have HSL := Lib.hid hsl; have HKR := Lib.hid hkr; have HZR := Lib.hid hzr; have HDR := Lib.hid hdr
          clear hsl hkr hzr hdr
          go_wp2_with fail
          have hsv : s.save room side kept b = (0, (st.writeAll (oldList room side j)).2) := by
            rw [save_mid_ok (by rw [HLEN.out]; exact HFIT.out) (by rw [HLEN.out, ← HO.out]; exact HJ0.out) (by rw [HMID.out]), HMID.out, ← HTT.out]
            exact Prod.ext HZR.out rfl
          rw [hsv]
          refine save_leaves (w5 := w5) (F0 := F0) (M := M) rfl HF0F.out HF0L.out HB5.out (by have := HSZ5.out; have := HSZ4.out; have := HSZ4'.out; omega) ?_ ?_ ?_ HM.out ?_ (fun X' h1 h2 => ⟨rfl, h1, h2⟩)
          · refine HSL.out.keeps ((Keeps.refl (fun k => k = w.heap.size + 1) wr).setCell (p := ⟨w.heap.size + 1, 0, none⟩) rfl _) fun i e e2 => ?_
            rcases e with e | e
            · have := HF0L.out _ e; omega
            · have := HSZ5.out; have := HSZ4.out; have := HSZ4'.out; omega
          · exact (HKR.out.weaken (F' := fun k => F0 k ∨ k = w.heap.size + 1) (fun _ _ e => Or.inl e)).setCell (p := ⟨w.heap.size + 1, 0, none⟩) (Or.inr rfl) _
          · exact ((HB48.out.set_ 0 (.int .i64 0)).cell 0).trans rfl
          · exact (KeepsOthers.setCell wr _ _).same M _ HDR.out rfl
    · have k4 : w7.cell? ⟨w.heap.size + 1, 0, none⟩ = some (.int .i64 0) := HB47.out.cell 0
      have f4 : w7.frozen? ⟨w.heap.size + 1, 0, none⟩ = false := HB47.out.frozen 0
      have HER := Lib.hid her
      go_wp2_with fail
      have hsv : s.save room side kept b = (er, st) := by
        rw [← HMID.out]
        refine save_mid_no (by rw [HLEN.out]; exact HFIT.out) (by rw [HLEN.out, ← HO.out]; exact HJ0.out) ?_
        rw [HMID.out]
        exact HER.out
      rw [hsv]
      refine save_leaves (w5 := w5) (F0 := F0) (M := M) rfl HF0F.out HF0L.out HB5.out (by have := HSZ5.out; have := HSZ4.out; have := HSZ4'.out; omega) ?_ ?_ ?_ HM.out ?_ (fun X' h1 h2 => ⟨rfl, h1, h2⟩)
      · refine HJ7.out.keeps ((Keeps.refl (fun k => k = w.heap.size + 1) w7).setCell (p := ⟨w.heap.size + 1, 0, none⟩) rfl _) fun i e e2 => ?_
        rcases e with e | e
        · have := HF0L.out _ e; omega
        · have := HSZ5.out; have := HSZ4.out; have := HSZ4'.out; omega
      · exact (HK7.out.weaken (F' := fun k => F0 k ∨ k = w.heap.size + 1) (fun _ _ e => Or.inl e)).setCell (p := ⟨w.heap.size + 1, 0, none⟩) (Or.inr rfl) _
      · exact ((HB47.out.set_ 0 (.int .i64 er)).cell 0).trans rfl
      · exact (KeepsOthers.setCell w7 _ _).same M _ HD7.out rfl
  · rintro M W hM ⟨h1, h2, h3⟩ hD
    refine wpIn_ret ?_
    exact save_leaves (w5 := w5) (F0 := F0) (M := M) rfl HF0F.out HF0L.out HB5.out (by have := HSZ5.out; have := HSZ4.out; have := HSZ4'.out; omega) h1 h2 h3 hM hD (fun X' h1 h2 => ⟨rfl, h1, h2⟩)
end Go.Proofs.Ytpdihggdopdolaa
