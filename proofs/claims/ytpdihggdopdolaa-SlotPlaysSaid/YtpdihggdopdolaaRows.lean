/-
  No cell of these rows narrows 'for every input' (looked for: loops, veiled, ifaces, maps, wideKeys, modest, calm, conditions, laid).
  DERIVED. THE GIVEN ROWS OF THIS SEAT. 9 by the template 'for every input the law returns true; each argument reads behind the call as it read before'; 0 by the template 'total and deterministic' (their statements: YtpdihggdopdolaaTotals.lean).
  GIVEN WITH THE SEED: the statements are not yours to turn. If you find one false, say at which input.
  Laid BY PROGRAM, IN A SANDBOX (cutbox-rows.mjs): the forced cells as the released guide's own fill.sh prints them over the translation 6dee08f026d2923e… (all of the seat's roots in one cut). By AI agents, Wed Nov 11 2026. No macro, syntax, notation, axiom, sorry.
-/
import Derived.Test.YtpdihggdopdolaaChecked
import GoSem.Claim
import GoSem.ClaimJoined
import GoSem.ClaimMapViews
import Derived.JoinedTies
import Derived.KernelRfl
namespace Go.Proofs.Ytpdihggdopdolaa
/- THE CELL 'sum', in the pinned program and in every row, IS THE sha256 OF THE DUMP (.gsa) THAT YtpdihggdopdolaaProg.lean LOADS. Nothing in Lean hashes anything: it is a label: what it is worth is what the hold of that sum in a sandbox is worth. -/
noncomputable def Try.pinned : Pinned := { name := "ytpdihggdopdolaa", sum := "6dee08f026d2923e74eba34531d0bd9f7597ebdfbef18ce06d182bd952d128c0", checked := Try.checked }
namespace Rows
def none {H : Type} : Left H := { results := [], args := [] }

/-- 'shamrocklaw14.DiskOwn': WHATEVER THE INPUT: true; the input reads as it did. -/
def diskOwnSpec : ChangeSpec := { name := "diskOwn", fn := fun _ => fun
  | [d] => { results := [.lit (.bool true)], args := [d] }
  | _ => none }
def diskOwnRow : OpenClaim := { program := "ytpdihggdopdolaa", sum := "6dee08f026d2923e74eba34531d0bd9f7597ebdfbef18ce06d182bd952d128c0", func := "shamrock/shamrocklaw14.DiskOwn", spec := "diskOwn", apart := false }
def DiskOwnSaid : Prop := diskOwnRow.holds Try.pinned (OpenSpec.ofChange diskOwnSpec)

/-- ITS FALSE NEIGHBOUR: 'it returns false'. Refute it at one input. -/
def diskOwnWrong : ChangeSpec := { name := "diskOwn", fn := fun _ => fun
  | [d] => { results := [.lit (.bool false)], args := [d] }
  | _ => none }
def DiskOwnWrongFalsely : Prop := diskOwnRow.holds Try.pinned (OpenSpec.ofChange diskOwnWrong)

/-- 'shamrocklaw14.DiskFuse': WHATEVER THE INPUT: true; the input reads as it did. -/
def diskFuseSpec : ChangeSpec := { name := "diskFuse", fn := fun _ => fun
  | [d1, d2] => { results := [.lit (.bool true)], args := [d1, d2] }
  | _ => none }
def diskFuseRow : OpenClaim := { program := "ytpdihggdopdolaa", sum := "6dee08f026d2923e74eba34531d0bd9f7597ebdfbef18ce06d182bd952d128c0", func := "shamrock/shamrocklaw14.DiskFuse", spec := "diskFuse", apart := false }
def DiskFuseSaid : Prop := diskFuseRow.holds Try.pinned (OpenSpec.ofChange diskFuseSpec)

/-- ITS FALSE NEIGHBOUR: 'it returns false'. Refute it at one input. -/
def diskFuseWrong : ChangeSpec := { name := "diskFuse", fn := fun _ => fun
  | [d1, d2] => { results := [.lit (.bool false)], args := [d1, d2] }
  | _ => none }
def DiskFuseWrongFalsely : Prop := diskFuseRow.holds Try.pinned (OpenSpec.ofChange diskFuseWrong)

/-- 'shamrocklaw14.DiskPlays': WHATEVER THE INPUT: true; the input reads as it did. -/
def diskPlaysSpec : ChangeSpec := { name := "diskPlays", fn := fun _ => fun
  | [d1, d2] => { results := [.lit (.bool true)], args := [d1, d2] }
  | _ => none }
def diskPlaysRow : OpenClaim := { program := "ytpdihggdopdolaa", sum := "6dee08f026d2923e74eba34531d0bd9f7597ebdfbef18ce06d182bd952d128c0", func := "shamrock/shamrocklaw14.DiskPlays", spec := "diskPlays", apart := false }
def DiskPlaysSaid : Prop := diskPlaysRow.holds Try.pinned (OpenSpec.ofChange diskPlaysSpec)

/-- ITS FALSE NEIGHBOUR: 'it returns false'. Refute it at one input. -/
def diskPlaysWrong : ChangeSpec := { name := "diskPlays", fn := fun _ => fun
  | [d1, d2] => { results := [.lit (.bool false)], args := [d1, d2] }
  | _ => none }
def DiskPlaysWrongFalsely : Prop := diskPlaysRow.holds Try.pinned (OpenSpec.ofChange diskPlaysWrong)

/-- 'shamrocklaw14.DiskNone': WHATEVER THE INPUT: true; the input reads as it did. -/
def diskNoneSpec : ChangeSpec := { name := "diskNone", fn := fun _ => fun
  | [d1, d2] => { results := [.lit (.bool true)], args := [d1, d2] }
  | _ => none }
def diskNoneRow : OpenClaim := { program := "ytpdihggdopdolaa", sum := "6dee08f026d2923e74eba34531d0bd9f7597ebdfbef18ce06d182bd952d128c0", func := "shamrock/shamrocklaw14.DiskNone", spec := "diskNone", apart := false }
def DiskNoneSaid : Prop := diskNoneRow.holds Try.pinned (OpenSpec.ofChange diskNoneSpec)

/-- ITS FALSE NEIGHBOUR: 'it returns false'. Refute it at one input. -/
def diskNoneWrong : ChangeSpec := { name := "diskNone", fn := fun _ => fun
  | [d1, d2] => { results := [.lit (.bool false)], args := [d1, d2] }
  | _ => none }
def DiskNoneWrongFalsely : Prop := diskNoneRow.holds Try.pinned (OpenSpec.ofChange diskNoneWrong)

/-- 'shamrocklaw15.SlotCuts': WHATEVER THE INPUT: true; the input reads as it did. -/
def slotCutsSpec : ChangeSpec := { name := "slotCuts", fn := fun _ => fun
  | [d1, d2, d3, d4, d5] => { results := [.lit (.bool true)], args := [d1, d2, d3, d4, d5] }
  | _ => none }
def slotCutsRow : OpenClaim := { program := "ytpdihggdopdolaa", sum := "6dee08f026d2923e74eba34531d0bd9f7597ebdfbef18ce06d182bd952d128c0", func := "shamrock/shamrocklaw15.SlotCuts", spec := "slotCuts", unfollowed := true, recurses := true, apart := false }
def SlotCutsSaid : Prop := slotCutsRow.holds Try.pinned (OpenSpec.ofChange slotCutsSpec)

/-- ITS FALSE NEIGHBOUR: 'it returns false'. Refute it at one input. -/
def slotCutsWrong : ChangeSpec := { name := "slotCuts", fn := fun _ => fun
  | [d1, d2, d3, d4, d5] => { results := [.lit (.bool false)], args := [d1, d2, d3, d4, d5] }
  | _ => none }
def SlotCutsWrongFalsely : Prop := slotCutsRow.holds Try.pinned (OpenSpec.ofChange slotCutsWrong)

/-- 'shamrocklaw15.SlotWrites': WHATEVER THE INPUT: true; the input reads as it did. -/
def slotWritesSpec : ChangeSpec := { name := "slotWrites", fn := fun _ => fun
  | [d1, d2, d3] => { results := [.lit (.bool true)], args := [d1, d2, d3] }
  | _ => none }
def slotWritesRow : OpenClaim := { program := "ytpdihggdopdolaa", sum := "6dee08f026d2923e74eba34531d0bd9f7597ebdfbef18ce06d182bd952d128c0", func := "shamrock/shamrocklaw15.SlotWrites", spec := "slotWrites", unfollowed := true, recurses := true, apart := false }
def SlotWritesSaid : Prop := slotWritesRow.holds Try.pinned (OpenSpec.ofChange slotWritesSpec)

/-- ITS FALSE NEIGHBOUR: 'it returns false'. Refute it at one input. -/
def slotWritesWrong : ChangeSpec := { name := "slotWrites", fn := fun _ => fun
  | [d1, d2, d3] => { results := [.lit (.bool false)], args := [d1, d2, d3] }
  | _ => none }
def SlotWritesWrongFalsely : Prop := slotWritesRow.holds Try.pinned (OpenSpec.ofChange slotWritesWrong)

/-- 'shamrocklaw15.SlotErased': WHATEVER THE INPUT: true; the input reads as it did. -/
def slotErasedSpec : ChangeSpec := { name := "slotErased", fn := fun _ => fun
  | [d1, d2] => { results := [.lit (.bool true)], args := [d1, d2] }
  | _ => none }
def slotErasedRow : OpenClaim := { program := "ytpdihggdopdolaa", sum := "6dee08f026d2923e74eba34531d0bd9f7597ebdfbef18ce06d182bd952d128c0", func := "shamrock/shamrocklaw15.SlotErased", spec := "slotErased", unfollowed := true, recurses := true, apart := false }
def SlotErasedSaid : Prop := slotErasedRow.holds Try.pinned (OpenSpec.ofChange slotErasedSpec)

/-- ITS FALSE NEIGHBOUR: 'it returns false'. Refute it at one input. -/
def slotErasedWrong : ChangeSpec := { name := "slotErased", fn := fun _ => fun
  | [d1, d2] => { results := [.lit (.bool false)], args := [d1, d2] }
  | _ => none }
def SlotErasedWrongFalsely : Prop := slotErasedRow.holds Try.pinned (OpenSpec.ofChange slotErasedWrong)

/-- 'shamrocklaw15.SlotPlays': WHATEVER THE INPUT: true; the input reads as it did. -/
def slotPlaysSpec : ChangeSpec := { name := "slotPlays", fn := fun _ => fun
  | [d1, d2] => { results := [.lit (.bool true)], args := [d1, d2] }
  | _ => none }
def slotPlaysRow : OpenClaim := { program := "ytpdihggdopdolaa", sum := "6dee08f026d2923e74eba34531d0bd9f7597ebdfbef18ce06d182bd952d128c0", func := "shamrock/shamrocklaw15.SlotPlays", spec := "slotPlays", unfollowed := true, recurses := true, apart := false }
def SlotPlaysSaid : Prop := slotPlaysRow.holds Try.pinned (OpenSpec.ofChange slotPlaysSpec)

/-- ITS FALSE NEIGHBOUR: 'it returns false'. Refute it at one input. -/
def slotPlaysWrong : ChangeSpec := { name := "slotPlays", fn := fun _ => fun
  | [d1, d2] => { results := [.lit (.bool false)], args := [d1, d2] }
  | _ => none }
def SlotPlaysWrongFalsely : Prop := slotPlaysRow.holds Try.pinned (OpenSpec.ofChange slotPlaysWrong)

/-- 'shamrocklaw15.SlotNone': WHATEVER THE INPUT: true; the input reads as it did. -/
def slotNoneSpec : ChangeSpec := { name := "slotNone", fn := fun _ => fun
  | [d1, d2] => { results := [.lit (.bool true)], args := [d1, d2] }
  | _ => none }
def slotNoneRow : OpenClaim := { program := "ytpdihggdopdolaa", sum := "6dee08f026d2923e74eba34531d0bd9f7597ebdfbef18ce06d182bd952d128c0", func := "shamrock/shamrocklaw15.SlotNone", spec := "slotNone", unfollowed := true, recurses := true, apart := false }
def SlotNoneSaid : Prop := slotNoneRow.holds Try.pinned (OpenSpec.ofChange slotNoneSpec)

/-- ITS FALSE NEIGHBOUR: 'it returns false'. Refute it at one input. -/
def slotNoneWrong : ChangeSpec := { name := "slotNone", fn := fun _ => fun
  | [d1, d2] => { results := [.lit (.bool false)], args := [d1, d2] }
  | _ => none }
def SlotNoneWrongFalsely : Prop := slotNoneRow.holds Try.pinned (OpenSpec.ofChange slotNoneWrong)

/- THE SECOND FORM. 'bulk': how many values and letters a reading holds, each counted each time it is reached (what is shared counts as often as it is met; a slice's spare places count too). A statement '..UptoSaid' is the law's where the arguments, and the package variables that the reading takes, are together of bulk at most 1048576: NARROWER than '..Said'. Prove '..Said' where nothing that the law and all that it calls make is longer than what came in: it says more and counts as full. Else prove '..UptoSaid'. A law counts once. -/
mutual
def uptoBulk {H : Type} : DataW H → Nat
  | .lit (.string bytes) => bytes.length + 1
  | .lit _ => 1
  | .nil => 1
  | .ptr d => uptoBulk d + 1
  | .slice elems spare => uptoBulkAll elems + uptoBulkAll spare + 1
  | .agg parts => uptoBulkAll parts + 1
  | .iface _ d => uptoBulk d + 1
  | .map entries => uptoBulkEntries entries + 1
  | .held _ => 1
def uptoBulkAll {H : Type} : List (DataW H) → Nat
  | [] => 0
  | d :: r => uptoBulk d + uptoBulkAll r
def uptoBulkEntries {H : Type} : List (Lit × DataW H) → Nat
  | [] => 0
  | x :: r => uptoBulkEntry x + uptoBulkEntries r
def uptoBulkEntry {H : Type} : Lit × DataW H → Nat
  | (.string bytes, d) => bytes.length + uptoBulk d + 1
  | (_, d) => uptoBulk d + 1
 end
def uptoSmall : (H : Type) → List (DataW H) → Bool := fun _ ds => decide (uptoBulkAll ds ≤ 1048576)
def OpenSpec.upto (s : _root_.Go.ChangeSpec) : _root_.Go.OpenSpec := { _root_.Go.OpenSpec.ofChange s with cond := some uptoSmall }

/-- 'shamrocklaw14.DiskOwn', WHERE WHAT IT READS IS OF BULK AT MOST 1048576: true; the input reads as it did. -/
def diskOwnUptoRow : OpenClaim := { program := "ytpdihggdopdolaa", sum := "6dee08f026d2923e74eba34531d0bd9f7597ebdfbef18ce06d182bd952d128c0", func := "shamrock/shamrocklaw14.DiskOwn", spec := "diskOwn", apart := false, narrowed := true }
def DiskOwnUptoSaid : Prop := diskOwnUptoRow.holds Try.pinned (OpenSpec.upto diskOwnSpec)

/-- 'shamrocklaw14.DiskFuse', WHERE WHAT IT READS IS OF BULK AT MOST 1048576: true; the input reads as it did. -/
def diskFuseUptoRow : OpenClaim := { program := "ytpdihggdopdolaa", sum := "6dee08f026d2923e74eba34531d0bd9f7597ebdfbef18ce06d182bd952d128c0", func := "shamrock/shamrocklaw14.DiskFuse", spec := "diskFuse", apart := false, narrowed := true }
def DiskFuseUptoSaid : Prop := diskFuseUptoRow.holds Try.pinned (OpenSpec.upto diskFuseSpec)

/-- 'shamrocklaw14.DiskPlays', WHERE WHAT IT READS IS OF BULK AT MOST 1048576: true; the input reads as it did. -/
def diskPlaysUptoRow : OpenClaim := { program := "ytpdihggdopdolaa", sum := "6dee08f026d2923e74eba34531d0bd9f7597ebdfbef18ce06d182bd952d128c0", func := "shamrock/shamrocklaw14.DiskPlays", spec := "diskPlays", apart := false, narrowed := true }
def DiskPlaysUptoSaid : Prop := diskPlaysUptoRow.holds Try.pinned (OpenSpec.upto diskPlaysSpec)

/-- 'shamrocklaw14.DiskNone', WHERE WHAT IT READS IS OF BULK AT MOST 1048576: true; the input reads as it did. -/
def diskNoneUptoRow : OpenClaim := { program := "ytpdihggdopdolaa", sum := "6dee08f026d2923e74eba34531d0bd9f7597ebdfbef18ce06d182bd952d128c0", func := "shamrock/shamrocklaw14.DiskNone", spec := "diskNone", apart := false, narrowed := true }
def DiskNoneUptoSaid : Prop := diskNoneUptoRow.holds Try.pinned (OpenSpec.upto diskNoneSpec)

/-- 'shamrocklaw15.SlotCuts', WHERE WHAT IT READS IS OF BULK AT MOST 1048576: true; the input reads as it did. -/
def slotCutsUptoRow : OpenClaim := { program := "ytpdihggdopdolaa", sum := "6dee08f026d2923e74eba34531d0bd9f7597ebdfbef18ce06d182bd952d128c0", func := "shamrock/shamrocklaw15.SlotCuts", spec := "slotCuts", unfollowed := true, recurses := true, apart := false, narrowed := true }
def SlotCutsUptoSaid : Prop := slotCutsUptoRow.holds Try.pinned (OpenSpec.upto slotCutsSpec)

/-- 'shamrocklaw15.SlotWrites', WHERE WHAT IT READS IS OF BULK AT MOST 1048576: true; the input reads as it did. -/
def slotWritesUptoRow : OpenClaim := { program := "ytpdihggdopdolaa", sum := "6dee08f026d2923e74eba34531d0bd9f7597ebdfbef18ce06d182bd952d128c0", func := "shamrock/shamrocklaw15.SlotWrites", spec := "slotWrites", unfollowed := true, recurses := true, apart := false, narrowed := true }
def SlotWritesUptoSaid : Prop := slotWritesUptoRow.holds Try.pinned (OpenSpec.upto slotWritesSpec)

/-- 'shamrocklaw15.SlotErased', WHERE WHAT IT READS IS OF BULK AT MOST 1048576: true; the input reads as it did. -/
def slotErasedUptoRow : OpenClaim := { program := "ytpdihggdopdolaa", sum := "6dee08f026d2923e74eba34531d0bd9f7597ebdfbef18ce06d182bd952d128c0", func := "shamrock/shamrocklaw15.SlotErased", spec := "slotErased", unfollowed := true, recurses := true, apart := false, narrowed := true }
def SlotErasedUptoSaid : Prop := slotErasedUptoRow.holds Try.pinned (OpenSpec.upto slotErasedSpec)

/-- 'shamrocklaw15.SlotPlays', WHERE WHAT IT READS IS OF BULK AT MOST 1048576: true; the input reads as it did. -/
def slotPlaysUptoRow : OpenClaim := { program := "ytpdihggdopdolaa", sum := "6dee08f026d2923e74eba34531d0bd9f7597ebdfbef18ce06d182bd952d128c0", func := "shamrock/shamrocklaw15.SlotPlays", spec := "slotPlays", unfollowed := true, recurses := true, apart := false, narrowed := true }
def SlotPlaysUptoSaid : Prop := slotPlaysUptoRow.holds Try.pinned (OpenSpec.upto slotPlaysSpec)

/-- 'shamrocklaw15.SlotNone', WHERE WHAT IT READS IS OF BULK AT MOST 1048576: true; the input reads as it did. -/
def slotNoneUptoRow : OpenClaim := { program := "ytpdihggdopdolaa", sum := "6dee08f026d2923e74eba34531d0bd9f7597ebdfbef18ce06d182bd952d128c0", func := "shamrock/shamrocklaw15.SlotNone", spec := "slotNone", unfollowed := true, recurses := true, apart := false, narrowed := true }
def SlotNoneUptoSaid : Prop := slotNoneUptoRow.holds Try.pinned (OpenSpec.upto slotNoneSpec)

end Rows
end Go.Proofs.Ytpdihggdopdolaa
