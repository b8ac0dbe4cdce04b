/-
  No cell of these rows narrows 'for every input' (looked for: loops, veiled, ifaces, maps, wideKeys, modest, calm, conditions, laid).
  DERIVED. THE GIVEN ROWS OF THIS SEAT. 9 by the template 'for every input the law returns true; each argument reads behind the call as it read before'; 0 by the template 'total and deterministic' (their statements: YtobponlakldplaaTotals.lean).
  GIVEN WITH THE SEED: the statements are not yours to turn. If you find one false, say at which input.
  Laid BY PROGRAM, IN A SANDBOX (cutbox-rows.mjs): the forced cells as the released guide's own fill.sh prints them over the translation 92219ea4f72440f0… (all of the seat's roots in one cut). By AI agents, Wed Nov 11 2026. No macro, syntax, notation, axiom, sorry.
-/
import Derived.Test.YtobponlakldplaaChecked
import GoSem.Claim
import GoSem.ClaimJoined
import GoSem.ClaimMapViews
import Derived.JoinedTies
import Derived.KernelRfl
namespace Go.Proofs.Ytobponlakldplaa
/- THE CELL 'sum', in the pinned program and in every row, IS THE sha256 OF THE DUMP (.gsa) THAT YtobponlakldplaaProg.lean LOADS. Nothing in Lean hashes anything: it is a label: what it is worth is what the hold of that sum in a sandbox is worth. -/
noncomputable def Try.pinned : Pinned := { name := "ytobponlakldplaa", sum := "92219ea4f72440f03d55c568dbe6ae646b17b6614ee7deb52ecdc4074ae82327", checked := Try.checked }
namespace Rows
def none {H : Type} : Left H := { results := [], args := [] }

/-- 'shamrocklaw12.WordWrites': WHATEVER THE INPUT: true; the input reads as it did. -/
def wordWritesSpec : ChangeSpec := { name := "wordWrites", fn := fun _ => fun
  | [d] => { results := [.lit (.bool true)], args := [d] }
  | _ => none }
def wordWritesRow : OpenClaim := { program := "ytobponlakldplaa", sum := "92219ea4f72440f03d55c568dbe6ae646b17b6614ee7deb52ecdc4074ae82327", func := "shamrock/shamrocklaw12.WordWrites", spec := "wordWrites", apart := false }
def WordWritesSaid : Prop := wordWritesRow.holds Try.pinned (OpenSpec.ofChange wordWritesSpec)

/-- ITS FALSE NEIGHBOUR: 'it returns false'. Refute it at one input. -/
def wordWritesWrong : ChangeSpec := { name := "wordWrites", fn := fun _ => fun
  | [d] => { results := [.lit (.bool false)], args := [d] }
  | _ => none }
def WordWritesWrongFalsely : Prop := wordWritesRow.holds Try.pinned (OpenSpec.ofChange wordWritesWrong)

/-- 'shamrocklaw12.WordReads': WHATEVER THE INPUT: true; the input reads as it did. -/
def wordReadsSpec : ChangeSpec := { name := "wordReads", fn := fun _ => fun
  | [d1, d2] => { results := [.lit (.bool true)], args := [d1, d2] }
  | _ => none }
def wordReadsRow : OpenClaim := { program := "ytobponlakldplaa", sum := "92219ea4f72440f03d55c568dbe6ae646b17b6614ee7deb52ecdc4074ae82327", func := "shamrock/shamrocklaw12.WordReads", spec := "wordReads", apart := false }
def WordReadsSaid : Prop := wordReadsRow.holds Try.pinned (OpenSpec.ofChange wordReadsSpec)

/-- ITS FALSE NEIGHBOUR: 'it returns false'. Refute it at one input. -/
def wordReadsWrong : ChangeSpec := { name := "wordReads", fn := fun _ => fun
  | [d1, d2] => { results := [.lit (.bool false)], args := [d1, d2] }
  | _ => none }
def WordReadsWrongFalsely : Prop := wordReadsRow.holds Try.pinned (OpenSpec.ofChange wordReadsWrong)

/-- 'shamrocklaw12.WordNone': WHATEVER THE INPUT: true; the input reads as it did. -/
def wordNoneSpec : ChangeSpec := { name := "wordNone", fn := fun _ => fun
  | [d1, d2] => { results := [.lit (.bool true)], args := [d1, d2] }
  | _ => none }
def wordNoneRow : OpenClaim := { program := "ytobponlakldplaa", sum := "92219ea4f72440f03d55c568dbe6ae646b17b6614ee7deb52ecdc4074ae82327", func := "shamrock/shamrocklaw12.WordNone", spec := "wordNone", apart := false }
def WordNoneSaid : Prop := wordNoneRow.holds Try.pinned (OpenSpec.ofChange wordNoneSpec)

/-- ITS FALSE NEIGHBOUR: 'it returns false'. Refute it at one input. -/
def wordNoneWrong : ChangeSpec := { name := "wordNone", fn := fun _ => fun
  | [d1, d2] => { results := [.lit (.bool false)], args := [d1, d2] }
  | _ => none }
def WordNoneWrongFalsely : Prop := wordNoneRow.holds Try.pinned (OpenSpec.ofChange wordNoneWrong)

/-- 'shamrocklaw12.WordBad': WHATEVER THE INPUT: true; the input reads as it did. -/
def wordBadSpec : ChangeSpec := { name := "wordBad", fn := fun _ => fun
  | [d1, d2, d3] => { results := [.lit (.bool true)], args := [d1, d2, d3] }
  | _ => none }
def wordBadRow : OpenClaim := { program := "ytobponlakldplaa", sum := "92219ea4f72440f03d55c568dbe6ae646b17b6614ee7deb52ecdc4074ae82327", func := "shamrock/shamrocklaw12.WordBad", spec := "wordBad", apart := false }
def WordBadSaid : Prop := wordBadRow.holds Try.pinned (OpenSpec.ofChange wordBadSpec)

/-- ITS FALSE NEIGHBOUR: 'it returns false'. Refute it at one input. -/
def wordBadWrong : ChangeSpec := { name := "wordBad", fn := fun _ => fun
  | [d1, d2, d3] => { results := [.lit (.bool false)], args := [d1, d2, d3] }
  | _ => none }
def WordBadWrongFalsely : Prop := wordBadRow.holds Try.pinned (OpenSpec.ofChange wordBadWrong)

/-- 'shamrocklaw13.WireWrites': WHATEVER THE INPUT: true; the input reads as it did. -/
def wireWritesSpec : ChangeSpec := { name := "wireWrites", fn := fun _ => fun
  | [d] => { results := [.lit (.bool true)], args := [d] }
  | _ => none }
def wireWritesRow : OpenClaim := { program := "ytobponlakldplaa", sum := "92219ea4f72440f03d55c568dbe6ae646b17b6614ee7deb52ecdc4074ae82327", func := "shamrock/shamrocklaw13.WireWrites", spec := "wireWrites", apart := false }
def WireWritesSaid : Prop := wireWritesRow.holds Try.pinned (OpenSpec.ofChange wireWritesSpec)

/-- ITS FALSE NEIGHBOUR: 'it returns false'. Refute it at one input. -/
def wireWritesWrong : ChangeSpec := { name := "wireWrites", fn := fun _ => fun
  | [d] => { results := [.lit (.bool false)], args := [d] }
  | _ => none }
def WireWritesWrongFalsely : Prop := wireWritesRow.holds Try.pinned (OpenSpec.ofChange wireWritesWrong)

/-- 'shamrocklaw13.WireReads': WHATEVER THE INPUT: true; the input reads as it did. -/
def wireReadsSpec : ChangeSpec := { name := "wireReads", fn := fun _ => fun
  | [d] => { results := [.lit (.bool true)], args := [d] }
  | _ => none }
def wireReadsRow : OpenClaim := { program := "ytobponlakldplaa", sum := "92219ea4f72440f03d55c568dbe6ae646b17b6614ee7deb52ecdc4074ae82327", func := "shamrock/shamrocklaw13.WireReads", spec := "wireReads", apart := false }
def WireReadsSaid : Prop := wireReadsRow.holds Try.pinned (OpenSpec.ofChange wireReadsSpec)

/-- ITS FALSE NEIGHBOUR: 'it returns false'. Refute it at one input. -/
def wireReadsWrong : ChangeSpec := { name := "wireReads", fn := fun _ => fun
  | [d] => { results := [.lit (.bool false)], args := [d] }
  | _ => none }
def WireReadsWrongFalsely : Prop := wireReadsRow.holds Try.pinned (OpenSpec.ofChange wireReadsWrong)

/-- 'shamrocklaw13.WireShort': WHATEVER THE INPUT: true; the input reads as it did. -/
def wireShortSpec : ChangeSpec := { name := "wireShort", fn := fun _ => fun
  | [d1, d2, d3] => { results := [.lit (.bool true)], args := [d1, d2, d3] }
  | _ => none }
def wireShortRow : OpenClaim := { program := "ytobponlakldplaa", sum := "92219ea4f72440f03d55c568dbe6ae646b17b6614ee7deb52ecdc4074ae82327", func := "shamrock/shamrocklaw13.WireShort", spec := "wireShort", apart := false }
def WireShortSaid : Prop := wireShortRow.holds Try.pinned (OpenSpec.ofChange wireShortSpec)

/-- ITS FALSE NEIGHBOUR: 'it returns false'. Refute it at one input. -/
def wireShortWrong : ChangeSpec := { name := "wireShort", fn := fun _ => fun
  | [d1, d2, d3] => { results := [.lit (.bool false)], args := [d1, d2, d3] }
  | _ => none }
def WireShortWrongFalsely : Prop := wireShortRow.holds Try.pinned (OpenSpec.ofChange wireShortWrong)

/-- 'shamrocklaw13.WireUnlike': WHATEVER THE INPUT: true; the input reads as it did. -/
def wireUnlikeSpec : ChangeSpec := { name := "wireUnlike", fn := fun _ => fun
  | [d1, d2] => { results := [.lit (.bool true)], args := [d1, d2] }
  | _ => none }
def wireUnlikeRow : OpenClaim := { program := "ytobponlakldplaa", sum := "92219ea4f72440f03d55c568dbe6ae646b17b6614ee7deb52ecdc4074ae82327", func := "shamrock/shamrocklaw13.WireUnlike", spec := "wireUnlike", apart := false }
def WireUnlikeSaid : Prop := wireUnlikeRow.holds Try.pinned (OpenSpec.ofChange wireUnlikeSpec)

/-- ITS FALSE NEIGHBOUR: 'it returns false'. Refute it at one input. -/
def wireUnlikeWrong : ChangeSpec := { name := "wireUnlike", fn := fun _ => fun
  | [d1, d2] => { results := [.lit (.bool false)], args := [d1, d2] }
  | _ => none }
def WireUnlikeWrongFalsely : Prop := wireUnlikeRow.holds Try.pinned (OpenSpec.ofChange wireUnlikeWrong)

/-- 'shamrocklaw13.WireOwn': WHATEVER THE INPUT: true; the input reads as it did. -/
def wireOwnSpec : ChangeSpec := { name := "wireOwn", fn := fun _ => fun
  | [d] => { results := [.lit (.bool true)], args := [d] }
  | _ => none }
def wireOwnRow : OpenClaim := { program := "ytobponlakldplaa", sum := "92219ea4f72440f03d55c568dbe6ae646b17b6614ee7deb52ecdc4074ae82327", func := "shamrock/shamrocklaw13.WireOwn", spec := "wireOwn", apart := false }
def WireOwnSaid : Prop := wireOwnRow.holds Try.pinned (OpenSpec.ofChange wireOwnSpec)

/-- ITS FALSE NEIGHBOUR: 'it returns false'. Refute it at one input. -/
def wireOwnWrong : ChangeSpec := { name := "wireOwn", fn := fun _ => fun
  | [d] => { results := [.lit (.bool false)], args := [d] }
  | _ => none }
def WireOwnWrongFalsely : Prop := wireOwnRow.holds Try.pinned (OpenSpec.ofChange wireOwnWrong)

/- THE SECOND FORM. 'bulk': how many values and letters a reading holds, each counted each time it is reached (what is shared counts as often as it is met; a slice's spare places count too). A statement '..UptoSaid' is the law's where the arguments, and the package variables that the reading takes, are together of bulk at most 1048576: NARROWER than '..Said'. Prove '..Said' where nothing that the law and all that it calls make is longer than what came in: it says more and counts as full. Else prove '..UptoSaid'. A law counts once. -/
mutual
def uptoBulk {H : Type} : DataW H → Nat
  | .lit (.string bytes) => bytes.length + 1
  | .lit _ => 1
  | .nil => 1
  | .ptr d => uptoBulk d + 1
  | .slice elems spare => uptoBulkAll elems + uptoBulkAll spare + 1
  | .agg parts => uptoBulkAll parts + 1
  | .iface _ d => uptoBulk d + 1
  | .map entries => uptoBulkEntries entries + 1
  | .held _ => 1
def uptoBulkAll {H : Type} : List (DataW H) → Nat
  | [] => 0
  | d :: r => uptoBulk d + uptoBulkAll r
def uptoBulkEntries {H : Type} : List (Lit × DataW H) → Nat
  | [] => 0
  | x :: r => uptoBulkEntry x + uptoBulkEntries r
def uptoBulkEntry {H : Type} : Lit × DataW H → Nat
  | (.string bytes, d) => bytes.length + uptoBulk d + 1
  | (_, d) => uptoBulk d + 1
 end
def uptoSmall : (H : Type) → List (DataW H) → Bool := fun _ ds => decide (uptoBulkAll ds ≤ 1048576)
def OpenSpec.upto (s : _root_.Go.ChangeSpec) : _root_.Go.OpenSpec := { _root_.Go.OpenSpec.ofChange s with cond := some uptoSmall }

/-- 'shamrocklaw12.WordWrites', WHERE WHAT IT READS IS OF BULK AT MOST 1048576: true; the input reads as it did. -/
def wordWritesUptoRow : OpenClaim := { program := "ytobponlakldplaa", sum := "92219ea4f72440f03d55c568dbe6ae646b17b6614ee7deb52ecdc4074ae82327", func := "shamrock/shamrocklaw12.WordWrites", spec := "wordWrites", apart := false, narrowed := true }
def WordWritesUptoSaid : Prop := wordWritesUptoRow.holds Try.pinned (OpenSpec.upto wordWritesSpec)

/-- 'shamrocklaw12.WordReads', WHERE WHAT IT READS IS OF BULK AT MOST 1048576: true; the input reads as it did. -/
def wordReadsUptoRow : OpenClaim := { program := "ytobponlakldplaa", sum := "92219ea4f72440f03d55c568dbe6ae646b17b6614ee7deb52ecdc4074ae82327", func := "shamrock/shamrocklaw12.WordReads", spec := "wordReads", apart := false, narrowed := true }
def WordReadsUptoSaid : Prop := wordReadsUptoRow.holds Try.pinned (OpenSpec.upto wordReadsSpec)

/-- 'shamrocklaw12.WordNone', WHERE WHAT IT READS IS OF BULK AT MOST 1048576: true; the input reads as it did. -/
def wordNoneUptoRow : OpenClaim := { program := "ytobponlakldplaa", sum := "92219ea4f72440f03d55c568dbe6ae646b17b6614ee7deb52ecdc4074ae82327", func := "shamrock/shamrocklaw12.WordNone", spec := "wordNone", apart := false, narrowed := true }
def WordNoneUptoSaid : Prop := wordNoneUptoRow.holds Try.pinned (OpenSpec.upto wordNoneSpec)

/-- 'shamrocklaw12.WordBad', WHERE WHAT IT READS IS OF BULK AT MOST 1048576: true; the input reads as it did. -/
def wordBadUptoRow : OpenClaim := { program := "ytobponlakldplaa", sum := "92219ea4f72440f03d55c568dbe6ae646b17b6614ee7deb52ecdc4074ae82327", func := "shamrock/shamrocklaw12.WordBad", spec := "wordBad", apart := false, narrowed := true }
def WordBadUptoSaid : Prop := wordBadUptoRow.holds Try.pinned (OpenSpec.upto wordBadSpec)

/-- 'shamrocklaw13.WireWrites', WHERE WHAT IT READS IS OF BULK AT MOST 1048576: true; the input reads as it did. -/
def wireWritesUptoRow : OpenClaim := { program := "ytobponlakldplaa", sum := "92219ea4f72440f03d55c568dbe6ae646b17b6614ee7deb52ecdc4074ae82327", func := "shamrock/shamrocklaw13.WireWrites", spec := "wireWrites", apart := false, narrowed := true }
def WireWritesUptoSaid : Prop := wireWritesUptoRow.holds Try.pinned (OpenSpec.upto wireWritesSpec)

/-- 'shamrocklaw13.WireReads', WHERE WHAT IT READS IS OF BULK AT MOST 1048576: true; the input reads as it did. -/
def wireReadsUptoRow : OpenClaim := { program := "ytobponlakldplaa", sum := "92219ea4f72440f03d55c568dbe6ae646b17b6614ee7deb52ecdc4074ae82327", func := "shamrock/shamrocklaw13.WireReads", spec := "wireReads", apart := false, narrowed := true }
def WireReadsUptoSaid : Prop := wireReadsUptoRow.holds Try.pinned (OpenSpec.upto wireReadsSpec)

/-- 'shamrocklaw13.WireShort', WHERE WHAT IT READS IS OF BULK AT MOST 1048576: true; the input reads as it did. -/
def wireShortUptoRow : OpenClaim := { program := "ytobponlakldplaa", sum := "92219ea4f72440f03d55c568dbe6ae646b17b6614ee7deb52ecdc4074ae82327", func := "shamrock/shamrocklaw13.WireShort", spec := "wireShort", apart := false, narrowed := true }
def WireShortUptoSaid : Prop := wireShortUptoRow.holds Try.pinned (OpenSpec.upto wireShortSpec)

/-- 'shamrocklaw13.WireUnlike', WHERE WHAT IT READS IS OF BULK AT MOST 1048576: true; the input reads as it did. -/
def wireUnlikeUptoRow : OpenClaim := { program := "ytobponlakldplaa", sum := "92219ea4f72440f03d55c568dbe6ae646b17b6614ee7deb52ecdc4074ae82327", func := "shamrock/shamrocklaw13.WireUnlike", spec := "wireUnlike", apart := false, narrowed := true }
def WireUnlikeUptoSaid : Prop := wireUnlikeUptoRow.holds Try.pinned (OpenSpec.upto wireUnlikeSpec)

/-- 'shamrocklaw13.WireOwn', WHERE WHAT IT READS IS OF BULK AT MOST 1048576: true; the input reads as it did. -/
def wireOwnUptoRow : OpenClaim := { program := "ytobponlakldplaa", sum := "92219ea4f72440f03d55c568dbe6ae646b17b6614ee7deb52ecdc4074ae82327", func := "shamrock/shamrocklaw13.WireOwn", spec := "wireOwn", apart := false, narrowed := true }
def WireOwnUptoSaid : Prop := wireOwnUptoRow.holds Try.pinned (OpenSpec.upto wireOwnSpec)

end Rows
end Go.Proofs.Ytobponlakldplaa
