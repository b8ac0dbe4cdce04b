/-
  No cell of these rows narrows 'for every input' (looked for: loops, veiled, ifaces, maps, wideKeys, modest, calm, conditions, laid).
  DERIVED. THE GIVEN ROWS OF THIS SEAT. 6 by the template 'for every input the law returns true; each argument reads behind the call as it read before'; 0 by the template 'total and deterministic' (their statements: YtlabebapjhhkaaaTotals.lean).
  GIVEN WITH THE SEED: the statements are not yours to turn. If you find one false, say at which input.
  Laid BY PROGRAM, IN A SANDBOX (cutbox-rows.mjs): the forced cells as the released guide's own fill.sh prints them over the translation 309648a0af67b2f6… (all of the seat's roots in one cut). By AI agents, Wed Nov 11 2026. No macro, syntax, notation, axiom, sorry.
-/
import Derived.Test.YtlabebapjhhkaaaChecked
import GoSem.Claim
import GoSem.ClaimJoined
import GoSem.ClaimMapViews
import Derived.JoinedTies
import Derived.KernelRfl
namespace Go.Proofs.Ytlabebapjhhkaaa
/- THE CELL 'sum', in the pinned program and in every row, IS THE sha256 OF THE DUMP (.gsa) THAT YtlabebapjhhkaaaProg.lean LOADS. Nothing in Lean hashes anything: it is a label: what it is worth is what the hold of that sum in a sandbox is worth. -/
noncomputable def Try.pinned : Pinned := { name := "ytlabebapjhhkaaa", sum := "309648a0af67b2f6a5514f0e01f3ae406bc163b241e35eac73348fd19419260b", checked := Try.checked }
namespace Rows
def none {H : Type} : Left H := { results := [], args := [] }

/-- 'shamrocklaw19.BookPlays': WHATEVER THE INPUT: true; the input reads as it did. -/
def bookPlaysSpec : ChangeSpec := { name := "bookPlays", fn := fun _ => fun
  | [d1, d2] => { results := [.lit (.bool true)], args := [d1, d2] }
  | _ => none }
def bookPlaysRow : OpenClaim := { program := "ytlabebapjhhkaaa", sum := "309648a0af67b2f6a5514f0e01f3ae406bc163b241e35eac73348fd19419260b", func := "shamrock/shamrocklaw19.BookPlays", spec := "bookPlays", inPlace := ["internal/bytealg.abigen_runtime_cmpstring", "slices.overlaps[shamrock/api.Head]"], unfollowed := true, recurses := true, apart := false }
def BookPlaysSaid : Prop := bookPlaysRow.holds Try.pinned (OpenSpec.ofChange bookPlaysSpec)

/-- ITS FALSE NEIGHBOUR: 'it returns false'. Refute it at one input. -/
def bookPlaysWrong : ChangeSpec := { name := "bookPlays", fn := fun _ => fun
  | [d1, d2] => { results := [.lit (.bool false)], args := [d1, d2] }
  | _ => none }
def BookPlaysWrongFalsely : Prop := bookPlaysRow.holds Try.pinned (OpenSpec.ofChange bookPlaysWrong)

/-- 'shamrocklaw19.BookCuts': WHATEVER THE INPUT: true; the input reads as it did. -/
def bookCutsSpec : ChangeSpec := { name := "bookCuts", fn := fun _ => fun
  | [d1, d2, d3, d4] => { results := [.lit (.bool true)], args := [d1, d2, d3, d4] }
  | _ => none }
def bookCutsRow : OpenClaim := { program := "ytlabebapjhhkaaa", sum := "309648a0af67b2f6a5514f0e01f3ae406bc163b241e35eac73348fd19419260b", func := "shamrock/shamrocklaw19.BookCuts", spec := "bookCuts", inPlace := ["internal/bytealg.abigen_runtime_cmpstring", "slices.overlaps[shamrock/api.Head]"], unfollowed := true, recurses := true, apart := false }
def BookCutsSaid : Prop := bookCutsRow.holds Try.pinned (OpenSpec.ofChange bookCutsSpec)

/-- ITS FALSE NEIGHBOUR: 'it returns false'. Refute it at one input. -/
def bookCutsWrong : ChangeSpec := { name := "bookCuts", fn := fun _ => fun
  | [d1, d2, d3, d4] => { results := [.lit (.bool false)], args := [d1, d2, d3, d4] }
  | _ => none }
def BookCutsWrongFalsely : Prop := bookCutsRow.holds Try.pinned (OpenSpec.ofChange bookCutsWrong)

/-- 'shamrocklaw19.BookRises': WHATEVER THE INPUT: true; the input reads as it did. -/
def bookRisesSpec : ChangeSpec := { name := "bookRises", fn := fun _ => fun
  | [d1, d2] => { results := [.lit (.bool true)], args := [d1, d2] }
  | _ => none }
def bookRisesRow : OpenClaim := { program := "ytlabebapjhhkaaa", sum := "309648a0af67b2f6a5514f0e01f3ae406bc163b241e35eac73348fd19419260b", func := "shamrock/shamrocklaw19.BookRises", spec := "bookRises", inPlace := ["internal/bytealg.abigen_runtime_cmpstring", "slices.overlaps[shamrock/api.Head]"], unfollowed := true, recurses := true, apart := false }
def BookRisesSaid : Prop := bookRisesRow.holds Try.pinned (OpenSpec.ofChange bookRisesSpec)

/-- ITS FALSE NEIGHBOUR: 'it returns false'. Refute it at one input. -/
def bookRisesWrong : ChangeSpec := { name := "bookRises", fn := fun _ => fun
  | [d1, d2] => { results := [.lit (.bool false)], args := [d1, d2] }
  | _ => none }
def BookRisesWrongFalsely : Prop := bookRisesRow.holds Try.pinned (OpenSpec.ofChange bookRisesWrong)

/-- 'shamrocklaw19.BookNone': WHATEVER THE INPUT: true; the input reads as it did. -/
def bookNoneSpec : ChangeSpec := { name := "bookNone", fn := fun _ => fun
  | [d] => { results := [.lit (.bool true)], args := [d] }
  | _ => none }
def bookNoneRow : OpenClaim := { program := "ytlabebapjhhkaaa", sum := "309648a0af67b2f6a5514f0e01f3ae406bc163b241e35eac73348fd19419260b", func := "shamrock/shamrocklaw19.BookNone", spec := "bookNone", inPlace := ["internal/bytealg.abigen_runtime_cmpstring", "slices.overlaps[shamrock/api.Head]"], unfollowed := true, recurses := true, apart := false }
def BookNoneSaid : Prop := bookNoneRow.holds Try.pinned (OpenSpec.ofChange bookNoneSpec)

/-- ITS FALSE NEIGHBOUR: 'it returns false'. Refute it at one input. -/
def bookNoneWrong : ChangeSpec := { name := "bookNone", fn := fun _ => fun
  | [d] => { results := [.lit (.bool false)], args := [d] }
  | _ => none }
def BookNoneWrongFalsely : Prop := bookNoneRow.holds Try.pinned (OpenSpec.ofChange bookNoneWrong)

/-- 'shamrocklaw19.BookCounts': WHATEVER THE INPUT: true; the input reads as it did. -/
def bookCountsSpec : ChangeSpec := { name := "bookCounts", fn := fun _ => fun
  | [d1, d2, d3, d4] => { results := [.lit (.bool true)], args := [d1, d2, d3, d4] }
  | _ => none }
def bookCountsRow : OpenClaim := { program := "ytlabebapjhhkaaa", sum := "309648a0af67b2f6a5514f0e01f3ae406bc163b241e35eac73348fd19419260b", func := "shamrock/shamrocklaw19.BookCounts", spec := "bookCounts", inPlace := ["internal/bytealg.abigen_runtime_cmpstring", "slices.overlaps[shamrock/api.Head]"], unfollowed := true, recurses := true, apart := false }
def BookCountsSaid : Prop := bookCountsRow.holds Try.pinned (OpenSpec.ofChange bookCountsSpec)

/-- ITS FALSE NEIGHBOUR: 'it returns false'. Refute it at one input. -/
def bookCountsWrong : ChangeSpec := { name := "bookCounts", fn := fun _ => fun
  | [d1, d2, d3, d4] => { results := [.lit (.bool false)], args := [d1, d2, d3, d4] }
  | _ => none }
def BookCountsWrongFalsely : Prop := bookCountsRow.holds Try.pinned (OpenSpec.ofChange bookCountsWrong)

/-- 'shamrocklaw19.BookSorted': WHATEVER THE INPUT: true; the input reads as it did. -/
def bookSortedSpec : ChangeSpec := { name := "bookSorted", fn := fun _ => fun
  | [d1, d2] => { results := [.lit (.bool true)], args := [d1, d2] }
  | _ => none }
def bookSortedRow : OpenClaim := { program := "ytlabebapjhhkaaa", sum := "309648a0af67b2f6a5514f0e01f3ae406bc163b241e35eac73348fd19419260b", func := "shamrock/shamrocklaw19.BookSorted", spec := "bookSorted", inPlace := ["internal/bytealg.abigen_runtime_cmpstring", "slices.overlaps[shamrock/api.Head]"], unfollowed := true, recurses := true, apart := false }
def BookSortedSaid : Prop := bookSortedRow.holds Try.pinned (OpenSpec.ofChange bookSortedSpec)

/-- ITS FALSE NEIGHBOUR: 'it returns false'. Refute it at one input. -/
def bookSortedWrong : ChangeSpec := { name := "bookSorted", fn := fun _ => fun
  | [d1, d2] => { results := [.lit (.bool false)], args := [d1, d2] }
  | _ => none }
def BookSortedWrongFalsely : Prop := bookSortedRow.holds Try.pinned (OpenSpec.ofChange bookSortedWrong)

/- THE SECOND FORM. 'bulk': how many values and letters a reading holds, each counted each time it is reached (what is shared counts as often as it is met; a slice's spare places count too). A statement '..UptoSaid' is the law's where the arguments, and the package variables that the reading takes, are together of bulk at most 1048576: NARROWER than '..Said'. Prove '..Said' where nothing that the law and all that it calls make is longer than what came in: it says more and counts as full. Else prove '..UptoSaid'. A law counts once. -/
mutual
def uptoBulk {H : Type} : DataW H → Nat
  | .lit (.string bytes) => bytes.length + 1
  | .lit _ => 1
  | .nil => 1
  | .ptr d => uptoBulk d + 1
  | .slice elems spare => uptoBulkAll elems + uptoBulkAll spare + 1
  | .agg parts => uptoBulkAll parts + 1
  | .iface _ d => uptoBulk d + 1
  | .map entries => uptoBulkEntries entries + 1
  | .held _ => 1
def uptoBulkAll {H : Type} : List (DataW H) → Nat
  | [] => 0
  | d :: r => uptoBulk d + uptoBulkAll r
def uptoBulkEntries {H : Type} : List (Lit × DataW H) → Nat
  | [] => 0
  | x :: r => uptoBulkEntry x + uptoBulkEntries r
def uptoBulkEntry {H : Type} : Lit × DataW H → Nat
  | (.string bytes, d) => bytes.length + uptoBulk d + 1
  | (_, d) => uptoBulk d + 1
 end
def uptoSmall : (H : Type) → List (DataW H) → Bool := fun _ ds => decide (uptoBulkAll ds ≤ 1048576)
def OpenSpec.upto (s : _root_.Go.ChangeSpec) : _root_.Go.OpenSpec := { _root_.Go.OpenSpec.ofChange s with cond := some uptoSmall }

/-- 'shamrocklaw19.BookPlays', WHERE WHAT IT READS IS OF BULK AT MOST 1048576: true; the input reads as it did. -/
def bookPlaysUptoRow : OpenClaim := { program := "ytlabebapjhhkaaa", sum := "309648a0af67b2f6a5514f0e01f3ae406bc163b241e35eac73348fd19419260b", func := "shamrock/shamrocklaw19.BookPlays", spec := "bookPlays", inPlace := ["internal/bytealg.abigen_runtime_cmpstring", "slices.overlaps[shamrock/api.Head]"], unfollowed := true, recurses := true, apart := false, narrowed := true }
def BookPlaysUptoSaid : Prop := bookPlaysUptoRow.holds Try.pinned (OpenSpec.upto bookPlaysSpec)

/-- 'shamrocklaw19.BookCuts', WHERE WHAT IT READS IS OF BULK AT MOST 1048576: true; the input reads as it did. -/
def bookCutsUptoRow : OpenClaim := { program := "ytlabebapjhhkaaa", sum := "309648a0af67b2f6a5514f0e01f3ae406bc163b241e35eac73348fd19419260b", func := "shamrock/shamrocklaw19.BookCuts", spec := "bookCuts", inPlace := ["internal/bytealg.abigen_runtime_cmpstring", "slices.overlaps[shamrock/api.Head]"], unfollowed := true, recurses := true, apart := false, narrowed := true }
def BookCutsUptoSaid : Prop := bookCutsUptoRow.holds Try.pinned (OpenSpec.upto bookCutsSpec)

/-- 'shamrocklaw19.BookRises', WHERE WHAT IT READS IS OF BULK AT MOST 1048576: true; the input reads as it did. -/
def bookRisesUptoRow : OpenClaim := { program := "ytlabebapjhhkaaa", sum := "309648a0af67b2f6a5514f0e01f3ae406bc163b241e35eac73348fd19419260b", func := "shamrock/shamrocklaw19.BookRises", spec := "bookRises", inPlace := ["internal/bytealg.abigen_runtime_cmpstring", "slices.overlaps[shamrock/api.Head]"], unfollowed := true, recurses := true, apart := false, narrowed := true }
def BookRisesUptoSaid : Prop := bookRisesUptoRow.holds Try.pinned (OpenSpec.upto bookRisesSpec)

/-- 'shamrocklaw19.BookNone', WHERE WHAT IT READS IS OF BULK AT MOST 1048576: true; the input reads as it did. -/
def bookNoneUptoRow : OpenClaim := { program := "ytlabebapjhhkaaa", sum := "309648a0af67b2f6a5514f0e01f3ae406bc163b241e35eac73348fd19419260b", func := "shamrock/shamrocklaw19.BookNone", spec := "bookNone", inPlace := ["internal/bytealg.abigen_runtime_cmpstring", "slices.overlaps[shamrock/api.Head]"], unfollowed := true, recurses := true, apart := false, narrowed := true }
def BookNoneUptoSaid : Prop := bookNoneUptoRow.holds Try.pinned (OpenSpec.upto bookNoneSpec)

/-- 'shamrocklaw19.BookCounts', WHERE WHAT IT READS IS OF BULK AT MOST 1048576: true; the input reads as it did. -/
def bookCountsUptoRow : OpenClaim := { program := "ytlabebapjhhkaaa", sum := "309648a0af67b2f6a5514f0e01f3ae406bc163b241e35eac73348fd19419260b", func := "shamrock/shamrocklaw19.BookCounts", spec := "bookCounts", inPlace := ["internal/bytealg.abigen_runtime_cmpstring", "slices.overlaps[shamrock/api.Head]"], unfollowed := true, recurses := true, apart := false, narrowed := true }
def BookCountsUptoSaid : Prop := bookCountsUptoRow.holds Try.pinned (OpenSpec.upto bookCountsSpec)

/-- 'shamrocklaw19.BookSorted', WHERE WHAT IT READS IS OF BULK AT MOST 1048576: true; the input reads as it did. -/
def bookSortedUptoRow : OpenClaim := { program := "ytlabebapjhhkaaa", sum := "309648a0af67b2f6a5514f0e01f3ae406bc163b241e35eac73348fd19419260b", func := "shamrock/shamrocklaw19.BookSorted", spec := "bookSorted", inPlace := ["internal/bytealg.abigen_runtime_cmpstring", "slices.overlaps[shamrock/api.Head]"], unfollowed := true, recurses := true, apart := false, narrowed := true }
def BookSortedUptoSaid : Prop := bookSortedUptoRow.holds Try.pinned (OpenSpec.upto bookSortedSpec)

end Rows
end Go.Proofs.Ytlabebapjhhkaaa
