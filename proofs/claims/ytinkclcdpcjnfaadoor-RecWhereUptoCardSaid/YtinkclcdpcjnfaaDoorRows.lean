/-
  NARROWER THAN 'FOR EVERY INPUT', by the rows' own cells (each row's printed sentence says how): RecStates: laid · RecBooks: laid · RecReads: laid · RecTags: laid · RecUnlike: laid · RecWhere: laid.
  DERIVED. THE GIVEN ROWS OF THIS SEAT. 6 by the template 'for every input the law returns true; each argument reads behind the call as it read before'; 0 by the template 'total and deterministic' (their statements: YtinkclcdpcjnfaaDoorTotals.lean).
  GIVEN WITH THE SEED: the statements are not yours to turn. If you find one false, say at which input.
  Laid BY PROGRAM, IN A SANDBOX (cutbox-rows.mjs): the forced cells as the released guide's own fill.sh prints them over the translation eda185eea7da0416… (all of the seat's roots in one cut). By AI agents, Wed Nov 11 2026. No macro, syntax, notation, axiom, sorry.
-/
import Derived.Test.YtinkclcdpcjnfaaDoorChecked
import GoSem.Claim
import GoSem.ClaimJoined
import GoSem.ClaimMapViews
import Derived.JoinedTies
import Derived.KernelRfl
namespace Go.Proofs.YtinkclcdpcjnfaaDoor
/- THE CELL 'sum', in the pinned program and in every row, IS THE sha256 OF THE DUMP (.gsa) THAT YtinkclcdpcjnfaaDoorProg.lean LOADS. Nothing in Lean hashes anything: it is a label: what it is worth is what the hold of that sum in a sandbox is worth. -/
noncomputable def Tryd.pinned : Pinned := { name := "ytinkclcdpcjnfaadoor", sum := "eda185eea7da04162070a19ae4250f3aaac05bf46605e25d989e6be0cd7989dd", checked := Tryd.checked }
namespace Rows
def none {H : Type} : Left H := { results := [], args := [] }

/- WHAT THE LISTED PACKAGE-LEVEL VARIABLES READ AS WHEN THE CALL BEGINS. Each datum BY PROGRAM (the guide's laid-datum.mjs) off the statement by which the dump's own 'gosem.cut.vars' lays the variable. In a bare row this is a premise. The card (YtinkclcdpcjnfaaDoorCards.lean) ties it to the program's text. -/
def laid_shamrock_sha_constants {H : Type} : DataW H := .agg [.lit (.int .u32 1116352408), .lit (.int .u32 1899447441), .lit (.int .u32 3049323471), .lit (.int .u32 3921009573), .lit (.int .u32 961987163), .lit (.int .u32 1508970993), .lit (.int .u32 2453635748), .lit (.int .u32 2870763221), .lit (.int .u32 3624381080), .lit (.int .u32 310598401), .lit (.int .u32 607225278), .lit (.int .u32 1426881987), .lit (.int .u32 1925078388), .lit (.int .u32 2162078206), .lit (.int .u32 2614888103), .lit (.int .u32 3248222580), .lit (.int .u32 3835390401), .lit (.int .u32 4022224774), .lit (.int .u32 264347078), .lit (.int .u32 604807628), .lit (.int .u32 770255983), .lit (.int .u32 1249150122), .lit (.int .u32 1555081692), .lit (.int .u32 1996064986), .lit (.int .u32 2554220882), .lit (.int .u32 2821834349), .lit (.int .u32 2952996808), .lit (.int .u32 3210313671), .lit (.int .u32 3336571891), .lit (.int .u32 3584528711), .lit (.int .u32 113926993), .lit (.int .u32 338241895), .lit (.int .u32 666307205), .lit (.int .u32 773529912), .lit (.int .u32 1294757372), .lit (.int .u32 1396182291), .lit (.int .u32 1695183700), .lit (.int .u32 1986661051), .lit (.int .u32 2177026350), .lit (.int .u32 2456956037), .lit (.int .u32 2730485921), .lit (.int .u32 2820302411), .lit (.int .u32 3259730800), .lit (.int .u32 3345764771), .lit (.int .u32 3516065817), .lit (.int .u32 3600352804), .lit (.int .u32 4094571909), .lit (.int .u32 275423344), .lit (.int .u32 430227734), .lit (.int .u32 506948616), .lit (.int .u32 659060556), .lit (.int .u32 883997877), .lit (.int .u32 958139571), .lit (.int .u32 1322822218), .lit (.int .u32 1537002063), .lit (.int .u32 1747873779), .lit (.int .u32 1955562222), .lit (.int .u32 2024104815), .lit (.int .u32 2227730452), .lit (.int .u32 2361852424), .lit (.int .u32 2428436474), .lit (.int .u32 2756734187), .lit (.int .u32 3204031479), .lit (.int .u32 3329325298)]

/-- 'shamrocklaw16.RecStates': WHATEVER THE INPUT: true; the input reads as it did. -/
def recStatesSpec : ChangeSpec := { name := "recStates", fn := fun _ => fun
  | [d] => { results := [.lit (.bool true)], args := [d] }
  | _ => none }
def recStatesRow : OpenClaim := { program := "ytinkclcdpcjnfaadoor", sum := "eda185eea7da04162070a19ae4250f3aaac05bf46605e25d989e6be0cd7989dd", func := "shamrock/shamrocklaw16.RecStates", spec := "recStates", named := ["shamrock/sha.constants"], apart := false, laid := [("shamrock/sha.constants", laid_shamrock_sha_constants)] }
def RecStatesSaid : Prop := recStatesRow.holds Tryd.pinned (OpenSpec.ofChange recStatesSpec)

/-- ITS FALSE NEIGHBOUR: 'it returns false'. Refute it at one input. -/
def recStatesWrong : ChangeSpec := { name := "recStates", fn := fun _ => fun
  | [d] => { results := [.lit (.bool false)], args := [d] }
  | _ => none }
def RecStatesWrongFalsely : Prop := recStatesRow.holds Tryd.pinned (OpenSpec.ofChange recStatesWrong)

/-- 'shamrocklaw16.RecBooks': WHATEVER THE INPUT: true; the input reads as it did. -/
def recBooksSpec : ChangeSpec := { name := "recBooks", fn := fun _ => fun
  | [d] => { results := [.lit (.bool true)], args := [d] }
  | _ => none }
def recBooksRow : OpenClaim := { program := "ytinkclcdpcjnfaadoor", sum := "eda185eea7da04162070a19ae4250f3aaac05bf46605e25d989e6be0cd7989dd", func := "shamrock/shamrocklaw16.RecBooks", spec := "recBooks", named := ["shamrock/sha.constants"], apart := false, laid := [("shamrock/sha.constants", laid_shamrock_sha_constants)] }
def RecBooksSaid : Prop := recBooksRow.holds Tryd.pinned (OpenSpec.ofChange recBooksSpec)

/-- ITS FALSE NEIGHBOUR: 'it returns false'. Refute it at one input. -/
def recBooksWrong : ChangeSpec := { name := "recBooks", fn := fun _ => fun
  | [d] => { results := [.lit (.bool false)], args := [d] }
  | _ => none }
def RecBooksWrongFalsely : Prop := recBooksRow.holds Tryd.pinned (OpenSpec.ofChange recBooksWrong)

/-- 'shamrocklaw16.RecReads': WHATEVER THE INPUT: true; the input reads as it did. -/
def recReadsSpec : ChangeSpec := { name := "recReads", fn := fun _ => fun
  | [d] => { results := [.lit (.bool true)], args := [d] }
  | _ => none }
def recReadsRow : OpenClaim := { program := "ytinkclcdpcjnfaadoor", sum := "eda185eea7da04162070a19ae4250f3aaac05bf46605e25d989e6be0cd7989dd", func := "shamrock/shamrocklaw16.RecReads", spec := "recReads", named := ["shamrock/sha.constants"], apart := false, laid := [("shamrock/sha.constants", laid_shamrock_sha_constants)] }
def RecReadsSaid : Prop := recReadsRow.holds Tryd.pinned (OpenSpec.ofChange recReadsSpec)

/-- ITS FALSE NEIGHBOUR: 'it returns false'. Refute it at one input. -/
def recReadsWrong : ChangeSpec := { name := "recReads", fn := fun _ => fun
  | [d] => { results := [.lit (.bool false)], args := [d] }
  | _ => none }
def RecReadsWrongFalsely : Prop := recReadsRow.holds Tryd.pinned (OpenSpec.ofChange recReadsWrong)

/-- 'shamrocklaw16.RecTags': WHATEVER THE INPUT: true; the input reads as it did. -/
def recTagsSpec : ChangeSpec := { name := "recTags", fn := fun _ => fun
  | [d1, d2, d3, d4] => { results := [.lit (.bool true)], args := [d1, d2, d3, d4] }
  | _ => none }
def recTagsRow : OpenClaim := { program := "ytinkclcdpcjnfaadoor", sum := "eda185eea7da04162070a19ae4250f3aaac05bf46605e25d989e6be0cd7989dd", func := "shamrock/shamrocklaw16.RecTags", spec := "recTags", named := ["shamrock/sha.constants"], apart := false, laid := [("shamrock/sha.constants", laid_shamrock_sha_constants)] }
def RecTagsSaid : Prop := recTagsRow.holds Tryd.pinned (OpenSpec.ofChange recTagsSpec)

/-- ITS FALSE NEIGHBOUR: 'it returns false'. Refute it at one input. -/
def recTagsWrong : ChangeSpec := { name := "recTags", fn := fun _ => fun
  | [d1, d2, d3, d4] => { results := [.lit (.bool false)], args := [d1, d2, d3, d4] }
  | _ => none }
def RecTagsWrongFalsely : Prop := recTagsRow.holds Tryd.pinned (OpenSpec.ofChange recTagsWrong)

/-- 'shamrocklaw16.RecUnlike': WHATEVER THE INPUT: true; the input reads as it did. -/
def recUnlikeSpec : ChangeSpec := { name := "recUnlike", fn := fun _ => fun
  | [d1, d2] => { results := [.lit (.bool true)], args := [d1, d2] }
  | _ => none }
def recUnlikeRow : OpenClaim := { program := "ytinkclcdpcjnfaadoor", sum := "eda185eea7da04162070a19ae4250f3aaac05bf46605e25d989e6be0cd7989dd", func := "shamrock/shamrocklaw16.RecUnlike", spec := "recUnlike", named := ["shamrock/sha.constants"], apart := false, laid := [("shamrock/sha.constants", laid_shamrock_sha_constants)] }
def RecUnlikeSaid : Prop := recUnlikeRow.holds Tryd.pinned (OpenSpec.ofChange recUnlikeSpec)

/-- ITS FALSE NEIGHBOUR: 'it returns false'. Refute it at one input. -/
def recUnlikeWrong : ChangeSpec := { name := "recUnlike", fn := fun _ => fun
  | [d1, d2] => { results := [.lit (.bool false)], args := [d1, d2] }
  | _ => none }
def RecUnlikeWrongFalsely : Prop := recUnlikeRow.holds Tryd.pinned (OpenSpec.ofChange recUnlikeWrong)

/-- 'shamrocklaw16.RecWhere': WHATEVER THE INPUT: true; the input reads as it did. -/
def recWhereSpec : ChangeSpec := { name := "recWhere", fn := fun _ => fun
  | [d1, d2, d3, d4] => { results := [.lit (.bool true)], args := [d1, d2, d3, d4] }
  | _ => none }
def recWhereRow : OpenClaim := { program := "ytinkclcdpcjnfaadoor", sum := "eda185eea7da04162070a19ae4250f3aaac05bf46605e25d989e6be0cd7989dd", func := "shamrock/shamrocklaw16.RecWhere", spec := "recWhere", named := ["shamrock/sha.constants"], apart := false, laid := [("shamrock/sha.constants", laid_shamrock_sha_constants)] }
def RecWhereSaid : Prop := recWhereRow.holds Tryd.pinned (OpenSpec.ofChange recWhereSpec)

/-- ITS FALSE NEIGHBOUR: 'it returns false'. Refute it at one input. -/
def recWhereWrong : ChangeSpec := { name := "recWhere", fn := fun _ => fun
  | [d1, d2, d3, d4] => { results := [.lit (.bool false)], args := [d1, d2, d3, d4] }
  | _ => none }
def RecWhereWrongFalsely : Prop := recWhereRow.holds Tryd.pinned (OpenSpec.ofChange recWhereWrong)

/- THE SECOND FORM. 'bulk': how many values and letters a reading holds, each counted each time it is reached (what is shared counts as often as it is met; a slice's spare places count too). A statement '..UptoSaid' is the law's where the arguments, and the package variables that the reading takes, are together of bulk at most 1048576: NARROWER than '..Said'. Prove '..Said' where nothing that the law and all that it calls make is longer than what came in: it says more and counts as full. Else prove '..UptoSaid'. A law counts once. -/
mutual
def uptoBulk {H : Type} : DataW H → Nat
  | .lit (.string bytes) => bytes.length + 1
  | .lit _ => 1
  | .nil => 1
  | .ptr d => uptoBulk d + 1
  | .slice elems spare => uptoBulkAll elems + uptoBulkAll spare + 1
  | .agg parts => uptoBulkAll parts + 1
  | .iface _ d => uptoBulk d + 1
  | .map entries => uptoBulkEntries entries + 1
  | .held _ => 1
def uptoBulkAll {H : Type} : List (DataW H) → Nat
  | [] => 0
  | d :: r => uptoBulk d + uptoBulkAll r
def uptoBulkEntries {H : Type} : List (Lit × DataW H) → Nat
  | [] => 0
  | x :: r => uptoBulkEntry x + uptoBulkEntries r
def uptoBulkEntry {H : Type} : Lit × DataW H → Nat
  | (.string bytes, d) => bytes.length + uptoBulk d + 1
  | (_, d) => uptoBulk d + 1
 end
def uptoSmall : (H : Type) → List (DataW H) → Bool := fun _ ds => decide (uptoBulkAll ds ≤ 1048576)
def OpenSpec.upto (s : _root_.Go.ChangeSpec) : _root_.Go.OpenSpec := { _root_.Go.OpenSpec.ofChange s with cond := some uptoSmall }

/-- 'shamrocklaw16.RecStates', WHERE WHAT IT READS IS OF BULK AT MOST 1048576: true; the input reads as it did. -/
def recStatesUptoRow : OpenClaim := { program := "ytinkclcdpcjnfaadoor", sum := "eda185eea7da04162070a19ae4250f3aaac05bf46605e25d989e6be0cd7989dd", func := "shamrock/shamrocklaw16.RecStates", spec := "recStates", named := ["shamrock/sha.constants"], apart := false, laid := [("shamrock/sha.constants", laid_shamrock_sha_constants)], narrowed := true }
def RecStatesUptoSaid : Prop := recStatesUptoRow.holds Tryd.pinned (OpenSpec.upto recStatesSpec)

/-- 'shamrocklaw16.RecBooks', WHERE WHAT IT READS IS OF BULK AT MOST 1048576: true; the input reads as it did. -/
def recBooksUptoRow : OpenClaim := { program := "ytinkclcdpcjnfaadoor", sum := "eda185eea7da04162070a19ae4250f3aaac05bf46605e25d989e6be0cd7989dd", func := "shamrock/shamrocklaw16.RecBooks", spec := "recBooks", named := ["shamrock/sha.constants"], apart := false, laid := [("shamrock/sha.constants", laid_shamrock_sha_constants)], narrowed := true }
def RecBooksUptoSaid : Prop := recBooksUptoRow.holds Tryd.pinned (OpenSpec.upto recBooksSpec)

/-- 'shamrocklaw16.RecReads', WHERE WHAT IT READS IS OF BULK AT MOST 1048576: true; the input reads as it did. -/
def recReadsUptoRow : OpenClaim := { program := "ytinkclcdpcjnfaadoor", sum := "eda185eea7da04162070a19ae4250f3aaac05bf46605e25d989e6be0cd7989dd", func := "shamrock/shamrocklaw16.RecReads", spec := "recReads", named := ["shamrock/sha.constants"], apart := false, laid := [("shamrock/sha.constants", laid_shamrock_sha_constants)], narrowed := true }
def RecReadsUptoSaid : Prop := recReadsUptoRow.holds Tryd.pinned (OpenSpec.upto recReadsSpec)

/-- 'shamrocklaw16.RecTags', WHERE WHAT IT READS IS OF BULK AT MOST 1048576: true; the input reads as it did. -/
def recTagsUptoRow : OpenClaim := { program := "ytinkclcdpcjnfaadoor", sum := "eda185eea7da04162070a19ae4250f3aaac05bf46605e25d989e6be0cd7989dd", func := "shamrock/shamrocklaw16.RecTags", spec := "recTags", named := ["shamrock/sha.constants"], apart := false, laid := [("shamrock/sha.constants", laid_shamrock_sha_constants)], narrowed := true }
def RecTagsUptoSaid : Prop := recTagsUptoRow.holds Tryd.pinned (OpenSpec.upto recTagsSpec)

/-- 'shamrocklaw16.RecUnlike', WHERE WHAT IT READS IS OF BULK AT MOST 1048576: true; the input reads as it did. -/
def recUnlikeUptoRow : OpenClaim := { program := "ytinkclcdpcjnfaadoor", sum := "eda185eea7da04162070a19ae4250f3aaac05bf46605e25d989e6be0cd7989dd", func := "shamrock/shamrocklaw16.RecUnlike", spec := "recUnlike", named := ["shamrock/sha.constants"], apart := false, laid := [("shamrock/sha.constants", laid_shamrock_sha_constants)], narrowed := true }
def RecUnlikeUptoSaid : Prop := recUnlikeUptoRow.holds Tryd.pinned (OpenSpec.upto recUnlikeSpec)

/-- 'shamrocklaw16.RecWhere', WHERE WHAT IT READS IS OF BULK AT MOST 1048576: true; the input reads as it did. -/
def recWhereUptoRow : OpenClaim := { program := "ytinkclcdpcjnfaadoor", sum := "eda185eea7da04162070a19ae4250f3aaac05bf46605e25d989e6be0cd7989dd", func := "shamrock/shamrocklaw16.RecWhere", spec := "recWhere", named := ["shamrock/sha.constants"], apart := false, laid := [("shamrock/sha.constants", laid_shamrock_sha_constants)], narrowed := true }
def RecWhereUptoSaid : Prop := recWhereUptoRow.holds Tryd.pinned (OpenSpec.upto recWhereSpec)

end Rows
end Go.Proofs.YtinkclcdpcjnfaaDoor
