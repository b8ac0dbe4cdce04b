/- BookNone as its row hands it. No conditions. -/
import Derived.Test.YtlabebapjhhkaaaLaw19n
import Derived.Test.YtlabebapjhhkaaaCloseK
namespace Go.Proofs.Ytlabebapjhhkaaa
open Go.RowKit
theorem BookNone_law (q : OpP) (w : World) (_h : q.Ok w w.heap.size) : Calls Try.prog 6 #[.agg q.arr] w fun e w' => e = .returned (.bool true) ∧ Below w.heap.size w w' := BookNone_any w q.o q.A q.c
end Go.Proofs.Ytlabebapjhhkaaa
