/- The calls that the document fixes. -/
import Derived.Test.YtdmpiondalhonaaEdS
import Derived.Test.YtdmpiondalhonaaAbZk
namespace Go.Ab
open Go Go.Proofs
theorem fixed22 : EC Try.prog G22 [] [] fun x rs vs => x = 0 ∧ rs = [] ∧ vs = [.b true] := EC.closedK mixed TT_at noKn (n := 100000) (by kernel_rfl)
end Go.Ab
