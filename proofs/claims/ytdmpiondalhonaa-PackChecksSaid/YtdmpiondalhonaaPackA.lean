/- The document's calls of law 44. -/
import Derived.Test.YtdmpiondalhonaaPkS
import Derived.Test.YtdmpiondalhonaaAbZk
namespace Go.Ab
open Go Go.Proofs
theorem fixed44 : EC Try.prog G32 [] [] fun x rs vs => x = 0 ∧ rs = [] ∧ vs = [.b true] := EC.closedK mixed TT_at noKn (n := 100000) (by kernel_rfl)
end Go.Ab
