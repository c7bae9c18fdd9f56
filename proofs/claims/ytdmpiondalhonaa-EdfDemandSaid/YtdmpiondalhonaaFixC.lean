/- A call that the document fixes. -/
import Derived.Test.YtdmpiondalhonaaEdfS
import Derived.Test.YtdmpiondalhonaaAbZk
namespace Go.Ab
open Go Go.Proofs
theorem fxC : EC Try.prog G26 [] [.r [[.int .i64 0, .int .i64 2, .int .i64 1]]] fun x rs vs => x = 0 ∧ rs = [ints [0]] ∧ vs = [] := EC.reckonK mixed TT_at noKn (n := 100000) (by kernel_rfl)
end Go.Ab
