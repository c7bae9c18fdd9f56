/- A call that the document fixes. -/
import Derived.Test.YtdmpiondalhonaaEdfS
import Derived.Test.YtdmpiondalhonaaAbZk
namespace Go.Ab
open Go Go.Proofs
theorem fxB : EC Try.prog G27 [] [.r [[.int .i64 1, .int .i64 1, .int .i64 4]], .i 3] fun x rs vs => x = 0 ∧ rs = [ints [-1, 0, -1]] ∧ vs = [] := EC.reckonK mixed TT_at noKn (n := 100000) (by kernel_rfl)
end Go.Ab
