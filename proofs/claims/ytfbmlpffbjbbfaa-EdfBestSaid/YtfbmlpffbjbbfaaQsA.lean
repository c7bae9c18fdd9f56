import Derived.Test.YtfbmlpffbjbbfaaQS
import Derived.Test.YtfbmlpffbjbbfaaLayG
namespace Go.Ab
open Go Go.Proofs
theorem fixed22 : EC Try.prog G4 [] [] fun x rs vs => x = 0 ∧ rs = [] ∧ vs = [.b true] := EC.closedK mixed TT_at noKn (n := 100000) (by kernel_rfl)
end Go.Ab
