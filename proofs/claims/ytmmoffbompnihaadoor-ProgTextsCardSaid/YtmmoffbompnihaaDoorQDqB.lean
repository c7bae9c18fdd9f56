import Derived.Test.YtmmoffbompnihaaDoorQVA
import Derived.Test.YtmmoffbompnihaaDoorQPtA
namespace Go.Ab
open Go Go.Proofs
set_option linter.unusedVariables false
set_option linter.unusedSimpArgs false
set_option maxRecDepth 100000
set_option maxHeartbeats 1000000
abbrev NSt := Int × Int × List Int
def s0 : NSt := (0, 0, [])
end Go.Ab
