import Derived.Test.YtmmoffbompnihaaDoorQVN
import Derived.Test.YtmmoffbompnihaaDoorQTlE
namespace Go.Ab
open Go Go.Proofs Go.Lib
set_option linter.unusedVariables false
set_option linter.unusedSimpArgs false
set_option maxRecDepth 100000
set_option maxHeartbeats 1000000
theorem delE : DelE := by
 intro L hL
 obtain ⟨x0, x1, x2, x3, x4, x5, x6, rfl⟩ : ∃ x0 x1 x2 x3 x4 x5 x6, L = [x0, x1, x2, x3, x4, x5, x6] := by
  match L, hL with
  | [x0, x1, x2, x3, x4, x5, x6], _ => exact ⟨x0, x1, x2, x3, x4, x5, x6, rfl⟩
 refine E54 fun _ _ _ => ⟨by omega, by omega, (show (2 : Int) ≤ ((7 : Nat) : Int) by decide), fun h => by omega, fun _ => ⟨by omega, (show (1 : Int) ≤ ((7 : Nat) : Int) by decide), by omega, (show (2 : Int) ≤ ((7 : Nat) : Int) by decide), (show 2 + (7 - 2) ≤ 7 by decide), (show 1 ≤ 7 by decide), (show 1 + 5 ≤ 140737488355328 by decide), (show (1 + 5) * 16 ≤ 140737488355328 by decide), (show ((6 : Nat) : Int) ≤ ((7 : Nat) : Int) by decide), (show ((7 : Nat) : Int) ≤ ((7 : Nat) : Int) by decide), (show 6 + (7 - 6) ≤ 7 by decide), rfl, rfl, rfl, rfl⟩⟩
end Go.Ab
