import Derived.Test.YtlakbkdhdgicfaaGreatQDqR
import Derived.Test.YtlakbkdhdgicfaaGreatQVA
import Derived.Test.YtlakbkdhdgicfaaGreatQVB
import Derived.Test.YtlakbkdhdgicfaaGreatQVC
import Derived.Test.YtlakbkdhdgicfaaGreatQVD
import Derived.Test.YtlakbkdhdgicfaaGreatQS
import Derived.Test.YtlakbkdhdgicfaaGreatLayE
namespace Go.Ab
open Go Go.Proofs
set_option linter.unusedVariables false
set_option linter.unusedSimpArgs false
set_option maxRecDepth 100000
set_option maxHeartbeats 1000000
theorem wf8 {n : Int} (h : (Lit.int .u8 n).wf = true) : 0 ≤ n ∧ n ≤ 255 := by
 simp only [Lit.wf, Bool.and_eq_true, decide_eq_true_eq] at h
 have e1 : IntKind.min .u8 = 0 := rfl
 have e2 : IntKind.max .u8 = 255 := rfl
 rw [e1, e2] at h; exact h
section
variable {c0 c1 c2 c3 c5 : Int} {M K C L : List Int} {T : List Tk}
end
end Go.Ab
