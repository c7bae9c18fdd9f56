import Derived.Test.YtlakbkdhdgicfaaGreatQS
import Derived.Test.YtlakbkdhdgicfaaGreatLayE
/- PRINTED BY A PROGRAM (wip/tools/vc.py, AbVc.lean): what is to be shown of each function, from place to place, and that it is enough. -/
namespace Go.Ab
open Go Go.Proofs
set_option linter.unusedVariables false
set_option linter.unusedSimpArgs false
set_option maxRecDepth 100000
set_option maxHeartbeats 0
variable {Q EV RR:EP} {A:Ar} {CE:Nat→Rs→List Lf→EP→Prop} {CK:Nat→Rs→List Lf→Cont→Prop} {Dn:Nat→List Bool→List bf→Nat→List Bool→List AV→List aj→Prop}
theorem E78 {a0:RW} (h:∀ EV,VN EV Q→((a0.length:Int)=0→Q 0 [[]] [])∧(a0.length≤140737488355328)∧((a0.length * 72)≤140737488355328)∧(aB a0=true)∧(Q 0 [a0] [])):EZ G78 [] [.r a0] Q:=by
 refine ak.en (I:=I78) (L:=L78) QD fun A hA CE CK Dn EV RR W hp=>?_
 have h:=h  EV ⟨trivial⟩
 cbv
 subst hA
 exact ⟨fun e0=>have j0:=h.1 ((ah (op:=.eql) rfl e0));⟨(An rfl (An rfl rfl)),⟨aQ,(W.q j0)⟩⟩,⟨(An h.2.1 h.2.2.1),⟨(An rfl (An rfl rfl)),⟨h.2.2.2.1,(W.q h.2.2.2.2)⟩⟩⟩⟩
end Go.Ab
