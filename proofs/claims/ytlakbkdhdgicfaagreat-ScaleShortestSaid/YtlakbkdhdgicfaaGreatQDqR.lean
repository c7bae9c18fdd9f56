import Derived.Test.YtlakbkdhdgicfaaGreatQDqQ
import Derived.Test.YtlakbkdhdgicfaaGreatQDqM
import Derived.Test.YtlakbkdhdgicfaaGreatQVA
import Derived.Test.YtlakbkdhdgicfaaGreatQVB
import Derived.Test.YtlakbkdhdgicfaaGreatQVC
import Derived.Test.YtlakbkdhdgicfaaGreatQVD
import Derived.Test.YtlakbkdhdgicfaaGreatQVE
namespace Go.Ab
open Go Go.Proofs
set_option linter.unusedVariables false
set_option linter.unusedSimpArgs false
set_option maxRecDepth 100000
set_option maxHeartbeats 1000000
theorem lD {α:Type} (l:List α):List.take l.length (List.drop 0 l)=l:=by simp
theorem IM (T:List Tk):aB (T.map aF)=true:=nD _ (fun _=>rfl) T
theorem yA (T:List Tk) (i:Nat) (t:Tk):(T.map aF).set i (aF t)=(T.set i t).map aF:=by rw [List.map_set]
def isZ (T:List Tk) (a:Int):Prop:=0≤a∧a < T.length
instance (T:List Tk) (a:Int):Decidable (isZ T a):=inferInstanceAs (Decidable (0≤a∧a < T.length))
theorem Mc (T:List Tk) (hT:T.length≤1000):EC Tryz.prog G78 [] [.r (T.map aF)] fun x rs vs=>x=0∧vs=[]∧rs=[T.map aF]:=by
 refine E78 fun _ _=>?_
 rw [List.length_map]
 refine ⟨fun h=>⟨rfl,rfl,?_⟩,by omega,by omega,IM T,rfl,rfl,rfl⟩
 obtain rfl:T=[]:=List.length_eq_zero_iff.1 (by omega)
 rfl
section
variable {c0 c1 c2 c3 c5:Int} {M K C L:List Int} {T:List Tk}
end
def t30:Tk:=⟨1,1,10,10,0,0,[⟨3,0,0⟩,⟨1,5,0⟩,⟨4,0,0⟩]⟩
end Go.Ab
