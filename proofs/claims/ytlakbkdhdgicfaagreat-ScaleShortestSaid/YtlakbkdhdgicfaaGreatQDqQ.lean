import Derived.Test.YtlakbkdhdgicfaaGreatQDqL
import Derived.Test.YtlakbkdhdgicfaaGreatQDqI
import Derived.Test.YtlakbkdhdgicfaaGreatQVA
import Derived.Test.YtlakbkdhdgicfaaGreatQVB
import Derived.Test.YtlakbkdhdgicfaaGreatQVC
import Derived.Test.YtlakbkdhdgicfaaGreatQVD
import Derived.Test.YtlakbkdhdgicfaaGreatQVE
namespace Go.Ab
open Go Go.Proofs
set_option linter.unusedVariables false
set_option linter.unusedSimpArgs false
set_option maxRecDepth 100000
set_option maxHeartbeats 1000000
def t28 (d:Int):Tk:=⟨1,1,10,d,4,0,[⟨1,5,0⟩]⟩
section
variable {c0 c1 c2 c3 c5:Int} {M K C L:List Int} {T:List Tk}
theorem DK (hT:T.length≤maxLen):EC Tryz.prog G15 [] [.i c0,.i c1,.i c2,.i c3,.r (ints M),.i c5,.r (ints K),.r (ints C),.r (T.map aF),.r (ints L)] fun x rs vs=>x=0∧rs=[]∧∃ b,vs=[.b b]∧(b=true→M.length≤20∧K.length≤20∧C.length≤20∧T.length≤20∧L.length≤20∧∀ t∈T,t.pg.length≤80):=by
 have hT':T.length≤9223372036854775807:=hT
 refine E15 fun EV V=>?_
 rw [List.length_map]
 have no:∀ {p:Prop},(0:Nat)=0∧([]:Rs)=[]∧∃ b,[Lf.b false]=[.b b]∧(b=true→p):=⟨rfl,rfl,false,rfl,fun h=>by cases h⟩
 have loop:∀ d m:Nat,m + d=T.length→(∀ i,i < m→(tk T i).pg.length≤80)→EV 7 [] [.r (T.map aF),.i (T.length:Int),.i (m:Int),.i c0,.i c1,.i c2,.i c3,.r (ints M),.i c5,.r (ints K),.r (ints C),.r (T.map aF),.r (ints L)]:=by
  intro d
  induction d with
  | zero =>
   intro m hm hi
   obtain rfl:m=T.length:=by omega
   refine V.p7 ⟨fun h=>by omega,fun _=>?_⟩
   rw [ints_length M,ints_length K,ints_length C,ints_length L,List.length_map]
   refine ⟨fun q0=>⟨fun q1=>⟨fun q2=>⟨fun q3=>⟨rfl,rfl,_,rfl,fun h=>?_⟩,fun _=>no⟩,fun _=>no⟩,fun _=>no⟩,fun _=>no⟩
   have q4:(L.length:Int)≤20:=of_decide_eq_true h
   exact ⟨by omega,by omega,by omega,by omega,by omega,mV.2 hi⟩
  | succ d ih =>
   intro m hm hi
   have hlt:m < T.length:=by omega
   refine V.p7 ⟨fun _=>⟨by omega,aW hlt,fun _=>no,fun h=>?_⟩,fun h=>by omega⟩
   rw [Int.toNat_natCast,tk6,List.length_map] at h
   rw [wrap64 (by omega) (by omega),show (m:Int) + 1=((m + 1:Nat):Int) by omega]
   refine ih (m + 1) (by omega) fun i hi2=>?_
   by_cases e:i=m
   ·subst e;omega
   ·exact hi i (by omega)
 exact loop T.length 0 (by omega) fun i hi=>by omega
theorem JU (hT:T.length≤maxLen):EC Tryz.prog G20 [] [.i c0,.i c1,.i c2,.i c3,.r (ints M),.i c5,.r (ints K),.r (ints C),.r (T.map aF),.r (ints L)] fun x rs vs=>x=0∧rs=[]∧∃ b,vs=[.b b]∧(b=true→∀ t∈T,t.pe≤1500∧t.pg.length≤30):=by
 have hT':T.length≤9223372036854775807:=hT
 refine E20 fun EV V=>?_
 rw [List.length_map]
 have no:∀ {p:Prop},(0:Nat)=0∧([]:Rs)=[]∧∃ b,[Lf.b false]=[.b b]∧(b=true→p):=⟨rfl,rfl,false,rfl,fun h=>by cases h⟩
 have loop:∀ d m:Nat,m + d=T.length→(∀ i,i < m→(tk T i).pe≤1500∧(tk T i).pg.length≤30)→EV 7 [] [.r (T.map aF),.i (T.length:Int),.i (m:Int)]:=by
  intro d
  induction d with
  | zero =>
   intro m hm hi
   obtain rfl:m=T.length:=by omega
   exact V.p7 ⟨fun h=>by omega,fun _=>⟨rfl,rfl,_,rfl,fun _=>mV.2 hi⟩⟩
  | succ d ih =>
   intro m hm hi
   have hlt:m < T.length:=by omega
   refine V.p7 ⟨fun _=>⟨by omega,aW hlt,fun h1=>⟨fun _=>no,fun h=>?_⟩,fun _=>no⟩,fun h=>by omega⟩
   rw [Int.toNat_natCast,tk6,List.length_map] at h
   rw [Int.toNat_natCast,tk2] at h1
   rw [wrap64 (by omega) (by omega),show (m:Int) + 1=((m + 1:Nat):Int) by omega]
   refine ih (m + 1) (by omega) fun i hi2=>?_
   by_cases e:i=m
   ·subst e;exact ⟨h1,by omega⟩
   ·exact hi i (by omega)
 exact loop T.length 0 (by omega) fun i hi=>by omega
end
end Go.Ab
