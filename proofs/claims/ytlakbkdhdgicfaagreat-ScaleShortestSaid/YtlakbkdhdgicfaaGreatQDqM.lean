import Derived.Test.YtlakbkdhdgicfaaGreatQDqL
namespace Go.Ab
open Go Go.Proofs
set_option linter.unusedVariables false
set_option linter.unusedSimpArgs false
set_option maxRecDepth 100000
set_option maxHeartbeats 1000000
theorem qL {level:Int} {f g:Nat→Int × Int}:∀ {l:List Nat} {n m b d:Int},(∀ i∈l,((g i).1 < level→(f i).1 < level)∧0≤(f i).2∧(f i).2≤(g i).2)→0≤n→n≤m→b≤d→jO level (l.map f) n b≤jO level (l.map g) m d
 | [],n,m,b,d,_,_,_,hb=>hb
 | i::l,n,m,b,d,h,h0,hn,hb=>by
  obtain ⟨h1,h2,h3⟩:=h i (by simp)
  have ht:∀ j∈l,((g j).1 < level→(f j).1 < level)∧0≤(f j).2∧(f j).2≤(g j).2:=fun j hj=>h j (by simp [hj])
  show jO level ((f i)::l.map f) n b≤jO level ((g i)::l.map g) m d
  rw [show f i=((f i).1,(f i).2) from rfl,show g i=((g i).1,(g i).2) from rfl]
  simp only [jO]
  by_cases hg:(g i).1 < level
  ·rw [if_pos hg,if_pos (h1 hg)]
   exact qL ht (Int.le_refl 0) (Int.le_refl 0) hb
  ·rw [if_neg hg]
   by_cases hf:(f i).1 < level
   ·rw [if_pos hf]
    exact qL ht (Int.le_refl 0) (by omega) (by omega)
   ·rw [if_neg hf]
    exact qL ht (by omega) (by omega) (by omega)
def upd (T:List Tk) (i:Nat) (t:Tk):List Tk:=T.set i t
theorem BO (T:List Tk) (i:Nat) (t:Tk):(T.set i t).length=T.length:=by simp
theorem jl {T:List Tk} {i:Nat} (t:Tk) (hi:i < T.length) (j:Nat):tk (T.set i t) j=if i=j then t else tk T j:=by
 unfold tk
 rw [List.getD_eq_getElem?_getD,List.getD_eq_getElem?_getD,List.getElem?_set]
 by_cases h:i=j
 ·rw [if_pos h,if_pos h,if_pos (by omega)];rfl
 ·rw [if_neg h,if_neg h]
theorem sJ {T:List Tk} {q:Tk→Prop} {i:Nat} {t:Tk} (hi:i < T.length):(∀ s∈T.set i t,q s)↔q t∧∀ j,j < T.length→j≠i→q (tk T j):=by
 rw [mV,BO]
 constructor
 ·intro h
  refine ⟨?_,fun j hj hne=>?_⟩
  ·have:=h i hi;rwa [jl t hi,if_pos rfl] at this
  ·have:=h j hj;rwa [jl t hi,if_neg (fun e=>hne e.symm)] at this
 ·rintro ⟨h1,h2⟩ j hj
  rw [jl t hi]
  by_cases e:i=j
  ·rw [if_pos e];exact h1
  ·rw [if_neg e];exact h2 j hj fun g=>e g.symm
theorem Es.rfl' {C:List Int} {c2 c3:Int} {t:Tk} (h:t.pe≤1048576):Es C c2 c3 t t:=⟨rfl,⟨Int.le_refl _,h⟩,Int.le_refl _,Int.le_refl _,fun _ _=>Int.le_refl _⟩
theorem Fe {nm ng nc:Int} {C:List Int} {T:List Tk} {i:Nat} {s t:Tk} (hp:s.p=t.p) (hg:s.pg=t.pg) (hi:i < T.length):Like nm ng nc C (T.set i s) (T.set i t):=by
 refine ⟨by simp,fun j hj=>?_,fun j hj=>?_⟩
 ·rw [jl s hi,jl t hi];split
  ·exact hp
  ·rfl
 ·rw [jl s hi,jl t hi];split
  ·unfold uQ;rw [hp,hg]
  ·exact Iff.rfl
end Go.Ab
