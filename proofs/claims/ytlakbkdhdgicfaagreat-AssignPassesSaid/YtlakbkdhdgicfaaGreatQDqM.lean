import Derived.Test.YtlakbkdhdgicfaaGreatQDqL
namespace Go.Ab
open Go Go.Proofs
set_option linter.unusedVariables false
set_option linter.unusedSimpArgs false
set_option maxRecDepth 100000
set_option maxHeartbeats 1000000
theorem qL {level:Int} {f g:Nat→Int × Int}:∀ {l:List Nat} {n m b d:Int},(∀ i∈l,((g i).1 < level→(f i).1 < level)∧0≤(f i).2∧(f i).2≤(g i).2)→0≤n→n≤m→b≤d→jO level (l.map f) n b≤jO level (l.map g) m d
 | [],n,m,b,d,_,_,_,hb=>hb
 | i::l,n,m,b,d,h,h0,hn,hb=>by
  obtain ⟨h1,h2,h3⟩:=h i (by simp)
  have ht:∀ j∈l,((g j).1 < level→(f j).1 < level)∧0≤(f j).2∧(f j).2≤(g j).2:=fun j hj=>h j (by simp [hj])
  show jO level ((f i)::l.map f) n b≤jO level ((g i)::l.map g) m d
  rw [show f i=((f i).1,(f i).2) from rfl,show g i=((g i).1,(g i).2) from rfl]
  simp only [jO]
  by_cases hg:(g i).1 < level
  ·rw [if_pos hg,if_pos (h1 hg)]
   exact qL ht (Int.le_refl 0) (Int.le_refl 0) hb
  ·rw [if_neg hg]
   by_cases hf:(f i).1 < level
   ·rw [if_pos hf]
    exact qL ht (Int.le_refl 0) (by omega) (by omega)
   ·rw [if_neg hf]
    exact qL ht (by omega) (by omega) (by omega)
theorem nK:∀ (cs:List Int) (hs:List Bool) (n m:Int),uV cs hs (max n m)=max n (uV cs hs m)
 | [],[],n,m=>rfl
 | [],_::_,n,m=>rfl
 | _::_,[],n,m=>rfl
 | c::cs,h::hs,n,m=>by
  cases h
  ·show uV cs hs (max n m)=max n (uV cs hs m)
   exact nK cs hs n m
  ·show uV cs hs (max (max n m) c)=max n (uV cs hs (max m c))
   rw [Int.max_assoc,nK cs hs n]
theorem Fg {C:List Int} {a b level:Int} (P:List Op3) (m:Nat) (ha:a < level) (hb:b < level):di C a P m < level→di C b P m < level:=by
 unfold di CX
 split
 ·exact id
 ·intro h
  have h1:=nK C (fC C.length P m).1 a (max a b)
  have h2:=nK C (fC C.length P m).1 b a
  rw [show max a (max a b)=max b a by omega] at h1
  have h3:=nK C (fC C.length P m).1 b b
  rw [show max b b=b by omega] at h3
  have h4:=nK C (fC C.length P m).1 a b
  rw [show max a b=max b a by omega] at h4
  omega
theorem yZ {C:List Int} {hit miss a b level:Int} (P:List Op3) (ha:a < level) (hb:b < level):dY C hit miss a P level=dY C hit miss b P level:=by
 have le:∀ {a b:Int},a < level→b < level→dY C hit miss a P level≤dY C hit miss b P level:=by
  intro a b ha hb
  unfold dY dat
  refine qL (fun i _=>⟨fun h=>?_,(kV _ _ _ _).1,Int.le_refl _⟩) (Int.le_refl 0) (Int.le_refl 0) (Int.le_refl 0)
  have h1:di C b P i < level:=by omega
  have h2:di C b P (i + 1) < level:=by omega
  have h3:=Fg P i hb ha h1
  have h4:=Fg P (i + 1) hb ha h2
  show max (di C a P i) (di C a P (i + 1)) < level
  omega
 exact Int.le_antisymm (le ha hb) (le hb ha)
def iW (t:Tk) (n:Int):Tk:={ t with th:=n }
def o7 (t:Tk) (n:Int):Tk:={ t with fl:=n }
theorem longZ_0 (C:List Int) (hit miss base:Int) (P:List Op3) (level:Int):0≤dY C hit miss base P level:=(xZ C hit miss base P level).1
theorem blkT_th {C:List Int} {hit miss a n m:Int} (t:Tk) (h:n≤m):oV C hit miss (iW t n) a≤oV C hit miss (iW t m) a:=by
 unfold oV iW
 simp only
 by_cases h1:n≥a
 ·rw [if_pos h1,if_pos (show m≥a by omega)];exact Int.le_refl _
 ·rw [if_neg h1]
  by_cases h2:m≥a
  ·rw [if_pos h2];omega
  ·rw [if_neg h2,yZ t.pg (show n < a by omega) (show m < a by omega)];exact Int.le_refl _
theorem Nw {C:List Int} {hit miss a n m:Int} (t:Tk) (h:n≥a↔m≥a):oV C hit miss (iW t n) a=oV C hit miss (iW t m) a:=by
 unfold oV iW
 simp only
 by_cases h1:n≥a
 ·rw [if_pos h1,if_pos (h.1 h1)]
 ·have h2:¬ m≥a:=fun g=>h1 (h.2 g)
  rw [if_neg h1,if_neg h2,yZ t.pg (show n < a by omega) (show m < a by omega)]
theorem blkT_fl {C:List Int} {hit miss a n m:Int} (t:Tk) (h0:0≤n) (h:n≤m):oV C hit miss (o7 t n) a≤oV C hit miss (o7 t m) a:=by
 have hl:=longZ_0 C hit miss t.th t.pg a
 unfold oV o7
 simp only
 split
 ·exact Int.le_refl _
 ·split <;> split <;> omega
def upd (T:List Tk) (i:Nat) (t:Tk):List Tk:=T.set i t
theorem BO (T:List Tk) (i:Nat) (t:Tk):(T.set i t).length=T.length:=by simp
theorem jl {T:List Tk} {i:Nat} (t:Tk) (hi:i < T.length) (j:Nat):tk (T.set i t) j=if i=j then t else tk T j:=by
 unfold tk
 rw [List.getD_eq_getElem?_getD,List.getD_eq_getElem?_getD,List.getElem?_set]
 by_cases h:i=j
 ·rw [if_pos h,if_pos h,if_pos (by omega)];rfl
 ·rw [if_neg h,if_neg h]
theorem sJ {T:List Tk} {q:Tk→Prop} {i:Nat} {t:Tk} (hi:i < T.length):(∀ s∈T.set i t,q s)↔q t∧∀ j,j < T.length→j≠i→q (tk T j):=by
 rw [mV,BO]
 constructor
 ·intro h
  refine ⟨?_,fun j hj hne=>?_⟩
  ·have:=h i hi;rwa [jl t hi,if_pos rfl] at this
  ·have:=h j hj;rwa [jl t hi,if_neg (fun e=>hne e.symm)] at this
 ·rintro ⟨h1,h2⟩ j hj
  rw [jl t hi]
  by_cases e:i=j
  ·rw [if_pos e];exact h1
  ·rw [if_neg e];exact h2 j hj fun g=>e g.symm
theorem Es.rfl' {C:List Int} {c2 c3:Int} {t:Tk} (h:t.pe≤1048576):Es C c2 c3 t t:=⟨rfl,⟨Int.le_refl _,h⟩,Int.le_refl _,Int.le_refl _,fun _ _=>Int.le_refl _⟩
theorem Fe {nm ng nc:Int} {C:List Int} {T:List Tk} {i:Nat} {s t:Tk} (hp:s.p=t.p) (hg:s.pg=t.pg) (hi:i < T.length):Like nm ng nc C (T.set i s) (T.set i t):=by
 refine ⟨by simp,fun j hj=>?_,fun j hj=>?_⟩
 ·rw [jl s hi,jl t hi];split
  ·exact hp
  ·rfl
 ·rw [jl s hi,jl t hi];split
  ·unfold uQ;rw [hp,hg]
  ·exact Iff.rfl
theorem Ic {c0 c1 c2 c3 c5:Int} {M K C L:List Int} {T:List Tk} {i:Nat} (hi:i < T.length) {n m:Int} (h0:0≤n) (h:n≤m) (ha:eF c0 c1 c2 c3 M c5 K C (T.set i (o7 (tk T i) m)) L=true):eF c0 c1 c2 c3 M c5 K C (T.set i (o7 (tk T i) n)) L=true:=by
 have hc:=(jB.1 (fU.1 ha).1).2.1
 rw [sJ hi] at hc
 have hb:=dm hc.1
 refine aal (T:=T.set i (o7 (tk T i) m)) (Fe (s:=o7 (tk T i) n) (t:=o7 (tk T i) m) rfl rfl hi) ?_ (fun j hj=>?_) ha
 ·rw [sJ hi]
  refine ⟨?_,hc.2⟩
  have:=hc.1
  simp only [o7] at hb
  simp only [bV,inZ,Bool.and_eq_true,decide_eq_true_eq]
  simp only [o7]
  omega
 ·rw [BO] at hj
  rw [jl _ hi,jl _ hi]
  by_cases e:i=j
  ·rw [if_pos e,if_pos e]
   exact ⟨rfl,⟨Int.le_refl _,hb.2.2.1.2⟩,Int.le_refl _,Int.le_refl _,fun a _=>blkT_fl (tk T i) h0 h⟩
  ·rw [if_neg e,if_neg e]
   exact Es.rfl' (dm (hc.2 j hj fun g=>e g.symm)).2.2.1.2
theorem Ib {c0 c1 c2 c3 c5:Int} {M K C L:List Int} {T:List Tk} {i:Nat} (hi:i < T.length) {n:Int} (ha:eF c0 c1 c2 c3 M c5 K C (T.set i (o7 (tk T i) n)) L=true):0≤n∧n≤1048576:=by
 have hc:=(jB.1 (fU.1 ha).1).2.1
 rw [sJ hi] at hc
 exact (dm hc.1).2.2.2.2.2
end Go.Ab
