import Derived.Test.YtlakbkdhdgicfaaGreatQDqQ
import Derived.Test.YtlakbkdhdgicfaaGreatQDqM
import Derived.Test.YtlakbkdhdgicfaaGreatQVA
import Derived.Test.YtlakbkdhdgicfaaGreatQVB
import Derived.Test.YtlakbkdhdgicfaaGreatQVC
import Derived.Test.YtlakbkdhdgicfaaGreatQVD
import Derived.Test.YtlakbkdhdgicfaaGreatQS
import Derived.Test.YtlakbkdhdgicfaaGreatLayE
namespace Go.Ab
open Go Go.Proofs
set_option linter.unusedVariables false
set_option linter.unusedSimpArgs false
set_option maxRecDepth 100000
set_option maxHeartbeats 1000000
theorem lD {α:Type} (l:List α):List.take l.length (List.drop 0 l)=l:=by simp
theorem IM (T:List Tk):aB (T.map aF)=true:=nD _ (fun _=>rfl) T
theorem Oo (l:List Int):aB (ints l)=true:=nD _ (fun _=>rfl) l
theorem yA (T:List Tk) (i:Nat) (t:Tk):(T.map aF).set i (aF t)=(T.set i t).map aF:=by rw [List.map_set]
def isZ (T:List Tk) (a:Int):Prop:=0≤a∧a < T.length
instance (T:List Tk) (a:Int):Decidable (isZ T a):=inferInstanceAs (Decidable (0≤a∧a < T.length))
def iT (T:List Tk) (a n:Int):List Tk:=if isZ T a then T.set a.toNat (o7 (tk T a.toNat) n) else T
theorem nY (T:List Tk) (a n:Int):(iT T a n).length=T.length:=by unfold iT;split <;> simp
theorem Mc (T:List Tk) (hT:T.length≤1000):EC Tryz.prog G78 [] [.r (T.map aF)] fun x rs vs=>x=0∧vs=[]∧rs=[T.map aF]:=by
 refine E78 fun _ _=>?_
 rw [List.length_map]
 refine ⟨fun h=>⟨rfl,rfl,?_⟩,by omega,by omega,IM T,rfl,rfl,rfl⟩
 obtain rfl:T=[]:=List.length_eq_zero_iff.1 (by omega)
 rfl
section
variable {c0 c1 c2 c3 c5:Int} {M K C L:List Int} {T:List Tk}
theorem is74 (a:Int):EC Tryz.prog G74 [] [.i c0,.i c1,.i c2,.i c3,.r (ints M),.i c5,.r (ints K),.r (ints C),.r (T.map aF),.r (ints L),.i a] fun x rs vs=>x=0∧rs=[]∧vs=[.b (decide (isZ T a))] :=
 E74 fun _ _=>⟨fun h=>⟨rfl,rfl,by rw [List.length_map];unfold isZ;simp [show 0≤a from h]⟩,fun h=>⟨rfl,rfl,by rw [decide_eq_false (by unfold isZ;omega)]⟩⟩
theorem is74a (a:Int):EC Tryz.prog G74a [T.map aF] [.i c0,.i c1,.i c2,.i c3,.r (ints M),.i c5,.r (ints K),.r (ints C),.r (ints L),.i a] fun x rs vs=>x=0∧rs=[T.map aF]∧vs=[.b (decide (isZ T a))] :=
 E74a fun _ _ _=>⟨fun h=>⟨rfl,rfl,by rw [List.length_map];unfold isZ;simp [show 0≤a from h]⟩,fun h=>⟨rfl,rfl,by rw [decide_eq_false (by unfold isZ;omega)]⟩⟩
theorem Iq (hT:T.length≤1000) (a n:Int):EC Tryz.prog G35 [] [.i c0,.i c1,.i c2,.i c3,.r (ints M),.i c5,.r (ints K),.r (ints C),.r (T.map aF),.r (ints L),.i a,.i n] fun x rs vs=>x=0∧rs=[]∧vs=[.i c0,.i c1,.i c2,.i c3,.r (ints M),.i c5,.r (ints K),.r (ints C),.r ((iT T a n).map aF),.r (ints L)]:=by
 refine E35 fun _ _=>(Mc T hT).mono ?_
 rintro _ _ _ ⟨rfl,rfl,rfl⟩
 refine ⟨rfl,_,rfl,rfl,(is74a a).mono ?_⟩
 rintro _ _ _ ⟨rfl,rfl,rfl⟩
 refine ⟨rfl,_,_,rfl,rfl,fun h=>?_,fun h=>?_⟩
 ·have h:isZ T a:=of_decide_eq_true h
  have hh:=h
  unfold isZ at hh
  have ha:a.toNat < T.length:=by omega
  rw [List.length_map,List.length_set,List.length_map]
  refine ⟨hh.1,hh.2,rfl,aW ha,rfl,rfl,rfl,?_⟩
  rw [tk0,tk1,tk2,tk3,tk4,tk6]
  have e:(T.map aF).set a.toNat [.int .i64 (tk T a.toNat).p,.int .i64 (tk T a.toNat).th,.int .i64 (tk T a.toNat).pe,.int .i64 (tk T a.toNat).de,.int .i64 (tk T a.toNat).fr,.int .i64 n,.inl 3 ((tk T a.toNat).pg.map bY)]=(iT T a n).map aF:=by
   rw [iT,if_pos h,← yA];rfl
  rw [e,List.drop_zero,List.take_of_length_le (by rw [List.length_map,nY];exact Nat.le_refl _)]
 ·have h:¬ isZ T a:=of_decide_eq_false h
  rw [lD]
  exact ⟨rfl,rfl,rfl,by rw [iT,if_neg h]⟩
def pK (c0 c1 c2 c3:Int) (M:List Int) (c5:Int) (K C:List Int) (T:List Tk) (L:List Int) (a n:Int):Bool:=eF c0 c1 c2 c3 M c5 K C (iT T a n) L
theorem may73 (hT:T.length≤1000) (a n:Int):EC Tryz.prog G73 [] [.i n,.i c0,.i c1,.i c2,.i c3,.r (ints M),.i c5,.r (ints K),.r (ints C),.r (T.map aF),.r (ints L),.i a] fun x rs vs=>x=0∧rs=[]∧vs=[.b (pK c0 c1 c2 c3 M c5 K C T L a n),.i c0,.i c1,.i c2,.i c3,.r (ints M),.i c5,.r (ints K),.r (ints C),.r (T.map aF),.r (ints L),.i a]:=by
 refine E73 fun _ _=>(Iq hT a n).mono ?_
 rintro _ _ _ ⟨rfl,rfl,rfl⟩
 refine ⟨rfl,_,_,_,_,_,_,_,_,_,_,rfl,rfl,o6.mono ?_⟩
 rintro _ _ _ ⟨rfl,rfl,rfl⟩
 exact ⟨rfl,_,rfl,rfl,rfl,rfl,rfl⟩
structure kL (c0 c1 c2 c3:Int) (M:List Int) (c5:Int) (K C:List Int) (T:List Tk) (L:List Int) (a n:Int) (ok:Bool):Prop where
 no:ok=false→n=0∧¬ (isZ T a∧pK c0 c1 c2 c3 M c5 K C T L a 0=true)
 yes:ok=true→isZ T a∧0≤n∧n≤1048576∧pK c0 c1 c2 c3 M c5 K C T L a n=true∧pK c0 c1 c2 c3 M c5 K C T L a (n + 1)=false
theorem nJ {a:Int} (ha:isZ T a) {n m:Int} (h0:0≤n) (h:n≤m) (hm:pK c0 c1 c2 c3 M c5 K C T L a m=true):pK c0 c1 c2 c3 M c5 K C T L a n=true:=by
 unfold pK iT at *
 rw [if_pos ha] at hm ⊢
 unfold isZ at ha
 exact Ic (by omega) h0 h hm
theorem Na {a:Int} (ha:isZ T a) {n:Int} (hm:pK c0 c1 c2 c3 M c5 K C T L a n=true):0≤n∧n≤1048576:=by
 unfold pK iT at *
 rw [if_pos ha] at hm
 unfold isZ at ha
 exact Ib (by omega) hm
theorem kL.uniq {a n m:Int} {b d:Bool} (h:kL c0 c1 c2 c3 M c5 K C T L a n b) (g:kL c0 c1 c2 c3 M c5 K C T L a m d):n=m∧b=d:=by
 have key:∀ {n:Int},kL c0 c1 c2 c3 M c5 K C T L a n true→(isZ T a∧pK c0 c1 c2 c3 M c5 K C T L a 0=true):=fun h=>by
  obtain ⟨h1,h2,h3,h4,h5⟩:=h.yes rfl
  exact ⟨h1,nJ h1 (Int.le_refl 0) h2 h4⟩
 have le:∀ {n m:Int},kL c0 c1 c2 c3 M c5 K C T L a n true→kL c0 c1 c2 c3 M c5 K C T L a m true→n≤m:=fun {n m} h g=>by
  obtain ⟨h1,h2,h3,h4,h5⟩:=h.yes rfl
  obtain ⟨g1,g2,g3,g4,g5⟩:=g.yes rfl
  rcases Int.lt_or_le m n with hlt | hle
  ·have:=nJ h1 (by omega:0≤m + 1) (by omega:m + 1≤n) h4
   rw [this] at g5;cases g5
  ·exact hle
 cases b <;> cases d
 ·exact ⟨by rw [(h.no rfl).1,(g.no rfl).1],rfl⟩
 ·exact absurd (key g) (h.no rfl).2
 ·exact absurd (key h) (g.no rfl).2
 ·exact ⟨Int.le_antisymm (le h g) (le g h),rfl⟩
theorem aao (hT:T.length≤1000) (a:Int):EC Tryz.prog G30 [] [.i c0,.i c1,.i c2,.i c3,.r (ints M),.i c5,.r (ints K),.r (ints C),.r (T.map aF),.r (ints L),.i a] fun x rs vs=>x=0∧rs=[]∧∃ n ok,vs=[.i n,.b ok]∧kL c0 c1 c2 c3 M c5 K C T L a n ok:=by
 refine E30 fun EV V=>(is74 a).mono ?_
 rintro _ _ _ ⟨rfl,rfl,rfl⟩
 refine ⟨rfl,_,rfl,rfl,fun h=>?_,fun h=>⟨rfl,rfl,_,_,rfl,fun _=>⟨rfl,fun g=>of_decide_eq_false h g.1⟩,fun g=>by cases g⟩⟩
 have h:isZ T a:=of_decide_eq_true h
 refine (may73 hT a 0).mono ?_
 rintro _ _ _ ⟨rfl,rfl,rfl⟩
 refine ⟨rfl,_,_,_,_,_,_,_,_,_,_,_,_,rfl,rfl,fun h0=>⟨rfl,rfl,_,_,rfl,fun _=>⟨rfl,fun g=>by rw [g.2] at h0;cases h0⟩,fun g=>by cases g⟩,fun h0=>?_⟩
 have loop:∀ (d:Nat) (lo hi:Int),hi - lo≤d→0≤lo→lo < hi→hi≤1048577→pK c0 c1 c2 c3 M c5 K C T L a lo=true→pK c0 c1 c2 c3 M c5 K C T L a hi=false→EV 17 [] [.i lo,.i hi,.i c0,.i c1,.i c2,.i c3,.r (ints M),.i c5,.r (ints K),.r (ints C),.r (T.map aF),.r (ints L),.i a]:=by
  intro d
  induction d with
  | zero=>intro lo hi hd hl hlh;omega
  | succ d ih =>
   intro lo hi hd hl hlh hh h1 h2
   refine V.p17 ?_
   rw [wrap64 (x:=hi - lo) (by omega) (by omega),wrap64 (x:=lo + hi) (by omega) (by omega),Int.tdiv_eq_ediv_of_nonneg (by omega),wrap64 (by omega) (by omega)]
   refine ⟨fun hgt=>(may73 hT a ((lo + hi) / 2)).mono ?_,fun hle=>⟨rfl,rfl,_,_,rfl,(fun g=>by cases g),fun _=>⟨h,hl,by omega,h1,?_⟩⟩⟩
   ·rintro _ _ _ ⟨rfl,rfl,rfl⟩
    exact ⟨rfl,_,_,_,_,_,_,_,_,_,_,_,_,rfl,rfl,fun hm=>ih _ _ (by omega) (by omega) (by omega) hh hm h2,fun hm=>ih _ _ (by omega) hl (by omega) (by omega) h1 hm⟩
   ·rw [show lo + 1=hi by omega];exact h2
 refine loop 1048577 0 1048577 (by omega) (by omega) (by omega) (by omega) h0 ?_
 cases hb:pK c0 c1 c2 c3 M c5 K C T L a 1048577 with
 | false=>rfl
 | true=>have:=Na h hb;omega
theorem All32 (hT:T.length≤1000):EC Tryz.prog G32 [] [.i c0,.i c1,.i c2,.i c3,.r (ints M),.i c5,.r (ints K),.r (ints C),.r (T.map aF),.r (ints L)] fun x rs vs=>x=0∧∃ l ok,rs=[ints l]∧vs=[.b ok] ∧
  (ok=true→l.length=T.length∧∀ i:Nat,i < T.length→kL c0 c1 c2 c3 M c5 K C T L i (l.getD i 0) true)∧(ok=false→l=[]∧∃ i:Nat,i < T.length∧kL c0 c1 c2 c3 M c5 K C T L i 0 false):=by
 refine E32 fun EV V=>?_
 rw [List.length_map]
 have loop:∀ (d m:Nat) (l:List Int),m + d=T.length→l.length=m→(∀ i:Nat,i < m→kL c0 c1 c2 c3 M c5 K C T L i (l.getD i 0) true)→EV 9 [ints l] [.i (T.length:Int),.i (m:Int),.i c0,.i c1,.i c2,.i c3,.r (ints M),.i c5,.r (ints K),.r (ints C),.r (T.map aF),.r (ints L)]:=by
  intro d
  induction d with
  | zero =>
   intro m l hm hl hi
   obtain rfl:m=T.length:=by omega
   exact V.p9 fun _=>⟨fun h=>by omega,fun _=>⟨rfl,l,_,rfl,rfl,fun _=>⟨hl,hi⟩,fun h=>by cases h⟩⟩
  | succ d ih =>
   intro m l hm hl hi
   refine V.p9 fun _=>⟨fun _=>(aao hT (m:Int)).mono ?_,fun h=>by omega⟩
   rintro _ _ _ ⟨rfl,rfl,n,ok,rfl,hok⟩
   refine ⟨rfl,_,_,rfl,rfl,fun h=>⟨rfl,[],_,rfl,rfl,(fun g=>by cases g),fun _=>⟨rfl,m,by omega,?_⟩⟩,fun h=>⟨by simp;omega,by simp;omega,?_⟩⟩
   ·subst h;have:=(hok.no rfl).1;subst this;exact hok
   ·subst h
    rw [wrap64 (by omega) (by omega),show (m:Int) + 1=((m + 1:Nat):Int) by omega]
    show EV 9 [ints l++ints [n]] _
    rw [show ints l++ints [n]=ints (l++[n]) by simp [ints]]
    refine ih (m + 1) (l++[n]) (by omega) (by simp [hl]) fun i hi2=>?_
    rcases Nat.lt_or_ge i m with h | h
    ·have:=hi i h
     rwa [List.getD_eq_getElem?_getD,List.getElem?_append_left (by omega),← List.getD_eq_getElem?_getD]
    ·obtain rfl:i=m:=by omega
     rw [List.getD_eq_getElem?_getD,List.getElem?_append_right (by omega),hl,Nat.sub_self]
     exact hok
 exact loop T.length 0 [] (by omega) rfl fun i hi=>by omega
theorem JW (hF:Fits C T) (a:Int) (ha:0≤a∧a < T.length):EC Tryz.prog G33 [] [.i c0,.i c1,.i c2,.i c3,.r (ints M),.i c5,.r (ints K),.r (ints C),.r (T.map aF),.r (ints L),.i a] fun x rs vs=>x=0∧rs=[]∧vs=[.i (dY C c2 c3 (tk T a.toNat).th (tk T a.toNat).pg 64)]:=by
 refine E33 fun _ _=>(BM hF.c (fun t ht=>by have:=hF.pg t ht;omega) a 64 ha).mono ?_
 rintro _ _ _ ⟨rfl,rfl,rfl⟩
 exact ⟨rfl,_,rfl,rfl,rfl,rfl,rfl⟩
end
def t30:Tk:=⟨1,1,10,10,0,0,[⟨3,0,0⟩,⟨1,5,0⟩,⟨4,0,0⟩]⟩
theorem EI:EC Tryz.prog G72 [] [] fun x rs vs=>x=0∧rs=[[t30].map aF]∧vs=[.i 1,.i 1,.i 1,.i 5,.i 0]:=E72 fun _ _=>⟨rfl,rfl,rfl⟩
theorem may30:pK 1 1 1 5 [] 0 [] [] [t30] [] 0 1048576=true:=by decide
theorem OJ {n:Int} {ok:Bool} (h:kL 1 1 1 5 [] 0 [] [] [t30] [] 0 n ok):n=1048576∧ok=true:=by
 have hz:isZ [t30] 0:=by decide
 cases ok with
 | false=>exact absurd ⟨hz,nJ hz (Int.le_refl 0) (by omega) may30⟩ (h.no rfl).2
 | true =>
  obtain ⟨h1,h2,h3,h4,h5⟩:=h.yes rfl
  rcases Int.lt_or_le n 1048576 with hlt | hle
  ·have:=nJ hz (by omega:0≤n + 1) (by omega) may30
   rw [this] at h5;cases h5
  ·exact ⟨by omega,rfl⟩
theorem JB:EC Tryz.prog G28 [] [] fun x rs vs=>x=0∧rs=[]∧vs=[.b true]:=by
 refine E28 fun _ _=>EI.mono ?_
 rintro _ _ _ ⟨rfl,rfl,rfl⟩
 refine ⟨rfl,_,_,_,_,_,_,rfl,rfl,?_⟩
 refine (aao (c0:=1) (c1:=1) (c2:=1) (c3:=5) (M:=[]) (c5:=0) (K:=[]) (C:=[]) (T:=[t30]) (L:=[]) (by simp) 0).mono ?_
 rintro _ _ _ ⟨rfl,rfl,n,ok,rfl,h1⟩
 obtain ⟨rfl,rfl⟩:=OJ h1
 refine ⟨rfl,_,_,rfl,rfl,EI.mono ?_⟩
 rintro _ _ _ ⟨rfl,rfl,rfl⟩
 refine ⟨rfl,_,_,_,_,_,_,rfl,rfl,?_⟩
 refine (aao (c0:=1) (c1:=1) (c2:=1) (c3:=5) (M:=[]) (c5:=0) (K:=[]) (C:=[]) (T:=[t30]) (L:=[]) (by simp) 1).mono ?_
 rintro _ _ _ ⟨rfl,rfl,n2,ok2,rfl,h2⟩
 have hok2:ok2=false:=by
  cases ok2 with
  | false=>rfl
  | true=>exact absurd (h2.yes rfl).1 (by decide)
 refine ⟨rfl,_,_,rfl,rfl,EI.mono ?_⟩
 rintro _ _ _ ⟨rfl,rfl,rfl⟩
 refine ⟨rfl,_,_,_,_,_,_,rfl,rfl,?_⟩
 refine (All32 (c0:=1) (c1:=1) (c2:=1) (c3:=5) (M:=[]) (c5:=0) (K:=[]) (C:=[]) (T:=[t30]) (L:=[]) (by simp)).mono ?_
 rintro _ _ _ ⟨rfl,l,ok3,rfl,rfl,h3,h4⟩
 have hok3:ok3=true:=by
  cases ok3 with
  | true=>rfl
  | false =>
   obtain ⟨i,hi,g⟩:=(h4 rfl).2
   obtain rfl:i=0:=by simp at hi;omega
   have:=(OJ g).2;cases this
 have hl:l.length=1:=(h3 hok3).1
 refine ⟨rfl,_,_,rfl,rfl,fun _=>⟨fun _=>⟨fun _=>⟨fun _=>⟨fun _=>EI.mono ?_,fun h=>absurd (by rw [ints_length,hl];rfl) h⟩,fun h=>by rw [hok3] at h;cases h⟩,fun h=>by rw [hok2] at h;cases h⟩,fun h=>absurd rfl h⟩,fun h=>by cases h⟩
 rintro _ _ _ ⟨rfl,rfl,rfl⟩
 refine ⟨rfl,_,_,_,_,_,_,rfl,rfl,?_⟩
 refine (Iq (c0:=1) (c1:=1) (c2:=1) (c3:=5) (M:=[]) (c5:=0) (K:=[]) (C:=[]) (T:=[t30]) (L:=[]) (by simp) 0 7).mono ?_
 rintro _ _ _ ⟨rfl,rfl,rfl⟩
 refine ⟨rfl,_,_,_,_,_,_,_,_,_,_,rfl,rfl,rfl,fun _=>EI.mono ?_,fun h=>absurd rfl h⟩
 rintro _ _ _ ⟨rfl,rfl,rfl⟩
 refine ⟨rfl,_,_,_,_,_,_,rfl,rfl,?_⟩
 have hF:Fits [] [t30]:=(dP (c0:=1) (c1:=1) (c2:=1) (c3:=5) (M:=[]) (c5:=0) (K:=[]) (C:=[]) (T:=[t30]) (L:=[]) (by decide)).fits
 refine (JW (c0:=1) (c1:=1) (c2:=1) (c3:=5) (M:=[]) (c5:=0) (K:=[]) (C:=[]) (T:=[t30]) (L:=[]) hF 0 (by decide)).mono ?_
 rintro _ _ _ ⟨rfl,rfl,rfl⟩
 exact ⟨rfl,_,rfl,rfl,rfl,rfl,congrArg (fun b=>[Lf.b b]) (by decide)⟩
end Go.Ab
