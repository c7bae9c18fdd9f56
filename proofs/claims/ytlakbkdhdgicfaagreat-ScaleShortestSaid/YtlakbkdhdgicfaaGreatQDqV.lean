import Derived.Test.YtlakbkdhdgicfaaGreatQDqR
import Derived.Test.YtlakbkdhdgicfaaGreatQVA
import Derived.Test.YtlakbkdhdgicfaaGreatQVB
import Derived.Test.YtlakbkdhdgicfaaGreatQVC
import Derived.Test.YtlakbkdhdgicfaaGreatQVD
import Derived.Test.YtlakbkdhdgicfaaGreatQVE
import Derived.Test.YtlakbkdhdgicfaaGreatQDqO
namespace Go.Ab
open Go Go.Proofs
set_option linter.unusedVariables false
set_option linter.unusedSimpArgs false
set_option maxRecDepth 100000
set_option maxHeartbeats 1000000
def pre {α:Type} (f:α→α) (l:List α) (m:Nat):List α:=(l.take m).map f++l.drop m
theorem Um {α:Type} (f:α→α) (l:List α) (m:Nat):(pre f l m).length=l.length:=by simp [pre];omega
theorem WU {α:Type} (f:α→α) (l:List α):pre f l 0=l:=by simp [pre]
theorem Vz {α:Type} (f:α→α) (l:List α) {m:Nat} (h:l.length≤m):pre f l m=l.map f:=by
 unfold pre;rw [List.take_of_length_le h,List.drop_of_length_le h,List.append_nil]
theorem VZ {α:Type} (f:α→α) (l:List α) {m:Nat} (hm:m < l.length):(pre f l m)[m]?=some l[m]:=by
 unfold pre
 rw [List.getElem?_append_right (by simp;omega)]
 simp [List.length_take,Nat.min_eq_left (Nat.le_of_lt hm),hm]
theorem VY {α:Type} (f:α→α) (l:List α) {m:Nat} (hm:m < l.length):(pre f l m).set m (f l[m])=pre f l (m + 1):=by
 unfold pre
 rw [List.set_append_right _ _ (by simp;omega)]
 have h1:m - ((l.take m).map f).length=0:=by simp;omega
 rw [h1,List.drop_eq_getElem_cons hm,List.set_cons_zero,List.take_succ_eq_append_getElem hm,List.map_append,List.append_assoc]
 rfl
theorem Wn {α:Type} (f:α→α) (l:List α) {m:Nat} (hm:m < l.length) (h:f l[m]=l[m]):pre f l (m + 1)=pre f l m:=by
 rw [← VY f l hm,h]
 apply List.ext_getElem?
 intro i
 rw [List.getElem?_set]
 split
 ·rename_i e;subst e
  rw [VZ f l hm,if_pos (by rw [Um];exact hm)]
 ·rfl
theorem Xc (f:Tk→Tk) (T:List Tk) {m:Nat} (hm:m < T.length):tk (pre f T m) m=tk T m:=by
 unfold tk;rw [List.getD_eq_getElem?_getD,VZ f T hm,List.getD_eq_getElem?_getD,List.getElem?_eq_getElem hm]
theorem Vf (f:Op3→Op3) (P:List Op3) {m:Nat} (hm:m < P.length):op3 (pre f P m) m=op3 P m:=by
 unfold op3;rw [List.getD_eq_getElem?_getD,VZ f P hm,List.getD_eq_getElem?_getD,List.getElem?_eq_getElem hm]
theorem pursO (P:List Op3):aB (P.map bY)=true:=nD _ (fun _=>rfl) P
theorem clog {n:Int} (hn:0≤n∧n≤1024) {a:Int} (ha:1≤a∧a≤1000):0≤a * n∧a * n≤1024000:=by
 constructor
 ·exact Int.mul_nonneg (by omega) hn.1
 ·have:=Int.mul_le_mul ha.2 hn.2 hn.1 (by omega)
  omega
theorem Xd {n:Int} (hn:0≤n∧n≤1024) (a:Int):EC Tryz.prog G84 [] [.i a,.i n] fun x rs vs=>x=0∧rs=[]∧vs=[.i (zX n a)]:=by
 refine E84 fun _ _=>⟨fun h1=>⟨fun h2=>⟨rfl,rfl,by rw [zX,if_neg (by omega)]⟩,fun h2=>⟨rfl,rfl,?_⟩⟩,fun h1=>⟨rfl,rfl,by rw [zX,if_neg (by omega)]⟩⟩
 have hb:=clog hn (a:=a) ⟨h1,h2⟩
 rw [wrap64 (x:=a * n) (by omega) (by omega),wrap64 (x:=a * n + 8) (by omega) (by omega),wrap64 (x:=a * n + 8 - 1) (by omega) (by omega),Int.tdiv_eq_ediv_of_nonneg (by omega),wrap64 (by omega) (by omega),mxS,mnS,zX,if_pos ⟨h1,h2⟩,show a * n + 8 - 1=a * n + 7 by omega]
theorem Clone83 (P:List Op3) (hP:P.length≤1000):EC Tryz.prog G83 [] [.r (P.map bY)] fun x rs vs=>x=0∧vs=[]∧rs=[P.map bY]:=by
 refine E83 fun _ _=>?_
 rw [List.length_map]
 refine ⟨fun h=>⟨rfl,rfl,?_⟩,by omega,by omega,pursO P,rfl,rfl,rfl⟩
 obtain rfl:P=[]:=List.length_eq_zero_iff.1 (by omega)
 rfl
theorem encO_a (P:List Op3) (i:Nat) (v:Int):[AV.int .i64 (cIS (P.map bY) i 0),.int .i64 v,.int .i64 (cIS (P.map bY) i 2)]=bY ⟨(op3 P i).k,v,(op3 P i).b⟩:=by
 rw [uP,xO];rfl
theorem encT_pg (T:List Tk) (i:Nat) (P:List Op3):[AV.int .i64 (cIS (T.map aF) i 0),.int .i64 (cIS (T.map aF) i 1),.int .i64 (cIS (T.map aF) i 2),.int .i64 (cIS (T.map aF) i 3),.int .i64 (cIS (T.map aF) i 4),.int .i64 (cIS (T.map aF) i 5),.inl 3 (P.map bY)]=aF { tk T i with pg:=P }:=by
 rw [tk0,tk1,tk2,tk3,tk4,tk5];rfl
theorem VB {n:Int} {P:List Op3} {k:Nat} (hk:k < P.length) (h1:(op3 P k).k=1):((pre (ou n) P k).map bY).set k [AV.int .i64 (cIS ((pre (ou n) P k).map bY) k 0),.int .i64 (zX n (op3 P k).a),.int .i64 (cIS ((pre (ou n) P k).map bY) k 2)]=(pre (ou n) P (k + 1)).map bY:=by
 rw [encO_a,Vf _ _ hk,← List.map_set,← VY _ _ hk,← kG hk]
 have:ou n (op3 P k)=⟨(op3 P k).k,zX n (op3 P k).a,(op3 P k).b⟩:=by unfold ou;rw [if_pos h1]
 rw [this]
theorem Wl {n:Int} {P:List Op3} {k:Nat} (hk:k < P.length) (h1:(op3 P k).k≠1):pre (ou n) P (k + 1)=pre (ou n) P k:=by
 refine Wn _ _ hk ?_
 rw [← kG hk];exact wo n _ h1
theorem Xb {n a:Int} (h:¬ (1≤a∧a≤1000)):zX n a=a:=by unfold zX;rw [if_neg h]
theorem VH {n:Int} {P:List Op3} {k:Nat} (hk:k < P.length) (h1:¬ (1≤(op3 P k).a∧(op3 P k).a≤1000)):pre (ou n) P (k + 1)=pre (ou n) P k:=by
 refine Wn _ _ hk ?_
 rw [← kG hk]
 unfold ou
 split
 ·rw [Xb h1]
 ·rfl
theorem Wj {n:Int} {T:List Tk} {m:Nat} (hm:m < T.length):((pre (yC n) T m).map aF).set m [AV.int .i64 (cIS ((pre (yC n) T m).map aF) m 0),.int .i64 (cIS ((pre (yC n) T m).map aF) m 1),.int .i64 (cIS ((pre (yC n) T m).map aF) m 2),.int .i64 (cIS ((pre (yC n) T m).map aF) m 3),.int .i64 (cIS ((pre (yC n) T m).map aF) m 4),.int .i64 (cIS ((pre (yC n) T m).map aF) m 5),.inl 3 (((tk T m).pg.map (ou n)).map bY)]=(pre (yC n) T (m + 1)).map aF:=by
 rw [encT_pg,Xc _ _ hm,← List.map_set,← VY _ _ hm,← bP hm]
 rfl
section
variable {c0 c1 c2 c3 c5:Int} {M K C L:List Int} {T:List Tk}
def Uk (n:Int):Int:=min (max n 0) 1024
theorem Xi (hT:T.length≤1000) (hpg:∀ t∈T,t.pg.length≤1000) (n0:Int):EC Tryz.prog G47 [] [.i c0,.i c1,.i c2,.i c3,.r (ints M),.i c5,.r (ints K),.r (ints C),.r (T.map aF),.r (ints L),.i n0] fun x rs vs=>x=0∧rs=[]∧vs=[.i c0,.i c1,.i c2,.i c3,.r (ints M),.i c5,.r (ints K),.r (ints C),.r ((T.map (yC (Uk n0))).map aF),.r (ints L)]:=by
 refine E47 fun EV V=>(Mc T hT).mono ?_
 rintro _ _ _ ⟨rfl,rfl,rfl⟩
 refine ⟨rfl,_,rfl,rfl,?_⟩
 rw [mxS,mnS,List.length_map,show min (max n0 0) 1024=Uk n0 from rfl]
 have hn:0≤Uk n0∧Uk n0≤1024:=by unfold Uk;omega
 generalize Uk n0=n at *
 have inner:∀ (m:Nat) (hm:m < T.length),EV 11 [(pre (yC n) T (m + 1)).map aF,[],[],[],[],[]] [.i n,.i (T.length:Int),.i ((m + 1:Nat):Int),.i c0,.i c1,.i c2,.i c3,.r (ints M),.i c5,.r (ints K),.r (ints C),.r (ints L),.i 0,.i 0,.i 0,.i 0,.i 0] →
   ∀ d k:Nat,k + d=(tk T m).pg.length→EV 28 [(pre (ou n) (tk T m).pg k).map bY,(pre (yC n) T m).map aF,[],[],[],[],[]] [.i n,.i (m:Int),.i (T.length:Int),.i (m:Int),.i ((tk T m).pg.length:Int),.i (k:Int),.i c0,.i c1,.i c2,.i c3,.r (ints M),.i c5,.r (ints K),.r (ints C),.r (ints L),.i 0,.i 0,.i 0,.i 0,.i 0]:=by
  intro m hm next d
  have hpl:(tk T m).pg.length≤1000:=hpg _ (by rw [bP hm];exact List.getElem_mem hm)
  induction d with
  | zero =>
   intro k hk
   refine V.p28 fun _ _ _ _ _ _ _=>⟨fun h=>by omega,fun _=>⟨by omega,by rw [List.length_map,Um];omega,aW (by rw [Um];exact hm),?_⟩⟩
   rw [Int.toNat_natCast,lD,Vz _ _ (by omega:(tk T m).pg.length≤k),Wj hm,wrap64 (by omega) (by omega),show (m:Int) + 1=((m + 1:Nat):Int) by omega]
   exact next
  | succ d ih =>
   intro k hk
   have hlt:k < (tk T m).pg.length:=by omega
   have hl2:((pre (ou n) (tk T m).pg k).map bY).length=(tk T m).pg.length:=by rw [List.length_map,Um]
   have hg:((pre (ou n) (tk T m).pg k).map bY)[k]?=some (r3 ((pre (ou n) (tk T m).pg k).map bY) k):=gp (by rw [Um];exact hlt)
   refine V.p28 fun _ _ _ _ _ _ _=>⟨fun _=>⟨by omega,by rw [hl2];omega,hg,fun h1=>?_,fun h1=>?_⟩,fun h=>by omega⟩
   ·rw [Int.toNat_natCast,uP,Vf _ _ hlt] at h1
    rw [Int.toNat_natCast,uO,Vf _ _ hlt]
    refine (Xd hn _).mono ?_
    rintro _ _ _ ⟨rfl,rfl,rfl⟩
    refine ⟨rfl,_,rfl,rfl,by omega,by rw [hl2];omega,hg,?_⟩
    rw [VB hlt h1,wrap64 (by omega) (by omega),show (k:Int) + 1=((k + 1:Nat):Int) by omega]
    exact ih (k + 1) (by omega)
   ·rw [Int.toNat_natCast,uP,Vf _ _ hlt] at h1
    rw [← Wl hlt h1,wrap64 (by omega) (by omega),show (k:Int) + 1=((k + 1:Nat):Int) by omega]
    exact ih (k + 1) (by omega)
 have loop:∀ d m:Nat,m + d=T.length→EV 11 [(pre (yC n) T m).map aF,[],[],[],[],[]] [.i n,.i (T.length:Int),.i (m:Int),.i c0,.i c1,.i c2,.i c3,.r (ints M),.i c5,.r (ints K),.r (ints C),.r (ints L),.i 0,.i 0,.i 0,.i 0,.i 0]:=by
  intro d
  induction d with
  | zero =>
   intro m hm
   refine V.p11 fun _ _ _ _ _ _=>⟨fun h=>by omega,fun _=>⟨rfl,rfl,?_⟩⟩
   rw [lD,Vz _ _ (by omega:T.length≤m)]
  | succ d ih =>
   intro m hm
   have hlt:m < T.length:=by omega
   have hpl:(tk T m).pg.length≤1000:=hpg _ (by rw [bP hlt];exact List.getElem_mem hlt)
   refine V.p11 fun _ _ _ _ _ _=>⟨fun _=>⟨by omega,by rw [List.length_map,Um];omega,aW (by rw [Um];exact hlt),?_⟩,fun h=>by omega⟩
   rw [Int.toNat_natCast,tk6,Xc _ _ hlt]
   refine (Clone83 _ hpl).mono ?_
   rintro _ _ _ ⟨rfl,rfl,rfl⟩
   refine ⟨rfl,_,rfl,rfl,?_⟩
   rw [List.length_map]
   have h0:=inner m hlt (ih (m + 1) (by omega)) (tk T m).pg.length 0 (by omega)
   rw [WU] at h0
   exact h0
 have h0:=loop T.length 0 (by omega)
 rw [WU] at h0
 exact h0
def Vg (c0 c1 c2 c3:Int) (M:List Int) (c5:Int) (K C:List Int) (T:List Tk) (L:List Int) (n:Int):Bool:=eF c0 c1 c2 c3 M c5 K C (T.map (yC n)) L
theorem shr1 {x:Int} (h:0≤x∧x≤9223372036854775807):IntKind.wrap .i64 (cO .shr .u64 (IntKind.wrap .u64 (IntKind.wrap .i64 x)) 1)=x / 2:=by
 rw [wrap64 (x:=x) (by omega) (by omega),fE (by omega) (by omega)]
 have e:cO .shr .u64 x 1=x / 2:=by
  show Int.fdiv x 2=_
  exact Int.fdiv_eq_ediv_of_nonneg _ (by omega)
 rw [e,wrap64 (by omega) (by omega)]
theorem may86 (hT:T.length≤1000) (hpg:∀ t∈T,t.pg.length≤1000) {n:Int} (hn:0≤n∧n≤1023):EC Tryz.prog G86 [] [.i n,.i c0,.i c1,.i c2,.i c3,.r (ints M),.i c5,.r (ints K),.r (ints C),.r (T.map aF),.r (ints L)] fun x rs vs=>x=0∧rs=[]∧vs=[.b (!Vg c0 c1 c2 c3 M c5 K C T L (n + 1)),.i c0,.i c1,.i c2,.i c3,.r (ints M),.i c5,.r (ints K),.r (ints C),.r (T.map aF),.r (ints L)]:=by
 refine E86 fun _ _=>?_
 rw [wrap64 (by omega) (by omega)]
 refine (Xi hT hpg (n + 1)).mono ?_
 rintro _ _ _ ⟨rfl,rfl,rfl⟩
 rw [show Uk (n + 1)=n + 1 by unfold Uk;omega]
 refine ⟨rfl,_,_,_,_,_,_,_,_,_,_,rfl,rfl,o6.mono ?_⟩
 rintro _ _ _ ⟨rfl,rfl,rfl⟩
 exact ⟨rfl,_,rfl,rfl,rfl,rfl,rfl⟩
theorem Xf (hT:T.length≤1000) (hpg:∀ t∈T,t.pg.length≤1000) (h0:Vg c0 c1 c2 c3 M c5 K C T L 0=true):EC Tryz.prog G85 [] [.i 1024,.i c0,.i c1,.i c2,.i c3,.r (ints M),.i c5,.r (ints K),.r (ints C),.r (T.map aF),.r (ints L)] fun x rs vs=>x=0∧rs=[]∧∃ r,vs=[.i r,.i c0,.i c1,.i c2,.i c3,.r (ints M),.i c5,.r (ints K),.r (ints C),.r (T.map aF),.r (ints L)]∧0≤r∧r≤1024∧Vg c0 c1 c2 c3 M c5 K C T L r=true∧(r < 1024→Vg c0 c1 c2 c3 M c5 K C T L (r + 1)=false):=by
 refine E85 fun EV V=>?_
 have loop:∀ (d:Nat) (i j:Int),j - i≤d→0≤i→i≤j→j≤1024→Vg c0 c1 c2 c3 M c5 K C T L i=true→(j < 1024→Vg c0 c1 c2 c3 M c5 K C T L (j + 1)=false)→EV 7 [] [.i i,.i j,.i c0,.i c1,.i c2,.i c3,.r (ints M),.i c5,.r (ints K),.r (ints C),.r (T.map aF),.r (ints L)]:=by
  intro d
  induction d with
  | zero =>
   intro i j hd hi hij hj h1 h2
   obtain rfl:i=j:=by omega
   exact V.p7 ⟨fun h=>by omega,fun _=>⟨rfl,rfl,_,rfl,hi,hj,h1,h2⟩⟩
  | succ d ih =>
   intro i j hd hi hij hj h1 h2
   refine V.p7 ⟨fun hlt=>⟨by omega,?_⟩,fun h=>?_⟩
   ·rw [shr1 (by omega)]
    refine (may86 hT hpg (n:=(i + j) / 2) (by omega)).mono ?_
    rintro _ _ _ ⟨rfl,rfl,rfl⟩
    refine ⟨rfl,_,_,_,_,_,_,_,_,_,_,_,rfl,rfl,fun hf=>?_,fun ht=>?_⟩
    ·rw [wrap64 (by omega) (by omega)]
     exact ih _ _ (by omega) (by omega) (by omega) hj (by simpa using hf) h2
    ·exact ih _ _ (by omega) hi (by omega) (by omega) h1 fun _=>by simpa using ht
   ·obtain rfl:i=j:=by omega
    exact ⟨rfl,rfl,_,rfl,hi,hj,h1,h2⟩
 exact loop 1024 0 1024 (by omega) (by omega) (by omega) (by omega) h0 fun h=>by omega
structure Xg (c0 c1 c2 c3:Int) (M:List Int) (c5:Int) (K C:List Int) (T:List Tk) (L:List Int) (n:Int) (ok:Bool):Prop where
 no:ok=false→n=0∧Vg c0 c1 c2 c3 M c5 K C T L 0=false
 yes:ok=true→0≤n∧n≤1024∧Vg c0 c1 c2 c3 M c5 K C T L n=true∧(n < 1024→Vg c0 c1 c2 c3 M c5 K C T L (n + 1)=false)
theorem Xh (hT:T.length≤1000) (hpg:∀ t∈T,t.pg.length≤1000):EC Tryz.prog G49 [] [.i c0,.i c1,.i c2,.i c3,.r (ints M),.i c5,.r (ints K),.r (ints C),.r (T.map aF),.r (ints L)] fun x rs vs=>x=0∧rs=[]∧∃ n ok,vs=[.i n,.b ok]∧Xg c0 c1 c2 c3 M c5 K C T L n ok:=by
 refine E49 fun _ _=>(Xi hT hpg 0).mono ?_
 rintro _ _ _ ⟨rfl,rfl,rfl⟩
 rw [show Uk 0=0 from rfl]
 refine ⟨rfl,_,_,_,_,_,_,_,_,_,_,rfl,rfl,o6.mono ?_⟩
 rintro _ _ _ ⟨rfl,rfl,rfl⟩
 refine ⟨rfl,_,rfl,rfl,fun h=>⟨rfl,rfl,_,_,rfl,fun _=>⟨rfl,h⟩,fun g=>by cases g⟩,fun h=>(Xf hT hpg h).mono ?_⟩
 rintro _ _ _ ⟨rfl,rfl,r,rfl,h1,h2,h3,h4⟩
 exact ⟨rfl,_,_,_,_,_,_,_,_,_,_,_,rfl,rfl,rfl,rfl,_,_,rfl,(fun g=>by cases g),fun _=>⟨h1,h2,h3,h4⟩⟩
def Vd (T:List Tk) (a n:Int):List Tk:=if isZ T a then T.set a.toNat (mX (tk T a.toNat) n) else T
theorem Ws (T:List Tk) (a n:Int):(Vd T a n).length=T.length:=by unfold Vd;split <;> simp
def UH (c0 c1 c2 c3:Int) (M:List Int) (c5:Int) (K C:List Int) (T:List Tk) (L:List Int) (a n:Int):Bool:=eF c0 c1 c2 c3 M c5 K C (Vd T a n) L
theorem Wv (T:List Tk) (i:Nat) (n:Int):(T.map aF).set i [.int .i64 (cIS (T.map aF) i 0),.int .i64 (cIS (T.map aF) i 1),.int .i64 n,.int .i64 (cIS (T.map aF) i 3),.int .i64 (cIS (T.map aF) i 4),.int .i64 (cIS (T.map aF) i 5),.inl 3 (cRS (T.map aF) i 6)]=(T.set i { tk T i with pe:=n }).map aF:=by
 rw [tk0,tk1,tk3,tk4,tk5,tk6,← yA];rfl
theorem Xa (T:List Tk) {i:Nat} (hi:i < T.length) (n d:Int) (hd:d=min (tk T i).de n):((T.set i { tk T i with pe:=n }).map aF).set i [.int .i64 (cIS ((T.set i { tk T i with pe:=n }).map aF) i 0),.int .i64 (cIS ((T.set i { tk T i with pe:=n }).map aF) i 1),.int .i64 (cIS ((T.set i { tk T i with pe:=n }).map aF) i 2),.int .i64 d,.int .i64 (cIS ((T.set i { tk T i with pe:=n }).map aF) i 4),.int .i64 (cIS ((T.set i { tk T i with pe:=n }).map aF) i 5),.inl 3 (cRS ((T.set i { tk T i with pe:=n }).map aF) i 6)]=(T.set i (mX (tk T i) n)).map aF:=by
 rw [tk0,tk1,tk2,tk4,tk5,tk6,jl _ hi,if_pos rfl]
 subst hd
 show ((T.set i { tk T i with pe:=n }).map aF).set i (aF (mX (tk T i) n))=_
 rw [yA,List.set_set]
theorem Wu (hT:T.length≤1000) (a n:Int):EC Tryz.prog G52 [] [.i c0,.i c1,.i c2,.i c3,.r (ints M),.i c5,.r (ints K),.r (ints C),.r (T.map aF),.r (ints L),.i a,.i n] fun x rs vs=>x=0∧rs=[]∧vs=[.i c0,.i c1,.i c2,.i c3,.r (ints M),.i c5,.r (ints K),.r (ints C),.r ((Vd T a n).map aF),.r (ints L),.b (UH c0 c1 c2 c3 M c5 K C T L a n)]:=by
 refine E52 fun EV V=>(Mc T hT).mono ?_
 rintro _ _ _ ⟨rfl,rfl,rfl⟩
 have p12:EV 12 [[],[],[],[],[]] [.i c0,.i c1,.i c2,.i c3,.r (ints M),.i c5,.r (ints K),.r (ints C),.r ((Vd T a n).map aF),.r (ints L),.i 0,.i 0,.i 0,.i 0,.i 0]:=by
  refine V.p12 fun _ _ _ _ _=>o6.mono ?_
  rintro _ _ _ ⟨rfl,rfl,rfl⟩
  exact ⟨rfl,_,rfl,rfl,rfl,rfl,rfl⟩
 refine ⟨rfl,_,rfl,rfl,fun h0=>⟨fun h1=>?_,fun h1=>?_⟩,fun h0=>?_⟩
 ·rw [List.length_map] at h1
  have hi:a.toNat < T.length:=by omega
  have hz:isZ T a:=⟨h0,h1⟩
  refine ⟨h0,by rw [List.length_map];exact h1,aW hi,?_,?_⟩
  ·rw [Wv];exact aW (by simpa using hi)
  ·rw [Wv,tk3,mnS,Xa T hi n _ rfl,show T.set a.toNat (mX (tk T a.toNat) n)=Vd T a n by rw [Vd,if_pos hz],List.drop_zero,List.take_of_length_le (by rw [List.length_map,List.length_map,Ws];exact Nat.le_refl _)]
   exact p12
 ·rw [List.length_map] at h1
  rw [lD]
  have:Vd T a n=T:=by rw [Vd,if_neg (by unfold isZ;omega)]
  rw [this] at p12;exact p12
 ·rw [lD]
  have:Vd T a n=T:=by rw [Vd,if_neg (by unfold isZ;omega)]
  rw [this] at p12;exact p12
theorem may87 (hT:T.length≤1000) {n:Int} (hn:0≤n∧n≤1048576) (a:Int):EC Tryz.prog G87 [] [.i n,.i c0,.i c1,.i c2,.i c3,.r (ints M),.i c5,.r (ints K),.r (ints C),.r (T.map aF),.r (ints L),.i a] fun x rs vs=>x=0∧rs=[]∧vs=[.b (UH c0 c1 c2 c3 M c5 K C T L a (n + 1)),.i c0,.i c1,.i c2,.i c3,.r (ints M),.i c5,.r (ints K),.r (ints C),.r (T.map aF),.r (ints L),.i a]:=by
 refine E87 fun _ _=>?_
 rw [wrap64 (by omega) (by omega)]
 refine (Wu hT a (n + 1)).mono ?_
 rintro _ _ _ ⟨rfl,rfl,rfl⟩
 exact ⟨rfl,_,_,_,_,_,_,_,_,_,_,_,rfl,rfl,rfl,rfl,rfl⟩
theorem WY (hT:T.length≤1000) (a:Int) {N:Int} (hN:0≤N∧N≤1048576) (hl:UH c0 c1 c2 c3 M c5 K C T L a (N + 1)=true):EC Tryz.prog G85a [] [.i N,.i c0,.i c1,.i c2,.i c3,.r (ints M),.i c5,.r (ints K),.r (ints C),.r (T.map aF),.r (ints L),.i a] fun x rs vs=>x=0∧rs=[]∧∃ r,vs=[.i r,.i c0,.i c1,.i c2,.i c3,.r (ints M),.i c5,.r (ints K),.r (ints C),.r (T.map aF),.r (ints L),.i a]∧0≤r∧r≤N∧UH c0 c1 c2 c3 M c5 K C T L a (r + 1)=true∧(0 < r→UH c0 c1 c2 c3 M c5 K C T L a r=false):=by
 refine E85a fun EV V=>?_
 have loop:∀ (d:Nat) (i j:Int),j - i≤d→0≤i→i≤j→j≤N→UH c0 c1 c2 c3 M c5 K C T L a (j + 1)=true→(0 < i→UH c0 c1 c2 c3 M c5 K C T L a i=false)→EV 7 [] [.i i,.i j,.i c0,.i c1,.i c2,.i c3,.r (ints M),.i c5,.r (ints K),.r (ints C),.r (T.map aF),.r (ints L),.i a]:=by
  intro d
  induction d with
  | zero =>
   intro i j hd hi hij hj h1 h2
   obtain rfl:i=j:=by omega
   exact V.p7 ⟨fun h=>by omega,fun _=>⟨rfl,rfl,_,rfl,hi,hj,h1,h2⟩⟩
  | succ d ih =>
   intro i j hd hi hij hj h1 h2
   refine V.p7 ⟨fun hlt=>⟨by omega,?_⟩,fun h=>?_⟩
   ·rw [shr1 (by omega)]
    refine (may87 hT (n:=(i + j) / 2) (by omega) a).mono ?_
    rintro _ _ _ ⟨rfl,rfl,rfl⟩
    refine ⟨rfl,_,_,_,_,_,_,_,_,_,_,_,_,rfl,rfl,fun hf=>?_,fun ht=>?_⟩
    ·rw [wrap64 (by omega) (by omega)]
     exact ih _ _ (by omega) (by omega) (by omega) hj h1 fun _=>hf
    ·exact ih _ _ (by omega) hi (by omega) (by omega) ht h2
   ·obtain rfl:i=j:=by omega
    exact ⟨rfl,rfl,_,rfl,hi,hj,h1,h2⟩
 exact loop N.toNat 0 N (by omega) (by omega) (by omega) (by omega) hl fun h=>by omega
structure ShOk (c0 c1 c2 c3:Int) (M:List Int) (c5:Int) (K C:List Int) (T:List Tk) (L:List Int) (a n:Int) (ok:Bool):Prop where
 no:ok=false→n=0∧¬ (isZ T a∧eF c0 c1 c2 c3 M c5 K C T L=true)
 yes:ok=true→(isZ T a∧eF c0 c1 c2 c3 M c5 K C T L=true)∧1≤n∧n≤(tk T a.toNat).pe∧UH c0 c1 c2 c3 M c5 K C T L a n=true∧(1 < n→UH c0 c1 c2 c3 M c5 K C T L a (n - 1)=false)
theorem Vh (hT:T.length≤1000) (a:Int):EC Tryz.prog G51 [] [.i c0,.i c1,.i c2,.i c3,.r (ints M),.i c5,.r (ints K),.r (ints C),.r (T.map aF),.r (ints L),.i a] fun x rs vs=>x=0∧rs=[]∧∃ n ok,vs=[.i n,.b ok]∧ShOk c0 c1 c2 c3 M c5 K C T L a n ok:=by
 have no:¬ (isZ T a∧eF c0 c1 c2 c3 M c5 K C T L=true)→(0:Nat)=0∧([]:Rs)=[]∧∃ n ok,[Lf.i 0,.b false]=[.i n,.b ok]∧ShOk c0 c1 c2 c3 M c5 K C T L a n ok:=fun h=>⟨rfl,rfl,_,_,rfl,fun _=>⟨rfl,h⟩,fun g=>by cases g⟩
 refine E51 fun _ _=>?_
 rw [List.length_map]
 refine ⟨fun h0=>⟨fun h1=>o6.mono ?_,fun h1=>no fun g=>by have:=g.1;unfold isZ at this;omega⟩,fun h0=>no fun g=>by have:=g.1;unfold isZ at this;omega⟩
 rintro _ _ _ ⟨rfl,rfl,rfl⟩
 refine ⟨rfl,_,rfl,rfl,fun ha=>no fun g=>(by rw [g.2] at ha;cases ha),fun ha=>?_⟩
 have hi:a.toNat < T.length:=by omega
 have hz:isZ T a:=⟨h0,h1⟩
 have hc:=dP (fU.1 ha).1
 have hb:=dm (hc.nums _ (List.getElem_mem hi))
 rw [← bP hi] at hb
 have hsame:UH c0 c1 c2 c3 M c5 K C T L a (tk T a.toNat).pe=true:=by
  unfold UH
  rw [Vd,if_pos hz,Wp hi (by omega)];exact ha
 refine ⟨h0,aW hi,?_⟩
 rw [tk2,wrap64 (by omega) (by omega)]
 refine (WY hT a (N:=(tk T a.toNat).pe - 1) (by omega) (by rw [Int.sub_add_cancel];exact hsame)).mono ?_
 rintro _ _ _ ⟨rfl,rfl,r,rfl,g1,g2,g3,g4⟩
 refine ⟨rfl,_,_,_,_,_,_,_,_,_,_,_,_,rfl,rfl,rfl,rfl,_,_,rfl,(fun g=>by cases g),fun _=>⟨⟨hz,ha⟩,?_⟩⟩
 rw [wrap64 (by omega) (by omega)]
 refine ⟨by omega,by omega,by rw [Int.add_comm];exact g3,fun h=>?_⟩
 rw [show 1 + r - 1=r by omega];exact g4 (by omega)
end
end Go.Ab
