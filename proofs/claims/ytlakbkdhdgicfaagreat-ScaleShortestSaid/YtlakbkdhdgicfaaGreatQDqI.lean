import Derived.Test.YtlakbkdhdgicfaaGreatQDqG
import Derived.Test.YtlakbkdhdgicfaaGreatQDqH
namespace Go.Ab
open Go Go.Proofs
set_option linter.unusedVariables false
set_option linter.unusedSimpArgs false
set_option maxRecDepth 100000
set_option maxHeartbeats 1000000
structure Cf (c0 c1 c2 c3:Int) (M:List Int) (c5:Int) (K C:List Int) (T:List Tk) (L:List Int):Prop where
 w:1≤c0∧c0≤16
 ways:1≤c1∧c1≤4
 hit:1≤c2∧c2≤100
 miss:c2≤c3∧c3≤100
 cl:C.length≤4
 t0:0 < T.length
 t8:T.length≤8
 nums:∀ t∈T,bV t=true
 prog:∀ t∈T,gJ M.length c5 K.length C.length t.pg=0
 diff:T.Pairwise fun a b=>a.p≠b.p
theorem NY {nm ng nc:Int} {C:List Int} {t:Tk} {A:List Tk} (h:fG nm ng nc C t A=0):bV t=true∧gJ nm ng nc C.length t.pg=0∧∀ x∈A,x.p≠t.p:=by
 unfold fG at h
 split at h
 ·cases h
 ·rename_i h1
  split at h
  ·rename_i h2;exact absurd h h2
  ·rename_i h2
   split at h
   ·cases h
   ·split at h
    ·cases h
    ·rename_i h4
     refine ⟨by simpa using h1,by simpa using h2,fun x hx he=>h4 ?_⟩
     simp only [jk,List.any_eq_true,decide_eq_true_eq]
     exact ⟨x,hx,he⟩
theorem Pe {nm ng nc:Int} {C:List Int}:∀ {R A:List Tk},goT nm ng nc C A R=0→(∀ t∈R,bV t=true∧gJ nm ng nc C.length t.pg=0∧∀ x∈A,x.p≠t.p)∧R.Pairwise fun a b=>a.p≠b.p
 | [],A,_=>⟨(fun t ht=>by cases ht),List.Pairwise.nil⟩
 | t::R,A,h=>by
  rw [goT] at h
  split at h
  ·rename_i h1;exact absurd h h1
  ·rename_i h1
   have h1:=NY (by simpa using h1)
   obtain ⟨h2,h3⟩:=Pe h
   refine ⟨fun x hx=>?_,List.Pairwise.cons (fun x hx=>(h2 x hx).2.2 t (by simp)) h3⟩
   rcases List.mem_cons.1 hx with rfl | hx
   ·exact h1
   ·exact ⟨(h2 x hx).1,(h2 x hx).2.1,fun y hy=>(h2 x hx).2.2 y (by simp [hy])⟩
theorem dP {c0 c1 c2 c3 c5:Int} {M K C L:List Int} {T:List Tk} (h:bK c0 c1 c2 c3 M c5 K C T L=0):Cf c0 c1 c2 c3 M c5 K C T L:=by
 unfold bK at h
 split at h
 ·cases h
 ·rename_i h1
  split at h
  ·cases h
  ·rename_i h2
   split at h
   ·cases h
   ·rename_i h3
    split at h
    ·cases h
    ·have h1:ji c0 c1 c2 c3=true:=by simpa using h1
     simp only [ji,inZ,Bool.and_eq_true,decide_eq_true_eq] at h1
     obtain ⟨g1,g2⟩:=Pe h
     exact ⟨by omega,by omega,by omega,by omega,by omega,by omega,by omega,fun t ht=>(g1 t ht).1,fun t ht=>(g1 t ht).2.1,g2⟩
theorem dm {t:Tk} (h:bV t=true):(0≤t.p∧t.p≤63)∧(t.p≤t.th∧t.th≤63)∧(1≤t.pe∧t.pe≤1048576)∧(1≤t.de∧t.de≤t.pe)∧(0≤t.fr∧t.fr≤4096)∧(0≤t.fl∧t.fl≤1048576):=by
 simp only [bV,inZ,Bool.and_eq_true,decide_eq_true_eq] at h
 omega
theorem Cf.fits {c0 c1 c2 c3 c5:Int} {M K C L:List Int} {T:List Tk} (h:Cf c0 c1 c2 c3 M c5 K C T L):Fits C T where
 c:=by have:=h.cl;omega
 t:=by have:=h.t8;omega
 pg:=fun t ht=>by have:=yK (h.prog t ht);omega
 fl:=fun t ht=>by have:=dm (h.nums t ht);omega
 pe:=fun t ht=>by have:=dm (h.nums t ht);omega
def ldP (c2 c3:Int) (t:Tk):Int × Int:=(max (ig c2 c3 false t.pg) 0,max t.pe 0)
def ldL (c2 c3:Int) (T:List Tk) (a:Int):List (Int × Int):=(bT T a).map fun i=>ldP c2 c3 (tk T i.toNat)
section
variable {c0 c1 c2 c3 c5:Int} {c4 c6 c9:List (List AV)} {M K C L:List Int} {T:List Tk}
theorem ldP_U (hF:Fits C T) {i:Nat} (hi:i < T.length):U (ldP c2 c3 (tk T i)).1∧U (ldP c2 c3 (tk T i)).2:=by
 have h1:=hF.at hi
 have h2:=lG c2 c3 false (tk T i).pg
 unfold ldP U
 simp only
 omega
theorem O3 (hF:Fits C T) (a:Int):LU (ldL c2 c3 T a):=by
 intro p hp
 simp only [ldL,List.mem_map] at hp
 obtain ⟨i,hi,rfl⟩:=hp
 have:=gY hi
 exact ldP_U hF (by omega)
theorem Jj (hF:Fits C T) (a:Int):(ldL c2 c3 T a).length≤20:=by
 have h1:=jd (fun t=>decide (t.p≥(tk T a.toNat).p)) T T.length
 have h2:=hF.t
 simp only [ldL,List.length_map,bT]
 omega
theorem Hz (hF:Fits C T) (a:Int) (ha:0≤a∧a < T.length):EC Tryz.prog G59 [] [.i c0,.i c1,.i c2,.i c3,.r c4,.i c5,.r c6,.r (ints C),.r (T.map aF),.r c9,.i a] fun x rs vs=>x=0∧rs=[]∧vs=[.i (ldP c2 c3 (tk T a.toNat)).1,.i (ldP c2 c3 (tk T a.toNat)).2]:=by
 have hat:a.toNat < T.length:=by omega
 have h1:=hF.at hat
 have h2:=lG c2 c3 false (tk T a.toNat).pg
 refine E59 fun _ _=>⟨ha.1,aW hat,?_⟩
 rw [tk6,tk2]
 refine (JR _ (by omega) c0 c1 c2 c3).mono ?_
 rintro _ _ _ ⟨rfl,rfl,rfl⟩
 refine ⟨rfl,_,rfl,rfl,(Gw (by omega)).mono ?_⟩
 rintro _ _ _ ⟨rfl,rfl,rfl⟩
 refine ⟨rfl,_,rfl,rfl,(Gw (by omega)).mono ?_⟩
 rintro _ _ _ ⟨rfl,rfl,rfl⟩
 exact ⟨rfl,_,rfl,rfl,rfl,rfl,rfl⟩
theorem Gx (hF:Fits C T) (a:Int) (ha:0≤a∧a < T.length):EC Tryz.prog G54 [] [.i c0,.i c1,.i c2,.i c3,.r c4,.i c5,.r c6,.r (ints C),.r (T.map aF),.r c9,.i a] fun x rs vs=>x=0∧rs=[(ldL c2 c3 T a).map qW]∧vs=[]:=by
 refine E54 fun EV V=>(Qi hF.t a).mono ?_
 rintro _ _ _ ⟨rfl,rfl,rfl⟩
 rw [if_pos ha]
 have hT:=hF.t
 have hl:(bT T a).length≤20:=by
  have h1:=jd (fun t=>decide (t.p≥(tk T a.toNat).p)) T T.length
  unfold bT;omega
 refine ⟨rfl,_,rfl,rfl,?_⟩
 rw [ints_length]
 have loop:∀ d m:Nat,m + d=(bT T a).length→EV 9 [(((bT T a).take m).map fun i=>ldP c2 c3 (tk T i.toNat)).map qW,ints (bT T a)] [.i ((bT T a).length:Int),.i (m:Int),.i c0,.i c1,.i c2,.i c3,.r c4,.i c5,.r c6,.r (ints C),.r (T.map aF),.r c9]:=by
  intro d
  induction d with
  | zero =>
   intro m hm
   exact V.p9 fun _ _=>⟨fun h=>by omega,fun _=>⟨rfl,by rw [List.take_of_length_le (by omega)];rfl,rfl⟩⟩
  | succ d ih =>
   intro m hm
   have hml:m < (bT T a).length:=by omega
   have hb:0≤(bT T a)[m]∧(bT T a)[m] < T.length:=gY (List.getElem_mem hml)
   have h3:=ih (m + 1) (by omega)
   rw [List.take_succ_eq_append_getElem hml,List.map_append,List.map_append] at h3
   refine V.p9 fun _ _=>⟨fun _=>⟨by omega,by rw [ints_length];omega,aJ hml,?_⟩,fun h=>by omega⟩
   rw [Int.toNat_natCast,aN,getD_get hml]
   refine (Hz hF _ hb).mono ?_
   rintro _ _ _ ⟨rfl,rfl,rfl⟩
   refine ⟨rfl,_,_,rfl,rfl,by simp;omega,by simp;omega,?_⟩
   rw [wrap64 (by omega) (by omega),show (m:Int) + 1=((m + 1:Nat):Int) by omega]
   exact h3
 exact loop (bT T a).length 0 (by omega)
theorem blkZ_b (hF:Fits C T) {lo a:Int} (hlo:0≤lo∧lo < T.length):0≤sU C T c2 c3 lo a∧sU C T c2 c3 lo a≤1000000000000:=by
 have h1:=hF.at (show lo.toNat < T.length by omega)
 have h2:=lG c2 c3 false (tk T lo.toNat).pg
 have h3:=xZ C c2 c3 (tk T lo.toNat).th (tk T lo.toNat).pg (tk T a.toNat).p
 unfold sU
 split
 ·omega
 ·split <;> omega
theorem PG (hF:Fits C T) {a:Int}:∀ (l:List Int) (n:Int),(∀ i∈l,0≤i∧i < T.length)→(0≤n∧n≤1000000000000)→0≤l.foldl (fun n i=>max n (sU C T c2 c3 i a)) n∧l.foldl (fun n i=>max n (sU C T c2 c3 i a)) n≤1000000000000
 | [],n,_,hn=>hn
 | i::l,n,hl,hn=>by
  have:=blkZ_b hF (c2:=c2) (c3:=c3) (a:=a) (hl i (by simp))
  rw [List.foldl_cons]
  exact PG hF l _ (fun j hj=>hl j (by simp [hj])) (by omega)
theorem PE (hF:Fits C T) (a:Int):U (qY C T c2 c3 a (fO T a)):=by
 have:=PG hF (c2:=c2) (c3:=c3) (a:=a) (fO T a) 0 (fun i hi=>gY hi) (by omega)
 unfold qY U;omega
theorem line_E (hF:Fits C T) (hw:0≤c1) (a:Int) (ha:0≤a∧a < T.length):EC Tryz.prog G57 [] [.i c0,.i c1,.i c2,.i c3,.r c4,.i c5,.r c6,.r (ints C),.r (T.map aF),.r c9,.i a] fun x rs vs=>x=0∧rs=[]∧∃ w ok q e,vs=[.i (ldP c2 c3 (tk T a.toNat)).1,.i (qY C T c2 c3 a (fO T a)),.i w,.i q,.i (max (Ce c0 c1 T a) 0),.i e]∧vW (ldL c2 c3 T a) (qY C T c2 c3 a (fO T a)) 16777216 w ok:=by
 have hT:=hF.t
 have hdu:=PE hF (c2:=c2) (c3:=c3) a
 have hk:bU c0≤16:=by unfold bU;split <;> omega
 have hrel:0≤Ce c0 c1 T a∧Ce c0 c1 T a≤1000000:=by
  rw [Ce,if_pos ha]
  have hp:(tk T a.toNat).pg.length≤1000:=by have:=hF.at (show a.toNat < T.length by omega);omega
  have:=Ci hw hp (w:=c0) (T:=T) (l:=above T a) (bU c0)
  omega
 have hd:=Delay_E hF (c0:=c0) (c1:=c1) (c2:=c2) (c3:=c3) (c4:=c4) (c5:=c5) (c6:=c6) (c9:=c9) a
 rw [if_pos ha] at hd
 refine E57 fun EV V=>⟨_,_,Hz hF a ha,_,hd,_,Bound_E (by omega) (fun t ht=>by have:=hF.pg t ht;omega) hw a,_,Gw (by omega),?_⟩
 refine V.p4 ((Gx hF a ha).mono ?_)
 rintro _ _ _ ⟨rfl,rfl,rfl⟩
 have hll:=Jj hF (c2:=c2) (c3:=c3) a
 refine ⟨rfl,_,rfl,rfl,(PZ (O3 hF a) (by omega) hdu).mono ?_⟩
 rintro _ _ _ ⟨rfl,rfl,w,ok,rfl,hlo⟩
 refine ⟨rfl,_,_,_,rfl,rfl,V.p9 ⟨fun hok=>?_,fun hok=>⟨rfl,rfl,w,ok,_,_,rfl,hlo⟩⟩⟩
 have hwb:=hlo.1 hok
 have hwu:U w:=by unfold U;omega
 refine (Count_E hF a w hwu).mono ?_
 rintro _ _ _ ⟨rfl,rfl,rfl⟩
 rw [if_pos ha]
 have hcu:U (FV T w (above T a)):=by
  have:=Ih hF hwu (above T a) (fun i hi=>gY hi) (above T a).length (Nat.le_refl _)
  rwa [List.take_length] at this
 refine ⟨rfl,_,rfl,rfl,(zS hcu (by unfold U;omega)).mono ?_⟩
 rintro _ _ _ ⟨rfl,rfl,rfl⟩
 exact ⟨rfl,_,rfl,rfl,rfl,rfl,w,ok,_,_,rfl,hlo⟩
def kT (L:List (Int × Int)) (n:Int) (most:Int):Bool:=(List.range most.toNat).any fun y=>decide (iR ((y:Int) + 1) L n≤(y:Int) + 1)
theorem vF (L:List (Int × Int)) (n most:Int):kT L n most=true↔∃ y,1≤y∧y≤most∧iR y L n≤y:=by
 simp only [kT,List.any_eq_true,List.mem_range,decide_eq_true_eq]
 constructor
 ·rintro ⟨y,h1,h2⟩
  exact ⟨(y:Int) + 1,by omega,by omega,h2⟩
 ·rintro ⟨y,h1,h2,h3⟩
  refine ⟨(y - 1).toNat,by omega,?_⟩
  have e:(((y - 1).toNat:Nat):Int) + 1=y:=by omega
  rw [e];exact h3
theorem Nk {L:List (Int × Int)} {n w d:Int} {ok:Bool} (h:vW L n 16777216 w ok) (hd:1≤d∧d≤1048576):w≤d↔kT L n d=true:=by
 rw [vF]
 cases ok with
 | true =>
  obtain ⟨h1,h2,h3,h4⟩:=h.1 rfl
  constructor
  ·exact fun h5=>⟨w,h1,h5,h3⟩
  ·rintro ⟨y,g1,g2,g3⟩
   rcases Int.lt_or_le y w with h5 | h5
   ·exact absurd g3 (h4 y g1 h5)
   ·omega
 | false =>
  obtain ⟨h1,h2⟩:=h.2 rfl
  constructor
  ·intro h5;rw [h1] at h5;unfold cu at h5;omega
  ·rintro ⟨y,g1,g2,g3⟩
   exact absurd g3 (h2 y g1 (by omega))
theorem win_fit {L:List (Int × Int)} {n w d:Int} (h:P5 L n d w):w=0↔kT L n d=false:=by
 have e:kT L n d=false↔¬ kT L n d=true:=by simp
 rw [e,vF]
 rcases h with ⟨h1,h2⟩ | ⟨h1,h2,h3,h4⟩
 ·constructor
  ·rintro _ ⟨y,g1,g2,g3⟩
   exact h2 y g1 (by omega) g3
  ·exact fun _=>h1
 ·constructor
  ·intro h5;omega
  ·exact fun h5=>absurd ⟨w,h1,h2,h3⟩ h5
def jc (c2 c3:Int) (C:List Int) (T:List Tk) (i:Nat):Bool:=kT (ldL c2 c3 T i) (qY C T c2 c3 i (fO T i)) (tk T i).de
def gQ (c2 c3:Int) (C:List Int) (T:List Tk) (n:Nat):Bool:=(List.range n).all (jc c2 c3 C T)
theorem uz (c2 c3:Int) (C:List Int) (T:List Tk) (n:Nat):gQ c2 c3 C T (n + 1)=(gQ c2 c3 C T n && jc c2 c3 C T n):=by simp [gQ,List.range_succ]
def eF (c0 c1 c2 c3:Int) (M:List Int) (c5:Int) (K C:List Int) (T:List Tk) (L:List Int):Bool:=decide (bK c0 c1 c2 c3 M c5 K C T L=0) && gQ c2 c3 C T T.length
def O0 (c0 c1 c2 c3:Int) (C:List Int) (T:List Tk) (i:Nat) (w q e:Int):List AV:=[.int .u64 (ldP c2 c3 (tk T i)).1,.int .u64 (qY C T c2 c3 i (fO T i)),.int .u64 w,.int .u64 q,.int .u64 (max (Ce c0 c1 T i) 0),.int .u64 e]
def DI (c0 c1 c2 c3:Int) (C:List Int) (T:List Tk) (R:List (List AV)):Prop:=∀ i,i < R.length→∃ w ok q e,R[i]?=some (O0 c0 c1 c2 c3 C T i w q e)∧vW (ldL c2 c3 T i) (qY C T c2 c3 i (fO T i)) 16777216 w ok
theorem sN:EC Tryz.prog G16 [] [.i c0,.i c1,.i c2,.i c3,.r (ints M),.i c5,.r (ints K),.r (ints C),.r (T.map aF),.r (ints L)] fun x rs vs=>x=0∧rs=[]∧∃ R z e,vs=[.r R,.i z,.i e]∧(bK c0 c1 c2 c3 M c5 K C T L≠0→R=[]∧z=0∧e=bK c0 c1 c2 c3 M c5 K C T L) ∧
  (bK c0 c1 c2 c3 M c5 K C T L=0→R.length=T.length∧(e=if gQ c2 c3 C T T.length=true then 0 else 12)∧DI c0 c1 c2 c3 C T R∧(Rt T→T.length=1→z=(tk T 0).fr)):=by
 refine E16 fun EV V=>D7.mono ?_
 rintro _ _ _ ⟨rfl,rfl,rfl⟩
 refine ⟨rfl,_,rfl,rfl,fun h=>⟨rfl,rfl,_,_,_,rfl,fun _=>⟨rfl,rfl,rfl⟩,fun h2=>absurd h2 h⟩,fun h=>?_⟩
 have hc:=dP h
 have hF:=hc.fits
 have ht8:=hc.t8
 refine (SN (by omega) (fun t ht=>by have:=dm (hc.nums t ht);omega)).mono ?_
 rintro _ _ _ ⟨rfl,rfl,z,rfl,hz⟩
 refine ⟨rfl,_,rfl,rfl,?_⟩
 rw [List.length_map]
 have loop:∀ (d m:Nat) (e:Int) (R:List (List AV)),m + d=T.length→R.length=m→(e=if gQ c2 c3 C T m=true then 0 else 12)→DI c0 c1 c2 c3 C T R→EV 19 [[],R] [.i e,.r (T.map aF),.i (T.length:Int),.i (m:Int),.i c0,.i c1,.i c2,.i c3,.r (ints M),.i c5,.r (ints K),.r (ints C),.r (T.map aF),.r (ints L),.i 0,.i z]:=by
  intro d
  induction d with
  | zero =>
   intro m e R hm hR he hl
   obtain rfl:m=T.length:=by omega
   refine V.p19 fun _ _=>⟨fun h=>by omega,fun _=>⟨rfl,rfl,_,_,_,rfl,fun h2=>absurd h h2,fun _=>?_⟩⟩
   rw [List.drop_zero,List.take_length]
   exact ⟨hR,he,hl,hz⟩
  | succ d ih =>
   intro m e R hm hR he hl
   have hlt:m < T.length:=by omega
   have hn:=dm (hc.nums _ (List.getElem_mem hlt))
   rw [← bP hlt] at hn
   refine V.p19 fun _ _=>⟨fun _=>⟨by omega,aW hlt,(line_E hF (by have:=hc.ways;omega) (m:Int) (by omega)).mono ?_⟩,fun h=>by omega⟩
   rintro _ _ _ ⟨rfl,rfl,w,ok,q,e',rfl,hlo⟩
   refine ⟨rfl,_,_,_,_,_,_,rfl,rfl,?_⟩
   rw [tk3,Int.toNat_natCast]
   refine (Gw (by omega)).mono ?_
   rintro _ _ _ ⟨rfl,rfl,rfl⟩
   have hlf:=Nk hlo (d:=(tk T m).de) (by omega)
   have hin:w≤(tk T m).de↔jc c2 c3 C T m=true:=hlf
   have hl2:DI c0 c1 c2 c3 C T (R++[O0 c0 c1 c2 c3 C T m w q e']):=by
    intro i hi
    rcases Nat.lt_or_ge i R.length with h4 | h4
    ·rw [List.getElem?_append_left h4];exact hl i h4
    ·obtain rfl:i=m:=by simp at hi;omega
     refine ⟨w,ok,q,e',?_,hlo⟩
     rw [List.getElem?_append_right h4,show i - R.length=0 by omega];rfl
   refine ⟨rfl,_,rfl,rfl,fun hgt=>⟨by omega,by omega,?_⟩,fun hle=>⟨by omega,by omega,?_⟩⟩
   ·rw [wrap64 (by omega) (by omega),show (m:Int) + 1=((m + 1:Nat):Int) by omega]
    refine ih (m + 1) 12 _ (by omega) (by simp [hR]) ?_ hl2
    have:jc c2 c3 C T m=false:=by
     cases hb:jc c2 c3 C T m with
     | false=>rfl
     | true=>have:=hin.2 hb;omega
    rw [uz,this,Bool.and_false]
    rfl
   ·rw [wrap64 (by omega) (by omega),show (m:Int) + 1=((m + 1:Nat):Int) by omega]
    refine ih (m + 1) e _ (by omega) (by simp [hR]) ?_ hl2
    have:jc c2 c3 C T m=true:=hin.1 (by omega)
    rw [uz,this,Bool.and_true]
    exact he
 exact loop T.length 0 0 [] (by omega) rfl (by simp [gQ]) (fun i hi=>by simp at hi)
theorem o6:EC Tryz.prog G19 [] [.i c0,.i c1,.i c2,.i c3,.r (ints M),.i c5,.r (ints K),.r (ints C),.r (T.map aF),.r (ints L)] fun x rs vs=>x=0∧rs=[]∧vs=[.b (eF c0 c1 c2 c3 M c5 K C T L)]:=by
 refine E19 fun _ _=>sN.mono ?_
 rintro _ _ _ ⟨rfl,rfl,R,z,e,rfl,h1,h2⟩
 refine ⟨rfl,_,_,_,rfl,rfl,rfl,rfl,?_⟩
 by_cases hz:bK c0 c1 c2 c3 M c5 K C T L=0
 ·have he:=(h2 hz).2.1
  rw [he]
  cases ha:gQ c2 c3 C T T.length <;> simp [eF,hz,ha]
 ·have he:=(h1 hz).2.2
  rw [he]
  simp [eF,hz]
end
end Go.Ab
