import Derived.Test.YtlakbkdhdgicfaaGreatQDqT
import Derived.Test.YtlakbkdhdgicfaaGreatQVA
import Derived.Test.YtlakbkdhdgicfaaGreatQVB
import Derived.Test.YtlakbkdhdgicfaaGreatQVC
import Derived.Test.YtlakbkdhdgicfaaGreatQVD
import Derived.Test.YtlakbkdhdgicfaaGreatQS
import Derived.Test.YtlakbkdhdgicfaaGreatLayE
namespace Go.Ab
open Go Go.Proofs
set_option linter.unusedVariables false
set_option linter.unusedSimpArgs false
set_option maxRecDepth 100000
set_option maxHeartbeats 1000000
def t29 (d:Int):Tk:=⟨1,1,10,d,0,0,[⟨1,5,0⟩]⟩
theorem EH:EC Tryz.prog G79 [] [] fun x rs vs=>x=0∧rs=[[t29 10].map aF]∧vs=[.i 1,.i 1,.i 1,.i 5,.i 0]:=E79 fun _ _=>⟨rfl,rfl,rfl⟩
theorem x9:EC Tryz.prog G36 [] [] fun x rs vs=>x=0∧rs=[]∧vs=[.b true]:=by
 refine E36 fun _ _=>EH.mono ?_
 rintro _ _ _ ⟨rfl,rfl,rfl⟩
 refine ⟨rfl,_,_,_,_,_,_,rfl,rfl,?_⟩
 refine (vU (c0:=1) (c1:=1) (c2:=1) (c3:=5) (M:=[]) (c5:=0) (K:=[]) (C:=[]) (T:=[t29 10]) (L:=[]) (by simp)).mono ?_
 rintro _ _ _ ⟨rfl,B,ok,rfl,rfl,h1,h2,h3⟩
 have hok:ok=true:=by rw [h1];decide
 obtain ⟨h4,h5⟩:=h3 hok
 have h6:=h5 0 (by simp)
 have hB:B.getD 0 0=63:=by
  have g1:=yR h6.1
  have g2:=h6.2 63 ⟨by decide,fun i hi hp=>by
   obtain rfl:i=0:=by simp at hi;omega
   exact absurd hp (Int.lt_irrefl _)⟩
  omega
 refine ⟨rfl,_,_,rfl,rfl,EH.mono ?_⟩
 rintro _ _ _ ⟨rfl,rfl,rfl⟩
 refine ⟨rfl,_,_,_,_,_,_,rfl,rfl,by decide,rfl,?_⟩
 refine (vU (c0:=1) (c1:=1) (c2:=1) (c3:=5) (M:=[]) (c5:=0) (K:=[]) (C:=[]) (T:=[t29 4]) (L:=[]) (by simp)).mono ?_
 rintro _ _ _ ⟨rfl,B2,ok2,rfl,rfl,h7,_,_⟩
 have hok2:ok2=false:=by rw [h7];decide
 refine ⟨rfl,_,_,rfl,rfl,?_⟩
 refine (Ip (c0:=1) (c1:=1) (c2:=1) (c3:=5) (M:=[]) (c5:=0) (K:=[]) (C:=[]) (T:=[t29 4]) (L:=[]) (by simp) []).mono ?_
 rintro _ _ _ ⟨rfl,rfl,rfl⟩
 rw [if_neg (by simp),if_neg (by simp)]
 refine ⟨rfl,_,_,_,_,_,_,_,_,_,_,_,rfl,rfl,fun _=>⟨fun _=>⟨?_,?_,fun _=>⟨fun _=>⟨fun _=>EH.mono ?_,fun h=>absurd rfl h⟩,fun h=>by rw [hok2] at h;cases h⟩,fun h=>?_⟩,fun h=>?_⟩,fun h=>by rw [hok] at h;cases h⟩
 ·rw [ints_length,h4];decide
 ·rw [show Int.toNat (0:Int)=0 from rfl];exact aJ (by rw [h4];decide)
 ·rintro _ _ _ ⟨rfl,rfl,rfl⟩
  refine ⟨rfl,_,_,_,_,_,_,rfl,rfl,?_⟩
  refine (ku (c0:=1) (c1:=1) (c2:=1) (c3:=5) (M:=[]) (c5:=0) (K:=[]) (C:=[]) (T:=[t29 10]) (L:=[]) (by simp) [9]).mono ?_
  rintro _ _ _ ⟨rfl,rfl,rfl⟩
  refine ⟨rfl,_,rfl,rfl,fun _=>EH.mono ?_,fun h=>absurd h (by decide)⟩
  rintro _ _ _ ⟨rfl,rfl,rfl⟩
  refine ⟨rfl,_,_,_,_,_,_,rfl,rfl,?_⟩
  refine (ku (c0:=1) (c1:=1) (c2:=1) (c3:=5) (M:=[]) (c5:=0) (K:=[]) (C:=[]) (T:=[t29 10]) (L:=[]) (by simp) [0]).mono ?_
  rintro _ _ _ ⟨rfl,rfl,rfl⟩
  refine ⟨rfl,_,rfl,rfl,fun _=>EH.mono ?_,fun h=>absurd h (by decide)⟩
  rintro _ _ _ ⟨rfl,rfl,rfl⟩
  refine ⟨rfl,_,_,_,_,_,_,rfl,rfl,?_⟩
  refine (JS (c0:=1) (c1:=1) (c2:=1) (c3:=5) (M:=[]) (c5:=0) (K:=[]) (C:=[]) (T:=[t29 10]) (L:=[]) (by simp)).mono ?_
  rintro _ _ _ ⟨rfl,rfl,rfl⟩
  exact ⟨rfl,_,rfl,rfl,rfl,rfl,congrArg (fun b=>[Lf.b b]) (by decide)⟩
 ·exfalso;rw [show Int.toNat (0:Int)=0 from rfl,aN] at h;exact h hB
 ·exfalso;rw [ints_length,h4] at h;exact h rfl
theorem None8 (c0:Int) (_:(Lit.int .i64 c0).wf=true) (c1:Int) (_:(Lit.int .i64 c1).wf=true) (c2:Int) (_:(Lit.int .i64 c2).wf=true) (c3:Int) (_:(Lit.int .i64 c3).wf=true) (c4:List (List AV)) (_:c4.length≤maxLen) (g4:∀ r∈c4,GdL [.int .i64] r) (c5:Int) (_:(Lit.int .i64 c5).wf=true) (c6:List (List AV)) (_:c6.length≤maxLen) (g6:∀ r∈c6,GdL [.int .i64] r) (c7:List (List AV)) (_:c7.length≤maxLen) (g7:∀ r∈c7,GdL [.int .i64] r) (tasks:List (List AV)) (ht:tasks.length≤maxLen) (gt:∀ r∈tasks,GdL TKd r) (c9:List (List AV)) (_:c9.length≤maxLen) (g9:∀ r∈c9,GdL [.int .i64] r) (ls:List (List AV)) (_:ls.length≤maxLen) (gl:∀ r∈ls,GdL [.int .i64] r):EC Tryz.prog G8 [] [.i c0,.i c1,.i c2,.i c3,.r c4,.i c5,.r c6,.r c7,.r tasks,.r c9,.r ls] fun x rs vs=>x=0∧vs=[.b true]:=by
 obtain ⟨M,rfl⟩:=exC g4
 obtain ⟨K,rfl⟩:=exC g6
 obtain ⟨C,rfl⟩:=exC g7
 obtain ⟨T,rfl,_⟩:=FP gt
 obtain ⟨L,rfl⟩:=exC g9
 rw [List.length_map] at ht
 obtain ⟨l,rfl⟩:=exC gl
 refine E8 fun _ _=>x9.mono ?_
 rintro _ _ _ ⟨rfl,rfl,rfl⟩
 refine ⟨rfl,_,rfl,rfl,fun h=>(by cases h),fun _=>(JC ht).mono ?_⟩
 rintro _ _ _ ⟨rfl,rfl,b,rfl,hb⟩
 refine ⟨rfl,_,rfl,rfl,fun h=>⟨fun _=>⟨rfl,rfl⟩,fun _=>?_⟩,fun _=>⟨rfl,rfl⟩⟩
 have hT:T.length≤1000:=by have:=hb h;omega
 refine (vU hT).mono ?_
 rintro _ _ _ ⟨rfl,B,ok,rfl,rfl,h1,h2,h3⟩
 refine ⟨rfl,_,_,rfl,rfl,fun _=>⟨rfl,rfl⟩,fun hk=>(lC hT l).mono ?_⟩
 rintro _ _ _ ⟨rfl,rfl,rfl⟩
 rw [hk] at h1
 refine ⟨rfl,_,rfl,rfl,fun _=>(DJ hT).mono ?_,fun g=>?_⟩
 ·rintro _ _ _ ⟨rfl,rfl,rfl⟩
  refine ⟨rfl,_,rfl,rfl,(Ir hT _).mono ?_⟩
  rintro _ _ _ ⟨rfl,rfl,rfl⟩
  exact ⟨rfl,_,_,rfl,rfl,rfl,by rw [← h1];rfl⟩
 ·exfalso
  have h4:=GX (dN.1 g).2
  have:iF c0 c1 c2 c3 M c5 K C T L (bI T)=true:=dN.2 ⟨dI T,h4⟩
  rw [this] at h1;cases h1
theorem Most9 (c0:Int) (_:(Lit.int .i64 c0).wf=true) (c1:Int) (_:(Lit.int .i64 c1).wf=true) (c2:Int) (_:(Lit.int .i64 c2).wf=true) (c3:Int) (_:(Lit.int .i64 c3).wf=true) (c4:List (List AV)) (_:c4.length≤maxLen) (g4:∀ r∈c4,GdL [.int .i64] r) (c5:Int) (_:(Lit.int .i64 c5).wf=true) (c6:List (List AV)) (_:c6.length≤maxLen) (g6:∀ r∈c6,GdL [.int .i64] r) (c7:List (List AV)) (_:c7.length≤maxLen) (g7:∀ r∈c7,GdL [.int .i64] r) (tasks:List (List AV)) (ht:tasks.length≤maxLen) (gt:∀ r∈tasks,GdL TKd r) (c9:List (List AV)) (_:c9.length≤maxLen) (g9:∀ r∈c9,GdL [.int .i64] r) (ls:List (List AV)) (_:ls.length≤maxLen) (gl:∀ r∈ls,GdL [.int .i64] r) (a:Int) (wa:(Lit.int .u8 a).wf=true):EC Tryz.prog G9 [] [.i c0,.i c1,.i c2,.i c3,.r c4,.i c5,.r c6,.r c7,.r tasks,.r c9,.r ls,.i a] fun x rs vs=>x=0∧vs=[.b true]:=by
 obtain ⟨M,rfl⟩:=exC g4
 obtain ⟨K,rfl⟩:=exC g6
 obtain ⟨C,rfl⟩:=exC g7
 obtain ⟨T,rfl,_⟩:=FP gt
 obtain ⟨L,rfl⟩:=exC g9
 rw [List.length_map] at ht
 obtain ⟨l,rfl⟩:=exC gl
 have wa:=wf8 wa
 refine E9 fun EV V=>x9.mono ?_
 rintro _ _ _ ⟨rfl,rfl,rfl⟩
 refine ⟨rfl,_,rfl,rfl,fun h=>(by cases h),fun _=>(JC ht).mono ?_⟩
 rintro _ _ _ ⟨rfl,rfl,b,rfl,hb⟩
 refine ⟨rfl,_,rfl,rfl,fun h=>⟨fun _=>⟨rfl,rfl⟩,fun hl30=>?_⟩,fun _=>⟨rfl,rfl⟩⟩
 rw [ints_length] at hl30
 have hT20:=hb h
 have hT:T.length≤1000:=by omega
 refine (vU hT).mono ?_
 rintro _ _ _ ⟨rfl,B,ok,rfl,rfl,h1,h2,h3⟩
 refine ⟨rfl,_,_,rfl,rfl,fun hk=>⟨rfl,?_⟩,fun hk=>?_⟩
 ·rw [h2 hk];rfl
 obtain ⟨hBl,hB⟩:=h3 hk
 rw [hk] at h1
 have hL:=(dN.1 h1.symm).2
 have hbp:iF c0 c1 c2 c3 M c5 K C T L B=true:=dN.2 ⟨hBl,Nz hL hB⟩
 have h0:0 < T.length:=(dP (fU.1 hL).1).t0 |> fun g=>by rwa [kN] at g
 rw [lD]
 have p63:EV 63 [] [.i a,.r (ints B),.i c0,.i c1,.i c2,.i c3,.r (ints M),.i c5,.r (ints K),.r (ints C),.r (T.map aF),.r (ints L)]:=by
  refine V.p63 ?_
  rw [ints_length,hBl,wrap64 (x:=a) (by omega) (by omega),Int.tmod_eq_emod_of_nonneg wa.1]
  have hm:=Int.emod_nonneg a (show (T.length:Int)≠0 by omega)
  have hm2:=Int.emod_lt_of_pos a (show 0 < (T.length:Int) by omega)
  generalize a % (T.length:Int)=i at *
  have hi:i.toNat < B.length:=by omega
  have hbi:=yR (hB i.toNat (by omega)).1
  have hp0:=(dm (hB i.toNat (by omega)).1.1).1.1
  have hp0:0≤(tk T i.toNat).p:=hp0
  rw [aN,wrap64 (by omega) (by omega),uG,List.drop_zero,List.take_of_length_le (by rw [ints_length,List.length_set];omega)]
  refine ⟨by omega,by omega,by omega,hm,hm2,by rw [← aN];exact aJ hi,Oo _,(lC hT _).mono ?_⟩
  rintro _ _ _ ⟨rfl,rfl,rfl⟩
  refine ⟨rfl,_,rfl,rfl,rfl,?_⟩
  have hno:iF c0 c1 c2 c3 M c5 K C T L (B.set i.toNat (B.getD i.toNat 0 + 1))=false:=by
   cases hq:iF c0 c1 c2 c3 M c5 K C T L (B.set i.toNat (B.getD i.toNat 0 + 1)) with
   | false=>rfl
   | true =>
    exfalso
    have:=BI hB (dN.1 hq).2 i.toNat (by omega)
    rw [List.getD_eq_getElem?_getD,List.getElem?_set,if_pos rfl,if_pos hi] at this
    simp only [Option.getD_some] at this
    omega
  rw [hno];rfl
 refine (lC hT B).mono ?_
 rintro _ _ _ ⟨rfl,rfl,rfl⟩
 rw [hbp]
 refine ⟨rfl,_,rfl,rfl,fun _=>⟨fun g=>?_,fun _=>(lC hT l).mono ?_⟩,fun g=>by cases g⟩
 ·exfalso;rw [ints_length,List.length_map] at g;omega
 rintro _ _ _ ⟨rfl,rfl,rfl⟩
 refine ⟨rfl,_,rfl,rfl,fun hp=>?_,fun _=>p63⟩
 obtain ⟨hll,hpl⟩:=dN.1 hp
 have hle:=BI hB hpl
 rw [ints_length]
 have loop:∀ d m:Nat,m + d=l.length→EV 44 [] [.r (ints l),.i a,.r (ints B),.i (l.length:Int),.i (m:Int),.i c0,.i c1,.i c2,.i c3,.r (ints M),.i c5,.r (ints K),.r (ints C),.r (T.map aF),.r (ints L)]:=by
  intro d
  induction d with
  | zero=>intro m hm;exact V.p44 ⟨fun g=>by omega,fun _=>p63⟩
  | succ d ih =>
   intro m hm
   refine V.p44 ⟨fun _=>⟨by omega,aJ (by omega),aJ (by omega),fun g=>?_,fun _=>?_⟩,fun g=>by omega⟩
   ·exfalso
    rw [Int.toNat_natCast,aN,aN] at g
    have:=hle m (by omega)
    omega
   ·rw [wrap64 (by omega) (by omega),show (m:Int) + 1=((m + 1:Nat):Int) by omega]
    exact ih (m + 1) (by omega)
 exact loop l.length 0 (by omega)
def uC (T:List Tk) (m:Nat):List Int:=(List.range T.length).map fun i=>if i < m then (tk T i).th else 0
theorem pV (T:List Tk) (m:Nat):(uC T m).length=T.length:=by simp [uC]
theorem NQ (T:List Tk) (m:Nat) {i:Nat} (hi:i < T.length):(uC T m).getD i 0=if i < m then (tk T i).th else 0:=by
 rw [List.getD_eq_getElem?_getD];simp [uC,hi]
theorem MB (T:List Tk) {m:Nat} (hm:m < T.length):(uC T m).set m (tk T m).th=uC T (m + 1):=by
 apply List.ext_getElem (by simp [uC])
 intro i h1 h2
 simp only [List.length_set,pV] at h1
 rw [List.getElem_set]
 simp only [uC,List.getElem_map,List.getElem_range]
 by_cases e:m=i
 ·subst e;simp
 ·rw [if_neg e]
  by_cases g:i < m
  ·rw [if_pos g,if_pos (by omega)]
  ·rw [if_neg g,if_neg (by omega)]
theorem Passes7 (c0:Int) (_:(Lit.int .i64 c0).wf=true) (c1:Int) (_:(Lit.int .i64 c1).wf=true) (c2:Int) (_:(Lit.int .i64 c2).wf=true) (c3:Int) (_:(Lit.int .i64 c3).wf=true) (c4:List (List AV)) (_:c4.length≤maxLen) (g4:∀ r∈c4,GdL [.int .i64] r) (c5:Int) (_:(Lit.int .i64 c5).wf=true) (c6:List (List AV)) (_:c6.length≤maxLen) (g6:∀ r∈c6,GdL [.int .i64] r) (c7:List (List AV)) (_:c7.length≤maxLen) (g7:∀ r∈c7,GdL [.int .i64] r) (tasks:List (List AV)) (ht:tasks.length≤maxLen) (gt:∀ r∈tasks,GdL TKd r) (c9:List (List AV)) (_:c9.length≤maxLen) (g9:∀ r∈c9,GdL [.int .i64] r) (ls:List (List AV)) (_:ls.length≤maxLen) (gl:∀ r∈ls,GdL [.int .i64] r):EC Tryz.prog G7 [] [.i c0,.i c1,.i c2,.i c3,.r c4,.i c5,.r c6,.r c7,.r tasks,.r c9,.r ls] fun x rs vs=>x=0∧vs=[.b true]:=by
 obtain ⟨M,rfl⟩:=exC g4
 obtain ⟨K,rfl⟩:=exC g6
 obtain ⟨C,rfl⟩:=exC g7
 obtain ⟨T,rfl,_⟩:=FP gt
 obtain ⟨L,rfl⟩:=exC g9
 rw [List.length_map] at ht
 obtain ⟨l,rfl⟩:=exC gl
 refine E7 fun EV V=>x9.mono ?_
 rintro _ _ _ ⟨rfl,rfl,rfl⟩
 refine ⟨rfl,_,rfl,rfl,fun h=>(by cases h),fun _=>(JC ht).mono ?_⟩
 rintro _ _ _ ⟨rfl,rfl,b,rfl,hb⟩
 refine ⟨rfl,_,rfl,rfl,fun h=>⟨fun _=>⟨rfl,rfl⟩,fun hl30=>?_⟩,fun _=>⟨rfl,rfl⟩⟩
 have hT20:=hb h
 have hT:T.length≤1000:=by omega
 rw [List.length_map]
 refine ⟨by omega,by omega,?_⟩
 have rest:∀ (e d0 d1 d2 d3 d5:Int) (d4 d6 d7 d9:List (List AV)) (S:List Tk),(l.length≠T.length→e=1)→(l.length=T.length→∀ i,i < S.length→i < T.length∧(tk S i).th=l.getD i 0)→S.length≤T.length→EV 41 [ints (uC T T.length)] [.r (ints l),.i e,.b true,.i c0,.i c1,.i c2,.i c3,.r (ints M),.i c5,.r (ints K),.r (ints C),.r (T.map aF),.r (ints L),.i d0,.i d1,.i d2,.i d3,.r d4,.i d5,.r d6,.r d7,.r (S.map aF),.r d9]:=by
  intro e d0 d1 d2 d3 d5 d4 d6 d7 d9 S he hS hSl
  refine V.p41 fun _=>(DJ hT).mono ?_
  rintro _ _ _ ⟨rfl,rfl,rfl⟩
  refine ⟨rfl,_,rfl,rfl,?_⟩
  rw [List.length_map]
  have last:l.length=T.length→∀ d m:Nat,m + d=S.length→EV 79 [ints (bI T)] [.r (ints l),.b true,.i (S.length:Int),.i (m:Int),.i c0,.i c1,.i c2,.i c3,.r (ints M),.i c5,.r (ints K),.r (ints C),.r (T.map aF),.r (ints L),.i d0,.i d1,.i d2,.i d3,.r d4,.i d5,.r d6,.r d7,.r (S.map aF),.r d9]:=by
   intro hll d
   induction d with
   | zero =>
    intro m hm
    refine V.p79 fun _=>⟨fun g=>by omega,fun _=>⟨fun _=>⟨fun _=>(JS hT).mono ?_,fun g=>?_⟩,fun g=>by cases g⟩⟩
    ·rintro _ _ _ ⟨rfl,rfl,rfl⟩
     refine ⟨rfl,_,rfl,rfl,rfl,?_⟩
     rw [List.length_map];simp
    ·exfalso;rw [ints_length,dI,List.length_map] at g;exact g rfl
   | succ d ih =>
    intro m hm
    have hmS:m < S.length:=by omega
    obtain ⟨g1,g2⟩:=hS hll m hmS
    refine V.p79 fun _=>⟨fun _=>⟨by omega,aW hmS,aJ (by omega),fun g=>?_,fun _=>?_⟩,fun g=>by omega⟩
    ·exfalso;rw [Int.toNat_natCast,tk1,aN] at g;exact g g2
    ·rw [wrap64 (by omega) (by omega),show (m:Int) + 1=((m + 1:Nat):Int) by omega]
     exact ih (m + 1) (by omega)
  have loop:∀ d m:Nat,m + d=T.length→EV 48 [ints (uC T T.length),ints (bI T)] [.r (ints l),.i e,.b true,.r (T.map aF),.i (T.length:Int),.i (m:Int),.i c0,.i c1,.i c2,.i c3,.r (ints M),.i c5,.r (ints K),.r (ints C),.r (T.map aF),.r (ints L),.i d0,.i d1,.i d2,.i d3,.r d4,.i d5,.r d6,.r d7,.r (S.map aF),.r d9]:=by
   intro d
   induction d with
   | zero =>
    intro m hm
    refine V.p48 fun _ _=>⟨fun g=>by omega,fun _=>⟨fun g=>⟨fun _=>⟨rfl,?_⟩,fun g=>by cases g⟩,fun g=>?_⟩⟩
    ·rw [ints_length,List.length_map] at g
     rw [he (by omega)];rfl
    ·rw [ints_length,List.length_map] at g
     have h3:=last (by omega) S.length 0 (by omega)
     rw [List.length_map]
     exact h3
   | succ d ih =>
    intro m hm
    have hlt:m < T.length:=by omega
    refine V.p48 fun _ _=>⟨fun _=>⟨by omega,aW hlt,by rw [ints_length,pV];omega,aJ (by rw [pV];exact hlt),fun g=>?_,fun _=>⟨fun g=>?_,fun _=>⟨by omega,by rw [ints_length,dI];omega,aJ (by rw [dI];exact hlt),fun g=>?_,fun _=>?_⟩⟩⟩,fun g=>by omega⟩
    ·exfalso;rw [Int.toNat_natCast,tk1,aN,NQ T _ hlt,if_pos hlt] at g;exact g rfl
    ·exfalso;rw [ints_length,dI] at g;omega
    ·exfalso;rw [Int.toNat_natCast,tk0,aN,oO hlt] at g;exact g rfl
    ·rw [wrap64 (by omega) (by omega),show (m:Int) + 1=((m + 1:Nat):Int) by omega]
     exact ih (m + 1) (by omega)
  exact loop T.length 0 (by omega)
 have loop:∀ d m:Nat,m + d=T.length→EV 25 [ints (uC T m)] [.r (ints l),.r (T.map aF),.i (T.length:Int),.i (m:Int),.i c0,.i c1,.i c2,.i c3,.r (ints M),.i c5,.r (ints K),.r (ints C),.r (T.map aF),.r (ints L)]:=by
  intro d
  induction d with
  | zero =>
   intro m hm
   obtain rfl:m=T.length:=by omega
   refine V.p25 fun _=>⟨fun g=>by omega,fun _=>(Ip hT l).mono ?_⟩
   rintro _ _ _ ⟨rfl,rfl,rfl⟩
   by_cases hc:l.length=T.length∧bK c0 c1 c2 c3 M c5 K C (thr T l) L=0
   ·rw [if_pos hc]
    refine ⟨rfl,_,_,_,_,_,_,_,_,_,_,_,rfl,rfl,(ku hT l).mono ?_⟩
    rintro _ _ _ ⟨rfl,rfl,rfl⟩
    refine ⟨rfl,_,rfl,rfl,(lC hT l).mono ?_⟩
    rintro _ _ _ ⟨rfl,rfl,rfl⟩
    refine ⟨rfl,_,rfl,rfl,?_⟩
    rw [beq_self_eq_true]
    exact rest 0 _ _ _ _ _ _ _ _ _ (thr T l) (fun g=>absurd hc.1 g) (fun _ i hi=>by rw [kN] at hi;exact ⟨hi,by rw [kz T l hi];rfl⟩) (by rw [kN];exact Nat.le_refl _)
   ·rw [if_neg hc]
    refine ⟨rfl,_,_,_,_,_,_,_,_,_,_,_,rfl,rfl,(ku hT l).mono ?_⟩
    rintro _ _ _ ⟨rfl,rfl,rfl⟩
    refine ⟨rfl,_,rfl,rfl,(lC hT l).mono ?_⟩
    rintro _ _ _ ⟨rfl,rfl,rfl⟩
    refine ⟨rfl,_,rfl,rfl,?_⟩
    rw [beq_self_eq_true]
    exact rest _ _ _ _ _ _ _ _ _ _ [] (fun g=>by rw [if_neg g]) (fun _ i hi=>by cases hi) (by simp)
  | succ d ih =>
   intro m hm
   have hlt:m < T.length:=by omega
   refine V.p25 fun _=>⟨fun _=>⟨by omega,aW hlt,by rw [ints_length,pV];omega,aJ (by rw [pV];exact hlt),?_⟩,fun g=>by omega⟩
   rw [Int.toNat_natCast,tk1,uG,MB T hlt,wrap64 (by omega) (by omega),show (m:Int) + 1=((m + 1:Nat):Int) by omega]
   exact ih (m + 1) (by omega)
 have h0:=loop T.length 0 (by omega)
 have e0:List.replicate T.length [AV.int .i64 (0:Int)]=ints (uC T 0):=by
  apply List.ext_getElem (by simp [uC,ints])
  intro i h1 h2
  simp [ints,uC]
 rw [e0]
 exact h0
end Go.Ab
