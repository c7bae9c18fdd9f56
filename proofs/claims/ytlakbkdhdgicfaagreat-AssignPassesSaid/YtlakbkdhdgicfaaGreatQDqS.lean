import Derived.Test.YtlakbkdhdgicfaaGreatQDqR
import Derived.Test.YtlakbkdhdgicfaaGreatQVA
import Derived.Test.YtlakbkdhdgicfaaGreatQVB
import Derived.Test.YtlakbkdhdgicfaaGreatQVC
import Derived.Test.YtlakbkdhdgicfaaGreatQVD
import Derived.Test.YtlakbkdhdgicfaaGreatQS
import Derived.Test.YtlakbkdhdgicfaaGreatLayE
namespace Go.Ab
open Go Go.Proofs
set_option linter.unusedVariables false
set_option linter.unusedSimpArgs false
set_option maxRecDepth 100000
set_option maxHeartbeats 1000000
theorem wf8 {n:Int} (h:(Lit.int .u8 n).wf=true):0≤n∧n≤255:=by
 simp only [Lit.wf,Bool.and_eq_true,decide_eq_true_eq] at h
 have e1:IntKind.min .u8=0:=rfl
 have e2:IntKind.max .u8=255:=rfl
 rw [e1,e2] at h;exact h
theorem wf32 {n:Int} (h:(Lit.int .u32 n).wf=true):0≤n∧n≤4294967295:=by
 simp only [Lit.wf,Bool.and_eq_true,decide_eq_true_eq] at h
 have e1:IntKind.min .u32=0:=rfl
 have e2:IntKind.max .u32=4294967295:=rfl
 rw [e1,e2] at h;exact h
section
variable {c0 c1 c2 c3 c5:Int} {M K C L:List Int} {T:List Tk}
theorem few29 (hT:T.length≤maxLen):EC Tryz.prog G29 [] [.i c0,.i c1,.i c2,.i c3,.r (ints M),.i c5,.r (ints K),.r (ints C),.r (T.map aF),.r (ints L)] fun x rs vs=>x=0∧rs=[]∧∃ b,vs=[.b b]∧(b=true→T.length≤20):=by
 have no:∀ {p:Prop},(0:Nat)=0∧([]:Rs)=[]∧∃ b,[Lf.b false]=[.b b]∧(b=true→p):=⟨rfl,rfl,false,rfl,fun h=>by cases h⟩
 refine E29 fun _ _=>(DK hT).mono ?_
 rintro _ _ _ ⟨rfl,rfl,b,rfl,hb⟩
 refine ⟨rfl,_,rfl,rfl,fun h=>⟨fun _=>⟨fun _=>(JU hT).mono ?_,fun _=>no⟩,fun _=>no⟩,fun _=>no⟩
 rintro _ _ _ ⟨rfl,rfl,d,rfl,_⟩
 exact ⟨rfl,_,rfl,rfl,rfl,rfl,_,rfl,fun _=>(hb h).2.2.2.1⟩
theorem JQ (hT:T.length≤1000) (a n:Int) (ha:isZ T a):EC Tryz.prog G31 [] [.i c0,.i c1,.i c2,.i c3,.r (ints M),.i c5,.r (ints K),.r (ints C),.r (T.map aF),.r (ints L),.i a,.i n] fun x rs vs=>x=0∧rs=[]∧vs=[.b (pK c0 c1 c2 c3 M c5 K C T L a n)]:=by
 have hh:=ha
 unfold isZ at hh
 refine E31 fun _ _=>?_
 have e:(T.map aF).set a.toNat [.int .i64 (cIS (T.map aF) a.toNat 0),.int .i64 (cIS (T.map aF) a.toNat 1),.int .i64 (cIS (T.map aF) a.toNat 2),.int .i64 (cIS (T.map aF) a.toNat 3),.int .i64 (cIS (T.map aF) a.toNat 4),.int .i64 n,.inl 3 (cRS (T.map aF) a.toNat 6)]=(iT T a n).map aF:=by
  rw [tk0,tk1,tk2,tk3,tk4,tk6,iT,if_pos ha,← yA];rfl
 rw [e,List.length_map,List.drop_zero,List.take_of_length_le (by rw [List.length_map,nY];exact Nat.le_refl _)]
 refine ⟨by omega,by omega,hh.1,hh.2,aW (by omega),IM _,vV.mono ?_⟩
 rintro _ _ _ ⟨rfl,rfl,rfl⟩
 refine ⟨rfl,_,rfl,rfl,fun h=>(rH (dP h)).mono ?_,fun h=>⟨rfl,rfl,?_⟩⟩
 ·rintro _ _ _ ⟨rfl,rfl,rfl⟩
  refine ⟨rfl,_,rfl,rfl,rfl,rfl,?_⟩
  unfold pK eF
  simp [h]
 ·unfold pK eF
  simp [h]
end
theorem Float5 (c0:Int) (_:(Lit.int .i64 c0).wf=true) (c1:Int) (_:(Lit.int .i64 c1).wf=true) (c2:Int) (_:(Lit.int .i64 c2).wf=true) (c3:Int) (_:(Lit.int .i64 c3).wf=true) (c4:List (List AV)) (_:c4.length≤maxLen) (g4:∀ r∈c4,GdL [.int .i64] r) (c5:Int) (_:(Lit.int .i64 c5).wf=true) (c6:List (List AV)) (_:c6.length≤maxLen) (g6:∀ r∈c6,GdL [.int .i64] r) (c7:List (List AV)) (_:c7.length≤maxLen) (g7:∀ r∈c7,GdL [.int .i64] r) (tasks:List (List AV)) (ht:tasks.length≤maxLen) (gt:∀ r∈tasks,GdL TKd r) (c9:List (List AV)) (_:c9.length≤maxLen) (g9:∀ r∈c9,GdL [.int .i64] r) (a:Int) (wa:(Lit.int .u8 a).wf=true) (s:Int) (ws:(Lit.int .u32 s).wf=true):EC Tryz.prog G5 [] [.i c0,.i c1,.i c2,.i c3,.r c4,.i c5,.r c6,.r c7,.r tasks,.r c9,.i a,.i s] fun x rs vs=>x=0∧vs=[.b true]:=by
 obtain ⟨M,rfl⟩:=exC g4
 obtain ⟨K,rfl⟩:=exC g6
 obtain ⟨C,rfl⟩:=exC g7
 obtain ⟨T,rfl,_⟩:=FP gt
 obtain ⟨L,rfl⟩:=exC g9
 rw [List.length_map] at ht
 have wa:=wf8 wa
 have ws:=wf32 ws
 refine E5 fun _ _=>JB.mono ?_
 rintro _ _ _ ⟨rfl,rfl,rfl⟩
 refine ⟨rfl,_,rfl,rfl,fun h=>(by cases h),fun _=>(few29 ht).mono ?_⟩
 rintro _ _ _ ⟨rfl,rfl,b,rfl,hb⟩
 rw [List.length_map]
 refine ⟨rfl,_,rfl,rfl,fun h=>⟨fun _=>⟨rfl,rfl⟩,fun hne=>⟨hne,?_⟩⟩,fun _=>⟨rfl,rfl⟩⟩
 have hT:=hb h
 rw [wrap64 (x:=a) (by omega) (by omega),Int.tmod_eq_emod_of_nonneg wa.1]
 have hm:=Int.emod_nonneg a hne
 have hm2:=Int.emod_lt_of_pos a (show 0 < (T.length:Int) by omega)
 generalize a % (T.length:Int)=i at *
 have hi:isZ T i:=⟨hm,hm2⟩
 refine (aao (by omega) i).mono ?_
 rintro _ _ _ ⟨rfl,rfl,n,ok,rfl,hok⟩
 refine ⟨rfl,_,_,rfl,rfl,fun hk=>?_,fun hk=>?_⟩
 ·subst hk
  obtain ⟨h1,h2⟩:=hok.no rfl
  refine ⟨fun _=>(JQ (by omega) i 0 hi).mono ?_,fun g=>absurd h1 g⟩
  rintro _ _ _ ⟨rfl,rfl,rfl⟩
  refine ⟨rfl,_,rfl,rfl,rfl,?_⟩
  have:pK c0 c1 c2 c3 M c5 K C T L i 0=false:=by simpa using fun g=>h2 ⟨hi,g⟩
  rw [this];rfl
 ·subst hk
  obtain ⟨_,h1,h2,h3,h4⟩:=hok.yes rfl
  have fin:EC Tryz.prog G31 [] [.i c0,.i c1,.i c2,.i c3,.r (ints M),.i c5,.r (ints K),.r (ints C),.r (T.map aF),.r (ints L),.i i,.i (Int.tmod (IntKind.wrap .i64 s) (n + 1))] fun x rs vs=>x=0∧rs=[]∧vs=[.b true]:=by
   refine (JQ (by omega) i _ hi).mono ?_
   rintro _ _ _ ⟨rfl,rfl,rfl⟩
   refine ⟨rfl,rfl,?_⟩
   rw [wrap64 (x:=s) (by omega) (by omega),Int.tmod_eq_emod_of_nonneg ws.1]
   have g1:=Int.emod_nonneg s (show n + 1≠0 by omega)
   have g2:=Int.emod_lt_of_pos s (show 0 < n + 1 by omega)
   rw [nJ hi g1 (by omega) h3]
  rw [wrap64 (x:=n + 1) (by omega) (by omega)]
  refine ⟨fun _=>⟨fun _=>(JQ (by omega) i n hi).mono ?_,fun g=>by omega⟩,fun g=>by omega⟩
  rintro _ _ _ ⟨rfl,rfl,rfl⟩
  rw [h3]
  refine ⟨rfl,_,rfl,rfl,fun _=>⟨fun _=>(JQ (by omega) i (n + 1) hi).mono ?_,fun _=>⟨by omega,fin.mono ?_⟩⟩,fun g=>by cases g⟩
  ·rintro _ _ _ ⟨rfl,rfl,rfl⟩
   rw [h4]
   refine ⟨rfl,_,rfl,rfl,fun g=>(by cases g),fun _=>⟨by omega,fin.mono ?_⟩⟩
   rintro _ _ _ ⟨rfl,rfl,rfl⟩
   exact ⟨rfl,_,rfl,rfl,rfl,rfl⟩
  ·rintro _ _ _ ⟨rfl,rfl,rfl⟩
   exact ⟨rfl,_,rfl,rfl,rfl,rfl⟩
theorem NK (c0:Int) (_:(Lit.int .i64 c0).wf=true) (c1:Int) (_:(Lit.int .i64 c1).wf=true) (c2:Int) (_:(Lit.int .i64 c2).wf=true) (c3:Int) (_:(Lit.int .i64 c3).wf=true) (c4:List (List AV)) (_:c4.length≤maxLen) (g4:∀ r∈c4,GdL [.int .i64] r) (c5:Int) (_:(Lit.int .i64 c5).wf=true) (c6:List (List AV)) (_:c6.length≤maxLen) (g6:∀ r∈c6,GdL [.int .i64] r) (c7:List (List AV)) (_:c7.length≤maxLen) (g7:∀ r∈c7,GdL [.int .i64] r) (tasks:List (List AV)) (ht:tasks.length≤maxLen) (gt:∀ r∈tasks,GdL TKd r) (c9:List (List AV)) (_:c9.length≤maxLen) (g9:∀ r∈c9,GdL [.int .i64] r) (a:Int) (wa:(Lit.int .i64 a).wf=true) (fl:Int) (wfl:(Lit.int .i64 fl).wf=true):EC Tryz.prog G6 [] [.i c0,.i c1,.i c2,.i c3,.r c4,.i c5,.r c6,.r c7,.r tasks,.r c9,.i a,.i fl] fun x rs vs=>x=0∧vs=[.b true]:=by
 obtain ⟨M,rfl⟩:=exC g4
 obtain ⟨K,rfl⟩:=exC g6
 obtain ⟨C,rfl⟩:=exC g7
 obtain ⟨T,rfl,_⟩:=FP gt
 obtain ⟨L,rfl⟩:=exC g9
 rw [List.length_map] at ht
 refine E6 fun EV V=>JB.mono ?_
 rintro _ _ _ ⟨rfl,rfl,rfl⟩
 refine ⟨rfl,_,rfl,rfl,fun h=>(by cases h),fun _=>(few29 ht).mono ?_⟩
 rintro _ _ _ ⟨rfl,rfl,b,rfl,hb⟩
 rw [List.length_map]
 refine ⟨rfl,_,rfl,rfl,fun h=>⟨fun _=>⟨rfl,rfl⟩,fun hne=>All32 (by have:=hb h;omega) |>.mono ?_⟩,fun _=>⟨rfl,rfl⟩⟩
 have hT:=hb h
 rintro _ _ _ ⟨rfl,l,ok,rfl,rfl,h1,h2⟩
 refine ⟨rfl,_,_,rfl,rfl,?_⟩
 have next:∀ (m:Nat) (fine:Bool),m < T.length→EV 27 [ints l] [.i a,.i fl,.b ok,.b fine,.r (T.map aF),.i (T.length:Int),.i ((m + 1:Nat):Int),.i c0,.i c1,.i c2,.i c3,.r (ints M),.i c5,.r (ints K),.r (ints C),.r (T.map aF),.r (ints L)] →
   EV 52 [ints l] [.i a,.i fl,.b ok,.b fine,.i (m:Int),.r (T.map aF),.i (T.length:Int),.i (m:Int),.b false,.i c0,.i c1,.i c2,.i c3,.r (ints M),.i c5,.r (ints K),.r (ints C),.r (T.map aF),.r (ints L),.i (cIS (T.map aF) m 0),.i (cIS (T.map aF) m 1),.i (cIS (T.map aF) m 2),.i (cIS (T.map aF) m 3),.i (cIS (T.map aF) m 4),.i (cIS (T.map aF) m 5),.r (cRS (T.map aF) m 6)]:=by
  intro m fine hm hn
  refine V.p52 fun _=>⟨fun g=>(by cases g),fun _=>(Iq (by omega) a fl).mono ?_⟩
  rintro _ _ _ ⟨rfl,rfl,rfl⟩
  have hw:∀ v:Int,v=(if (m:Int)=a then fl else (tk T m).fl)→EV 67 [ints l] [.i a,.i fl,.b ok,.b fine,.i (m:Int),.i v,.r (T.map aF),.i (T.length:Int),.i (m:Int),.i c0,.i c1,.i c2,.i c3,.r (ints M),.i c5,.r (ints K),.r (ints C),.r (T.map aF),.r (ints L),.i (cIS (T.map aF) m 0),.i (cIS (T.map aF) m 1),.i (cIS (T.map aF) m 2),.i (cIS (T.map aF) m 3),.i (cIS (T.map aF) m 4),.i (cIS (T.map aF) m 5),.r (cRS (T.map aF) m 6),.i c0,.i c1,.i c2,.i c3,.r (ints M),.i c5,.r (ints K),.r (ints C),.r ((iT T a fl).map aF),.r (ints L)]:=by
   intro v hv
   refine V.p67 fun _=>?_
   rw [List.length_map,List.length_map,nY,Int.toNat_natCast]
   have hfl:cIS ((iT T a fl).map aF) m 5=v:=by
    rw [hv,tk5]
    unfold iT
    by_cases hz:isZ T a
    ·rw [if_pos hz]
     unfold isZ at hz
     rw [jl _ (by omega)]
     by_cases e:a.toNat=m
     ·rw [if_pos e,if_pos (by omega)];rfl
     ·rw [if_neg e,if_neg (by omega)]
    ·rw [if_neg hz]
     unfold isZ at hz
     rw [if_neg (by omega)]
   refine ⟨fun g=>absurd rfl g,fun _=>⟨by omega,aW (by rw [nY];exact hm),fun g=>absurd hfl g,fun _=>⟨by omega,aW hm,fun g=>absurd rfl g,fun _=>?_⟩⟩⟩
   rw [wrap64 (by omega) (by omega),show (m:Int) + 1=((m + 1:Nat):Int) by omega]
   exact hn
  refine ⟨rfl,_,_,_,_,_,_,_,_,_,_,rfl,rfl,fun g=>hw _ (by rw [if_pos g]),fun g=>hw _ ?_⟩
  rw [if_neg g,tk5]
 have loop:∀ (d m:Nat) (fine:Bool),m + d=T.length→(fine=true↔∀ i:Nat,i < m→∃ n,kL c0 c1 c2 c3 M c5 K C T L i n true)→EV 27 [ints l] [.i a,.i fl,.b ok,.b fine,.r (T.map aF),.i (T.length:Int),.i (m:Int),.i c0,.i c1,.i c2,.i c3,.r (ints M),.i c5,.r (ints K),.r (ints C),.r (T.map aF),.r (ints L)]:=by
  intro d
  induction d with
  | zero =>
   intro m fine hm hf
   obtain rfl:m=T.length:=by omega
   have hok:ok=fine:=by
    cases ok with
    | true=>exact (hf.2 fun i hi=>⟨_,(h1 rfl).2 i hi⟩).symm
    | false =>
     obtain ⟨_,i,hi,g⟩:=h2 rfl
     cases fine with
     | false=>rfl
     | true =>
      obtain ⟨n,hn⟩:=hf.1 rfl i hi
      have:=(hn.uniq g).2;cases this
   refine V.p27 fun _=>⟨fun g=>by omega,fun _=>⟨fun _=>⟨fun g=>⟨rfl,?_⟩,fun _=>⟨rfl,rfl⟩⟩,fun g=>?_⟩⟩
   ·rw [(h2 g).1];rfl
   ·rw [hok] at g;simp at g
  | succ d ih =>
   intro m fine hm hf
   have hlt:m < T.length:=by omega
   refine V.p27 fun _=>⟨fun _=>⟨by omega,aW hlt,(aao (by omega) (m:Int)).mono ?_⟩,fun g=>by omega⟩
   rintro _ _ _ ⟨rfl,rfl,n,is,rfl,hn⟩
   rw [Int.toNat_natCast]
   have go:∀ fine2:Bool,(fine2=true↔fine=true∧is=true)→EV 27 [ints l] [.i a,.i fl,.b ok,.b fine2,.r (T.map aF),.i (T.length:Int),.i ((m + 1:Nat):Int),.i c0,.i c1,.i c2,.i c3,.r (ints M),.i c5,.r (ints K),.r (ints C),.r (T.map aF),.r (ints L)]:=by
    intro fine2 h3
    refine ih (m + 1) fine2 (by omega) ?_
    rw [h3,hf]
    constructor
    ·rintro ⟨g1,g2⟩ i hi
     rcases Nat.lt_or_ge i m with h | h
     ·exact g1 i h
     ·obtain rfl:i=m:=by omega
      subst g2;exact ⟨n,hn⟩
    ·intro g
     refine ⟨fun i hi=>g i (by omega),?_⟩
     obtain ⟨n',hn'⟩:=g m (by omega)
     exact (hn.uniq hn').2
   have chk:∀ fine2:Bool,(fine2=true↔fine=true∧is=true)→EC Tryz.prog G18 [] [.i c0,.i c1,.i c2,.i c3,.r (ints M),.i c5,.r (ints K),.r (ints C),.r (T.map aF),.r (ints L)] fun x rs vs=>x=0∧∃ y,rs=[]∧vs=[.i y]∧((y=0→EC Tryz.prog G33 [] [.i c0,.i c1,.i c2,.i c3,.r (ints M),.i c5,.r (ints K),.r (ints C),.r (T.map aF),.r (ints L),.i (m:Int)] fun x rs vs=>x=0∧∃ y6,rs=[]∧vs=[.i y6]∧(EC Tryz.prog G34 [] [.i c0,.i c1,.i c2,.i c3,.r (ints M),.i c5,.r (ints K),.r (ints C),.r (T.map aF),.r (ints L),.i (m:Int),.i 64] fun x rs vs=>x=0∧∃ y7,rs=[]∧vs=[.i y7] ∧
     EV 52 [ints l] [.i a,.i fl,.b ok,.b fine2,.i (m:Int),.r (T.map aF),.i (T.length:Int),.i (m:Int),.b (y6 != y7),.i c0,.i c1,.i c2,.i c3,.r (ints M),.i c5,.r (ints K),.r (ints C),.r (T.map aF),.r (ints L),.i (cIS (T.map aF) m 0),.i (cIS (T.map aF) m 1),.i (cIS (T.map aF) m 2),.i (cIS (T.map aF) m 3),.i (cIS (T.map aF) m 4),.i (cIS (T.map aF) m 5),.r (cRS (T.map aF) m 6)]))∧(y≠0 →
     EV 52 [ints l] [.i a,.i fl,.b ok,.b fine2,.i (m:Int),.r (T.map aF),.i (T.length:Int),.i (m:Int),.b false,.i c0,.i c1,.i c2,.i c3,.r (ints M),.i c5,.r (ints K),.r (ints C),.r (T.map aF),.r (ints L),.i (cIS (T.map aF) m 0),.i (cIS (T.map aF) m 1),.i (cIS (T.map aF) m 2),.i (cIS (T.map aF) m 3),.i (cIS (T.map aF) m 4),.i (cIS (T.map aF) m 5),.r (cRS (T.map aF) m 6)])):=by
    intro fine2 h3
    refine vV.mono ?_
    rintro _ _ _ ⟨rfl,rfl,rfl⟩
    refine ⟨rfl,_,rfl,rfl,fun hc=>?_,fun _=>next m fine2 hlt (go fine2 h3)⟩
    have hF:=(dP hc).fits
    refine (JW hF (m:Int) (by omega)).mono ?_
    rintro _ _ _ ⟨rfl,rfl,rfl⟩
    refine ⟨rfl,_,rfl,rfl,(zQ hF.c (fun t ht=>by have:=hF.pg t ht;omega) (m:Int) 64 (by omega)).mono ?_⟩
    rintro _ _ _ ⟨rfl,rfl,rfl⟩
    refine ⟨rfl,_,rfl,rfl,?_⟩
    rw [bne_self_eq_false]
    exact next m fine2 hlt (go fine2 h3)
   have lk:ok=true→l.length=T.length∧(ints l)[m]?=some [.int .i64 (cIS (ints l) m 0)]∧cIS (ints l) m 0=n∧is=true:=by
    intro g
    obtain ⟨g1,g2⟩:=h1 g
    have:=(g2 m hlt).uniq hn
    exact ⟨g1,aJ (by omega),by rw [aN];exact this.1,this.2.symm⟩
   rw [ints_length]
   refine ⟨rfl,_,_,rfl,rfl,fun hfi=>⟨fun hk=>?_,fun hk=>chk is (by simp [hfi])⟩,fun hfi=>⟨fun hk=>?_,fun hk=>chk false (by simp [hfi])⟩⟩
   ·obtain ⟨g1,g2,g3,g4⟩:=lk hk
    exact ⟨fun _=>⟨by omega,by omega,g2,fun g=>absurd g3 g,fun _=>chk is (by simp [hfi])⟩,fun g=>by omega⟩
   ·obtain ⟨g1,g2,g3,g4⟩:=lk hk
    exact ⟨fun _=>⟨by omega,by omega,g2,fun g=>absurd g3 g,fun _=>chk false (by simp [hfi])⟩,fun g=>by omega⟩
 exact loop T.length 0 true (by omega) (by simp)
end Go.Ab
