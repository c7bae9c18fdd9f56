import Derived.Test.YtlakbkdhdgicfaaGreatQDqW
import Derived.Test.YtlakbkdhdgicfaaGreatQVA
import Derived.Test.YtlakbkdhdgicfaaGreatQVB
import Derived.Test.YtlakbkdhdgicfaaGreatQVC
import Derived.Test.YtlakbkdhdgicfaaGreatQVD
import Derived.Test.YtlakbkdhdgicfaaGreatQVE
namespace Go.Ab
open Go Go.Proofs
set_option linter.unusedVariables false
set_option linter.unusedSimpArgs false
set_option maxRecDepth 100000
set_option maxHeartbeats 1000000
theorem scl8 (t:Tk):yC 8 t=t:=by
 have h:∀ o:Op3,ou 8 o=o:=fun o=>by
  unfold ou zX
  split
  ·split
   ·rename_i h
    have e:min (max ((o.a * 8 + 7) / 8) 1) 1000=o.a:=by omega
    rw [e]
   ·rfl
  ·rfl
 unfold yC qc
 rw [show t.pg.map (ou 8)=t.pg from (List.map_congr_left fun o _=>h o).trans (List.map_id _)]
theorem Wq (T:List Tk):T.map (yC 8)=T:=(List.map_congr_left fun t _=>scl8 t).trans (List.map_id _)
section
variable {c0 c1 c2 c3 c5:Int} {M K C L:List Int} {T:List Tk}
theorem Xg.uniq {n m:Int} {ok:Bool} (h:Xg c0 c1 c2 c3 M c5 K C T L n ok) (h1:Vg c0 c1 c2 c3 M c5 K C T L m=true) (h2:Vg c0 c1 c2 c3 M c5 K C T L (m + 1)=false) (hm:0≤m∧m < 1024):n=m∧ok=true:=by
 have down:∀ {a b:Int},a≤b→Vg c0 c1 c2 c3 M c5 K C T L b=true→Vg c0 c1 c2 c3 M c5 K C T L a=true:=fun h g=>VC h g
 cases ok with
 | false=>have:=(h.no rfl).2;rw [down hm.1 h1] at this;cases this
 | true =>
  obtain ⟨g1,g2,g3,g4⟩:=h.yes rfl
  refine ⟨?_,rfl⟩
  rcases Int.lt_trichotomy n m with g | g | g
  ·have:=g4 (by omega);rw [down (by omega:n + 1≤m) h1] at this;cases this
  ·exact g
  ·rw [down (by omega:m + 1≤n) g3] at h2;cases h2
theorem Wh {a n m:Int} (ha:isZ T a) (h:n≤m) (hm:m≤1048576) (hn:UH c0 c1 c2 c3 M c5 K C T L a n=true):UH c0 c1 c2 c3 M c5 K C T L a m=true:=by
 unfold UH Vd at *
 rw [if_pos ha] at hn ⊢
 unfold isZ at ha
 exact WX (by omega) h hm hn
theorem admP_1 {a n:Int} (ha:isZ T a) (hn:UH c0 c1 c2 c3 M c5 K C T L a n=true):1≤n:=by
 unfold UH Vd at hn
 rw [if_pos ha] at hn
 unfold isZ at ha
 exact V3 (by omega) hn
end
def t45:Tk:=⟨1,1,10,10,0,0,[⟨1,5,0⟩]⟩
theorem VI:EC Tryz.prog G81 [] [] fun x rs vs=>x=0∧rs=[[t45].map aF]∧vs=[.i 1,.i 1,.i 1,.i 5,.i 0]:=E81 fun _ _=>⟨rfl,rfl,rfl⟩
theorem adm45:eF 1 1 1 5 [] 0 [] [] [t45] []=true:=by decide
theorem We:EC Tryz.prog G44 [] [] fun x rs vs=>x=0∧rs=[]∧vs=[.b true]:=by
 have hp:∀ t∈[t45],t.pg.length≤1000:=fun t ht=>by simp at ht;subst ht;decide
 refine E44 fun _ _=>VI.mono ?_
 rintro _ _ _ ⟨rfl,rfl,rfl⟩
 refine ⟨rfl,_,_,_,_,_,_,rfl,rfl,?_⟩
 refine (Xh (c0:=1) (c1:=1) (c2:=1) (c3:=5) (M:=[]) (c5:=0) (K:=[]) (C:=[]) (T:=[t45]) (L:=[]) (by simp) hp).mono ?_
 rintro _ _ _ ⟨rfl,rfl,n,ok,rfl,h1⟩
 obtain ⟨rfl,rfl⟩:=h1.uniq (m:=16) (by decide) (by decide) (by omega)
 refine ⟨rfl,_,_,rfl,rfl,VI.mono ?_⟩
 rintro _ _ _ ⟨rfl,rfl,rfl⟩
 refine ⟨rfl,_,_,_,_,_,_,rfl,rfl,?_⟩
 refine (Vh (c0:=1) (c1:=1) (c2:=1) (c3:=5) (M:=[]) (c5:=0) (K:=[]) (C:=[]) (T:=[t45]) (L:=[]) (by simp) 0).mono ?_
 rintro _ _ _ ⟨rfl,rfl,p,ok2,rfl,h2⟩
 have hz:isZ [t45] 0:=by decide
 have h5:UH 1 1 1 5 [] 0 [] [] [t45] [] 0 5=true:=by decide
 have h4:UH 1 1 1 5 [] 0 [] [] [t45] [] 0 4=false:=by decide
 have hok2:ok2=true∧p=5:=by
  cases ok2 with
  | false=>exact absurd ⟨hz,adm45⟩ (h2.no rfl).2
  | true =>
   obtain ⟨_,g1,g2,g3,g4⟩:=h2.yes rfl
   have g2:p≤10:=g2
   refine ⟨rfl,?_⟩
   rcases Int.lt_trichotomy p 5 with g | g | g
   ·rw [Wh hz (by omega:p≤4) (by omega) g3] at h4;cases h4
   ·exact g
   ·have:=g4 (by omega);rw [Wh hz (by omega:5≤p - 1) (by omega) h5] at this;cases this
 obtain ⟨rfl,rfl⟩:=hok2
 refine ⟨rfl,_,_,rfl,rfl,VI.mono ?_⟩
 rintro _ _ _ ⟨rfl,rfl,rfl⟩
 refine ⟨rfl,_,_,_,_,_,_,rfl,rfl,?_⟩
 refine (Vh (c0:=1) (c1:=1) (c2:=1) (c3:=5) (M:=[]) (c5:=0) (K:=[]) (C:=[]) (T:=[t45]) (L:=[]) (by simp) 1).mono ?_
 rintro _ _ _ ⟨rfl,rfl,p3,ok3,rfl,h3⟩
 have hok3:ok3=false:=by
  cases ok3 with
  | false=>rfl
  | true=>exact absurd (h3.yes rfl).1.1 (by decide)
 refine ⟨rfl,_,_,rfl,rfl,VI.mono ?_⟩
 rintro _ _ _ ⟨rfl,rfl,rfl⟩
 refine ⟨rfl,_,_,_,_,_,_,rfl,rfl,?_⟩
 refine (Xi (c0:=1) (c1:=1) (c2:=1) (c3:=5) (M:=[]) (c5:=0) (K:=[]) (C:=[]) (T:=[t45]) (L:=[]) (by simp) hp 9).mono ?_
 rintro _ _ _ ⟨rfl,rfl,rfl⟩
 refine ⟨rfl,_,_,_,_,_,_,_,_,_,_,rfl,rfl,fun _=>⟨fun _=>⟨fun _=>⟨fun _=>⟨fun _=>⟨rfl,rfl,fun _=>VI.mono ?_,fun h=>(h (by decide)).elim⟩,fun h=>by rw [hok3] at h;cases h⟩,fun h=>absurd rfl h⟩,fun h=>by cases h⟩,fun h=>absurd rfl h⟩,fun h=>by cases h⟩
 rintro _ _ _ ⟨rfl,rfl,rfl⟩
 refine ⟨rfl,_,_,_,_,_,_,rfl,rfl,?_⟩
 refine (Xi (c0:=1) (c1:=1) (c2:=1) (c3:=5) (M:=[]) (c5:=0) (K:=[]) (C:=[]) (T:=[t45]) (L:=[]) (by simp) hp 8).mono ?_
 rintro _ _ _ ⟨rfl,rfl,rfl⟩
 refine ⟨rfl,_,_,_,_,_,_,_,_,_,_,rfl,rfl,VI.mono ?_⟩
 rintro _ _ _ ⟨rfl,rfl,rfl⟩
 refine ⟨rfl,_,_,_,_,_,_,rfl,rfl,?_⟩
 rw [show Uk 8=8 from rfl,Wq]
 refine (Wi (c0:=1) (c1:=1) (c2:=1) (c3:=5) (M:=[]) (c5:=0) (K:=[]) (C:=[]) (T:=[t45]) (L:=[]) (by simp) (by simp) (by simp) (by simp) (by simp) hp).mono ?_
 rintro _ _ _ ⟨rfl,rfl,rfl⟩
 exact ⟨rfl,_,rfl,rfl,rfl,rfl,rfl⟩
theorem By11 (c0:Int) (_:(Lit.int .i64 c0).wf=true) (c1:Int) (_:(Lit.int .i64 c1).wf=true) (c2:Int) (_:(Lit.int .i64 c2).wf=true) (c3:Int) (_:(Lit.int .i64 c3).wf=true) (c4:List (List AV)) (_:c4.length≤maxLen) (g4:∀ r∈c4,GdL [.int .i64] r) (c5:Int) (_:(Lit.int .i64 c5).wf=true) (c6:List (List AV)) (_:c6.length≤maxLen) (g6:∀ r∈c6,GdL [.int .i64] r) (c7:List (List AV)) (_:c7.length≤maxLen) (g7:∀ r∈c7,GdL [.int .i64] r) (tasks:List (List AV)) (ht:tasks.length≤maxLen) (gt:∀ r∈tasks,GdL TKd r) (c9:List (List AV)) (_:c9.length≤maxLen) (g9:∀ r∈c9,GdL [.int .i64] r) (n:Int) (wn:(Lit.int .i64 n).wf=true):EC Tryz.prog G11 [] [.i c0,.i c1,.i c2,.i c3,.r c4,.i c5,.r c6,.r c7,.r tasks,.r c9,.i n] fun x rs vs=>x=0∧vs=[.b true]:=by
 obtain ⟨M,rfl⟩:=exC g4
 obtain ⟨K,rfl⟩:=exC g6
 obtain ⟨C,rfl⟩:=exC g7
 obtain ⟨T,rfl,_⟩:=FP gt
 obtain ⟨L,rfl⟩:=exC g9
 rw [List.length_map] at ht
 refine E11 fun _ _=>We.mono ?_
 rintro _ _ _ ⟨rfl,rfl,rfl⟩
 refine ⟨rfl,_,rfl,rfl,fun h=>(by cases h),fun _=>(DK ht).mono ?_⟩
 rintro _ _ _ ⟨rfl,rfl,b,rfl,hb⟩
 refine ⟨rfl,_,rfl,rfl,fun _=>⟨rfl,rfl⟩,fun h=>?_⟩
 obtain ⟨f1,f2,f3,f4,f5,f6⟩:=hb h
 have hp:∀ t∈T,t.pg.length≤1000:=fun t ht=>by have:=f6 t ht;omega
 refine (UI (by omega) hp (n:=8) (by omega)).mono ?_
 rintro _ _ _ ⟨rfl,rfl,rfl⟩
 refine ⟨rfl,_,_,_,_,_,_,_,_,_,_,rfl,rfl,(Xi (by omega) hp n).mono ?_⟩
 rintro _ _ _ ⟨rfl,rfl,rfl⟩
 refine ⟨rfl,_,_,_,_,_,_,_,_,_,_,rfl,rfl,?_⟩
 rw [mxS,mnS,show min (max n 0) 1024=Uk n from rfl]
 have hn:0≤Uk n∧Uk n≤1024:=by unfold Uk;omega
 refine (UI (by omega) hp hn).mono ?_
 rintro _ _ _ ⟨rfl,rfl,rfl⟩
 have hp2:∀ t∈T.map (yC (Uk n)),t.pg.length≤1000:=fun t ht=>by
  obtain ⟨s,hs,rfl⟩:=List.mem_map.1 ht
  have:=hp s hs
  simpa [yC,qc] using this
 refine ⟨rfl,_,_,_,_,_,_,_,_,_,_,rfl,rfl,(Wi (by omega) (by omega) (by omega) (by omega) (by simp;omega) hp2).mono ?_⟩
 rintro _ _ _ ⟨rfl,rfl,rfl⟩
 rw [Wq]
 refine ⟨rfl,_,rfl,rfl,fun _=>(Wi (by omega) (by omega) (by omega) (by omega) (by omega) hp).mono ?_,fun h=>by cases h⟩
 rintro _ _ _ ⟨rfl,rfl,rfl⟩
 exact ⟨rfl,_,rfl,rfl,rfl,rfl⟩
theorem Most12 (c0:Int) (_:(Lit.int .i64 c0).wf=true) (c1:Int) (_:(Lit.int .i64 c1).wf=true) (c2:Int) (_:(Lit.int .i64 c2).wf=true) (c3:Int) (_:(Lit.int .i64 c3).wf=true) (c4:List (List AV)) (_:c4.length≤maxLen) (g4:∀ r∈c4,GdL [.int .i64] r) (c5:Int) (_:(Lit.int .i64 c5).wf=true) (c6:List (List AV)) (_:c6.length≤maxLen) (g6:∀ r∈c6,GdL [.int .i64] r) (c7:List (List AV)) (_:c7.length≤maxLen) (g7:∀ r∈c7,GdL [.int .i64] r) (tasks:List (List AV)) (ht:tasks.length≤maxLen) (gt:∀ r∈tasks,GdL TKd r) (c9:List (List AV)) (_:c9.length≤maxLen) (g9:∀ r∈c9,GdL [.int .i64] r) (s:Int) (ws:(Lit.int .u16 s).wf=true):EC Tryz.prog G12 [] [.i c0,.i c1,.i c2,.i c3,.r c4,.i c5,.r c6,.r c7,.r tasks,.r c9,.i s] fun x rs vs=>x=0∧vs=[.b true]:=by
 obtain ⟨M,rfl⟩:=exC g4
 obtain ⟨K,rfl⟩:=exC g6
 obtain ⟨C,rfl⟩:=exC g7
 obtain ⟨T,rfl,_⟩:=FP gt
 obtain ⟨L,rfl⟩:=exC g9
 rw [List.length_map] at ht
 have ws:=wf16 ws
 refine E12 fun _ _=>We.mono ?_
 rintro _ _ _ ⟨rfl,rfl,rfl⟩
 refine ⟨rfl,_,rfl,rfl,fun h=>(by cases h),fun _=>(few48 ht).mono ?_⟩
 rintro _ _ _ ⟨rfl,rfl,b,rfl,hb⟩
 refine ⟨rfl,_,rfl,rfl,fun _=>⟨rfl,rfl⟩,fun h=>?_⟩
 obtain ⟨f1,f2,f3,f4,f5,f6⟩:=hb h
 have hp:∀ t∈T,t.pg.length≤1000:=fun t ht=>by have:=f6 t ht;omega
 have hT:T.length≤1000:=by omega
 refine (Xh hT hp).mono ?_
 rintro _ _ _ ⟨rfl,rfl,n,ok,rfl,hok⟩
 refine ⟨rfl,_,_,rfl,rfl,fun hk=>?_,fun hk=>?_⟩
 ·subst hk
  obtain ⟨h1,h2⟩:=hok.no rfl
  refine ⟨fun _=>(UI hT hp (n:=0) (by omega)).mono ?_,fun g=>absurd h1 g⟩
  rintro _ _ _ ⟨rfl,rfl,rfl⟩
  refine ⟨rfl,_,_,_,_,_,_,_,_,_,_,rfl,rfl,VD.mono ?_⟩
  rintro _ _ _ ⟨rfl,rfl,rfl⟩
  refine ⟨rfl,_,rfl,rfl,rfl,?_⟩
  unfold Vg at h2
  rw [h2];rfl
 ·subst hk
  obtain ⟨h1,h2,h3,h4⟩:=hok.yes rfl
  unfold Vg at h3 h4
  have fin:EC Tryz.prog G45 [] [.i c0,.i c1,.i c2,.i c3,.r (ints M),.i c5,.r (ints K),.r (ints C),.r (T.map aF),.r (ints L),.i (Int.tmod (IntKind.wrap .i64 s) (n + 1))] fun x rs vs=>x=0∧rs=[]∧∃ S,vs=[.i c0,.i c1,.i c2,.i c3,.r (ints M),.i c5,.r (ints K),.r (ints C),.r ((S).map aF),.r (ints L)]∧eF c0 c1 c2 c3 M c5 K C S L=true:=by
   rw [wrap64 (x:=s) (by omega) (by omega),Int.tmod_eq_emod_of_nonneg ws.1]
   have g1:=Int.emod_nonneg s (show n + 1≠0 by omega)
   have g2:=Int.emod_lt_of_pos s (show 0 < n + 1 by omega)
   refine (UI hT hp (by omega)).mono ?_
   rintro _ _ _ ⟨rfl,rfl,rfl⟩
   exact ⟨rfl,rfl,_,rfl,VC (by omega) h3⟩
  rw [wrap64 (x:=n + 1) (by omega) (by omega)]
  refine ⟨fun _=>⟨fun _=>(UI hT hp (n:=n) ⟨h1,h2⟩).mono ?_,fun g=>by omega⟩,fun g=>by omega⟩
  rintro _ _ _ ⟨rfl,rfl,rfl⟩
  refine ⟨rfl,_,_,_,_,_,_,_,_,_,_,rfl,rfl,VD.mono ?_⟩
  rintro _ _ _ ⟨rfl,rfl,rfl⟩
  rw [h3]
  refine ⟨rfl,_,rfl,rfl,fun _=>⟨fun hlt=>(UI hT hp (n:=n + 1) (by omega)).mono ?_,fun _=>⟨by omega,fin.mono ?_⟩⟩,fun g=>by cases g⟩
  ·rintro _ _ _ ⟨rfl,rfl,rfl⟩
   refine ⟨rfl,_,_,_,_,_,_,_,_,_,_,rfl,rfl,VD.mono ?_⟩
   rintro _ _ _ ⟨rfl,rfl,rfl⟩
   rw [h4 hlt]
   refine ⟨rfl,_,rfl,rfl,fun g=>(by cases g),fun _=>⟨by omega,fin.mono ?_⟩⟩
   rintro _ _ _ ⟨rfl,rfl,S,rfl,hS⟩
   refine ⟨rfl,_,_,_,_,_,_,_,_,_,_,rfl,rfl,VD.mono ?_⟩
   rintro _ _ _ ⟨rfl,rfl,rfl⟩
   rw [hS]
   exact ⟨rfl,_,rfl,rfl,rfl,rfl⟩
  ·rintro _ _ _ ⟨rfl,rfl,S,rfl,hS⟩
   refine ⟨rfl,_,_,_,_,_,_,_,_,_,_,rfl,rfl,VD.mono ?_⟩
   rintro _ _ _ ⟨rfl,rfl,rfl⟩
   rw [hS]
   exact ⟨rfl,_,rfl,rfl,rfl,rfl⟩
theorem Wx (c0:Int) (_:(Lit.int .i64 c0).wf=true) (c1:Int) (_:(Lit.int .i64 c1).wf=true) (c2:Int) (_:(Lit.int .i64 c2).wf=true) (c3:Int) (_:(Lit.int .i64 c3).wf=true) (c4:List (List AV)) (_:c4.length≤maxLen) (g4:∀ r∈c4,GdL [.int .i64] r) (c5:Int) (_:(Lit.int .i64 c5).wf=true) (c6:List (List AV)) (_:c6.length≤maxLen) (g6:∀ r∈c6,GdL [.int .i64] r) (c7:List (List AV)) (_:c7.length≤maxLen) (g7:∀ r∈c7,GdL [.int .i64] r) (tasks:List (List AV)) (ht:tasks.length≤maxLen) (gt:∀ r∈tasks,GdL TKd r) (c9:List (List AV)) (_:c9.length≤maxLen) (g9:∀ r∈c9,GdL [.int .i64] r) (a:Int) (wa:(Lit.int .i64 a).wf=true) (s:Int) (ws:(Lit.int .u16 s).wf=true):EC Tryz.prog G13 [] [.i c0,.i c1,.i c2,.i c3,.r c4,.i c5,.r c6,.r c7,.r tasks,.r c9,.i a,.i s] fun x rs vs=>x=0∧vs=[.b true]:=by
 obtain ⟨M,rfl⟩:=exC g4
 obtain ⟨K,rfl⟩:=exC g6
 obtain ⟨C,rfl⟩:=exC g7
 obtain ⟨T,rfl,_⟩:=FP gt
 obtain ⟨L,rfl⟩:=exC g9
 rw [List.length_map] at ht
 have ws:=wf16 ws
 refine E13 fun EV V=>We.mono ?_
 rintro _ _ _ ⟨rfl,rfl,rfl⟩
 refine ⟨rfl,_,rfl,rfl,fun h=>(by cases h),fun _=>(few48 ht).mono ?_⟩
 rintro _ _ _ ⟨rfl,rfl,b,rfl,hb⟩
 refine ⟨rfl,_,rfl,rfl,fun _=>⟨rfl,rfl⟩,fun h=>?_⟩
 obtain ⟨f1,f2,f3,f4,f5,f6⟩:=hb h
 have hp:∀ t∈T,t.pg.length≤1000:=fun t ht=>by have:=f6 t ht;omega
 have hT:T.length≤1000:=by omega
 refine (Vh hT a).mono ?_
 rintro _ _ _ ⟨rfl,rfl,p,ok,rfl,hok⟩
 have no:¬ (isZ T a∧eF c0 c1 c2 c3 M c5 K C T L=true)→ok=false∧p=0:=fun g=>by
  cases ok with
  | false=>exact ⟨rfl,(hok.no rfl).1⟩
  | true=>exact absurd (hok.yes rfl).1 g
 rw [List.length_map]
 refine ⟨rfl,_,_,rfl,rfl,fun h0=>⟨fun h1=>VD.mono ?_,fun h1=>?_⟩,fun h0=>?_⟩
 ·rintro _ _ _ ⟨rfl,rfl,rfl⟩
  have hz:isZ T a:=⟨h0,h1⟩
  have hi:a.toNat < T.length:=by omega
  refine ⟨rfl,_,rfl,rfl,fun ha=>?_,fun ha=>⟨h0,aW hi,fun hk=>?_,fun hk=>?_⟩⟩
  ·obtain ⟨g1,g2⟩:=no fun g=>by rw [g.2] at ha;cases ha
   exact ⟨fun _=>⟨rfl,by rw [g2];rfl⟩,fun g=>by rw [g1] at g;cases g⟩
  ·subst hk
   obtain ⟨_,g1,g2,g3,g4⟩:=hok.yes rfl
   have hc:=dP (fU.1 ha).1
   have hbn:=dm (hc.nums _ (List.getElem_mem hi))
   rw [← bP hi] at hbn
   rw [tk0,tk1,tk2,tk3,tk4,tk5,tk6]
   refine ⟨fun _=>⟨fun g=>by omega,fun _=>?_⟩,fun g=>by omega⟩
   rw [wrap64 (x:=(tk T a.toNat).pe - p) (by omega) (by omega),wrap64 (x:=(tk T a.toNat).pe - p + 1) (by omega) (by omega),wrap64 (x:=s) (by omega) (by omega),wrap64 (x:=p - 1) (by omega) (by omega),Int.tmod_eq_emod_of_nonneg ws.1]
   have q1:=Int.emod_nonneg s (show (tk T a.toNat).pe - p + 1≠0 by omega)
   have q2:=Int.emod_lt_of_pos s (show 0 < (tk T a.toNat).pe - p + 1 by omega)
   generalize s % ((tk T a.toNat).pe - p + 1)=e at *
   rw [wrap64 (x:=p + e) (by omega) (by omega)]
   refine ⟨by omega,?_⟩
   show EV 43 [] [.i a,.i p,.r (ints [p,p - 1,p + e]),.i 3,.i 0,.i c0,.i c1,.i c2,.i c3,.r (ints M),.i c5,.r (ints K),.r (ints C),.r (T.map aF),.r (ints L),.i (tk T a.toNat).p,.i (tk T a.toNat).th,.i (tk T a.toNat).pe,.i (tk T a.toNat).de,.i (tk T a.toNat).fr,.i (tk T a.toNat).fl,.r ((tk T a.toNat).pg.map bY)]
   have val:∀ v∈[p,p - 1,p + e],(UH c0 c1 c2 c3 M c5 K C T L a v=true↔p≤v):=by
    intro v hv
    constructor
    ·intro h3
     rcases Int.lt_or_le v p with h4 | h4
     ·have hv1:=admP_1 hz h3
      have:=g4 (by omega)
      have hvp:v=p - 1:=by simp at hv;omega
      rw [hvp] at h3;rw [h3] at this;cases this
     ·exact h4
    ·intro h3
     have hve:v≤(tk T a.toNat).pe:=by simp at hv;omega
     exact Wh hz h3 (by omega) g3
   generalize hns:[p,p - 1,p + e]=ns at *
   have hnl:ns.length=3:=by rw [← hns];rfl
   have loop:∀ d m:Nat,m + d=3→EV 43 [] [.i a,.i p,.r (ints ns),.i 3,.i (m:Int),.i c0,.i c1,.i c2,.i c3,.r (ints M),.i c5,.r (ints K),.r (ints C),.r (T.map aF),.r (ints L),.i (tk T a.toNat).p,.i (tk T a.toNat).th,.i (tk T a.toNat).pe,.i (tk T a.toNat).de,.i (tk T a.toNat).fr,.i (tk T a.toNat).fl,.r ((tk T a.toNat).pg.map bY)]:=by
    intro d
    induction d with
    | zero=>intro m hm;exact V.p43 ⟨fun g=>by omega,fun _=>⟨rfl,rfl⟩⟩
    | succ d ih =>
     intro m hm
     have hlt:m < ns.length:=by omega
     have hv:=val _ (List.getElem_mem hlt)
     generalize hvv:ns[m]=v at *
     refine V.p43 ⟨fun _=>⟨by omega,aJ hlt,?_⟩,fun g=>by omega⟩
     rw [Int.toNat_natCast,aN,Jr hlt,hvv,List.length_map,Wv,mnS,Xa T hi v _ rfl]
     have hf:T.set a.toNat (mX (tk T a.toNat) v)=Vd T a v:=by rw [Vd,if_pos hz]
     rw [hf]
     refine ⟨by omega,by omega,h0,h1,aW hi,aW (by simpa using hi),IM _,V.p59 fun _=>(Wu hT a v).mono ?_⟩
     rintro _ _ _ ⟨rfl,rfl,rfl⟩
     rw [lD]
     refine ⟨rfl,_,_,_,_,_,_,_,_,_,_,_,rfl,rfl,VD.mono ?_⟩
     rintro _ _ _ ⟨rfl,rfl,rfl⟩
     have hpf:∀ t∈Vd T a v,t.pg.length≤1000:=by
      rw [Vd,if_pos hz,sJ hi]
      refine ⟨?_,fun j hj _=>?_⟩
      ·have:=hp _ (List.getElem_mem hi);rw [← bP hi] at this;exact this
      ·rw [bP hj];exact hp _ (List.getElem_mem hj)
     refine ⟨rfl,_,rfl,rfl,fun _=>⟨fun _=>(Wi (by omega) (by omega) (by omega) (by omega) (by rw [Ws];omega) hpf).mono ?_,fun g=>?_⟩,fun g=>?_⟩
     ·rintro _ _ _ ⟨rfl,rfl,rfl⟩
      refine ⟨rfl,_,rfl,rfl,fun g=>(by cases g),fun _=>?_⟩
      rw [wrap64 (by omega) (by omega),show (m:Int) + 1=((m + 1:Nat):Int) by omega]
      exact ih (m + 1) (by omega)
     ·exfalso
      have e2:UH c0 c1 c2 c3 M c5 K C T L a v=decide (v≥p):=by
       rw [Bool.eq_iff_iff,hv];simp
      rw [e2,beq_self_eq_true] at g;cases g
     ·exfalso
      rw [show eF c0 c1 c2 c3 M c5 K C (Vd T a v) L=UH c0 c1 c2 c3 M c5 K C T L a v from rfl,beq_self_eq_true] at g;cases g
   exact loop 3 0 (by omega)
  ·have:=hok.no hk;exact absurd ⟨hz,ha⟩ this.2
 ·obtain ⟨g1,g2⟩:=no fun g=>by have:=g.1;unfold isZ at this;omega
  exact ⟨fun _=>⟨rfl,by rw [g2];rfl⟩,fun g=>by rw [g1] at g;cases g⟩
 ·obtain ⟨g1,g2⟩:=no fun g=>by have:=g.1;unfold isZ at this;omega
  exact ⟨fun _=>⟨rfl,by rw [g2];rfl⟩,fun g=>by rw [g1] at g;cases g⟩
end Go.Ab
