import Derived.Test.YtlakbkdhdgicfaaGreatQVA
import Derived.Test.YtlakbkdhdgicfaaGreatQVB
import Derived.Test.YtlakbkdhdgicfaaGreatQVC
import Derived.Test.YtlakbkdhdgicfaaGreatLayE
namespace Go.Ab
open Go Go.Proofs
set_option linter.unusedVariables false
set_option linter.unusedSimpArgs false
set_option maxRecDepth 100000
set_option maxHeartbeats 2000000
theorem iopC {A:Ar} (hA:A=arS) (x y:Int):A.iop .add .i64 x y=IntKind.i64.wrap (x + y):=by subst hA;rfl
theorem addC {A:Ar} (hA:A=arS) {i:Int} (h0:-10≤i) (h1:i≤1000000000):A.iop .add .i64 i 1=i + 1:=by
 rw [iopC hA,wrap_i64 (by omega) (by omega)]
structure Lk where
 c:Int
 h:Int
 b:Bool
 deriving Inhabited
def iy (k:Lk):List AV:=[.int .i64 k.c,.int .i64 k.h,.bool k.b]
theorem sF (K:List Lk):aB (K.map iy)=true:=nD _ (fun _=>rfl) K
def lk (K:List Lk) (i:Nat):Lk:=K.getD i default
theorem ug {K:List Lk} {i:Nat} (h:i < K.length):lk K i=K[i]:=by
 unfold lk;rw [List.getD_eq_getElem?_getD,List.getElem?_eq_getElem h];rfl
theorem OZ {K:List Lk} {i:Nat} (h:i < K.length):cIS (K.map iy) i 0=(lk K i).c∧cIS (K.map iy) i 1=(lk K i).h∧cBS (K.map iy) i 2=(lk K i).b:=by
 simp only [cIS,cBS,Nv,ug h,List.getElem?_eq_getElem h]
 exact ⟨rfl,rfl,rfl⟩
theorem rgL {A:Ar} (hA:A=arS) {rows:List (List AV)} {K:List Lk} (hR:rows=K.map iy) {i:Nat} (h:i < K.length):rows[i]?=some [.int .i64 (A.cI rows i 0),.int .i64 (A.cI rows i 1),.bool (A.cB rows i 2)]:=by
 subst hA hR
 obtain ⟨h0,h1,h2⟩:=OZ h
 simp only [arS]
 rw [h0,h1,h2,List.getElem?_map,List.getElem?_eq_getElem h,ug h]
 rfl
theorem C_Len (rows:List (List AV)):EC Tryz.prog G201 [rows] [] fun x rs vs=>x=0∧rs=[rows]∧∃ k:Int,k=rows.length∧vs=[.i k]:=by
 obtain ⟨A,hA⟩:∃ A,A=arS:=⟨_,rfl⟩
 refine ak.enter (I:=I201) hA mixed DL sg L201 80 rfl fun CE CK Dn EV RR W hp=>?_
 cbv
 repeat' first | apply And.intro | (apply imC hA;intro) | (apply imN hA;intro) | (apply imI hA;intro) | (apply ndI hA;simp only [Cnd.holds])
 all_goals try simp (maxSteps:=10000000) only [nc,nc2,nT,Bool.not_true,Bool.not_false] at *
 all_goals try first | rfl | assumption | exact hp.1 | exact hp.2.1 | exact hp.2.2.1 | exact hp.2.2.2.1
 all_goals try (exfalso;first | omega | contradiction | simp_all;done)
 rw [W.rr];exact ⟨rfl,rfl,_,by subst hA;rfl,rfl⟩
theorem C_at (rows:List (List AV)) (i:Int):EC Tryz.prog G177 [rows] [.i i] fun x rs vs=>rs=[rows]∧((x=0∧(i < 0∨rows.length≤i)∧vs=[])∨(x=1∧0≤i∧i < rows.length∧∃ m:Nat,m=i.toNat∧vs=[.n m])):=by
 obtain ⟨A,hA⟩:∃ A,A=arS:=⟨_,rfl⟩
 refine ak.enter (I:=I177) hA mixed DR sg L177 80 rfl fun CE CK Dn EV RR W hp=>?_
 cbv
 repeat' first | apply And.intro | (apply imC hA;intro) | (apply imN hA;intro) | (apply imI hA;intro) | (apply ndI hA;simp only [Cnd.holds])
 all_goals try simp (maxSteps:=10000000) only [nc,nc2,nT,Bool.not_true,Bool.not_false] at *
 all_goals try first | rfl | assumption | exact hp.1 | exact hp.2.1 | exact hp.2.2.1 | exact hp.2.2.2.1
 all_goals try (exfalso;first | omega | contradiction | simp_all;done)
 ·rename_i h0
  refine W.call 80 (by rfl) (C_Len rows) (by first | rfl | (subst hA;simp [arS])) (by first | rfl | (subst hA;simp [arS])) ?_
  rintro _ _ _ hp ⟨rfl,rfl,k,hk,rfl⟩
  cbv
  repeat' first | apply And.intro | (apply imC hA;intro) | (apply imN hA;intro) | (apply imI hA;intro) | (apply ndI hA;simp only [Cnd.holds])
  all_goals try simp (maxSteps:=10000000) only [nc,nc2,nT,Bool.not_true,Bool.not_false] at *
  all_goals try first | rfl | assumption | exact hp.1 | exact hp.2.1 | exact hp.2.2.1 | exact hp.2.2.2.1
  all_goals try (exfalso;first | omega | contradiction)
  all_goals try first | omega | (subst hA;simp only [arS];omega)
  ·rw [W.rr];exact ⟨rfl,.inl ⟨rfl,.inr (by omega),rfl⟩⟩
  ·have hl:i < k:=by assumption
   rw [W.rr]
   exact ⟨rfl,.inr ⟨rfl,h0,by omega,_,by subst hA;rfl,rfl⟩⟩
 ·rename_i h0
  rw [W.rr];exact ⟨rfl,.inl ⟨rfl,.inl h0,rfl⟩⟩
theorem xU {A:Ar} (hA:A=arS) {rows:List (List AV)} {K:List Lk} (hR:rows=K.map iy) (m:Nat) (k:Lk):A.rset rows m [.int .i64 k.c,.int .i64 k.h,.bool k.b]=(K.set m k).map iy:=by
 subst hA hR
 simp only [arS,List.map_set]
 rfl
theorem OY {K:List Lk} {i:Nat} (h:i < K.length) (k:Lk):lk (K.set i k) i=k:=by
 rw [ug (by simpa using h)];simp
theorem PN {A:Ar} (hA:A=arS) {rows:List (List AV)} {K:List Lk} (hR:rows=K.map iy) {m:Nat} (h:m < K.length):A.cI rows m 0=(lk K m).c∧A.cI rows m 1=(lk K m).h∧A.cB rows m 2=(lk K m).b:=by
 subst hA hR
 exact OZ h
theorem C_Lock (K:List Lk) (rows:List (List AV)) (hR:rows=K.map iy) (i who:Int):EC Tryz.prog G163 [rows] [.i i,.i who] fun x rs vs=>x=0∧∃ R e,R.length=rows.length∧rs=[R]∧vs=[.i e]∧(if i < 0∨K.length≤i then e=6∧R=rows else if (lk K i.toNat).b=true then e=10∧R=rows else e=0∧R=(K.set i.toNat ⟨(lk K i.toNat).c,who,true⟩).map iy):=by
 have hrl:rows.length=K.length:=by rw [hR];simp
 obtain ⟨A,hA⟩:∃ A,A=arS:=⟨_,rfl⟩
 refine ak.enter (I:=I163) hA mixed DX sg L163 80 rfl fun CE CK Dn EV RR W hp=>?_
 cbv
 repeat' first | apply And.intro | (apply imC hA;intro) | (apply imN hA;intro) | (apply imI hA;intro) | (apply ndI hA;simp only [Cnd.holds])
 all_goals try simp (maxSteps:=10000000) only [nc,nc2,nT,Bool.not_true,Bool.not_false] at *
 all_goals try first | rfl | assumption | exact hp.1 | exact hp.2.1 | exact hp.2.2.1 | exact hp.2.2.2.1
 all_goals try (exfalso;first | omega | contradiction | simp_all;done)
 refine W.call 80 (by rfl) (C_at rows i) (by first | rfl | (subst hA;simp [arS])) (by first | rfl | (subst hA;simp [arS])) ?_
 rintro _ _ _ hp ⟨rfl,⟨rfl,hi,rfl⟩ | ⟨rfl,h0,h1,m,hm,rfl⟩⟩
 ·cbv
  repeat' first | apply And.intro | (apply imC hA;intro) | (apply imN hA;intro) | (apply imI hA;intro) | (apply ndI hA;simp only [Cnd.holds])
  all_goals try simp (maxSteps:=10000000) only [nc,nc2,nT,Bool.not_true,Bool.not_false] at *
  all_goals try first | rfl | assumption | exact hp.1 | exact hp.2.1 | exact hp.2.2.1 | exact hp.2.2.2.1
  all_goals try (exfalso;first | omega | contradiction)
  rw [W.rr];exact ⟨rfl,rows,6,rfl,rfl,rfl,by rw [if_pos (by omega)];exact ⟨rfl,rfl⟩⟩
 ·have hmK:m < K.length:=by omega
  obtain ⟨q0,q1,q2⟩:=PN hA hR hmK
  obtain ⟨kc,hkc⟩:∃ x,x=(lk K m).c:=⟨_,rfl⟩
  obtain ⟨kh,hkh⟩:∃ x,x=(lk K m).h:=⟨_,rfl⟩
  obtain ⟨kb,hkb⟩:∃ x,x=(lk K m).b:=⟨_,rfl⟩
  rw [← hkc] at q0
  rw [← hkh] at q1
  rw [← hkb] at q2
  have hg:rows[m]?=some [.int .i64 (A.cI rows m 0),.int .i64 (A.cI rows m 1),.bool (A.cB rows m 2)]:=rgL hA hR hmK
  obtain ⟨r1,hr1⟩:∃ r1,r1=(K.set m ⟨kc,who,kb⟩).map iy:=⟨_,rfl⟩
  obtain ⟨r2,hr2⟩:∃ r2,r2=(K.set m ⟨kc,who,true⟩).map iy:=⟨_,rfl⟩
  have s1:A.rset rows m [.int .i64 kc,.int .i64 who,.bool kb]=r1:=(xU hA hR m ⟨kc,who,kb⟩).trans hr1.symm
  have s2:A.rset r1 m [.int .i64 kc,.int .i64 who,.bool true]=r2:=(xU hA hr1 m ⟨kc,who,true⟩).trans (by rw [List.set_set];exact hr2.symm)
  obtain ⟨w0,w1,w2⟩:=PN hA hr1 (m:=m) (by simpa using hmK)
  rw [OY hmK] at w0 w1 w2
  have hg1:r1[m]?=some [.int .i64 (A.cI r1 m 0),.int .i64 (A.cI r1 m 1),.bool (A.cB r1 m 2)]:=rgL hA hr1 (by simpa using hmK)
  rw [w0,w1,w2] at hg1
  rw [q0,q1,q2] at hg
  have hl1:r1.length=rows.length:=by rw [hr1,hR];simp
  have hl2:r2.length=rows.length:=by rw [hr2,hR];simp
  have p2:aB r2=true:=by rw [hr2];exact sF _
  simp only at w0 w1 w2
  unfold Ar.cI at q0 q1 w0 w1
  unfold Ar.cB at q2 w2
  unfold Ar.rset at s1 s2
  cbv
  repeat' first | apply And.intro | (apply imC hA;intro) | (apply imN hA;intro) | (apply imI hA;intro) | (apply ndI hA;simp only [Cnd.holds])
  all_goals try simp (maxSteps:=10000000) only [nc,nc2,nT,Bool.not_true,Bool.not_false] at *
  all_goals try first | rfl | assumption | exact hp.1 | exact hp.2.1 | exact hp.2.2.1 | exact hp.2.2.2.1
  all_goals try (exfalso;first | omega | contradiction)
  all_goals try simp only [q0,q1,q2,s1,w0,w1,w2,s2]
  all_goals try first | exact hg | exact hg1 | exact p2 | (subst hA;simp only [arS];omega)
  ·rename_i hb
   have hb:kb=true:=q2.symm.trans hb
   rw [W.rr]
   refine ⟨rfl,rows,10,rfl,rfl,rfl,?_⟩
   rw [if_neg (by omega),if_pos (by rw [← hm,← hkb];exact hb)]
   exact ⟨rfl,rfl⟩
  ·rename_i hb
   have hb:kb=false:=q2.symm.trans hb
   rw [W.rr]
   refine ⟨rfl,r2,0,hl2,rfl,rfl,?_⟩
   rw [if_neg (by omega),if_neg (by rw [← hm,← hkb,hb];simp),← hm,← hkc]
   exact ⟨rfl,hr2⟩
theorem SL (K:List Lk) (rows:List (List AV)) (hR:rows=K.map iy) (i who:Int):EC Tryz.prog G164 [rows] [.i i,.i who] fun x rs vs=>x=0∧∃ R e,R.length=rows.length∧rs=[R]∧vs=[.i e]∧(if i < 0∨K.length≤i then e=6∧R=rows else if (lk K i.toNat).b=false∨(lk K i.toNat).h≠who then e=8∧R=rows else e=0∧R=(K.set i.toNat ⟨(lk K i.toNat).c,0,false⟩).map iy):=by
 have hrl:rows.length=K.length:=by rw [hR];simp
 obtain ⟨A,hA⟩:∃ A,A=arS:=⟨_,rfl⟩
 refine ak.enter (I:=I164) hA mixed DW sg L164 80 rfl fun CE CK Dn EV RR W hp=>?_
 cbv
 repeat' first | apply And.intro | (apply imC hA;intro) | (apply imN hA;intro) | (apply imI hA;intro) | (apply ndI hA;simp only [Cnd.holds])
 all_goals try simp (maxSteps:=10000000) only [nc,nc2,nT,Bool.not_true,Bool.not_false] at *
 all_goals try first | rfl | assumption | exact hp.1 | exact hp.2.1 | exact hp.2.2.1 | exact hp.2.2.2.1
 all_goals try (exfalso;first | omega | contradiction | simp_all;done)
 refine W.call 80 (by rfl) (C_at rows i) (by first | rfl | (subst hA;simp [arS])) (by first | rfl | (subst hA;simp [arS])) ?_
 rintro _ _ _ hp ⟨rfl,⟨rfl,hi,rfl⟩ | ⟨rfl,h0,h1,m,hm,rfl⟩⟩
 ·cbv
  repeat' first | apply And.intro | (apply imC hA;intro) | (apply imN hA;intro) | (apply imI hA;intro) | (apply ndI hA;simp only [Cnd.holds])
  all_goals try simp (maxSteps:=10000000) only [nc,nc2,nT,Bool.not_true,Bool.not_false] at *
  all_goals try first | rfl | assumption | exact hp.1 | exact hp.2.1 | exact hp.2.2.1 | exact hp.2.2.2.1
  all_goals try (exfalso;first | omega | contradiction)
  rw [W.rr];exact ⟨rfl,rows,6,rfl,rfl,rfl,by rw [if_pos (by omega)];exact ⟨rfl,rfl⟩⟩
 ·have hmK:m < K.length:=by omega
  obtain ⟨q0,q1,q2⟩:=PN hA hR hmK
  obtain ⟨kc,hkc⟩:∃ x,x=(lk K m).c:=⟨_,rfl⟩
  obtain ⟨kh,hkh⟩:∃ x,x=(lk K m).h:=⟨_,rfl⟩
  obtain ⟨kb,hkb⟩:∃ x,x=(lk K m).b:=⟨_,rfl⟩
  rw [← hkc] at q0
  rw [← hkh] at q1
  rw [← hkb] at q2
  have hg:rows[m]?=some [.int .i64 (A.cI rows m 0),.int .i64 (A.cI rows m 1),.bool (A.cB rows m 2)]:=rgL hA hR hmK
  obtain ⟨r1,hr1⟩:∃ r1,r1=(K.set m ⟨kc,0,kb⟩).map iy:=⟨_,rfl⟩
  obtain ⟨r2,hr2⟩:∃ r2,r2=(K.set m ⟨kc,0,false⟩).map iy:=⟨_,rfl⟩
  have s1:A.rset rows m [.int .i64 kc,.int .i64 0,.bool kb]=r1:=(xU hA hR m ⟨kc,0,kb⟩).trans hr1.symm
  have s2:A.rset r1 m [.int .i64 kc,.int .i64 0,.bool false]=r2:=(xU hA hr1 m ⟨kc,0,false⟩).trans (by rw [List.set_set];exact hr2.symm)
  obtain ⟨w0,w1,w2⟩:=PN hA hr1 (m:=m) (by simpa using hmK)
  rw [OY hmK] at w0 w1 w2
  have hg1:r1[m]?=some [.int .i64 (A.cI r1 m 0),.int .i64 (A.cI r1 m 1),.bool (A.cB r1 m 2)]:=rgL hA hr1 (by simpa using hmK)
  rw [w0,w1,w2] at hg1
  rw [q0,q1,q2] at hg
  have hl1:r1.length=rows.length:=by rw [hr1,hR];simp
  have hl2:r2.length=rows.length:=by rw [hr2,hR];simp
  have p2:aB r2=true:=by rw [hr2];exact sF _
  simp only at w0 w1 w2
  unfold Ar.cI at q0 q1 w0 w1
  unfold Ar.cB at q2 w2
  unfold Ar.rset at s1 s2
  cbv
  repeat' first | apply And.intro | (apply imC hA;intro) | (apply imN hA;intro) | (apply imI hA;intro) | (apply ndI hA;simp only [Cnd.holds])
  all_goals try simp (maxSteps:=10000000) only [nc,nc2,nT,Bool.not_true,Bool.not_false] at *
  all_goals try first | rfl | assumption | exact hp.1 | exact hp.2.1 | exact hp.2.2.1 | exact hp.2.2.2.1
  all_goals try (exfalso;first | omega | contradiction)
  all_goals try simp only [q0,q1,q2,s1,w0,w1,w2,s2]
  all_goals try first | exact hg | exact hg1 | exact p2 | (subst hA;simp only [arS];omega)
  ·rename_i hh hb
   have hh:kh≠who:=fun h=>hh (q1.trans h)
   rw [W.rr]
   refine ⟨rfl,rows,8,rfl,rfl,rfl,?_⟩
   rw [if_neg (by omega),if_pos (.inr (by rw [← hm,← hkh];exact hh))]
   exact ⟨rfl,rfl⟩
  ·rename_i hh hb
   have hh:kh=who:=q1.symm.trans hh
   have hb:kb=true:=q2.symm.trans hb
   rw [W.rr]
   refine ⟨rfl,r2,0,hl2,rfl,rfl,?_⟩
   rw [if_neg (by omega),if_neg (by rw [← hm,← hkb,← hkh,hb,hh];simp),← hm,← hkc]
   exact ⟨rfl,hr2⟩
  ·rename_i hb
   have hb:kb=false:=q2.symm.trans hb
   rw [W.rr]
   refine ⟨rfl,rows,8,rfl,rfl,rfl,?_⟩
   rw [if_neg (by omega),if_pos (.inl (by rw [← hm,← hkb];exact hb))]
   exact ⟨rfl,rfl⟩
def dJ (who:Int):List Lk→Int→List Int
 | [],_=>[]
 | k::ks,i=>if k.b=true∧k.h=who then i::dJ who ks (i + 1) else dJ who ks (i + 1)
theorem C_Held (K:List Lk) (rows:List (List AV)) (hR:rows=K.map iy) (hn:K.length≤1000) (who:Int):EC Tryz.prog G200 [rows] [.i who] fun x rs vs=>x=0∧vs=[]∧∃ O,O=ints (dJ who K 0)∧rs=[rows,O]:=by
 have hrl:rows.length=K.length:=by rw [hR];simp
 refine E200 fun _ EV V=>(C_Len rows).mono ?_
 have loop:∀ (d m:Nat) (acc:List Int),K.length - m < d→m≤K.length→acc.length≤m→acc++dJ who (K.drop m) m=dJ who K 0→EV 9 [rows,ints acc] [.i who,.i (K.length:Int),.i (m:Int)]:=by
  intro d
  induction d with
  | zero=>intro m acc hd;omega
  | succ d ih =>
   intro m acc hd hm hal hinv
   refine V.p9 fun _ _=>⟨fun hlt=>?_,fun hge=>?_⟩
   ·have hmK:m < K.length:=by omega
    obtain ⟨q0,q1,q2⟩:=OZ hmK
    rw [← hR] at q0 q1 q2
    have hg:=rgL (A:=arS) rfl hR hmK
    rw [List.drop_eq_getElem_cons hmK,← ug hmK] at hinv
    refine (C_at rows m).mono ?_
    rintro _ _ _ ⟨rfl,⟨rfl,hi',rfl⟩ | ⟨rfl,h0,h1,m',hm',rfl⟩⟩
    ·exfalso;omega
    obtain rfl:m'=m:=by omega
    refine .inr ⟨rfl,_,_,rfl,rfl,hg,fun hb=>⟨hg,fun hh=>⟨by simp;omega,by simp;omega,?_⟩,fun hh=>?_⟩,fun hb=>?_⟩
    ·rw [dJ,if_pos ⟨q2.symm.trans hb,q1.symm.trans hh⟩,show ((m':Nat):Int) + 1=((m' + 1:Nat):Int) by omega] at hinv
     rw [wrap64 (by omega) (by omega),show ((m':Nat):Int) + 1=((m' + 1:Nat):Int) by omega]
     show EV 9 [rows,ints acc++[[.int .i64 (m':Int)]]] _
     rw [iK]
     refine ih (m' + 1) _ (by omega) (by omega) (by simp;omega) ?_
     rw [← hinv,List.append_assoc]
     rfl
    ·rw [dJ,if_neg (fun h=>hh (q1.trans h.2)),show ((m':Nat):Int) + 1=((m' + 1:Nat):Int) by omega] at hinv
     rw [wrap64 (by omega) (by omega),show ((m':Nat):Int) + 1=((m' + 1:Nat):Int) by omega]
     exact ih (m' + 1) acc (by omega) (by omega) (by omega) hinv
    ·rw [dJ,if_neg (by rw [← q2,hb];simp),show ((m':Nat):Int) + 1=((m' + 1:Nat):Int) by omega] at hinv
     rw [wrap64 (by omega) (by omega),show ((m':Nat):Int) + 1=((m' + 1:Nat):Int) by omega]
     exact ih (m' + 1) acc (by omega) (by omega) (by omega) hinv
   ·rw [List.drop_eq_nil_of_le (by omega)] at hinv
    simp only [dJ,List.append_nil] at hinv
    exact ⟨rfl,rfl,_,by rw [hinv],rfl⟩
 rintro _ _ _ ⟨rfl,rfl,k,hk,rfl⟩
 obtain rfl:k=(K.length:Int):=by omega
 exact ⟨rfl,_,_,rfl,rfl,loop _ 0 [] (Nat.lt_succ_self _) (by omega) (by simp) (by simp)⟩
theorem qN (who:Int):∀ (ks:List Lk) (i j:Int),j∈dJ who ks i→i≤j∧j < i + ks.length
 | [],_,_,h=>by simp [dJ] at h
 | k::ks,i,j,h=>by
  simp only [dJ] at h
  split at h
  ·rcases List.mem_cons.1 h with rfl | h
   ·simp;omega
   ·have:=qN who ks (i + 1) j h
    simp;omega
  ·have:=qN who ks (i + 1) j h
   simp;omega
theorem Bj (who:Int):∀ (ks:List Lk) (i:Int),(dJ who ks i).length≤ks.length
 | [],_=>Nat.le_refl _
 | k::ks,i=>by
  have:=Bj who ks (i + 1)
  simp only [dJ]
  split <;> simp <;> omega
theorem igC {A:Ar} (hA:A=arS) {l:List (List AV)} {M:List Int} (hl:l=ints M) {i:Nat} (h:i < M.length):l[i]?=some [.int .i64 (A.cI l i 0)]:=by
 subst hA hl
 exact aJ h
theorem igvC {A:Ar} (hA:A=arS) {l:List (List AV)} {M:List Int} (hl:l=ints M) {i:Nat} (h:i < M.length):A.cI l i 0=M[i]:=by
 subst hA hl
 simp only [arS]
 rw [aN,List.getD_eq_getElem?_getD,List.getElem?_eq_getElem h]
 rfl
theorem mxE {A:Ar} (hA:A=arS) (x y:Int):A.mx x y=max x y:=by subst hA;simp only [arS];first | rfl | (split <;> omega) | omega
def Ff (K:List Lk) (base:Int) (l:List Int):Int:=l.foldl (fun b i=>max b (lk K i.toNat).c) base
theorem C_Level (K:List Lk) (rows:List (List AV)) (hR:rows=K.map iy) (hn:K.length≤1000) (who base:Int):EC Tryz.prog G176 [rows] [.i who,.i base] fun x rs vs=>x=0∧rs=[rows]∧∃ v,v=Ff K base (dJ who K 0)∧vs=[.i v]:=by
 have hrl:rows.length=K.length:=by rw [hR];simp
 obtain ⟨A,hA⟩:∃ A,A=arS:=⟨_,rfl⟩
 refine ak.enter (I:=I176) hA mixed DU sg L176 80 rfl fun CE CK Dn EV RR W hp=>?_
 have loop:∀ (O:List Int) (hOe:O=dJ who K 0) (hO:∀ j∈O,0≤j∧j < K.length) (hOl:O.length≤1000) (all:List (List AV)) (ha:all=ints O) (d m:Nat) (b i z:Int),O.length - m < d→m≤O.length→z=O.length→i=m→Ff K b (O.drop m)=Ff K base O→EV 7 [rows,all] [.i b,.i z,.i i]:=by
  intro O hOe hO hOl all ha d
  have pa:aB all=true:=by rw [ha];exact ints_pure O
  have hal:all.length=O.length:=by rw [ha];simp
  induction d with
  | zero=>intro m b i z hd;omega
  | succ d ih =>
   intro m b i z hd hm hz hi hinv
   obtain ⟨j,hj⟩:∃ j:Int,j=i + 1:=⟨_,rfl⟩
   have e1:A.iop .add .i64 i 1=j:=(addC hA (by omega) (by omega)).trans (by omega)
   unfold Ar.iop at e1
   by_cases hmO:m < O.length
   ·obtain ⟨v,hv⟩:∃ v,v=O[m]:=⟨_,rfl⟩
    have hv2:=hO v (by rw [hv];exact List.getElem_mem hmO)
    have e2:A.cI all (A.adz 0 (A.tn i)) 0=v:=by
     have h1:A.adz 0 (A.tn i)=m:=by subst hA;simp only [arS,oZ];omega
     rw [h1,hv];exact igvC hA ha hmO
    have hg:all[A.adz 0 (A.tn i)]?=some [.int .i64 (A.cI all (A.adz 0 (A.tn i)) 0)]:=igC hA ha (by subst hA;simp only [arS,oZ];omega)
    obtain ⟨q0,q1,q2⟩:=PN hA hR (m:=v.toNat) (by omega)
    have hgr:rows[v.toNat]?=some [.int .i64 (A.cI rows v.toNat 0),.int .i64 (A.cI rows v.toNat 1),.bool (A.cB rows v.toNat 2)]:=rgL hA hR (by omega)
    obtain ⟨w,hw⟩:∃ w,w=v.toNat:=⟨_,rfl⟩
    rw [← hw] at q0 hgr
    obtain ⟨kc,hkc⟩:∃ x,x=(lk K w).c:=⟨_,rfl⟩
    rw [← hkc] at q0
    obtain ⟨b',hb'⟩:∃ b',b'=max b kc:=⟨_,rfl⟩
    have e3:A.mx b kc=b':=(mxE hA _ _).trans hb'.symm
    unfold Ar.cI Ar.adz Ar.tn at e2
    unfold Ar.cI at q0
    unfold Ar.mx at e3
    rw [List.drop_eq_getElem_cons hmO,← hv] at hinv
    have hinv2:Ff K b' (O.drop (m + 1))=Ff K base O:=by
     rw [← hinv,hb',hkc,hw];rfl
    refine W.step 80 fun hp=>?_
    cbv
    repeat' first | apply And.intro | (apply imC hA;intro) | (apply imN hA;intro) | (apply imI hA;intro) | (apply ndI hA;simp only [Cnd.holds])
    all_goals try simp (maxSteps:=10000000) only [nc,nc2,nT,Bool.not_true,Bool.not_false] at *
    all_goals try first | rfl | assumption | exact hp.1 | exact hp.2.1 | exact hp.2.2.1 | exact hp.2.2.2.1
    all_goals try (exfalso;first | omega | contradiction)
    all_goals try first | omega | exact hg | (subst hA;simp only [arS];omega)
    simp only [e2]
    refine W.call 80 (by rfl) (C_at rows v) (by first | rfl | (subst hA;simp [arS])) (by first | rfl | (subst hA;simp [arS])) ?_
    rintro _ _ _ hp ⟨rfl,⟨rfl,hi',rfl⟩ | ⟨rfl,h0,h1,m',hm',rfl⟩⟩
    ·exfalso;omega
    obtain rfl:m'=w:=by omega
    cbv
    repeat' first | apply And.intro | (apply imC hA;intro) | (apply imN hA;intro) | (apply imI hA;intro) | (apply ndI hA;simp only [Cnd.holds])
    all_goals try simp (maxSteps:=10000000) only [nc,nc2,nT,Bool.not_true,Bool.not_false] at *
    all_goals try first | rfl | assumption | exact hp.1 | exact hp.2.1 | exact hp.2.2.1 | exact hp.2.2.2.1
    all_goals try (exfalso;first | omega | contradiction)
    all_goals try simp only [e1,q0,e3]
    all_goals try exact hgr
    exact ih (m + 1) b' j z (by omega) (by omega) hz (by omega) hinv2
   ·rw [List.drop_eq_nil_of_le (by omega)] at hinv
    refine W.step 80 fun hp=>?_
    cbv
    repeat' first | apply And.intro | (apply imC hA;intro) | (apply imN hA;intro) | (apply imI hA;intro) | (apply ndI hA;simp only [Cnd.holds])
    all_goals try simp (maxSteps:=10000000) only [nc,nc2,nT,Bool.not_true,Bool.not_false] at *
    all_goals try first | rfl | assumption | exact hp.1 | exact hp.2.1 | exact hp.2.2.1 | exact hp.2.2.2.1
    all_goals try (exfalso;first | omega | contradiction)
    rw [W.rr];exact ⟨rfl,rfl,b,by rw [← hOe];exact hinv,rfl⟩
 cbv
 repeat' first | apply And.intro | (apply imC hA;intro) | (apply imN hA;intro) | (apply imI hA;intro) | (apply ndI hA;simp only [Cnd.holds])
 all_goals try simp (maxSteps:=10000000) only [nc,nc2,nT,Bool.not_true,Bool.not_false] at *
 all_goals try first | rfl | assumption | exact hp.1 | exact hp.2.1 | exact hp.2.2.1 | exact hp.2.2.2.1
 all_goals try (exfalso;first | omega | contradiction)
 refine W.call 80 (by rfl) (C_Held K rows hR hn who) (by first | rfl | (subst hA;simp [arS])) (by first | rfl | (subst hA;simp [arS])) ?_
 rintro _ _ _ hp ⟨rfl,rfl,all,ha,rfl⟩
 cbv
 repeat' first | apply And.intro | (apply imC hA;intro) | (apply imN hA;intro) | (apply imI hA;intro) | (apply ndI hA;simp only [Cnd.holds])
 all_goals try simp (maxSteps:=10000000) only [nc,nc2,nT,Bool.not_true,Bool.not_false] at *
 all_goals try first | rfl | assumption | exact hp.1 | exact hp.2.1 | exact hp.2.2.1 | exact hp.2.2.2.1
 all_goals try (exfalso;first | omega | contradiction)
 exact loop _ rfl (fun j hj=>by have:=qN who K 0 j hj;omega) (by have:=Bj who K 0;omega) all ha _ 0 _ 0 _ (Nat.lt_succ_self _) (by omega) (by subst hA;simp only [arS];rw [ha];simp) rfl rfl
theorem C_New (C:List Int) (l:List (List AV)) (hl:l=ints C) (hn:C.length≤1000):EC Tryz.prog G141 [] [.r l] fun x rs vs=>x=0∧vs=[]∧∃ R,R=(C.map fun c=>(⟨c,0,false⟩:Lk)).map iy∧rs=[R]:=by
 obtain ⟨A,hA⟩:∃ A,A=arS:=⟨_,rfl⟩
 refine ak.enter (I:=I141) hA mixed DZ sg L141 80 rfl fun CE CK Dn EV RR W hp=>?_
 have pl:aB l=true:=by rw [hl];exact ints_pure C
 have hll:l.length=C.length:=by rw [hl];simp
 have loop:∀ (d m:Nat) (R:List (List AV)) (i z:Int),C.length - m < d→m≤C.length→z=C.length→i=m→R=((C.take m).map fun c=>(⟨c,0,false⟩:Lk)).map iy→EV 9 [R] [.r l,.i z,.i i]:=by
  intro d
  induction d with
  | zero=>intro m R i z hd;omega
  | succ d ih =>
   intro m R i z hd hm hz hi hR
   obtain ⟨j,hj⟩:∃ j:Int,j=i + 1:=⟨_,rfl⟩
   have e1:A.iop .add .i64 i 1=j:=(addC hA (by omega) (by omega)).trans (by omega)
   unfold Ar.iop at e1
   have hRl:R.length=m:=by rw [hR];simp;omega
   have pR:aB R=true:=by rw [hR];exact sF _
   by_cases hmC:m < C.length
   ·obtain ⟨v,hv⟩:∃ v,v=C[m]:=⟨_,rfl⟩
    have him:A.tn i=m:=by subst hA;simp only [arS];omega
    have e2:A.cI l (A.tn i) 0=v:=by rw [him,hv];exact igvC hA hl hmC
    have hg:l[A.tn i]?=some [.int .i64 (A.cI l (A.tn i) 0)]:=igC hA hl (by omega)
    have s1:A.rapp R (A.rlen R) [[.int .i64 v,.int .i64 0,.bool false]]=((C.take (m + 1)).map fun c=>(⟨c,0,false⟩:Lk)).map iy:=by
     rw [hR]
     subst hA
     simp only [arS]
     rw [af,List.take_add_one,List.getElem?_eq_getElem hmC,← hv]
     simp [iy]
    unfold Ar.cI Ar.tn at e2
    refine W.step 80 fun hp=>?_
    cbv
    repeat' first | apply And.intro | (apply imC hA;intro) | (apply imN hA;intro) | (apply imI hA;intro) | (apply ndI hA;simp only [Cnd.holds])
    all_goals try simp (maxSteps:=10000000) only [nc,nc2,nT,Bool.not_true,Bool.not_false] at *
    all_goals try first | rfl | assumption | exact hp.1 | exact hp.2.1 | exact hp.2.2.1 | exact hp.2.2.2.1
    all_goals try (exfalso;first | omega | contradiction)
    all_goals try first | omega | exact hg
    all_goals try simp only [e1,e2]
    all_goals try first | exact (congrArg aB s1).trans (sF _) | (subst hA;simp [arS];done) | (subst hA;simp [arS];omega) | (subst hA;simp only [arS,aP,List.length_append,List.length_take,List.length_drop,List.length_cons,List.length_nil];omega)
    exact ih (m + 1) _ j z (by omega) (by omega) hz (by omega) s1
   ·obtain rfl:m=C.length:=by omega
    rw [List.take_length] at hR
    refine W.step 80 fun hp=>?_
    cbv
    repeat' first | apply And.intro | (apply imC hA;intro) | (apply imN hA;intro) | (apply imI hA;intro) | (apply ndI hA;simp only [Cnd.holds])
    all_goals try simp (maxSteps:=10000000) only [nc,nc2,nT,Bool.not_true,Bool.not_false] at *
    all_goals try first | rfl | assumption | exact hp.1 | exact hp.2.1 | exact hp.2.2.1 | exact hp.2.2.2.1
    all_goals try (exfalso;first | omega | contradiction)
    rw [W.rr];exact ⟨rfl,rfl,R,hR,rfl⟩
 cbv
 repeat' first | apply And.intro | (apply imC hA;intro) | (apply imN hA;intro) | (apply imI hA;intro) | (apply ndI hA;simp only [Cnd.holds])
 all_goals try simp (maxSteps:=10000000) only [nc,nc2,nT,Bool.not_true,Bool.not_false] at *
 all_goals try first | rfl | assumption | exact hp.1 | exact hp.2.1 | exact hp.2.2.1 | exact hp.2.2.2.1
 all_goals try (exfalso;first | omega | contradiction)
 all_goals try (subst hA;rfl)
 exact loop _ 0 [] 0 _ (Nat.lt_succ_self _) (by omega) (by subst hA;simp only [arS];omega) rfl rfl
end Go.Ab

namespace Go.Ab
open Go Go.Proofs
set_option linter.unusedVariables false
set_option linter.unusedSimpArgs false
set_option maxRecDepth 100000
set_option maxHeartbeats 1000000
structure Op3 where
 k:Int
 a:Int
 b:Int
 deriving Inhabited
def bY (o:Op3):List AV:=[.int .i64 o.k,.int .i64 o.a,.int .i64 o.b]
structure Tk where
 p:Int
 th:Int
 pe:Int
 de:Int
 fr:Int
 fl:Int
 pg:List Op3
 deriving Inhabited
def aF (t:Tk):List AV:=[.int .i64 t.p,.int .i64 t.th,.int .i64 t.pe,.int .i64 t.de,.int .i64 t.fr,.int .i64 t.fl,.inl 3 (t.pg.map bY)]
def tk (T:List Tk) (i:Nat):Tk:=T.getD i default
def op3 (P:List Op3) (i:Nat):Op3:=P.getD i default
theorem bP {T:List Tk} {i:Nat} (h:i < T.length):tk T i=T[i]:=by
 unfold tk;rw [List.getD_eq_getElem?_getD,List.getElem?_eq_getElem h];rfl
theorem kG {T:List Op3} {i:Nat} (h:i < T.length):op3 T i=T[i]:=by
 unfold op3;rw [List.getD_eq_getElem?_getD,List.getElem?_eq_getElem h];rfl
section
variable (T:List Tk) (i:Nat)
theorem tk0:cIS (T.map aF) i 0=(tk T i).p:=by
 unfold cIS cellS tk;rw [List.getElem?_map,List.getD_eq_getElem?_getD];cases T[i]? <;> rfl
theorem tk1:cIS (T.map aF) i 1=(tk T i).th:=by
 unfold cIS cellS tk;rw [List.getElem?_map,List.getD_eq_getElem?_getD];cases T[i]? <;> rfl
theorem tk2:cIS (T.map aF) i 2=(tk T i).pe:=by
 unfold cIS cellS tk;rw [List.getElem?_map,List.getD_eq_getElem?_getD];cases T[i]? <;> rfl
theorem tk3:cIS (T.map aF) i 3=(tk T i).de:=by
 unfold cIS cellS tk;rw [List.getElem?_map,List.getD_eq_getElem?_getD];cases T[i]? <;> rfl
theorem tk4:cIS (T.map aF) i 4=(tk T i).fr:=by
 unfold cIS cellS tk;rw [List.getElem?_map,List.getD_eq_getElem?_getD];cases T[i]? <;> rfl
theorem tk5:cIS (T.map aF) i 5=(tk T i).fl:=by
 unfold cIS cellS tk;rw [List.getElem?_map,List.getD_eq_getElem?_getD];cases T[i]? <;> rfl
theorem tk6:cRS (T.map aF) i 6=(tk T i).pg.map bY:=by
 unfold cRS cellS tk;rw [List.getElem?_map,List.getD_eq_getElem?_getD];cases T[i]? <;> rfl
end
section
variable (P:List Op3) (i:Nat)
theorem uP:cIS (P.map bY) i 0=(op3 P i).k:=by
 unfold cIS cellS op3;rw [List.getElem?_map,List.getD_eq_getElem?_getD];cases P[i]? <;> rfl
theorem uO:cIS (P.map bY) i 1=(op3 P i).a:=by
 unfold cIS cellS op3;rw [List.getElem?_map,List.getD_eq_getElem?_getD];cases P[i]? <;> rfl
theorem xO:cIS (P.map bY) i 2=(op3 P i).b:=by
 unfold cIS cellS op3;rw [List.getElem?_map,List.getD_eq_getElem?_getD];cases P[i]? <;> rfl
end
theorem aW {T:List Tk} {i:Nat} (h:i < T.length):(T.map aF)[i]?=some [.int .i64 (cIS (T.map aF) i 0),.int .i64 (cIS (T.map aF) i 1),.int .i64 (cIS (T.map aF) i 2),.int .i64 (cIS (T.map aF) i 3),.int .i64 (cIS (T.map aF) i 4),.int .i64 (cIS (T.map aF) i 5),.inl 3 (cRS (T.map aF) i 6)]:=by
 rw [tk0,tk1,tk2,tk3,tk4,tk5,tk6,bP h,List.getElem?_map,List.getElem?_eq_getElem h]
 rfl
theorem gp {P:List Op3} {i:Nat} (h:i < P.length):(P.map bY)[i]?=some [.int .i64 (cIS (P.map bY) i 0),.int .i64 (cIS (P.map bY) i 1),.int .i64 (cIS (P.map bY) i 2)]:=by
 rw [uP,uO,xO,kG h,List.getElem?_map,List.getElem?_eq_getElem h]
 rfl
theorem fE {x:Int} (h0:0≤x) (h1:x < 18446744073709551616):IntKind.wrap .u64 x=x:=by
 simp only [IntKind.wrap]
 have hb:IntKind.u64.bits=64:=rfl
 simp [IntKind.signed,hb]
 omega
def cu:Int:=18446744073709551615
def gG (a b:Int):Int:=if a + b > cu then cu else a + b
def bW (a b:Int):Int:=if a=0 then 0 else if b=0∨a=cu then cu else (a - 1) / b + 1
def U (a:Int):Prop:=0≤a∧a≤18446744073709551615
theorem rG {a b:Int} (ha:U a) (hb:U b):U (gG a b):=by
 unfold gG cu U at *;split <;> omega
theorem PM {a b:Int} (ha:0 < a) (hb:0 < b):(a / b * b=a→a / b=(a - 1) / b + 1)∧(a / b * b≠a→a / b + 1=(a - 1) / b + 1):=by
 have h1:=Int.mul_ediv_add_emod a b
 have h2:=Int.emod_nonneg a (by omega:b≠0)
 have h3:=Int.emod_lt_of_pos a hb
 generalize a / b=q at *
 generalize a % b=r at *
 constructor
 ·intro h
  have hr:r=0:=by rw [Int.mul_comm] at h1;omega
  have e:a - 1=(b - 1) + b * (q - 1):=by rw [Int.mul_sub];omega
  rw [e,Int.add_mul_ediv_left _ _ (by omega),Int.ediv_eq_zero_of_lt (by omega) (by omega)]
  omega
 ·intro h
  have hr:r≠0:=by intro e;apply h;rw [Int.mul_comm] ; omega
  have e:a - 1=(r - 1) + b * q:=by omega
  rw [e,Int.add_mul_ediv_left _ _ (by omega),Int.ediv_eq_zero_of_lt (by omega) (by omega)]
  omega
theorem dL {a b:Int} (ha:U a) (hb:U b):U (bW a b):=by
 unfold bW
 split
 ·unfold U;omega
 ·split
  ·unfold U cu;omega
  ·rename_i h1 h2
   unfold U cu at *
   have:(a - 1) / b≤a - 1:=Int.ediv_le_self _ (by omega)
   have:0≤(a - 1) / b:=Int.ediv_nonneg (by omega) (by omega)
   omega
theorem zW {a b:Int} (ha:U a) (hb:U b):EC Tryz.prog G60 [] [.i a,.i b] fun x rs vs=>x=0∧rs=[]∧vs=[.i (gG a b)]:=by
 have e1:arS.c0 a b=((a.toNat + b.toNat:Nat):Int) / 18446744073709551616:=rfl
 have e2:arS.s0 a b=((a.toNat + b.toNat:Nat):Int) % 18446744073709551616:=rfl
 unfold U at ha hb
 refine E60 fun EV V=>⟨fun h=>⟨rfl,rfl,?_⟩,fun h=>⟨rfl,rfl,?_⟩⟩
 ·rw [e1] at h
  unfold gG cu
  rw [if_pos (by omega)]
 ·rw [e1] at h
  rw [e2]
  unfold gG cu
  rw [if_neg (by omega)]
  congr 2;omega
theorem DD {a b:Int} (ha:U a) (hb:U b):EC Tryz.prog G25 [] [.i a,.i b] fun x rs vs=>x=0∧rs=[]∧vs=[.i (gG a b)]:=by
 unfold U at ha hb
 have e:IntKind.wrap .u64 (18446744073709551615 - b)=18446744073709551615 - b:=fE (by omega) (by omega)
 refine E25 fun EV V=>⟨fun h=>⟨rfl,rfl,?_⟩,fun h=>⟨rfl,rfl,?_⟩⟩
 ·rw [e] at h
  unfold gG cu
  rw [if_pos (by omega)]
 ·rw [e] at h
  unfold gG cu
  rw [if_neg (by omega),fE (by omega) (by omega)]
theorem SK {a b:Int} (ha:U a) (hb:U b):EC Tryz.prog G134 [] [.i a,.i b] fun x rs vs=>x=0∧rs=[]∧vs=[.i (bW a b)]:=by
 unfold U at ha hb
 refine E134 fun EV V=>⟨fun h=>⟨rfl,rfl,by simp [bW,h]⟩,fun h=>⟨fun h1=>⟨fun h2=>⟨rfl,rfl,by simp [bW,cu,h,h2]⟩,fun h2=>⟨h1,rfl,rfl,?_⟩⟩,fun h1=>⟨rfl,rfl,by simp [bW,cu,h,h1]⟩⟩⟩
 have q1:(a - 1) / b≤a - 1:=Int.ediv_le_self _ (by omega)
 have q2:0≤(a - 1) / b:=Int.ediv_nonneg (by omega) (by omega)
 rw [fE (x:=a - 1) (by omega) (by omega),Int.tdiv_eq_ediv_of_nonneg (by omega),fE q2 (by omega),fE (by omega) (by omega)]
 unfold bW cu
 rw [if_neg h,if_neg (by omega)]
theorem RCeil_E {a b:Int} (ha:U a) (hb:U b):EC Tryz.prog G106 [] [.i a,.i b] fun x rs vs=>x=0∧rs=[]∧vs=[.i (bW a b)]:=by
 unfold U at ha hb
 refine E106 fun EV V=>⟨fun h=>⟨rfl,rfl,by simp [bW,h]⟩,fun h=>⟨fun h1=>⟨fun h2=>⟨rfl,rfl,by simp [bW,cu,h,h2]⟩,fun h2=>⟨h1,?_⟩⟩,fun h1=>⟨rfl,rfl,by simp [bW,cu,h,h1]⟩⟩⟩
 have q1:a / b≤a:=Int.ediv_le_self _ (by omega)
 have q2:0≤a / b:=Int.ediv_nonneg (by omega) (by omega)
 have q3:a / b * b≤a:=Int.ediv_mul_le a (by omega)
 have q4:0≤a / b * b:=Int.mul_nonneg q2 (by omega)
 obtain ⟨d1,d2⟩:=PM (a:=a) (b:=b) (by omega) (by omega)
 rw [Int.tdiv_eq_ediv_of_nonneg (by omega),fE q2 (by omega),fE q4 (by omega),fE (x:=a / b + 1) (by omega) (by omega)]
 have e:bW a b=(a - 1) / b + 1:=by unfold bW cu;rw [if_neg h,if_neg (by omega)]
 exact ⟨fun hne=>⟨rfl,rfl,by rw [d2 hne,e]⟩,fun he=>⟨rfl,rfl,by rw [d1 he,e]⟩⟩
theorem Gw {a:Int} (ha:a≤9223372036854775807):EC Tryz.prog G58 [] [.i a] fun x rs vs=>x=0∧rs=[]∧vs=[.i (max a 0)] :=
 E58 fun EV V=>⟨rfl,rfl,by rw [mxS,fE (by omega) (by omega)]⟩
theorem Qb {a:Int} (ha:a≤9223372036854775807):EC Tryz.prog G107 [] [.i a] fun x rs vs=>x=0∧rs=[]∧vs=[.i (max a 0)] :=
 E107 fun EV V=>⟨fun h=>⟨rfl,rfl,by rw [show max a 0=0 by omega]⟩,fun h=>⟨rfl,rfl,by rw [fE h (by omega),show max a 0=a by omega]⟩⟩
theorem OQ {a:Int} (ha:a≤9223372036854775807):U (max a 0):=by unfold U;omega
theorem uA {a b:Int} (h:0≤a + b∧a + b≤1000000000000000):gG a b=a + b:=by
 unfold gG cu;rw [if_neg (by omega)]
theorem SumL_E {a b c:Int} (ha:0≤a∧a≤1099511627776) (hb:0≤b∧b≤1099511627776) (hc:0≤c∧c≤1099511627776):EC Tryz.prog G157 [] [.r [[.int .u64 a],[.int .u64 b],[.int .u64 c]]] fun x rs vs=>x=0∧rs=[]∧vs=[.i (a + b + c)]:=by
 refine E157 fun EV V=>?_
 have u0:U 0:=by unfold U;omega
 have ua:U a:=by unfold U;omega
 have ub:U b:=by unfold U;omega
 have uc:U c:=by unfold U;omega
 have uab:U (a + b):=by unfold U;omega
 have i1:IntKind.wrap .i64 ((0:Int) + 1)=1:=rfl
 have i2:IntKind.wrap .i64 ((1:Int) + 1)=2:=rfl
 have i3:IntKind.wrap .i64 ((2:Int) + 1)=3:=rfl
 refine V.p9 ⟨fun _=>⟨by omega,rfl,(zW u0 ua).mono ?_⟩,fun h=>by simp at h⟩
 rintro _ _ _ ⟨rfl,rfl,rfl⟩
 rw [uA (by omega),i1]
 refine ⟨rfl,_,rfl,rfl,V.p9 ⟨fun _=>⟨by omega,rfl,(zW (by rw [Int.zero_add];exact ua) ub).mono ?_⟩,fun h=>by simp at h⟩⟩
 rintro _ _ _ ⟨rfl,rfl,rfl⟩
 rw [uA (by omega),i2]
 refine ⟨rfl,_,rfl,rfl,V.p9 ⟨fun _=>⟨by omega,rfl,(zW (by rw [Int.zero_add];exact uab) uc).mono ?_⟩,fun h=>by simp at h⟩⟩
 rintro _ _ _ ⟨rfl,rfl,rfl⟩
 rw [uA (by omega),i3]
 refine ⟨rfl,_,rfl,rfl,V.p9 ⟨fun h=>by simp at h,fun _=>⟨rfl,rfl,by rw [Int.zero_add]⟩⟩⟩
def iC (n:Int):Int:=min (max n 0) 1073741824
def dK (hit miss:Int) (h:Bool) (o:Op3):Int:=if o.k=1 then iC o.a else if o.k=2 then (if h then iC hit else iC miss) else 1
theorem zF (n:Int):0≤iC n∧iC n≤1073741824:=by unfold iC;omega
theorem kV (hit miss:Int) (h:Bool) (o:Op3):0≤dK hit miss h o∧dK hit miss h o≤1073741824:=by
 unfold dK
 have:=zF o.a;have:=zF hit;have:=zF miss
 split
 ·omega
 ·split
  ·split <;> omega
  ·omega
theorem Dt (n:Int):EC Tryz.prog G143 [] [.i n] fun x rs vs=>x=0∧rs=[]∧vs=[.i (iC n)] :=
 E143 fun EV V=>⟨rfl,rfl,by rw [mnS,mxS];rfl⟩
theorem aan (n:Int):EC Tryz.prog G110 [] [.i n] fun x rs vs=>x=0∧rs=[]∧vs=[.i (iC n)] :=
 E110 fun EV V=>⟨fun h=>⟨rfl,rfl,by rw [show iC n=0 by unfold iC;omega]⟩,fun h=>⟨fun h1=>⟨rfl,rfl,by rw [show iC n=1073741824 by unfold iC;omega]⟩,fun h1=>⟨rfl,rfl,by rw [show iC n=n by unfold iC;omega]⟩⟩⟩
theorem SG (k a b s w hit miss:Int) (h:Bool):EC Tryz.prog G109 [] [.i k,.i a,.i b,.i s,.i w,.i hit,.i miss,.b h] fun x rs vs=>x=0∧rs=[]∧vs=[.i (dK hit miss h ⟨k,a,b⟩)]:=by
 refine E109 fun EV V=>⟨fun h1=>(Dt a).mono ?_,fun h1=>⟨fun h2=>⟨rfl,rfl,by simp [dK,h1,h2]⟩,fun h2=>⟨fun h3=>(Dt hit).mono ?_,fun h3=>(Dt miss).mono ?_⟩⟩⟩
 all_goals
  rintro _ _ _ ⟨rfl,rfl,rfl⟩
  refine ⟨rfl,_,rfl,rfl,rfl,rfl,?_⟩
  simp_all [dK]
theorem JV (k a b s w hit miss:Int) (h:Bool):EC Tryz.prog G77 [] [.i k,.i a,.i b,.i s,.i w,.i hit,.i miss,.b h] fun x rs vs=>x=0∧rs=[]∧vs=[.i (dK hit miss h ⟨k,a,b⟩)]:=by
 refine E77 fun EV V=>⟨fun h1=>(aan a).mono ?_,fun h1=>⟨fun h2=>⟨fun h3=>(aan hit).mono ?_,fun h3=>⟨fun _=>(aan miss).mono ?_,fun h4=>(h4 h2).elim⟩⟩,fun h2=>⟨fun h4=>(h2 h4).elim,fun _=>⟨rfl,rfl,by simp [dK,h1,h2]⟩⟩⟩⟩
 all_goals
  rintro _ _ _ ⟨rfl,rfl,rfl⟩
  refine ⟨rfl,_,rfl,rfl,rfl,rfl,?_⟩
  simp_all [dK]
def ig (hit miss:Int) (h:Bool) (P:List Op3):Int:=(P.map (dK hit miss h)).sum
theorem lG (hit miss:Int) (h:Bool):∀ P:List Op3,0≤ig hit miss h P∧ig hit miss h P≤P.length * 1073741824
 | []=>by simp [ig]
 | o::P=>by
  have:=lG hit miss h P
  have:=kV hit miss h o
  simp only [ig,List.map_cons,List.sum_cons,List.length_cons] at *
  omega
theorem Am {hit miss:Int} {h:Bool} {P:List Op3} {m:Nat} (hm:m < P.length):ig hit miss h (P.take (m + 1))=ig hit miss h (P.take m) + dK hit miss h (op3 P m):=by
 rw [List.take_add_one,List.getElem?_eq_getElem hm,← kG hm]
 simp [ig]
theorem Sum_E (P:List Op3) (hP:P.length≤1000) (s w hit miss:Int) (h:Bool):EC Tryz.prog G135 [] [.r (P.map bY),.i s,.i w,.i hit,.i miss,.b h] fun x rs vs=>x=0∧rs=[]∧vs=[.i (ig hit miss h P)]:=by
 refine E135 fun EV V=>?_
 have loop:∀ (d m:Nat),P.length - m < d→m≤P.length→EV 9 [] [.b h,.i (ig hit miss h (P.take m)),.r (P.map bY),.i P.length,.i m,.i s,.i w,.i hit,.i miss]:=by
  intro d
  induction d with
  | zero=>intro m hd;omega
  | succ d ih =>
   intro m hd hm
   refine V.p9 ⟨fun hlt=>?_,fun hge=>?_⟩
   ·have hmP:m < P.length:=by omega
    refine ⟨by omega,gp hmP,(SG _ _ _ s w hit miss h).mono ?_⟩
    rintro _ _ _ ⟨rfl,rfl,rfl⟩
    refine ⟨rfl,_,rfl,rfl,?_⟩
    rw [uP,uO,xO,Int.toNat_natCast]
    have b1:=lG hit miss h (P.take m)
    have b2:=kV hit miss h (op3 P m)
    rw [List.length_take] at b1
    have:=ih (m + 1) (by omega) (by omega)
    rw [Am hmP] at this
    have e:dK hit miss h ⟨(op3 P m).k,(op3 P m).a,(op3 P m).b⟩=dK hit miss h (op3 P m):=rfl
    rw [e,wrap64 (x:=ig hit miss h (P.take m) + dK hit miss h (op3 P m)) (by omega) (by omega),wrap64 (by omega) (by omega)]
    exact this
   ·obtain rfl:m=P.length:=by omega
    rw [List.take_length]
    exact ⟨rfl,rfl,rfl⟩
 have:=loop _ 0 (Nat.lt_succ_self _) (by omega)
 simpa [ig] using this
theorem Qa (P:List Op3) (hP:P.length≤1000) (s w hit miss:Int) (h:Bool):EC Tryz.prog G71 [] [.r (P.map bY),.i s,.i w,.i hit,.i miss,.b h] fun x rs vs=>x=0∧rs=[]∧vs=[.i (ig hit miss h P)]:=by
 refine E71 fun EV V=>?_
 have loop:∀ (d m:Nat),P.length - m < d→m≤P.length→EV 9 [] [.b h,.i (ig hit miss h (P.take m)),.r (P.map bY),.i P.length,.i m,.i s,.i w,.i hit,.i miss]:=by
  intro d
  induction d with
  | zero=>intro m hd;omega
  | succ d ih =>
   intro m hd hm
   refine V.p9 ⟨fun hlt=>?_,fun hge=>?_⟩
   ·have hmP:m < P.length:=by omega
    refine ⟨by omega,gp hmP,(JV _ _ _ s w hit miss h).mono ?_⟩
    rintro _ _ _ ⟨rfl,rfl,rfl⟩
    refine ⟨rfl,_,rfl,rfl,?_⟩
    rw [uP,uO,xO,Int.toNat_natCast]
    have b1:=lG hit miss h (P.take m)
    have b2:=kV hit miss h (op3 P m)
    rw [List.length_take] at b1
    have:=ih (m + 1) (by omega) (by omega)
    rw [Am hmP] at this
    have e:dK hit miss h ⟨(op3 P m).k,(op3 P m).a,(op3 P m).b⟩=dK hit miss h (op3 P m):=rfl
    rw [e,wrap64 (x:=ig hit miss h (P.take m) + dK hit miss h (op3 P m)) (by omega) (by omega),wrap64 (by omega) (by omega)]
    exact this
   ·obtain rfl:m=P.length:=by omega
    rw [List.take_length]
    exact ⟨rfl,rfl,rfl⟩
 have:=loop _ 0 (Nat.lt_succ_self _) (by omega)
 simpa [ig] using this
theorem JR (P:List Op3) (hP:P.length≤1000) (s w hit miss:Int):EC Tryz.prog G97 [] [.r (P.map bY),.i s,.i w,.i hit,.i miss] fun x rs vs=>x=0∧rs=[]∧vs=[.i (ig hit miss false P)]:=by
 refine E97 fun EV V=>(Sum_E P hP s w hit miss false).mono ?_
 rintro _ _ _ ⟨rfl,rfl,rfl⟩
 exact ⟨rfl,_,rfl,rfl,rfl,rfl,rfl⟩
end Go.Ab
