import Derived.Test.YtlakbkdhdgicfaaGreatQDqS
import Derived.Test.YtlakbkdhdgicfaaGreatQDqN
import Derived.Test.YtlakbkdhdgicfaaGreatQVA
import Derived.Test.YtlakbkdhdgicfaaGreatQVB
import Derived.Test.YtlakbkdhdgicfaaGreatQVC
import Derived.Test.YtlakbkdhdgicfaaGreatQVD
import Derived.Test.YtlakbkdhdgicfaaGreatQS
import Derived.Test.YtlakbkdhdgicfaaGreatLayE
namespace Go.Ab
open Go Go.Proofs
set_option linter.unusedVariables false
set_option linter.unusedSimpArgs false
set_option maxRecDepth 100000
set_option maxHeartbeats 1000000
theorem Oa (L:List Int):(fJ L).Pairwise (·≤·):=by
 have:=List.pairwise_mergeSort (le:=fun x y:Int=>decide (x≤y)) (fun a b c h1 h2=>by simp at *;omega) (fun a b=>by simp;omega) L
 simpa [fJ] using this
theorem MI (L:List Int) (v:Int):v∈fJ L↔v∈L:=List.mem_mergeSort
theorem uG (l:List Int) (i:Nat) (v:Int):(ints l).set i [.int .i64 v]=ints (l.set i v):=by
 unfold ints;rw [List.map_set]
theorem zf (l:List Int) (v:Int):ints l++[[.int .i64 v]]=ints (l++[v]):=by simp [ints]
theorem encT_th (T:List Tk) (i:Nat) (v:Int):[AV.int .i64 (cIS (T.map aF) i 0),.int .i64 v,.int .i64 (cIS (T.map aF) i 2),.int .i64 (cIS (T.map aF) i 3),.int .i64 (cIS (T.map aF) i 4),.int .i64 (cIS (T.map aF) i 5),.inl 3 (cRS (T.map aF) i 6)]=aF (iW (tk T i) v):=by
 rw [tk0,tk2,tk3,tk4,tk5,tk6];rfl
theorem vY (T:List Tk) (l:List Int) {m:Nat} (hm:m < T.length):((nZ T l m).map aF).set m [AV.int .i64 (cIS ((nZ T l m).map aF) m 0),.int .i64 (l.getD m 0),.int .i64 (cIS ((nZ T l m).map aF) m 2),.int .i64 (cIS ((nZ T l m).map aF) m 3),.int .i64 (cIS ((nZ T l m).map aF) m 4),.int .i64 (cIS ((nZ T l m).map aF) m 5),.inl 3 (cRS ((nZ T l m).map aF) m 6)]=(nZ T l (m + 1)).map aF:=by
 rw [encT_th,yA,← MC T l hm,uF T l m hm,if_neg (Nat.lt_irrefl m)]
section
variable {c0 c1 c2 c3 c5:Int} {M K C L:List Int} {T:List Tk}
theorem DJ (hT:T.length≤1000):EC Tryz.prog G41 [] [.i c0,.i c1,.i c2,.i c3,.r (ints M),.i c5,.r (ints K),.r (ints C),.r (T.map aF),.r (ints L)] fun x rs vs=>x=0∧rs=[ints (bI T)]∧vs=[]:=by
 refine E41 fun EV V=>?_
 rw [List.length_map]
 have loop:∀ d m:Nat,m + d=T.length→EV 9 [ints ((bI T).take m)] [.r (T.map aF),.i (T.length:Int),.i (m:Int)]:=by
  intro d
  induction d with
  | zero =>
   intro m hm
   refine V.p9 fun _=>⟨fun h=>by omega,fun _=>⟨rfl,?_,rfl⟩⟩
   rw [List.take_of_length_le (by simp [bI];omega)]
  | succ d ih =>
   intro m hm
   have hlt:m < T.length:=by omega
   have h3:=ih (m + 1) (by omega)
   rw [List.take_succ_eq_append_getElem (by simpa [bI] using hlt)] at h3
   refine V.p9 fun _=>⟨fun _=>⟨by omega,aW hlt,by simp [ints,bI];omega,by simp [ints,bI];omega,?_⟩,fun h=>by omega⟩
   rw [wrap64 (by omega) (by omega),show (m:Int) + 1=((m + 1:Nat):Int) by omega,tk0,Int.toNat_natCast]
   show EV 9 [ints ((bI T).take m)++[[.int .i64 (tk T m).p]]] _
   rw [zf,show (tk T m).p=(bI T)[m]'(by simpa [bI] using hlt) by simp [bI,bP hlt]]
   exact h3
 exact loop T.length 0 (by omega)
theorem Ip (hT:T.length≤1000) (l:List Int):EC Tryz.prog G38 [] [.i c0,.i c1,.i c2,.i c3,.r (ints M),.i c5,.r (ints K),.r (ints C),.r (T.map aF),.r (ints L),.r (ints l)] fun x rs vs=>x=0∧rs=[] ∧
  vs=if l.length=T.length∧bK c0 c1 c2 c3 M c5 K C (thr T l) L=0 then [.i c0,.i c1,.i c2,.i c3,.r (ints M),.i c5,.r (ints K),.r (ints C),.r ((thr T l).map aF),.r (ints L),.i 0] else [.i 0,.i 0,.i 0,.i 0,.r [],.i 0,.r [],.r [],.r [],.r [],.i (if l.length=T.length then bK c0 c1 c2 c3 M c5 K C (thr T l) L else 1)]:=by
 refine E38 fun EV V=>?_
 rw [List.length_map,ints_length]
 refine ⟨fun h=>⟨rfl,rfl,?_⟩,fun h=>(Mc T hT).mono ?_⟩
 ·rw [if_neg (by omega),if_neg (by omega)]
 have hl:l.length=T.length:=by omega
 rintro _ _ _ ⟨rfl,rfl,rfl⟩
 refine ⟨rfl,_,rfl,rfl,?_⟩
 have loop:∀ d m:Nat,m + d=T.length→EV 17 [(nZ T l m).map aF,[],[],[],[],[]] [.r (ints l),.i (l.length:Int),.i (m:Int),.i c0,.i c1,.i c2,.i c3,.r (ints M),.i c5,.r (ints K),.r (ints C),.r (ints L),.i 0,.i 0,.i 0,.i 0,.i 0]:=by
  intro d
  induction d with
  | zero =>
   intro m hm
   obtain rfl:m=T.length:=by omega
   refine V.p17 fun _ _ _ _ _ _=>⟨fun h=>by omega,fun _=>?_⟩
   rw [lD]
   refine D7.mono ?_
   rintro _ _ _ ⟨rfl,rfl,rfl⟩
   refine ⟨rfl,_,rfl,rfl,fun h=>⟨rfl,rfl,?_⟩,fun h=>⟨rfl,rfl,?_⟩⟩
   ·rw [if_neg (fun g=>h g.2),if_pos hl];rfl
   ·rw [if_pos ⟨hl,h⟩];rfl
  | succ d ih =>
   intro m hm
   have hlt:m < T.length:=by omega
   refine V.p17 fun _ _ _ _ _ _=>⟨fun _=>⟨by omega,aJ (by omega),by rw [List.length_map,eH];omega,aW (by rw [eH];exact hlt),?_⟩,fun h=>by omega⟩
   rw [Int.toNat_natCast,aN,vY T l hlt,wrap64 (by omega) (by omega),show (m:Int) + 1=((m + 1:Nat):Int) by omega]
   exact ih (m + 1) (by omega)
 have h0:=loop T.length 0 (by omega)
 rw [Gz] at h0
 exact h0
def iF (c0 c1 c2 c3:Int) (M:List Int) (c5:Int) (K C:List Int) (T:List Tk) (L:List Int) (l:List Int):Bool:=decide (l.length=T.length) && eF c0 c1 c2 c3 M c5 K C (thr T l) L
theorem dN {l:List Int}:iF c0 c1 c2 c3 M c5 K C T L l=true↔l.length=T.length∧eF c0 c1 c2 c3 M c5 K C (thr T l) L=true:=by simp [iF]
theorem dI (T:List Tk):(bI T).length=T.length:=by simp [bI]
theorem ku (hT:T.length≤1000) (l:List Int):EC Tryz.prog G39 [] [.i c0,.i c1,.i c2,.i c3,.r (ints M),.i c5,.r (ints K),.r (ints C),.r (T.map aF),.r (ints L),.r (ints l)] fun x rs vs=>x=0∧rs=[]∧vs=[.b (iF c0 c1 c2 c3 M c5 K C T L l)]:=by
 refine E39 fun _ _=>(Ip hT l).mono ?_
 rintro _ _ _ ⟨rfl,rfl,rfl⟩
 by_cases h:l.length=T.length∧bK c0 c1 c2 c3 M c5 K C (thr T l) L=0
 ·rw [if_pos h]
  refine ⟨rfl,_,_,_,_,_,_,_,_,_,_,_,rfl,rfl,fun _=>o6.mono ?_,fun g=>absurd rfl g⟩
  rintro _ _ _ ⟨rfl,rfl,rfl⟩
  refine ⟨rfl,_,rfl,rfl,rfl,rfl,?_⟩
  unfold iF;rw [decide_eq_true h.1,Bool.true_and]
 ·rw [if_neg h]
  have hf:iF c0 c1 c2 c3 M c5 K C T L l=false:=by
   cases hb:iF c0 c1 c2 c3 M c5 K C T L l with
   | false=>rfl
   | true =>
    obtain ⟨g1,g2⟩:=dN.1 hb
    exact absurd ⟨g1,(fU.1 g2).1⟩ h
  refine ⟨rfl,_,_,_,_,_,_,_,_,_,_,_,rfl,rfl,fun g=>?_,fun _=>⟨rfl,rfl,by rw [hf]⟩⟩
  exfalso
  by_cases hl:l.length=T.length
  ·rw [if_pos hl] at g;exact h ⟨hl,g⟩
  ·rw [if_neg hl] at g;cases g
theorem lC (hT:T.length≤1000) (l:List Int):EC Tryz.prog G40 [] [.i c0,.i c1,.i c2,.i c3,.r (ints M),.i c5,.r (ints K),.r (ints C),.r (T.map aF),.r (ints L),.r (ints l)] fun x rs vs=>x=0∧rs=[]∧vs=[.b (iF c0 c1 c2 c3 M c5 K C T L l)]:=by
 refine E40 fun EV V=>?_
 rw [List.length_map,ints_length]
 refine ⟨fun h=>⟨rfl,rfl,?_⟩,fun h=>⟨by omega,by omega,IM T,?_⟩⟩
 ·unfold iF;rw [decide_eq_false (by omega)];rfl
 have hl:l.length=T.length:=by omega
 have loop:∀ d m:Nat,m + d=T.length→EV 19 [(nZ T l m).map aF] [.r (ints l),.i (l.length:Int),.i (m:Int),.i c0,.i c1,.i c2,.i c3,.r (ints M),.i c5,.r (ints K),.r (ints C),.r (ints L)]:=by
  intro d
  induction d with
  | zero =>
   intro m hm
   obtain rfl:m=T.length:=by omega
   refine V.p19 fun _=>⟨fun h=>by omega,fun _=>?_⟩
   rw [lD]
   refine vV.mono ?_
   rintro _ _ _ ⟨rfl,rfl,rfl⟩
   refine ⟨rfl,_,rfl,rfl,fun h=>(rH (dP h)).mono ?_,fun h=>⟨rfl,rfl,?_⟩⟩
   ·rintro _ _ _ ⟨rfl,rfl,rfl⟩
    refine ⟨rfl,_,rfl,rfl,rfl,rfl,?_⟩
    have h:bK c0 c1 c2 c3 M c5 K C (thr T l) L=0:=h
    unfold iF eF;rw [decide_eq_true hl,decide_eq_true h];rfl
   ·have h:¬ bK c0 c1 c2 c3 M c5 K C (thr T l) L=0:=h
    unfold iF eF;rw [decide_eq_false h];simp
  | succ d ih =>
   intro m hm
   have hlt:m < T.length:=by omega
   refine V.p19 fun _=>⟨fun _=>⟨by omega,aJ (by omega),by rw [List.length_map,eH];omega,aW (by rw [eH];exact hlt),?_⟩,fun h=>by omega⟩
   rw [Int.toNat_natCast,aN,vY T l hlt,wrap64 (by omega) (by omega),show (m:Int) + 1=((m + 1:Nat):Int) by omega]
   exact ih (m + 1) (by omega)
 have h0:=loop T.length 0 (by omega)
 rw [Gz] at h0
 exact h0
theorem Ir (hT:T.length≤1000) (l:List Int):EC Tryz.prog G40a [ints l] [.i c0,.i c1,.i c2,.i c3,.r (ints M),.i c5,.r (ints K),.r (ints C),.r (T.map aF),.r (ints L)] fun x rs vs=>x=0∧rs=[ints l]∧vs=[.b (iF c0 c1 c2 c3 M c5 K C T L l)]:=by
 refine E40a fun _ EV V=>?_
 rw [List.length_map,ints_length]
 refine ⟨fun h=>⟨rfl,rfl,?_⟩,fun h=>⟨by omega,by omega,IM T,?_⟩⟩
 ·unfold iF;rw [decide_eq_false (by omega)];rfl
 have hl:l.length=T.length:=by omega
 have loop:∀ d m:Nat,m + d=T.length→EV 19 [ints l,(nZ T l m).map aF] [.i (l.length:Int),.i (m:Int),.i c0,.i c1,.i c2,.i c3,.r (ints M),.i c5,.r (ints K),.r (ints C),.r (ints L)]:=by
  intro d
  induction d with
  | zero =>
   intro m hm
   obtain rfl:m=T.length:=by omega
   refine V.p19 fun _ _=>⟨fun h=>by omega,fun _=>?_⟩
   rw [lD]
   refine vV.mono ?_
   rintro _ _ _ ⟨rfl,rfl,rfl⟩
   refine ⟨rfl,_,rfl,rfl,fun h=>(rH (dP h)).mono ?_,fun h=>⟨rfl,rfl,?_⟩⟩
   ·rintro _ _ _ ⟨rfl,rfl,rfl⟩
    refine ⟨rfl,_,rfl,rfl,rfl,rfl,?_⟩
    have h:bK c0 c1 c2 c3 M c5 K C (thr T l) L=0:=h
    unfold iF eF;rw [decide_eq_true hl,decide_eq_true h];rfl
   ·have h:¬ bK c0 c1 c2 c3 M c5 K C (thr T l) L=0:=h
    unfold iF eF;rw [decide_eq_false h];simp
  | succ d ih =>
   intro m hm
   have hlt:m < T.length:=by omega
   refine V.p19 fun _ _=>⟨fun _=>⟨by omega,by rw [ints_length];omega,aJ (by omega),by rw [List.length_map,eH];omega,aW (by rw [eH];exact hlt),?_⟩,fun h=>by omega⟩
   rw [Int.toNat_natCast,aN,vY T l hlt,wrap64 (by omega) (by omega),show (m:Int) + 1=((m + 1:Nat):Int) by omega]
   exact ih (m + 1) (by omega)
 have h0:=loop T.length 0 (by omega)
 rw [Gz] at h0
 exact h0
theorem N9 (hT:T.length≤1000) (hn:∀ t∈T,0≤t.p∧t.p≤63) (j:Nat) (hj:j < T.length):EC Tryz.prog G111 [] [.i c0,.i c1,.i c2,.i c3,.r (ints M),.i c5,.r (ints K),.r (ints C),.r (T.map aF),.r (ints L),.i (j:Int)] fun x rs vs=>x=0∧rs=[ints (fJ (fH T j))]∧vs=[]:=by
 refine E111 fun EV V=>?_
 rw [List.length_map]
 have loop:∀ d m:Nat,m + d=T.length→EV 9 [ints (fH (T.take m) 0 |>.take 1 |>.append (((T.take m).filter fun t=>decide (t.p > (tk T j).p)).map fun t=>t.p - 1))] [.i (j:Int),.r (T.map aF),.i (T.length:Int),.i (m:Int),.i c0,.i c1,.i c2,.i c3,.r (ints M),.i c5,.r (ints K),.r (ints C),.r (T.map aF),.r (ints L)]:=by
  intro d
  induction d with
  | zero =>
   intro m hm
   refine V.p9 fun _=>⟨fun h=>by omega,fun _=>?_⟩
   rw [List.take_of_length_le (show T.length≤m by omega)]
   have hl:(fH T j).length≤100000:=by
    have:=List.length_filter_le (fun t:Tk=>decide (t.p > (tk T j).p)) T
    simp only [fH,List.length_cons,List.length_map];omega
   refine (P7 (fH T j) hl).mono ?_
   rintro _ _ _ ⟨rfl,rfl,rfl⟩
   refine ⟨rfl,_,rfl,rfl,?_,rfl,rfl,rfl⟩
   rw [ints_length,ints_length,kX];rfl
  | succ d ih =>
   intro m hm
   have hlt:m < T.length:=by omega
   have hp:=hn _ (List.getElem_mem hlt)
   rw [← bP hlt] at hp
   have h3:=ih (m + 1) (by omega)
   have hfl:=List.length_filter_le (fun t:Tk=>decide (t.p > (tk T j).p)) (T.take m)
   rw [List.length_take] at hfl
   have hl:(ints ((fH (T.take m) 0).take 1 |>.append (((T.take m).filter fun t=>decide (t.p > (tk T j).p)).map fun t=>t.p - 1))).length≤1002:=by
    rw [ints_length]
    show (63::(((T.take m).filter fun t=>decide (t.p > (tk T j).p)).map fun t=>t.p - 1)).length≤1002
    simp only [List.length_cons,List.length_map];omega
   refine V.p9 fun _=>⟨fun _=>⟨by omega,aW hlt,by omega,aW hj,fun h=>?_,fun h=>?_⟩,fun h=>by omega⟩
   ·rw [tk0,tk0,Int.toNat_natCast,Int.toNat_natCast] at h
    rw [tk0,Int.toNat_natCast,wrap64 (x:=(tk T m).p - 1) (by omega) (by omega)]
    refine ⟨by simp only [List.length_take,List.length_drop,List.length_cons,List.length_nil];omega,by simp only [List.length_take,List.length_drop,List.length_cons,List.length_nil];omega,?_⟩
    rw [wrap64 (by omega) (by omega),show (m:Int) + 1=((m + 1:Nat):Int) by omega]
    rw [List.take_succ_eq_append_getElem hlt,List.filter_append,← bP hlt,List.map_append] at h3
    rw [show [tk T m].filter (fun t=>decide (t.p > (tk T j).p))=[tk T m] by simp;omega] at h3
    show EV 9 [ints _++[[.int .i64 _]]] _
    rw [zf]
    exact h3
   ·rw [tk0,tk0,Int.toNat_natCast,Int.toNat_natCast] at h
    rw [wrap64 (by omega) (by omega),show (m:Int) + 1=((m + 1:Nat):Int) by omega]
    rw [List.take_succ_eq_append_getElem hlt,List.filter_append,← bP hlt,List.map_append] at h3
    rw [show [tk T m].filter (fun t=>decide (t.p > (tk T j).p))=[] by simp;omega,List.map_nil,List.append_nil] at h3
    exact h3
 exact loop T.length 0 (by omega)
theorem SI (l:List Int) (hl:l.length≤1000):EC Tryz.prog G112 [] [.r (ints l)] fun x rs vs=>x=0∧vs=[]∧rs=[ints l]:=by
 refine E112 fun _ _=>?_
 rw [ints_length]
 refine ⟨fun h=>⟨rfl,rfl,?_⟩,by omega,by omega,Oo l,rfl,rfl,rfl⟩
 obtain rfl:l=[]:=List.length_eq_zero_iff.1 (by omega)
 rfl
theorem raise80 (hT:T.length≤1000) (hL:eF c0 c1 c2 c3 M c5 K C (thr T (bI T)) L=true) (j:Nat) (hj:j < T.length):EC Tryz.prog G80 [] [.i c0,.i c1,.i c2,.i c3,.r (ints M),.i c5,.r (ints K),.r (ints C),.r (T.map aF),.r (ints L),.r (ints (bI T)),.i (j:Int)] fun x rs vs=>x=0∧rs=[]∧∃ b,vs=[.i b]∧zV C c2 c3 T j b:=by
 have hP:=CG hL
 have hok:=((jL _).1 hL).2
 have hn:∀ t∈T,0≤t.p∧t.p≤63:=mV.2 fun i hi=>(dm (hok i hi).1).1
 have hn2:∀ t∈T,t.p≤63:=fun t ht=>(hn t ht).2
 refine E80 fun EV V=>⟨by omega,aJ (by rw [dI];exact hj),(N9 hT hn j hj).mono ?_⟩
 rintro _ _ _ ⟨rfl,rfl,rfl⟩
 refine ⟨rfl,_,rfl,rfl,?_⟩
 rw [ints_length,Int.toNat_natCast,aN,oO hj]
 have hso:=Oa (fH T j)
 have hsm:=MI (fH T j)
 have hSl:(fJ (fH T j)).length≤1001:=by
  have:=List.length_filter_le (fun t:Tk=>decide (t.p > (tk T j).p)) T
  rw [kX]
  simp only [fH,List.length_cons,List.length_map];omega
 generalize hS:fJ (fH T j)=S at *
 have loop:∀ (d m:Nat) (b:Int),m + d=S.length→okT C c2 c3 T j b→(∀ w∈S.take m,w≤b)→EV 9 [ints S] [.r (ints (bI T)),.i (j:Int),.i b,.i (S.length:Int),.i (m:Int),.i c0,.i c1,.i c2,.i c3,.r (ints M),.i c5,.r (ints K),.r (ints C),.r (T.map aF),.r (ints L)]:=by
  intro d
  induction d with
  | zero =>
   intro m b hm hb hw
   rw [List.take_of_length_le (by omega)] at hw
   exact V.p9 fun _=>⟨fun h=>by omega,fun _=>⟨rfl,rfl,_,rfl,PV hb fun w hw2=>hw w ((hsm w).2 hw2)⟩⟩
  | succ d ih =>
   intro m b hm hb hw
   have hlt:m < S.length:=by omega
   refine V.p9 fun _=>⟨fun _=>⟨by omega,by rw [ints_length];omega,aJ hlt,(SI (bI T) (by rw [dI];exact hT)).mono ?_⟩,fun h=>by omega⟩
   rintro _ _ _ ⟨rfl,rfl,rfl⟩
   rw [Int.toNat_natCast,Int.toNat_natCast,aN,Jr hlt]
   refine ⟨rfl,_,rfl,rfl,by omega,by rw [ints_length,dI];omega,aJ (by rw [dI];exact hj),?_⟩
   rw [uG,show List.take (ints (bI T)).length (List.drop 0 (ints ((bI T).set j S[m])))=ints ((bI T).set j S[m]) by
    rw [List.drop_zero,List.take_of_length_le (by rw [ints_length,ints_length,List.length_set];exact Nat.le_refl _)]]
   refine (ku hT _).mono ?_
   rintro _ _ _ ⟨rfl,rfl,rfl⟩
   have hp:iF c0 c1 c2 c3 M c5 K C T L ((bI T).set j S[m])=true↔okT C c2 c3 T j S[m]:=by
    rw [dN,List.length_set,dI,Ou hL hj];simp
   have hpw:=List.pairwise_iff_getElem.1 hso
   refine ⟨rfl,_,rfl,rfl,fun h=>⟨rfl,rfl,_,rfl,?_⟩,fun h=>?_⟩
   ·refine Ny hP hn2 hj hb ((hsm _).1 (List.getElem_mem hlt)) (fun g=>by rw [hp.2 g] at h;cases h) fun w hw2=>?_
    obtain ⟨k,hk,rfl⟩:=List.mem_iff_getElem.1 ((hsm w).2 hw2)
    rcases Nat.lt_or_ge k m with h1 | h1
    ·exact .inl (hw _ (List.mem_iff_getElem.2 ⟨k,by simp;omega,by simp⟩))
    ·rcases Nat.eq_or_lt_of_le h1 with rfl | h2
     ·exact .inr (Int.le_refl _)
     ·exact .inr (hpw m k hlt hk h2)
   ·rw [wrap64 (by omega) (by omega),show (m:Int) + 1=((m + 1:Nat):Int) by omega]
    refine ih (m + 1) S[m] (by omega) (hp.1 h) fun w hw2=>?_
    obtain ⟨k,hk,rfl⟩:=List.mem_iff_getElem.1 hw2
    simp only [List.length_take] at hk
    rw [List.getElem_take]
    rcases Nat.eq_or_lt_of_le (show k≤m by omega) with rfl | h2
    ·exact Int.le_refl _
    ·exact hpw k m (by omega) hlt h2
 have h0:=hok j hj
 rw [oO hj] at h0
 exact loop S.length 0 _ (by omega) h0 (by simp)
theorem vU (hT:T.length≤1000):EC Tryz.prog G43 [] [.i c0,.i c1,.i c2,.i c3,.r (ints M),.i c5,.r (ints K),.r (ints C),.r (T.map aF),.r (ints L)] fun x rs vs=>x=0∧∃ B ok,rs=[ints B]∧vs=[.b ok]∧ok=iF c0 c1 c2 c3 M c5 K C T L (bI T)∧(ok=false→B=[])∧(ok=true→B.length=T.length∧∀ j,j < T.length→zV C c2 c3 T j (B.getD j 0)):=by
 refine E43 fun EV V=>(DJ hT).mono ?_
 rintro _ _ _ ⟨rfl,rfl,rfl⟩
 refine ⟨rfl,_,rfl,rfl,?_⟩
 rw [lD,List.length_map]
 refine (ku hT _).mono ?_
 rintro _ _ _ ⟨rfl,rfl,rfl⟩
 refine ⟨rfl,_,rfl,rfl,fun h=>⟨rfl,[],_,rfl,rfl,h.symm,fun _=>rfl,fun g=>by cases g⟩,fun h=>?_⟩
 have hL:=(dN.1 h).2
 have loop:∀ (d m:Nat) (B:List Int),m + d=T.length→B.length=m→(∀ j,j < m→zV C c2 c3 T j (B.getD j 0))→EV 19 [ints B] [.r (ints (bI T)),.i (T.length:Int),.i (m:Int),.i c0,.i c1,.i c2,.i c3,.r (ints M),.i c5,.r (ints K),.r (ints C),.r (T.map aF),.r (ints L)]:=by
  intro d
  induction d with
  | zero =>
   intro m B hm hl hB
   obtain rfl:m=T.length:=by omega
   exact V.p19 fun _=>⟨fun h=>by omega,fun _=>⟨rfl,B,_,rfl,rfl,h.symm,(fun g=>by cases g),fun _=>⟨hl,hB⟩⟩⟩
  | succ d ih =>
   intro m B hm hl hB
   refine V.p19 fun _=>⟨fun _=>(raise80 hT hL m (by omega)).mono ?_,fun h=>by omega⟩
   rintro _ _ _ ⟨rfl,rfl,b,rfl,hb⟩
   refine ⟨rfl,_,rfl,rfl,by simp;omega,by simp;omega,?_⟩
   rw [wrap64 (by omega) (by omega),show (m:Int) + 1=((m + 1:Nat):Int) by omega]
   show EV 19 [ints B++[[.int .i64 b]]] _
   rw [zf]
   refine ih (m + 1) (B++[b]) (by omega) (by simp [hl]) fun i hi=>?_
   rcases Nat.lt_or_ge i m with h | h
   ·have:=hB i h
    rwa [List.getD_eq_getElem?_getD,List.getElem?_append_left (by omega),← List.getD_eq_getElem?_getD]
   ·obtain rfl:i=m:=by omega
    rw [List.getD_eq_getElem?_getD,List.getElem?_append_right (by omega),hl,Nat.sub_self]
    exact hb
 exact loop T.length 0 [] (by omega) rfl fun i hi=>by omega
theorem JC (hT:T.length≤maxLen):EC Tryz.prog G37 [] [.i c0,.i c1,.i c2,.i c3,.r (ints M),.i c5,.r (ints K),.r (ints C),.r (T.map aF),.r (ints L)] fun x rs vs=>x=0∧rs=[]∧∃ b,vs=[.b b]∧(b=true→T.length≤20):=by
 have no:∀ {p:Prop},(0:Nat)=0∧([]:Rs)=[]∧∃ b,[Lf.b false]=[.b b]∧(b=true→p):=⟨rfl,rfl,false,rfl,fun h=>by cases h⟩
 refine E37 fun _ _=>(DK hT).mono ?_
 rintro _ _ _ ⟨rfl,rfl,b,rfl,hb⟩
 refine ⟨rfl,_,rfl,rfl,fun h=>⟨fun _=>⟨fun _=>(JU hT).mono ?_,fun _=>no⟩,fun _=>no⟩,fun _=>no⟩
 rintro _ _ _ ⟨rfl,rfl,d,rfl,_⟩
 exact ⟨rfl,_,rfl,rfl,rfl,rfl,_,rfl,fun _=>(hb h).2.2.2.1⟩
theorem JS (hT:T.length≤1000):EC Tryz.prog G42 [] [.i c0,.i c1,.i c2,.i c3,.r (ints M),.i c5,.r (ints K),.r (ints C),.r (T.map aF),.r (ints L)] fun x rs vs=>x=0∧rs=[]∧vs=[.i (IntKind.wrap .i64 ((1:Int) + (IntKind.wrap .i64 ((T.length:Int) * (IntKind.wrap .i64 ((T.length:Int) + 1))))))] :=
 E42 fun _ _=>⟨rfl,rfl,by rw [List.length_map]⟩
end
end Go.Ab
