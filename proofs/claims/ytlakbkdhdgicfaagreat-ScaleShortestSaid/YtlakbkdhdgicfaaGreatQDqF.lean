import Derived.Test.YtlakbkdhdgicfaaGreatQDqE
import Derived.Test.YtlakbkdhdgicfaaGreatQPtC
import Derived.Test.YtlakbkdhdgicfaaGreatQDqD
namespace Go.Ab
open Go Go.Proofs
set_option linter.unusedVariables false
set_option linter.unusedSimpArgs false
set_option maxRecDepth 100000
set_option maxHeartbeats 1000000
theorem nM (W:List Int) (i:Nat) (v:Int):(ints W).set i [.int .i64 v]=ints (W.set i v):=by
 simp only [ints,List.map_set]
theorem pp0 (B:List (Int × Int)) (i:Nat):cIS (B.map iQ) i 0=(B.getD i (0,0)).1:=by
 unfold cIS cellS
 rw [List.getElem?_map,List.getD_eq_getElem?_getD]
 cases B[i]? <;> rfl
theorem pp1 (B:List (Int × Int)) (i:Nat):cIS (B.map iQ) i 1=(B.getD i (0,0)).2:=by
 unfold cIS cellS
 rw [List.getElem?_map,List.getD_eq_getElem?_getD]
 cases B[i]? <;> rfl
theorem tX {B:List (Int × Int)} {i:Nat} (h:i < B.length):(B.map iQ)[i]?=some [.int .i64 (cIS (B.map iQ) i 0),.int .i64 (cIS (B.map iQ) i 1)]:=by
 rw [pp0,pp1,List.getElem?_map,List.getElem?_eq_getElem h,List.getD_eq_getElem?_getD,List.getElem?_eq_getElem h]
 rfl
theorem pp_set (B:List (Int × Int)) (i:Nat) (a b:Int):(B.map iQ).set i [.int .i64 a,.int .i64 b]=(B.set i (a,b)).map iQ:=by
 rw [List.map_set,iQ]
theorem Len_E (n:Int) (h:0≤n∧n≤12):EC Tryz.prog G166 [] [.i n] fun x rs vs=>x=0∧rs=[]∧∃ k,vs=[.i k]:=by
 have h188:EC Tryz.prog G188 [] [.i n] fun x rs vs=>x=0∧rs=[]∧∃ k,vs=[.i k]:=by
  refine E188 fun EV V=>⟨fun h1=>by omega,fun _=>V.p10 ⟨fun h1=>by omega,fun _=>V.p18 ⟨fun h1=>by omega,fun _=>?_⟩⟩⟩
  have:n=0∨n=1∨n=2∨n=3∨n=4∨n=5∨n=6∨n=7∨n=8∨n=9∨n=10∨n=11∨n=12:=by omega
  rcases this with rfl | rfl | rfl | rfl | rfl | rfl | rfl | rfl | rfl | rfl | rfl | rfl | rfl <;> exact ⟨by decide,by decide,rfl,rfl,_,rfl⟩
 refine E166 fun _ _=>h188.mono ?_
 rintro _ _ _ ⟨rfl,rfl,k,rfl⟩
 exact ⟨rfl,_,rfl,rfl,rfl,rfl,_,rfl⟩
theorem Cmp_E (a b:Int):EC Tryz.prog G155 [] [.i a,.i b] fun x rs vs=>x=0∧rs=[]∧∃ k,vs=[.i k]:=by
 refine E155 fun _ _=>E173 fun _ _=>⟨rfl,_,rfl,rfl,E173 fun _ _=>⟨rfl,_,rfl,rfl,fun h=>?_,fun h=>⟨fun h=>?_,fun h=>⟨fun _=>⟨rfl,rfl,_,rfl⟩,fun _=>⟨fun _=>⟨rfl,rfl,_,rfl⟩,fun _=>⟨rfl,rfl,_,rfl⟩⟩⟩⟩⟩⟩
 ·simp at h
 ·simp at h
section
variable {c0 c1 c2 c3 c5:Int} {c4 c6 c9:List (List AV)} {C:List Int} {T:List Tk}
def InT (T:List Tk) (W:List Int):Prop:=∀ x∈W,0≤x∧x < T.length
theorem InT.get {W:List Int} (h:InT T W) {i:Nat} (hi:i < W.length):0≤W.getD i 0∧W.getD i 0 < T.length:=by
 rw [getD_get hi];exact h _ (List.getElem_mem hi)
theorem InT.perm {W W':List Int} (h:InT T W) (hp:W'.Perm W):InT T W':=fun x hx=>h x (hp.subset hx)
theorem cmp_E (a b:Int) (ha:0≤a∧a < T.length) (hb:0≤b∧b < T.length):EC Tryz.prog G154 [] [.i a,.i b,.i c0,.i c1,.i c2,.i c3,.r c4,.i c5,.r c6,.r (ints C),.r (T.map aF),.r c9] fun x rs vs=>x=0∧rs=[]∧∃ k,vs=[.i k,.i c0,.i c1,.i c2,.i c3,.r c4,.i c5,.r c6,.r (ints C),.r (T.map aF),.r c9]:=by
 refine E154 fun _ _=>⟨ha.1,aW (by omega),hb.1,aW (by omega),(Cmp_E _ _).mono ?_⟩
 rintro _ _ _ ⟨rfl,rfl,k,rfl⟩
 exact ⟨rfl,_,rfl,rfl,rfl,rfl,_,rfl⟩
theorem Ins_E (W:List Int) (hW:InT T W) (hl:W.length≤12):EC Tryz.prog G192 [ints W] [.i 0,.i (W.length:Int),.i c0,.i c1,.i c2,.i c3,.r c4,.i c5,.r c6,.r (ints C),.r (T.map aF),.r c9] fun x rs vs=>x=0∧∃ W':List Int,W'.Perm W∧rs=[ints W']∧vs=[.i c0,.i c1,.i c2,.i c3,.r c4,.i c5,.r c6,.r (ints C),.r (T.map aF),.r c9]:=by
 refine E192 fun _ EV V=>?_
 have loop:∀ (d:Nat) (i:Nat) (X:List Int),X.Perm W→W.length - i < d→1≤i→EV 4 [ints X] [.i 0,.i (W.length:Int),.i (i:Int),.i c0,.i c1,.i c2,.i c3,.r c4,.i c5,.r c6,.r (ints C),.r (T.map aF),.r c9]:=by
  intro d
  induction d with
  | zero=>intro i X hp hd;omega
  | succ d ih =>
   intro i X hp hd h1
   refine V.p4 fun _=>⟨fun hlt=>?_,fun _=>⟨rfl,X,hp,rfl,rfl⟩⟩
   have inner:∀ (j:Nat) (Y:List Int),Y.Perm W→j≤i→EV 16 [ints Y] [.i 0,.i (W.length:Int),.i (i:Int),.i (j:Int),.i c0,.i c1,.i c2,.i c3,.r c4,.i c5,.r c6,.r (ints C),.r (T.map aF),.r c9]:=by
    intro j
    induction j with
    | zero =>
     intro Y hY hj
     refine V.p16 fun _=>⟨fun h=>by omega,fun _=>?_⟩
     rw [wrap64 (by omega) (by omega),show (i:Int) + 1=((i + 1:Nat):Int) by omega]
     exact ih (i + 1) Y hY (by omega) (by omega)
    | succ j ihj =>
     intro Y hY hj
     have hYl:Y.length=W.length:=hY.length_eq
     have hI:=hW.perm hY
     have hj1:j + 1 < Y.length:=by omega
     have hj0:j < Y.length:=by omega
     have ew:IntKind.wrap .i64 (((j + 1:Nat):Int) - 1)=(j:Int):=by rw [wrap64 (by omega) (by omega)];omega
     refine V.p16 fun _=>⟨fun _=>?_,fun h=>by omega⟩
     rw [ew,Int.toNat_natCast,Int.toNat_natCast,aN,aN]
     refine ⟨by omega,by simp;omega,by rw [← aN];exact aJ hj1,by omega,by simp;omega,by rw [← aN];exact aJ hj0,(cmp_E _ _ (hI.get hj1) (hI.get hj0)).mono ?_⟩
     rintro _ _ _ ⟨rfl,rfl,k,rfl⟩
     refine ⟨rfl,_,_,_,_,_,_,_,_,_,_,_,rfl,rfl,fun _=>?_,fun _=>?_⟩
     ·rw [nM,nM]
      refine ⟨by omega,by simp;omega,by rw [← aN];exact aJ hj0,by omega,by simp;omega,by rw [← aN];exact aJ hj1,aJ (by simp;omega),?_⟩
      refine ihj _ ?_ (by omega)
      rw [getD_get hj0,getD_get hj1]
      exact (List.set_set_perm hj1 hj0).trans hY
     ·rw [wrap64 (by omega) (by omega),show (i:Int) + 1=((i + 1:Nat):Int) by omega]
      exact ih (i + 1) Y hY (by omega) (by omega)
   exact inner i X hp (Nat.le_refl _)
 have:=loop (W.length + 1) 1 W (List.Perm.refl _) (by omega) (by omega)
 rw [wrap64 (by omega) (by omega)]
 exact this
theorem SortF_E (W:List Int) (hW:InT T W) (hl:W.length≤12):EC Tryz.prog G153 [ints W] [.i c0,.i c1,.i c2,.i c3,.r c4,.i c5,.r c6,.r (ints C),.r (T.map aF),.r c9] fun x rs vs=>x=0∧∃ W':List Int,W'.Perm W∧rs=[ints W']∧vs=[.i c0,.i c1,.i c2,.i c3,.r c4,.i c5,.r c6,.r (ints C),.r (T.map aF),.r c9]:=by
 refine E153 fun _ _ _=>?_
 rw [ints_length,fE (by omega) (by omega)]
 refine (Len_E _ (by omega)).mono ?_
 rintro _ _ _ ⟨rfl,rfl,k,rfl⟩
 refine ⟨rfl,_,rfl,rfl,?_⟩
 have h172:EC Tryz.prog G172 [ints W] [.i 0,.i (W.length:Int),.i k,.i c0,.i c1,.i c2,.i c3,.r c4,.i c5,.r c6,.r (ints C),.r (T.map aF),.r c9] fun x rs vs=>x=0∧∃ W':List Int,W'.Perm W∧rs=[ints W']∧vs=[.i c0,.i c1,.i c2,.i c3,.r c4,.i c5,.r c6,.r (ints C),.r (T.map aF),.r c9]:=by
  refine E172 fun _ EV V=>V.p6 fun _=>⟨fun _=>(Ins_E W hW hl).mono ?_,fun h=>?_⟩
  ·rintro _ _ _ ⟨rfl,W',hp,rfl,rfl⟩
   exact ⟨rfl,_,_,_,_,_,_,_,_,_,_,_,rfl,rfl,rfl,W',hp,rfl,rfl⟩
  ·rw [wrap64 (by omega) (by omega)] at h;omega
 refine h172.mono ?_
 rintro _ _ _ ⟨rfl,W',hp,rfl,rfl⟩
 exact ⟨rfl,_,_,_,_,_,_,_,_,_,_,_,rfl,rfl,rfl,W',hp,rfl,rfl⟩
def yF (n:Nat):List Int:=(List.range n).map fun (i:Nat)=>(i:Int)
theorem IU (hT:T.length≤12):EC Tryz.prog G125 [] [.i c0,.i c1,.i c2,.i c3,.r c4,.i c5,.r c6,.r (ints C),.r (T.map aF),.r c9] fun x rs vs=>x=0∧rs=[]∧∃ X:List Int,X.Perm (yF T.length)∧vs=[.r (ints X)]:=by
 refine E125 fun EV V=>?_
 rw [List.length_map]
 refine ⟨by omega,by omega,?_⟩
 have loop:∀ (d m:Nat) (W:List Int),m + d=T.length→W.length=T.length→(∀ j,j < m→W.getD j 0=(j:Int))→EV 9 [ints W] [.i (T.length:Int),.i (m:Int),.i c0,.i c1,.i c2,.i c3,.r c4,.i c5,.r c6,.r (ints C),.r (T.map aF),.r c9]:=by
  intro d
  induction d with
  | zero =>
   intro m W hm hl hW
   have e:W=yF T.length:=by
    refine List.ext_getElem (by simp [yF,hl]) fun i h1 h2=>?_
    have:=hW i (by omega)
    rw [getD_get h1] at this
    rw [this];simp [yF]
   refine V.p9 fun _=>⟨fun h=>by omega,fun _=>(SortF_E W ?_ (by omega)).mono ?_⟩
   ·intro x hx
    rw [e] at hx
    simp only [yF,List.mem_map,List.mem_range] at hx
    obtain ⟨i,hi,rfl⟩:=hx
    omega
   rintro _ _ _ ⟨rfl,W',hp,rfl,rfl⟩
   have hl':W'.length=W.length:=hp.length_eq
   refine ⟨rfl,_,_,_,_,_,_,_,_,_,_,_,rfl,rfl,by simp [hl'],rfl,rfl,W',e ▸ hp,?_⟩
   rw [List.drop_zero,List.take_of_length_le (by simp [hl'])]
  | succ d ih =>
   intro m W hm hl hW
   refine V.p9 fun _=>⟨fun _=>⟨by omega,by simp;omega,aJ (by omega),?_⟩,fun h=>by omega⟩
   rw [Int.toNat_natCast,nM,wrap64 (by omega) (by omega),show (m:Int) + 1=((m + 1:Nat):Int) by omega]
   refine ih (m + 1) _ (by omega) (by simp [hl]) fun j hj=>?_
   rw [List.getD_eq_getElem?_getD]
   rcases Nat.lt_or_ge j m with h | h
   ·rw [List.getElem?_set_ne (by omega),← List.getD_eq_getElem?_getD];exact hW j h
   ·obtain rfl:j=m:=by omega
    rw [List.getElem?_set_self (by omega)];rfl
 have e:(List.replicate T.length [AV.int .i64 0])=ints (List.replicate T.length 0):=by simp [ints]
 rw [e]
 exact loop T.length 0 _ (by omega) (by simp) (fun j hj=>by omega)
theorem Can_E (a b:Int) (ha:0≤a∧a < T.length) (hb:0≤b∧b < T.length):EC Tryz.prog G152 [] [.i c0,.i c1,.i c2,.i c3,.r c4,.i c5,.r c6,.r (ints C),.r (T.map aF),.r c9,.i a,.i b] fun x rs vs=>x=0∧rs=[]∧vs=[.b (decide ((tk T a.toNat).p > (tk T b.toNat).th))]:=by
 refine E152 fun _ _=>?_
 rw [List.length_map]
 exact ⟨fun _=>⟨fun _=>⟨fun _=>⟨fun _=>⟨ha.1,aW (by omega),hb.1,aW (by omega),rfl,rfl,by rw [tk0,tk1]⟩,fun h=>by omega⟩,fun h=>by omega⟩,fun h=>by omega⟩,fun h=>by omega⟩
def Nx (T:List Tk) (B:List (Int × Int)) (j:Nat):Prop:=(B.getD j (0,0)).2=-1∨(0≤(B.getD j (0,0)).2∧(B.getD j (0,0)).2 < T.length∧(tk T j).th < (tk T (B.getD j (0,0)).2.toNat).p)
theorem Py (hT:T.length≤12):EC Tryz.prog G124 [] [.i c0,.i c1,.i c2,.i c3,.r c4,.i c5,.r c6,.r (ints C),.r (T.map aF),.r c9] fun x rs vs=>x=0∧vs=[]∧∃ B:List (Int × Int),rs=[B.map iQ]∧B.length=T.length∧∀ j,j < T.length→Nx T B j:=by
 refine E124 fun W V=>?_
 rw [List.length_map]
 refine ⟨by omega,by omega,(IU hT).mono ?_⟩
 rintro _ _ _ ⟨rfl,rfl,X,hX,rfl⟩
 refine ⟨rfl,_,rfl,rfl,E151 fun _ _=>⟨rfl,_,rfl,rfl,?_⟩⟩
 have hXl:X.length=T.length:=by rw [hX.length_eq];simp [yF]
 have hin:InT T X:=fun x hx=>by
  have:=hX.subset hx
  simp only [yF,List.mem_map,List.mem_range] at this
  obtain ⟨i,hi,rfl⟩:=this
  omega
 have e:(List.replicate T.length [AV.int .i64 0,AV.int .i64 0])=(List.replicate T.length ((0:Int),(0:Int))).map iQ:=by simp [iQ]
 rw [e]
 refine rng124 W (fun i R=>∃ B:List (Int × Int),R=B.map iQ∧B.length=T.length∧∀ q,i≤q→q < X.length→Nx T B (X.getD q 0).toNat) (by simp;omega) (ints_pure X) (fun r hr=>?_) (ints_pure X) ?_ ⟨_,rfl,by simp,fun q h1 h2=>by simp at h1;omega⟩ ?_ ?_
 ·simp only [ints,List.mem_map] at hr
  obtain ⟨x,_,rfl⟩:=hr
  exact ⟨x,rfl⟩
 ·rintro i _ ⟨B,rfl,_⟩
  exact nD _ (fun _=>rfl) B
 ·intro i x R hi hx ⟨B,hR,hBl,hB⟩ EV V
  subst hR
  simp only [ints_length] at hi
  have hxi:x=X.getD i 0:=by
   rw [aJ hi,aN] at hx
   simp only [Option.some.injEq,List.cons.injEq,AV.int.injEq,and_true,true_and] at hx
   exact hx.symm
  have hxt:=hin.get hi
  rw [← hxi] at hxt
  have loop:∀ (d m:Nat) (b0 b1:Int),m + d=X.length→(b1=-1∨(0≤b1∧b1 < T.length∧(tk T x.toNat).th < (tk T b1.toNat).p))→EV 20 [B.map iQ] [.i x,.r (ints X),.i (X.length:Int),.i (m:Int),.i c0,.i c1,.i c2,.i c3,.r c4,.i c5,.r c6,.r (ints C),.r (T.map aF),.r c9,.r (ints X),.r (ints X),.i b0,.i b1]:=by
   intro d
   induction d with
   | zero =>
    intro m b0 b1 hm hb
    refine V.p20 fun _=>⟨fun h=>by omega,fun _=>⟨hxt.1,aW (by omega),by simp;omega,tX (by omega),_,rfl,rfl,_,pp_set ..,by simp [hBl],fun q h1 h2=>?_⟩⟩
    unfold Nx
    rcases Nat.lt_or_ge (x.toNat) (X.getD q 0).toNat with h3 | h3
    ·have hne:x.toNat≠(X.getD q 0).toNat:=by omega
     have:=hB q (by
      rcases Nat.lt_or_ge i q with h4 | h4
      ·omega
      ·obtain rfl:q=i:=by omega
       exact absurd (by rw [hxi]) hne) h2
     unfold Nx at this
     rw [List.getD_eq_getElem?_getD,List.getElem?_set_ne hne,← List.getD_eq_getElem?_getD]
     exact this
    ·rcases Nat.lt_or_ge (X.getD q 0).toNat x.toNat with h5 | h5
     ·have hne:x.toNat≠(X.getD q 0).toNat:=by omega
      have:=hB q (by
       rcases Nat.lt_or_ge i q with h4 | h4
       ·omega
       ·obtain rfl:q=i:=by omega
        exact absurd (by rw [hxi]) hne) h2
      unfold Nx at this
      rw [List.getD_eq_getElem?_getD,List.getElem?_set_ne hne,← List.getD_eq_getElem?_getD]
      exact this
     ·have heq:(X.getD q 0).toNat=x.toNat:=by omega
      rw [heq,List.getD_eq_getElem?_getD,List.getElem?_set_self (by omega)]
      exact hb
   | succ d ih =>
    intro m b0 b1 hm hb
    have hml:m < X.length:=by omega
    have hmt:=hin.get hml
    have next:∀ b0 b1:Int,(b1=-1∨(0≤b1∧b1 < T.length∧(tk T x.toNat).th < (tk T b1.toNat).p))→EV 20 [B.map iQ] [.i x,.r (ints X),.i (X.length:Int),.i (IntKind.wrap .i64 ((m:Int) + 1)),.i c0,.i c1,.i c2,.i c3,.r c4,.i c5,.r c6,.r (ints C),.r (T.map aF),.r c9,.r (ints X),.r (ints X),.i b0,.i b1]:=by
     intro b0 b1 hb
     rw [wrap64 (by omega) (by omega),show (m:Int) + 1=((m + 1:Nat):Int) by omega]
     exact ih (m + 1) b0 b1 (by omega) hb
    refine V.p20 fun _=>⟨fun _=>⟨by omega,aJ hml,?_⟩,fun h=>by omega⟩
    rw [Int.toNat_natCast,aN]
    refine (Can_E _ _ hmt hxt).mono ?_
    rintro _ _ _ ⟨rfl,rfl,rfl⟩
    refine ⟨rfl,_,rfl,rfl,fun hc=>?_,fun _=>next _ _ hb⟩
    have hc:=of_decide_eq_true hc
    refine ⟨fun _=>⟨hmt.1,by rw [List.length_map];omega,tX (by omega),next _ _ (.inr ⟨hmt.1,hmt.2,hc⟩)⟩,fun _=>⟨hmt.1,by rw [List.length_map];omega,tX (by omega),fun _=>⟨hmt.1,by rw [List.length_map];omega,tX (by omega),next _ _ (.inr ⟨hmt.1,hmt.2,hc⟩)⟩,fun _=>next _ _ hb⟩⟩
  refine V.p12 fun _=>?_
  rw [ints_length]
  exact loop X.length 0 0 (-1) (by omega) (.inl rfl)
 ·rintro R ⟨B,rfl,hBl,hB⟩
  refine ⟨rfl,rfl,B,rfl,hBl,fun j hj=>?_⟩
  have hjm:(j:Int)∈X:=hX.symm.subset (by simp only [yF,List.mem_map,List.mem_range];exact ⟨j,hj,rfl⟩)
  obtain ⟨q,hq,hqe⟩:=List.getElem_of_mem hjm
  have:=hB q (by omega) hq
  rw [getD_get hq,hqe] at this
  exact this
theorem Je {n:Int}:∀ {M:List (Int × Bool)},(∀ q∈M,q.1≠n)→jM .i64 n (.bool false) (M.map qX)=some (.bool false)
 | [],_=>rfl
 | (k,b)::M,h=>by
  have h0:¬ n=k:=fun e=>h (k,b) (by simp) e.symm
  simp only [List.map_cons,qX,jM,if_true]
  simp only [if_neg h0]
  exact Je fun q hq=>h q (by simp [hq])
theorem mBS_no {n:Int} {M:List (Int × Bool)} (h:∀ q∈M,q.1≠n):mBS (M.map qX) .i64 n=false:=by
 have h1:=Jd n M
 rw [Je h] at h1
 injection h1 with h1
 injection h1 with h1
 exact h1.symm
theorem OI (n:Int) (v:Bool):∀ M:List (Int × Bool),∃ M',jh .i64 n (.bool v) (M.map qX)=some (List.map qX M')∧∀ q∈M',q.1=n∨∃ q'∈M,q'.1=q.1
 | []=>⟨[(n,v)],rfl,fun q hq=>.inl (by simp at hq;rw [hq])⟩
 | (k,b)::M=>by
  simp only [List.map_cons,qX,jh,if_true]
  by_cases h:n=k
  ·simp only [if_pos h]
   refine ⟨(n,v)::M,rfl,fun q hq=>?_⟩
   rcases List.mem_cons.1 hq with rfl | hq
   ·exact .inl rfl
   ·exact .inr ⟨q,by simp [hq],rfl⟩
  ·simp only [if_neg h]
   obtain ⟨M',h1,h2⟩:=OI n v M
   rw [h1]
   refine ⟨(k,b)::M',rfl,fun q hq=>?_⟩
   rcases List.mem_cons.1 hq with rfl | hq
   ·exact .inr ⟨_,by simp,rfl⟩
   ·rcases h2 q hq with h3 | ⟨q',h3,h4⟩
    ·exact .inl h3
    ·exact .inr ⟨q',by simp [h3],h4⟩
structure Rt (T:List Tk):Prop where
 t:∀ t∈T,t.p≤t.th∧0≤t.fr∧t.fr≤1048576
 d:T.Pairwise fun a b=>a.p≠b.p
theorem right_E (hT:T.length≤12):EC Tryz.prog G123 [] [.i c0,.i c1,.i c2,.i c3,.r c4,.i c5,.r c6,.r (ints C),.r (T.map aF),.r c9] fun x rs vs=>x=0∧rs=[]∧∃ b,vs=[.b b]∧(Rt T→b=true):=by
 refine E123 fun EV V=>?_
 rw [List.length_map]
 have no:¬ Rt T→(0:Nat)=0∧([]:Rs)=[]∧∃ b,[Lf.b false]=[.b b]∧(Rt T→b=true):=fun h=>⟨rfl,rfl,_,rfl,fun h1=>absurd h1 h⟩
 have loop:∀ (d m:Nat) (M:List (Int × Bool)),m + d=T.length→(Rt T→∀ j,m≤j→j < T.length→∀ q∈M,q.1≠(tk T j).p)→EV 9 [M.map qX] [.r (T.map aF),.i (T.length:Int),.i (m:Int),.i c0,.i c1,.i c2,.i c3,.r c4,.i c5,.r c6,.r (ints C),.r (T.map aF),.r c9]:=by
  intro d
  induction d with
  | zero=>exact fun m M hm _=>V.p9 fun _=>⟨fun h=>by omega,fun _=>⟨rfl,rfl,_,rfl,fun _=>decide_eq_true (by simp;omega)⟩⟩
  | succ d ih =>
   intro m M hm hM
   have hlt:m < T.length:=by omega
   have hmem:tk T m∈T:=by rw [bP hlt];exact List.getElem_mem hlt
   refine V.p9 fun _=>⟨fun _=>⟨by omega,aW hlt,?_⟩,fun h=>by omega⟩
   rw [tk0,tk1,tk4,Int.toNat_natCast]
   refine ⟨fun _=>⟨fun _=>⟨fun _=>⟨Jd _ M,fun hb=>no fun hr=>?_,fun _=>?_⟩,fun h=>no fun hr=>?_⟩,fun h=>no fun hr=>?_⟩,fun h=>no fun hr=>?_⟩
   ·rw [mBS_no (hM hr m (Nat.le_refl _) hlt)] at hb;cases hb
   ·obtain ⟨M',h,hk⟩:=OI (tk T m).p true M
    have e:mSS (M.map qX) .i64 (tk T m).p (.bool true)=List.map qX M':=by unfold mSS;rw [h];rfl
    rw [e,wrap64 (by omega) (by omega),show (m:Int) + 1=((m + 1:Nat):Int) by omega]
    refine ⟨h,ih (m + 1) M' (by omega) fun hr j h1 h2 q hq=>?_⟩
    rcases hk q hq with h3 | ⟨q',h3,h4⟩
    ·rw [h3,bP hlt,bP h2]
     exact List.pairwise_iff_getElem.1 hr.d m j hlt h2 (by omega)
    ·rw [← h4];exact hM hr j (by omega) h2 q' h3
   ·have:=hr.t _ hmem;omega
   ·have:=hr.t _ hmem;omega
   ·have:=hr.t _ hmem;omega
 exact loop T.length 0 [] (by omega) (fun _ j _ _ q hq=>by cases hq)
theorem NL (hT:T.length≤12) (hp:∀ t∈T,t.p≤63∧0≤t.p∧t.p≤t.th):EC Tryz.prog G92 [] [.i c0,.i c1,.i c2,.i c3,.r c4,.i c5,.r c6,.r (ints C),.r (T.map aF),.r c9] fun x rs vs=>x=0∧vs=[]∧∃ O:List Int,rs=[ints O]∧InT T O∧O.length≤65∧(Rt T→T.length=1→O=[0]):=by
 refine E92 fun EV V=>(right_E hT).mono ?_
 rintro _ _ _ ⟨rfl,rfl,b,rfl,hbr⟩
 have nil:¬ (Rt T∧T.length=1)→(0:Nat)=0∧([]:List Lf)=[]∧∃ O:List Int,[[]]=[ints O]∧InT T O∧O.length≤65∧(Rt T→T.length=1→O=[0]):=fun hn=>⟨rfl,rfl,[],rfl,(fun x hx=>by cases hx),by simp,fun h1 h2=>absurd ⟨h1,h2⟩ hn⟩
 refine ⟨rfl,_,rfl,rfl,fun _=>?_,fun hf=>nil fun hr=>by rw [hbr hr.1] at hf;cases hf⟩
 rw [List.length_map]
 refine ⟨fun h0=>nil fun hr=>by have:=hr.2;omega,fun h0=>(Py hT).mono ?_⟩
 rintro _ _ _ ⟨rfl,rfl,B,rfl,hBl,hB⟩
 refine ⟨rfl,_,rfl,rfl,(IU hT).mono ?_⟩
 rintro _ _ _ ⟨rfl,rfl,X,hX,rfl⟩
 have hin:InT T X:=fun x hx=>by
  have:=hX.subset hx
  simp only [yF,List.mem_map,List.mem_range] at this
  obtain ⟨i,hi,rfl⟩:=this
  omega
 have hpt:∀ j,j < T.length→(tk T j).p≤63∧0≤(tk T j).p∧(tk T j).p≤(tk T j).th:=fun j hj=>by
  rw [bP hj];exact hp _ (List.getElem_mem hj)
 have h40:∀ (d:Nat) (O:List Int) (a:Int),O.length + d=65→InT T O→(a=-1∨(0≤a∧a < T.length∧64 - (tk T a.toNat).p≤d))→(T.length=1→(O=[]∧a=0)∨(O=[0]∧a=-1))→EV 40 [B.map iQ,ints O] [.i a]:=by
  intro d
  induction d with
  | zero =>
   intro O a hO hI ha h1t
   refine V.p40 fun _ _=>⟨fun h=>?_,fun hm1=>⟨rfl,rfl,O,rfl,hI,by omega,fun _ h1=>by
    rcases h1t h1 with ⟨_,h2⟩ | ⟨h2,_⟩
    ·omega
    ·exact h2⟩⟩
   rcases ha with ha | ⟨h1,h2,h3⟩
   ·exact absurd ha h
   ·have:=hpt a.toNat (by omega);omega
  | succ d ih =>
   intro O a hO hI ha h1t
   refine V.p40 fun _ _=>⟨fun h=>?_,fun hm1=>⟨rfl,rfl,O,rfl,hI,by omega,fun _ h1=>by
    rcases h1t h1 with ⟨_,h2⟩ | ⟨h2,_⟩
    ·omega
    ·exact h2⟩⟩
   rcases ha with ha | ⟨h1,h2,h3⟩
   ·exact absurd ha h
   ·refine ⟨by simp;omega,by simp;omega,h1,by rw [List.length_map];omega,tX (by omega),?_⟩
    show EV 40 [_,ints O++[[.int .i64 a]]] _
    rw [iK,pp1]
    refine ih _ _ (by simp;omega) (fun x hx=>?_) ?_ fun h1'=>?_
    rotate_left 2
    ·rcases h1t h1' with ⟨h5,h6⟩ | ⟨_,h6⟩
     ·subst h5 h6
      refine .inr ⟨rfl,?_⟩
      rcases hB (Int.toNat 0) (by omega) with h7 | ⟨h7,h8,h9⟩
      ·exact h7
      ·have hz:((B.getD (Int.toNat 0) (0,0)).2).toNat=0:=by omega
       rw [hz] at h9
       have:=hpt 0 (by omega)
       have:(tk T (Int.toNat 0)).th=(tk T 0).th:=rfl
       omega
     ·exact absurd h6 h
    ·rcases List.mem_append.1 hx with hx | hx
     ·exact hI x hx
     ·simp only [List.mem_singleton] at hx
      subst hx;exact ⟨h1,h2⟩
    ·rcases hB a.toNat (by omega) with h4 | ⟨h4,h5,h6⟩
     ·exact .inl h4
     ·refine .inr ⟨h4,h5,?_⟩
      have:=hpt a.toNat (by omega)
      omega
 have loop:∀ (d m:Nat) (a:Int),m + d=X.length→(a=-1∨(0≤a∧a < T.length))→(T.length=1→1≤m→a=0)→EV 19 [B.map iQ] [.i a,.r (ints X),.i (X.length:Int),.i (m:Int)]:=by
  intro d
  induction d with
  | zero =>
   intro m a hm ha h1t
   have hXl:X.length=T.length:=by rw [hX.length_eq];simp [yF]
   refine V.p19 fun _=>⟨fun h=>by omega,fun _=>h40 65 [] a (by simp) (fun x hx=>by cases hx) ?_ fun h1=>.inl ⟨rfl,h1t h1 (by omega)⟩⟩
   rcases ha with ha | ⟨h1,h2⟩
   ·exact .inl ha
   ·have:=hpt a.toNat (by omega)
    exact .inr ⟨h1,h2,by omega⟩
  | succ d ih =>
   intro m a hm ha h1t
   have hml:m < X.length:=by omega
   have hmt:=hin.get hml
   have hXl:X.length=T.length:=by rw [hX.length_eq];simp [yF]
   have next:∀ a:Int,(a=-1∨(0≤a∧a < T.length))→(T.length=1→a=0)→EV 19 [B.map iQ] [.i a,.r (ints X),.i (X.length:Int),.i (IntKind.wrap .i64 ((m:Int) + 1))]:=by
    intro a ha h1
    rw [wrap64 (by omega) (by omega),show (m:Int) + 1=((m + 1:Nat):Int) by omega]
    exact ih (m + 1) a (by omega) ha fun h _=>h1 h
   have hx0:T.length=1→X.getD m 0=0:=fun h=>by omega
   refine V.p19 fun _=>⟨fun _=>⟨by omega,aJ hml,?_⟩,fun h=>by omega⟩
   rw [Int.toNat_natCast,aN]
   refine ⟨fun _=>next _ (.inr hmt) hx0,fun hne=>?_⟩
   rcases ha with ha | ha
   ·exact absurd ha hne
   ·exact ⟨hmt.1,by rw [List.length_map];omega,tX (by omega),ha.1,by rw [List.length_map];omega,tX (by omega),fun _=>next _ (.inr hmt) hx0,fun _=>next _ (.inr ha) fun h=>by omega⟩
 refine ⟨rfl,_,rfl,rfl,?_⟩
 rw [ints_length]
 exact loop X.length 0 (-1) (by omega) (.inl rfl) (fun _ h=>by omega)
theorem SN (hT:T.length≤12) (hp:∀ t∈T,t.p≤63∧0≤t.p∧t.p≤t.th):EC Tryz.prog G56 [] [.i c0,.i c1,.i c2,.i c3,.r c4,.i c5,.r c6,.r (ints C),.r (T.map aF),.r c9] fun x rs vs=>x=0∧rs=[]∧∃ z,vs=[.i z]∧(Rt T→T.length=1→z=(tk T 0).fr):=by
 refine E56 fun EV V=>(NL hT hp).mono ?_
 rintro _ _ _ ⟨rfl,rfl,O,rfl,hI,hO,h1⟩
 have loop:∀ (d m:Nat) (z:Int),m + d=O.length→(Rt T→T.length=1→z=if m=0 then 0 else (tk T 0).fr)→EV 9 [ints O] [.i z,.i (O.length:Int),.i (m:Int),.i c0,.i c1,.i c2,.i c3,.r c4,.i c5,.r c6,.r (ints C),.r (T.map aF),.r c9]:=by
  intro d
  induction d with
  | zero =>
   intro m z hm hz
   refine V.p9 fun _=>⟨fun h=>by omega,fun _=>⟨rfl,rfl,_,rfl,fun hr ht=>?_⟩⟩
   have h2:=h1 hr ht
   rw [h2] at hm
   rw [hz hr ht,if_neg (by simp at hm;omega)]
  | succ d ih =>
   intro m z hm hz
   have hml:m < O.length:=by omega
   have hmt:=hI.get hml
   refine V.p9 fun _=>⟨fun _=>⟨by omega,by rw [ints_length];omega,aJ hml,?_⟩,fun h=>by omega⟩
   rw [Int.toNat_natCast,aN,wrap64 (x:=(m:Int) + 1) (by omega) (by omega),show (m:Int) + 1=((m + 1:Nat):Int) by omega]
   refine ⟨hmt.1,aW (by omega),ih (m + 1) _ (by omega) fun hr ht=>?_⟩
   have h2:=h1 hr ht
   have hm0:m=0:=by rw [h2] at hm;simp at hm;omega
   have hz0:(O.getD m 0).toNat=0:=by omega
   have hfr:=hr.t (tk T 0) (by rw [bP (show 0 < T.length by omega)];exact List.getElem_mem _)
   rw [hz hr ht,if_pos hm0,if_neg (by omega),tk4,hz0,wrap64 (by omega) (by omega)]
   omega
 refine ⟨rfl,_,rfl,rfl,?_⟩
 rw [ints_length]
 exact loop O.length 0 0 (by omega) (fun _ _=>rfl)
end
end Go.Ab
