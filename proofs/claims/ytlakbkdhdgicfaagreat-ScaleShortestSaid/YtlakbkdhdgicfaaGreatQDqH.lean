import Derived.Test.YtlakbkdhdgicfaaGreatQDqF
import Derived.Test.YtlakbkdhdgicfaaGreatQSo
import Derived.Test.YtlakbkdhdgicfaaGreatLayF
namespace Go.Ab
open Go Go.Proofs
set_option linter.unusedVariables false
set_option linter.unusedSimpArgs false
set_option maxRecDepth 100000
set_option maxHeartbeats 1000000
theorem sortC:P9 Tryz.prog 144:=⟨⟨Tryz.f144,Tryz.func144,by kernel_rfl,by kernel_rfl⟩,fun p cap w=>Any.slices_Sort_int_none Tryz.lays189 p cap w,fun blk off cap zs w hH hb hl=>Any.slices_Sort_int Tryz.lays189 blk off cap zs w hH hb hl⟩
theorem P7 (L:List Int) (hl:L.length≤100000):EC Tryz.prog G144 [ints L] [] fun x rs vs=>x=0∧rs=[ints (fJ L)]∧vs=[]:=sort_E sortC L (by omega)
def cpz (Z:List Int) (m:Nat):List Int:=((List.range m).filter fun j=>decide (j=0) || Z.getD j 0 != Z.getD (j - 1) 0).map fun j=>Z.getD j 0
theorem qZ (Z:List Int) (m:Nat):cpz Z (m + 1)=cpz Z m++if m=0∨Z.getD m 0≠Z.getD (m - 1) 0 then [Z.getD m 0] else []:=by
 unfold cpz
 rw [List.range_succ,List.filter_append,List.map_append]
 congr 1
 by_cases h:m=0∨Z.getD m 0≠Z.getD (m - 1) 0
 ·rw [if_pos h,List.filter_cons_of_pos (by simpa using h)];rfl
 ·rw [if_neg h,List.filter_cons_of_neg (by simpa using h)];rfl
theorem JH (Z:List Int):∀ m,(cpz Z m).length≤m
 | 0=>by simp [cpz]
 | m + 1=>by
  rw [qZ,List.length_append]
  have:=JH Z m
  split <;> simp <;> omega
theorem Ai {W Z:List Int} {m:Nat} (hm:m < Z.length):Z.take (m + 1)=Z.take m++[Z.getD m 0]:=by
 rw [List.take_succ_eq_append_getElem hm,getD_get hm]
theorem NM (Z:List Int) (hl:Z.length≤100000):EC Tryz.prog G175 [ints Z] [] fun x rs vs=>x=0∧∃ (W:List Int) (n:Nat),rs=[ints W]∧vs=[.n n]∧n≤W.length∧W.length=Z.length∧W.take n=cpz Z Z.length:=by
 refine E175 fun _ EV V=>?_
 rw [ints_length]
 have whole:∀ m,m≤Z.length→(∀ j,1≤j→j < m→Z.getD j 0≠Z.getD (j - 1) 0)→cpz Z m=Z.take m:=by
  intro m
  induction m with
  | zero=>intro _ _;rfl
  | succ m ih =>
   intro hm hj
   rw [qZ,ih (by omega) (fun j h1 h2=>hj j h1 (by omega)),Ai (W:=Z) (by omega),if_pos]
   rcases Nat.eq_zero_or_pos m with h | h
   ·exact .inl h
   ·exact .inr (hj m h (by omega))
 have all:cpz Z Z.length=Z.take Z.length→(0:Nat)=0∧∃ (W:List Int) (n:Nat),[ints Z]=[ints W]∧[Lf.n Z.length]=[.n n]∧n≤W.length∧W.length=Z.length∧W.take n=cpz Z Z.length:=fun h=>⟨rfl,Z,Z.length,rfl,rfl,Nat.le_refl _,rfl,h.symm⟩
 have h33:∀ (d i2:Nat) (W:List Int) (t o:Nat),i2 + d=Z.length - o→1≤i2→o < Z.length→W.length=Z.length→t + 1≤o + i2→(∀ q,o + i2≤q + 1→W.getD q 0=Z.getD q 0)→W.take t=cpz Z (o + i2)→EV 33 [ints W] [.i (t:Int),.n o,.n (Z.length - o),.i (i2:Int)]:=by
  intro d
  induction d with
  | zero =>
   intro i2 W t o hd h1 ho hW ht hq hc
   refine V.p33 fun _=>⟨fun h=>by omega,fun _=>?_⟩
   rw [ints_length,Int.toNat_natCast]
   have er:aP (ints W) t (List.replicate (W.length - t) [AV.int .i64 0])=ints (W.take t++List.replicate (W.length - t) 0++W.drop (t + (W.length - t))):=by
    simp only [aP,ints,List.map_append,List.map_take,List.map_drop,List.map_replicate,List.length_replicate]
   rw [er]
   have htl:t≤W.length:=by omega
   refine ⟨by omega,by omega,by omega,by simp;omega,rfl,_,_,rfl,rfl,by simp;omega,by simp;omega,?_⟩
   rw [List.append_assoc,List.take_append_of_le_length (by simp;omega),List.take_of_length_le (by simp;omega),hc,show o + i2=Z.length by omega]
  | succ d ih =>
   intro i2 W t o hd h1 ho hW ht hq hc
   have hoi:o + i2 < W.length:=by omega
   have ew:IntKind.wrap .i64 ((i2:Int) - 1)=((i2 - 1:Nat):Int):=by rw [wrap64 (by omega) (by omega)];omega
   have e1:W.getD (o + i2) 0=Z.getD (o + i2) 0:=hq _ (by omega)
   have e2:W.getD (o + (i2 - 1)) 0=Z.getD (o + i2 - 1) 0:=by rw [show o + (i2 - 1)=o + i2 - 1 by omega];exact hq _ (by omega)
   refine V.p33 fun _=>⟨fun _=>?_,fun h=>by omega⟩
   simp only [JP]
   rw [ew,Int.toNat_natCast,Int.toNat_natCast,Int.toNat_natCast,aN,aN]
   refine ⟨by omega,by omega,by rw [← aN];exact aJ hoi,by omega,by omega,by rw [← aN];exact aJ (by omega),fun hne=>⟨by omega,by omega,by rw [← aN];exact aJ hoi,by omega,by rw [ints_length];omega,aJ (by omega),?_⟩,fun heq=>?_⟩
   ·rw [nM,wrap64 (x:=(t:Int) + 1) (by omega) (by omega),wrap64 (x:=(i2:Int) + 1) (by omega) (by omega),show (i2:Int) + 1=((i2 + 1:Nat):Int) by omega,show (t:Int) + 1=((t + 1:Nat):Int) by omega]
    refine ih (i2 + 1) _ (t + 1) o (by omega) (by omega) ho (by simp [hW]) (by omega) (fun q hq2=>?_) ?_
    ·rw [List.getD_eq_getElem?_getD,List.getElem?_set_ne (by omega),← List.getD_eq_getElem?_getD]
     exact hq q (by omega)
    ·rw [show o + (i2 + 1)=o + i2 + 1 by omega,qZ,if_pos (.inr (by rw [← e1,← e2];exact hne)),← hc,Ai (W:=W) (by simp;omega),List.take_set_of_le (by omega),List.getD_eq_getElem?_getD,List.getElem?_set_self (by omega),e1]
     rfl
   ·rw [wrap64 (x:=(i2:Int) + 1) (by omega) (by omega),show (i2:Int) + 1=((i2 + 1:Nat):Int) by omega]
    refine ih (i2 + 1) W t o (by omega) (by omega) ho hW (by omega) (fun q hq2=>hq q (by omega)) ?_
    rw [show o + (i2 + 1)=o + i2 + 1 by omega,qZ,if_neg,List.append_nil,hc]
    rintro (h | h)
    ·omega
    ·exact h (by rw [← e1,← e2];exact heq)
 have h15:∀ (d i:Nat),i + d=Z.length→1≤i→(∀ j,1≤j→j < i→Z.getD j 0≠Z.getD (j - 1) 0)→EV 15 [ints Z] [.i (i:Int)]:=by
  intro d
  induction d with
  | zero =>
   intro i hd h1 hj
   refine V.p15 fun _=>?_
   rw [ints_length]
   exact ⟨fun h=>by omega,fun _=>all (whole _ (Nat.le_refl _) (fun j h2 h3=>hj j h2 (by omega)))⟩
  | succ d ih =>
   intro i hd h1 hj
   have ew:IntKind.wrap .i64 ((i:Int) - 1)=((i - 1:Nat):Int):=by rw [wrap64 (by omega) (by omega)];omega
   refine V.p15 fun _=>?_
   rw [ints_length,ew,Int.toNat_natCast,Int.toNat_natCast,aN,aN]
   refine ⟨fun _=>⟨by omega,by omega,by rw [← aN];exact aJ (by omega),by omega,by omega,by rw [← aN];exact aJ (by omega),fun heq=>⟨by omega,by omega,?_⟩,fun hne=>?_⟩,fun h=>by omega⟩
   ·refine h33 (Z.length - i - 1) 1 Z i i (by omega) (by omega) (by omega) rfl (by omega) (fun q _=>rfl) ?_
    rw [qZ,if_neg,List.append_nil,whole i (by omega) hj]
    rintro (h | h)
    ·omega
    ·exact h heq
   ·rw [wrap64 (by omega) (by omega),show (i:Int) + 1=((i + 1:Nat):Int) by omega]
    refine ih (i + 1) (by omega) (by omega) fun j h2 h3=>?_
    rcases Nat.lt_or_ge j i with h4 | h4
    ·exact hj j h2 h4
    ·obtain rfl:j=i:=by omega
     exact hne
 refine ⟨fun h=>all (whole _ (Nat.le_refl _) (fun j h1 h2=>by omega)),fun h=>h15 (Z.length - 1) 1 (by omega) (by omega) (fun j h1 h2=>by omega)⟩
def zN (P:List Op3):List Int:=(P.filter fun o=>decide (o.k=2)).map Op3.a
theorem NC {P:List Op3} {m:Nat} (hm:m < P.length):zN (P.take (m + 1))=zN (P.take m)++if (op3 P m).k=2 then [(op3 P m).a] else []:=by
 rw [List.take_succ_eq_append_getElem hm,zN,List.filter_append,List.map_append,kG hm]
 congr 1
 by_cases h:P[m].k=2
 ·rw [if_pos h,List.filter_cons_of_pos (by simpa using h)];rfl
 ·rw [if_neg h,List.filter_cons_of_neg (by simpa using h)];rfl
theorem zM (P:List Op3):(zN P).length≤P.length:=by
 unfold zN;rw [List.length_map];exact List.length_filter_le ..
theorem acc_E (P:List Op3) (hP:P.length≤1000):EC Tryz.prog G174 [] [.r (P.map bY)] fun x rs vs=>x=0∧rs=[ints (zN P)]∧vs=[]:=by
 refine E174 fun EV V=>?_
 rw [List.length_map]
 have loop:∀ d m:Nat,m + d=P.length→EV 9 [ints (zN (P.take m))] [.r (P.map bY),.i (P.length:Int),.i (m:Int)]:=by
  intro d
  induction d with
  | zero =>
   intro m hm
   refine V.p9 fun _=>⟨fun h=>by omega,fun _=>⟨rfl,by rw [List.take_of_length_le (by omega)],rfl⟩⟩
  | succ d ih =>
   intro m hm
   have hlt:m < P.length:=by omega
   have hl:=zM (P.take m)
   rw [List.length_take] at hl
   refine V.p9 fun _=>⟨fun _=>⟨by omega,gp hlt,?_⟩,fun h=>by omega⟩
   rw [Int.toNat_natCast,uP,uO,wrap64 (by omega) (by omega),show (m:Int) + 1=((m + 1:Nat):Int) by omega]
   have h2:=ih (m + 1) (by omega)
   rw [NC hlt] at h2
   refine ⟨fun h=>⟨by simp only [ints_length,List.take,List.drop,List.length_cons,List.length_nil];omega,by simp only [ints_length,List.take,List.drop,List.length_cons,List.length_nil];omega,?_⟩,fun h=>?_⟩
   ·rw [if_pos h] at h2
    show EV 9 [ints _++[[.int .i64 (op3 P m).a]]] _
    rw [iK];exact h2
   ·rw [if_neg h,List.append_nil] at h2;exact h2
 exact loop P.length 0 (by omega)
def fB (P:List Op3):List Int:=cpz (fJ (zN P)) (fJ (zN P)).length
theorem kX (L:List Int):(fJ L).length=L.length:=List.length_mergeSort L
theorem BH (P:List Op3):(fB P).length≤P.length:=by
 have h1:=JH (fJ (zN P)) (fJ (zN P)).length
 have h2:=zM P
 rw [kX] at h1
 unfold fB
 rw [kX]
 omega
theorem SQ (P:List Op3) (hP:P.length≤1000):EC Tryz.prog G158 [] [.r (P.map bY)] fun x rs vs=>x=0∧∃ (W:List Int) (n:Nat),rs=[ints W]∧vs=[.n n]∧n≤W.length∧W.take n=fB P:=by
 have hl:=zM P
 refine E158 fun _ _=>(acc_E P hP).mono ?_
 rintro _ _ _ ⟨rfl,rfl,rfl⟩
 refine ⟨rfl,_,rfl,rfl,(P7 _ (by omega)).mono ?_⟩
 rintro _ _ _ ⟨rfl,rfl,rfl⟩
 refine ⟨rfl,_,rfl,rfl,by rw [ints_length,ints_length,kX],(NM _ (by rw [kX];omega)).mono ?_⟩
 rintro _ _ _ ⟨rfl,W,n,rfl,rfl,h1,h2,h3⟩
 exact ⟨rfl,_,_,rfl,rfl,rfl,W,n,rfl,rfl,h1,h3⟩
def H8 (w:Int) (s:Nat) (b:Int):Bool:=decide (0≤b) && decide (Int.tmod b w=s)
def pM (w:Int) (l:List Int) (s:Nat):Int:=((l.filter (H8 w s)).length:Nat)
theorem BD (w:Int) (l:List Int) (b:Int) (s:Nat):pM w (l++[b]) s=pM w l s + if H8 w s b=true then 1 else 0:=by
 unfold pM
 rw [List.filter_append,List.length_append]
 by_cases h:H8 w s b=true
 ·rw [if_pos h,List.filter_cons_of_pos h];simp
 ·rw [if_neg h,List.filter_cons_of_neg h];simp
theorem PL (w:Int) (l:List Int) (s:Nat):0≤pM w l s∧pM w l s≤l.length:=by
 have:=List.length_filter_le (H8 w s) l
 unfold pM;omega
theorem setR {α:Type} (k:Nat) (g:Nat→α) (m:Nat) (v:α):((List.range k).map g).set m v=(List.range k).map fun s=>if s=m then v else g s:=by
 refine List.ext_getElem (by simp) fun i h1 h2=>?_
 simp only [List.getElem_set,List.getElem_map,List.getElem_range]
 by_cases h:m=i
 ·rw [if_pos h,if_pos h.symm]
 ·rw [if_neg h,if_neg fun e=>h e.symm]
theorem getR (k:Nat) (g:Nat→Int) {i:Nat} (hi:i < k):((List.range k).map g).getD i 0=g i:=by
 rw [getD_get (by simpa using hi)];simp
def wP (w:Int) (P:List Op3):List Int:=if 1≤w∧w≤16 then (List.range w.toNat).map (pM w (fB P)) else []
theorem DF (P:List Op3) (hP:P.length≤1000) (w a b c:Int):EC Tryz.prog G129 [] [.r (P.map bY),.i w,.i a,.i b,.i c] fun x rs vs=>x=0∧rs=[ints (wP w P)]∧vs=[]:=by
 refine E129 fun EV V=>?_
 have no:¬ (1≤w∧w≤16)→(0:Nat)=0∧[[]]=[ints (wP w P)]∧([]:List Lf)=[]:=fun h=>⟨rfl,by rw [wP,if_neg h];rfl,rfl⟩
 refine ⟨fun h1=>⟨fun h2=>no (by omega),fun h2=>⟨by omega,by omega,by omega,(SQ P hP).mono ?_⟩⟩,fun h1=>no (by omega)⟩
 rintro _ _ _ ⟨rfl,W,n,rfl,rfl,hn,hW⟩
 have hbl:=BH P
 have hnl:n=(fB P).length:=by rw [← hW,List.length_take];omega
 refine ⟨rfl,_,_,rfl,rfl,?_⟩
 have loop:∀ d m:Nat,m + d=n→EV 17 [ints ((List.range w.toNat).map (pM w ((fB P).take m))),ints W] [.n n,.i (n:Int),.i (m:Int),.i w,.i a,.i b,.i c]:=by
  intro d
  induction d with
  | zero =>
   intro m hm
   refine V.p17 fun _ _=>⟨fun h=>by omega,fun _=>⟨rfl,?_,rfl⟩⟩
   rw [List.take_of_length_le (by omega),wP,if_pos ⟨h1,h2⟩]
  | succ d ih =>
   intro m hm
   have hmW:m < W.length:=by omega
   have hmb:m < (fB P).length:=by omega
   have eb:W.getD m 0=(fB P)[m]:=by
    rw [getD_get hmW]
    have:(W.take n)[m]'(by simp;omega)=W[m]:=by simp
    rw [← this]
    simp only [hW]
   have h3:=ih (m + 1) (by omega)
   rw [List.take_succ_eq_append_getElem hmb] at h3
   refine V.p17 fun _ _=>⟨fun _=>?_,fun h=>by omega⟩
   rw [Int.toNat_natCast,aN,eb,wrap64 (x:=(m:Int) + 1) (by omega) (by omega),show (m:Int) + 1=((m + 1:Nat):Int) by omega]
   refine ⟨by omega,by omega,by rw [← eb,← aN];exact aJ hmW,fun hb=>?_,fun hb=>?_⟩
   ·have t0:0≤Int.tmod (fB P)[m] w:=Int.tmod_nonneg _ hb
    have t1:Int.tmod (fB P)[m] w < w:=Int.tmod_lt_of_pos _ (by omega)
    generalize ht:Int.tmod (fB P)[m] w=t at *
    have tl:t.toNat < ((List.range w.toNat).map (pM w ((fB P).take m))).length:=by simp;omega
    refine ⟨by omega,t0,by simp;omega,aJ tl,?_⟩
    rw [aN,getR _ _ (by omega),nM,setR]
    have hc:=PL w ((fB P).take m) t.toNat
    rw [List.length_take] at hc
    rw [wrap64 (by omega) (by omega)]
    have e:(fun s=>if s=t.toNat then pM w ((fB P).take m) t.toNat + 1 else pM w ((fB P).take m) s)=pM w ((fB P).take m++[(fB P)[m]]):=by
     funext s
     rw [BD]
     by_cases hs:s=t.toNat
     ·subst hs
      rw [if_pos rfl,if_pos]
      simp only [H8,Bool.and_eq_true,decide_eq_true_eq]
      exact ⟨hb,by rw [ht];omega⟩
     ·rw [if_neg hs,if_neg,Int.add_zero]
      simp only [H8,Bool.and_eq_true,decide_eq_true_eq]
      rintro ⟨_,h5⟩
      rw [ht] at h5;omega
    rw [e];exact h3
   ·have e:pM w ((fB P).take m)=pM w ((fB P).take m++[(fB P)[m]]):=by
     funext s
     rw [BD,if_neg,Int.add_zero]
     simp only [H8,Bool.and_eq_true,decide_eq_true_eq]
     omega
    rw [e];exact h3
 have h0:=loop n 0 (by omega)
 have e:(List.replicate w.toNat [AV.int .i64 0])=ints ((List.range w.toNat).map (pM w ((fB P).take 0))):=by
  have e2:(List.range w.toNat).map (pM w ((fB P).take 0))=List.replicate w.toNat 0 :=
   List.ext_getElem (by simp) fun i h1 h2=>by simp [pM]
  rw [e2];simp [ints]
 rw [e];exact h0
def bls (l:List Bool):List (List AV):=l.map fun b=>[.bool b]
theorem vP (l:List Bool):(bls l).length=l.length:=by simp [bls]
theorem wZ (l:List Bool) (i:Nat):cBS (bls l) i 0=l.getD i false:=by
 unfold cBS cellS bls
 rw [List.getElem?_map,List.getD_eq_getElem?_getD]
 cases l[i]? <;> rfl
theorem yh {l:List Bool} {i:Nat} (h:i < l.length):(bls l)[i]?=some [.bool (cBS (bls l) i 0)]:=by
 rw [wZ,bls,List.getElem?_map,List.getElem?_eq_getElem h,List.getD_eq_getElem?_getD,List.getElem?_eq_getElem h]
 rfl
theorem JM (l:List Bool) (i:Nat) (b:Bool):(bls l).set i [.bool b]=bls (l.set i b):=by
 simp only [bls,List.map_set]
theorem getRb (k:Nat) (g:Nat→Bool) {i:Nat} (hi:i < k):((List.range k).map g).getD i false=g i:=by
 rw [List.getD_eq_getElem?_getD,List.getElem?_eq_getElem (by simpa using hi)];simp
def bU (w:Int):Nat:=if 1≤w∧w≤16 then w.toNat else 0
def ldZ (w:Int) (P:List Op3) (s:Nat):Int:=pM w (fB P) s
theorem wO (w:Int) (P:List Op3):wP w P=(List.range (bU w)).map (ldZ w P):=by
 unfold wP bU
 split
 ·rfl
 ·rfl
section
variable {c0 c1 c2 c3 c5:Int} {c4 c6 c9:List (List AV)} {C:List Int} {T:List Tk}
def iU (w:Int) (T:List Tk) (l:List Int) (s:Nat):Bool:=l.any fun i=>decide (0 < ldZ w (tk T i.toNat).pg s)
theorem Af (w:Int) (T:List Tk) (l:List Int) (i:Int) (s:Nat):iU w T (l++[i]) s=(iU w T l s || decide (0 < ldZ w (tk T i.toNat).pg s)):=by
 simp [iU]
theorem is128_E (a:Int) (ha:0≤a∧a < T.length):EC Tryz.prog G128 [] [.i c0,.i c1,.i c2,.i c3,.r c4,.i c5,.r c6,.r (ints C),.r (T.map aF),.r c9,.i a] fun x rs vs=>x=0∧rs=[]∧vs=[.b true] :=
 (H7 a).mono fun x rs vs ⟨h1,h2,h3⟩=>⟨h1,h2,by rw [h3,decide_eq_true ha]⟩
theorem ND (hp:∀ t∈T,t.pg.length≤1000) (l:List Int) (hl:InT T l) (hn:l.length≤1000):EC Tryz.prog G130 [ints l] [.i c0,.i c1,.i c2,.i c3,.r c4,.i c5,.r c6,.r (ints C),.r (T.map aF),.r c9] fun x rs vs=>x=0∧rs=[ints l,bls ((List.range (bU c0)).map (iU c0 T l))]∧vs=[]:=by
 have hk:bU c0≤16:=by unfold bU;split <;> omega
 refine E130 fun _ EV V=>(DF [] (by simp) c0 c1 c2 c3).mono ?_
 rintro _ _ _ ⟨rfl,rfl,rfl⟩
 refine ⟨rfl,_,rfl,rfl,?_⟩
 rw [wO,ints_length,ints_length,List.length_map,List.length_range]
 refine ⟨by omega,by omega,?_⟩
 have loop:∀ d m:Nat,m + d=l.length→EV 9 [ints l,bls ((List.range (bU c0)).map (iU c0 T (l.take m)))] [.i (l.length:Int),.i (m:Int),.i c0,.i c1,.i c2,.i c3,.r c4,.i c5,.r c6,.r (ints C),.r (T.map aF),.r c9]:=by
  intro d
  induction d with
  | zero =>
   intro m hm
   refine V.p9 fun _ _=>⟨fun h=>by omega,fun _=>⟨rfl,by rw [List.take_of_length_le (by omega)],rfl⟩⟩
  | succ d ih =>
   intro m hm
   have hml:m < l.length:=by omega
   have hmt:=hl.get hml
   have h3:=ih (m + 1) (by omega)
   rw [List.take_succ_eq_append_getElem hml] at h3
   have ht:(tk T (l.getD m 0).toNat).pg.length≤1000:=by
    rw [bP (show (l.getD m 0).toNat < T.length by omega)];exact hp _ (List.getElem_mem _)
   refine V.p9 fun _ _=>⟨fun _=>⟨by omega,by rw [ints_length];omega,aJ hml,?_⟩,fun h=>by omega⟩
   rw [Int.toNat_natCast,aN]
   refine (is128_E _ hmt).mono ?_
   rintro _ _ _ ⟨rfl,rfl,rfl⟩
   refine ⟨rfl,_,rfl,rfl,(fun h=>by cases h),fun _=>⟨hmt.1,aW (by omega),?_⟩⟩
   rw [tk6]
   refine (DF _ ht c0 c1 c2 c3).mono ?_
   rintro _ _ _ ⟨rfl,rfl,rfl⟩
   refine ⟨rfl,_,rfl,rfl,?_⟩
   rw [wO,ints_length,List.length_map,List.length_range]
   have inner:∀ e q:Nat,q + e=bU c0→EV 29 [ints l,bls ((List.range (bU c0)).map fun s=>if s < q then iU c0 T (l.take m++[l[m]]) s else iU c0 T (l.take m) s),ints ((List.range (bU c0)).map (ldZ c0 (tk T (l.getD m 0).toNat).pg))] [.i (l.length:Int),.i (m:Int),.i (bU c0:Int),.i (q:Int),.i c0,.i c1,.i c2,.i c3,.r c4,.i c5,.r c6,.r (ints C),.r (T.map aF),.r c9]:=by
    intro e
    induction e with
    | zero =>
     intro q hq
     refine V.p29 fun _ _ _=>⟨fun h=>by omega,fun _=>?_⟩
     rw [wrap64 (by omega) (by omega),show (m:Int) + 1=((m + 1:Nat):Int) by omega]
     have e2:((List.range (bU c0)).map fun s=>if s < q then iU c0 T (l.take m++[l[m]]) s else iU c0 T (l.take m) s)=(List.range (bU c0)).map (iU c0 T (l.take m++[l[m]])) :=
      List.map_congr_left fun s hs=>if_pos (by simp at hs;omega)
     rw [e2];exact h3
    | succ e ihe =>
     intro q hq
     have h4:=ihe (q + 1) (by omega)
     have hb:q < ((List.range (bU c0)).map fun s=>if s < q then iU c0 T (l.take m++[l[m]]) s else iU c0 T (l.take m) s).length:=by simp;omega
     have hq2:q < ((List.range (bU c0)).map (ldZ c0 (tk T (l.getD m 0).toNat).pg)).length:=by simp;omega
     have key:∀ v,v=iU c0 T (l.take m++[l[m]]) q→bls (((List.range (bU c0)).map fun s=>if s < q then iU c0 T (l.take m++[l[m]]) s else iU c0 T (l.take m) s).set q v)=bls ((List.range (bU c0)).map fun s=>if s < q + 1 then iU c0 T (l.take m++[l[m]]) s else iU c0 T (l.take m) s):=by
      intro v hv
      rw [setR]
      congr 1
      refine List.map_congr_left fun s hs=>?_
      by_cases h1:s=q
      ·subst h1;rw [if_pos rfl,if_pos (by omega),hv]
      ·rw [if_neg h1]
       by_cases h2:s < q
       ·rw [if_pos h2,if_pos (by omega)]
       ·rw [if_neg h2,if_neg (by omega)]
     have ev:(((List.range (bU c0)).map fun s=>if s < q then iU c0 T (l.take m++[l[m]]) s else iU c0 T (l.take m) s).getD q false)=iU c0 T (l.take m) q:=by
      rw [getRb _ _ (by omega),if_neg (by omega)]
     have el:((List.range (bU c0)).map (ldZ c0 (tk T (l.getD m 0).toNat).pg)).getD q 0=ldZ c0 (tk T l[m].toNat).pg q:=by
      rw [getR _ _ (by omega),getD_get hml]
     refine V.p29 fun _ _ _=>⟨fun _=>?_,fun h=>by omega⟩
     rw [Int.toNat_natCast,aN,wZ,ev,el,JM,JM,wrap64 (by omega) (by omega),show (q:Int) + 1=((q + 1:Nat):Int) by omega]
     refine ⟨by omega,by rw [ints_length];omega,(aJ hq2).trans (by rw [aN,el]),by rw [vP];omega,by rw [← ev,← wZ];exact yh hb,fun hf=>⟨by omega,by rw [vP];omega,by rw [← ev,← wZ];exact yh hb,?_⟩,fun hf=>⟨by omega,by rw [vP];omega,by rw [← ev,← wZ];exact yh hb,?_⟩⟩
     ·rw [key _ (by rw [Af,hf,Bool.false_or])];exact h4
     ·rw [key _ (by rw [Af,hf,Bool.true_or])];exact h4
   have h5:=inner (bU c0) 0 (by omega)
   have e2:((List.range (bU c0)).map fun s=>if s < 0 then iU c0 T (l.take m++[l[m]]) s else iU c0 T (l.take m) s)=(List.range (bU c0)).map (iU c0 T (l.take m)) :=
    List.map_congr_left fun s hs=>if_neg (by omega)
   rw [e2] at h5
   exact h5
 have h0:=loop l.length 0 (by omega)
 have e:(List.replicate (bU c0) [AV.bool false])=bls ((List.range (bU c0)).map (iU c0 T (l.take 0))):=by
  have e2:(List.range (bU c0)).map (iU c0 T (l.take 0))=List.replicate (bU c0) false :=
   List.ext_getElem (by simp) fun i h1 h2=>by simp [iU]
  rw [e2];simp [bls]
 rw [e];exact h0
def Cj (w ways:Int) (T:List Tk) (l:List Int) (P:List Op3):Nat→Int
 | 0=>0
 | s + 1=>Cj w ways T l P s + if iU w T l s=true then min (ldZ w P s) ways else 0
theorem ldZ_b (w:Int) (P:List Op3) (hP:P.length≤1000) (s:Nat):0≤ldZ w P s∧ldZ w P s≤1000:=by
 have h1:=PL w (fB P) s
 have h2:=BH P
 unfold ldZ;omega
def Ce (w ways:Int) (T:List Tk) (a:Int):Int:=if 0≤a∧a < T.length then Cj w ways T (above T a) (tk T a.toNat).pg (bU w) else 0
theorem Ci {w ways:Int} (hw:0≤ways) {T:List Tk} {l:List Int} {P:List Op3} (hP:P.length≤1000):∀ s,0≤Cj w ways T l P s∧Cj w ways T l P s≤1000 * s
 | 0=>by simp [Cj]
 | s + 1=>by
  have h1:=Ci hw hP (w:=w) (T:=T) (l:=l) s
  have h2:=ldZ_b w P hP s
  unfold Cj
  split <;> omega
theorem Bound_E (hT:T.length≤20) (hp:∀ t∈T,t.pg.length≤1000) (hw:0≤c1) (a:Int):EC Tryz.prog G94 [] [.i c0,.i c1,.i c2,.i c3,.r c4,.i c5,.r c6,.r (ints C),.r (T.map aF),.r c9,.i a] fun x rs vs=>x=0∧rs=[]∧vs=[.i (Ce c0 c1 T a)]:=by
 have hk:bU c0≤16:=by unfold bU;split <;> omega
 refine E94 fun EV V=>(H7 a).mono ?_
 rintro _ _ _ ⟨rfl,rfl,rfl⟩
 refine ⟨rfl,_,rfl,rfl,fun h=>⟨rfl,rfl,by rw [Ce,if_neg (of_decide_eq_false h)]⟩,fun h=>?_⟩
 have ha:=of_decide_eq_true h
 have hat:a.toNat < T.length:=by omega
 have hpa:(tk T a.toNat).pg.length≤1000:=by rw [bP hat];exact hp _ (List.getElem_mem hat)
 have hab:InT T (above T a):=fun x hx=>gY hx
 refine ⟨ha.1,aW hat,?_⟩
 rw [tk6]
 refine (DF _ hpa c0 c1 c2 c3).mono ?_
 rintro _ _ _ ⟨rfl,rfl,rfl⟩
 refine ⟨rfl,_,rfl,rfl,(Md hT a).mono ?_⟩
 rintro _ _ _ ⟨rfl,rfl,rfl⟩
 rw [if_pos ha]
 have hal:(above T a).length≤1000:=by
  have:=jd (fun t=>decide (t.p > (tk T a.toNat).th)) T T.length
  unfold above;omega
 refine ⟨rfl,_,rfl,rfl,(ND hp _ hab hal).mono ?_⟩
 rintro _ _ _ ⟨rfl,rfl,rfl⟩
 refine ⟨rfl,_,_,rfl,rfl,?_⟩
 rw [vP,List.length_map,List.length_range,wO]
 have hz:Ce c0 c1 T a=Cj c0 c1 T (above T a) (tk T a.toNat).pg (bU c0):=by rw [Ce,if_pos ha]
 rw [hz] at V
 have loop:∀ d m:Nat,m + d=bU c0→EV 19 [ints ((List.range (bU c0)).map (ldZ c0 (tk T a.toNat).pg)),bls ((List.range (bU c0)).map (iU c0 T (above T a)))] [.i (Cj c0 c1 T (above T a) (tk T a.toNat).pg m),.i (bU c0:Int),.i (m:Int),.i c0,.i c1,.i c2,.i c3,.r c4,.i c5,.r c6,.r (ints C),.r (T.map aF),.r c9]:=by
  intro d
  induction d with
  | zero =>
   intro m hm
   refine V.p19 fun _ _=>⟨fun h=>by omega,fun _=>⟨rfl,rfl,by rw [show m=bU c0 by omega]⟩⟩
  | succ d ih =>
   intro m hm
   have h3:=ih (m + 1) (by omega)
   have hb:=Ci hw hpa (w:=c0) (T:=T) (l:=above T a) m
   have hl:=ldZ_b c0 (tk T a.toNat).pg hpa m
   rw [Cj] at h3
   refine V.p19 fun _ _=>⟨fun _=>?_,fun h=>by omega⟩
   have hbl:m < ((List.range (bU c0)).map (iU c0 T (above T a))).length:=by simp;omega
   have hil:m < ((List.range (bU c0)).map (ldZ c0 (tk T a.toNat).pg)).length:=by simp;omega
   rw [Int.toNat_natCast]
   refine ⟨by omega,by rw [vP];omega,yh hbl,?_⟩
   rw [wZ,getRb _ _ (by omega),wrap64 (x:=(m:Int) + 1) (by omega) (by omega),show (m:Int) + 1=((m + 1:Nat):Int) by omega]
   refine ⟨fun ht=>⟨by omega,by rw [ints_length];omega,aJ hil,?_⟩,fun ht=>?_⟩
   ·rw [aN,getR _ _ (by omega),mnS,wrap64 (by omega) (by omega)]
    rw [if_pos ht] at h3;exact h3
   ·rw [if_neg (by rw [ht];decide),Int.add_zero] at h3;exact h3
 exact V.p17 fun _ _=>loop (bU c0) 0 (by omega)
end
end Go.Ab
