import Derived.Test.YtlakbkdhdgicfaaGreatQPtA
namespace Go.Ab
open Go Go.Proofs
set_option linter.unusedVariables false
set_option linter.unusedSimpArgs false
set_option maxRecDepth 100000
set_option maxHeartbeats 1000000
def mkK (C:List Int) (H:List Bool):List Lk:=List.zipWith (fun c h=>⟨c,0,h⟩) C H
theorem uT {C:List Int} {H:List Bool} (hl:H.length=C.length):(mkK C H).length=C.length:=by simp [mkK,hl]
theorem Hu {C:List Int} {H:List Bool} (hl:H.length=C.length) {i:Nat} (hi:i < C.length):lk (mkK C H) i=⟨C.getD i 0,0,H.getD i false⟩:=by
 rw [ug (by rw [uT hl];exact hi)]
 simp [mkK,List.getD_eq_getElem?_getD,List.getElem?_eq_getElem hi,List.getElem?_eq_getElem (show i < H.length by omega)]
theorem Jc {C:List Int} {H:List Bool} (hl:H.length=C.length) {i:Nat} (hi:i < C.length) (v:Bool):(mkK C H).set i ⟨C.getD i 0,0,v⟩=mkK C (H.set i v):=by
 apply List.ext_getElem (by simp [mkK])
 intro a h1 h2
 simp only [List.length_set] at h1
 rw [uT hl] at h1
 simp only [mkK,List.getElem_set,List.getElem_zipWith]
 by_cases e:i=a
 ·subst e;simp [List.getD_eq_getElem?_getD,List.getElem?_eq_getElem h1]
 ·simp [e]
def setH (H:List Bool) (a:Int) (v:Bool):List Bool:=if 0≤a∧a < H.length then H.set a.toNat v else H
theorem yB (H:List Bool) (a:Int) (v:Bool):(setH H a v).length=H.length:=by unfold setH;split <;> simp
theorem Au {H:List Bool} {i:Nat} {v:Bool} (hi:i < H.length) (h:H.getD i false=v):H.set i v=H:=by
 apply List.ext_getElem (by simp)
 intro a h1 h2
 rw [List.getElem_set]
 split
 ·rename_i e;subst e
  rw [List.getD_eq_getElem?_getD,List.getElem?_eq_getElem hi] at h
  simpa using h.symm
 ·rfl
def uV:List Int→List Bool→Int→Int
 | c::cs,h::hs,n=>uV cs hs (if h=true then max n c else n)
 | _,_,n=>n
theorem Jh (K:List Lk):∀ (cs:List Int) (hs:List Bool) (i:Nat) (b:Int),hs.length=cs.length→(∀ j,j < cs.length→(lk K (i + j)).c=cs.getD j 0)→Ff K b (dJ 0 (mkK cs hs) i)=uV cs hs b
 | [],[],_,_,_,_=>rfl
 | c::cs,h::hs,i,b,hl,hc=>by
  have h0:=hc 0 (by simp)
  have hr:∀ j,j < cs.length→(lk K (i + 1 + j)).c=cs.getD j 0:=fun j hj=>by
   have:=hc (j + 1) (by simpa using hj)
   rw [show i + (j + 1)=i + 1 + j by omega] at this
   simpa using this
  have ih:=fun b=>Jh K cs hs (i + 1) b (by simpa using hl) hr
  have e:((i:Nat):Int) + 1=((i + 1:Nat):Int):=rfl
  simp only [Nat.add_zero,List.getD_cons_zero] at h0
  show Ff K b (dJ 0 (⟨c,0,h⟩::mkK cs hs) i)=uV cs hs (if h=true then max b c else b)
  cases h
  ·rw [dJ,if_neg (by simp),e,ih];rfl
  ·rw [dJ,if_pos ⟨rfl,rfl⟩,e]
   show Ff K (max b (lk K (i:Int).toNat).c) (dJ 0 (mkK cs hs) ((i + 1:Nat):Int))=_
   rw [ih,Int.toNat_natCast,h0];rfl
 | [],_::_,_,_,hl,_=>by simp at hl
 | _::_,[],_,_,hl,_=>by simp at hl
def CX (C:List Int) (H:List Bool) (base op:Int):Int:=if op > 0 then 64 else uV C H base
def gI (o:Op3) (s:List Bool × Int):List Bool × Int :=
 if o.k=3 then (s.1,s.2 + 1) else if o.k=4 then (s.1,max (s.2 - 1) 0) else if o.k=5 then (setH s.1 o.a true,s.2) else if o.k=6 then (setH s.1 o.a false,s.2) else s
def fC (n0:Nat) (P:List Op3):Nat→List Bool × Int
 | 0=>(List.replicate n0 false,0)
 | m + 1=>gI (op3 P m) (fC n0 P m)
theorem MG (o:Op3) (s:List Bool × Int):(gI o s).1.length=s.1.length:=by
 unfold gI;repeat' split
 all_goals first | rfl | exact yB _ _ _
theorem yx (n0:Nat) (P:List Op3):∀ m,(fC n0 P m).1.length=n0
 | 0=>by simp [fC]
 | m + 1=>by rw [fC,MG];exact yx n0 P m
theorem BR (n0:Nat) (P:List Op3):∀ m:Nat,0≤(fC n0 P m).2∧(fC n0 P m).2≤m
 | 0=>by simp [fC]
 | m + 1=>by
  have:=BR n0 P m
  rw [fC]
  unfold gI
  repeat' split
  all_goals try simp only
  all_goals omega
theorem Aq (n0:Nat) (P:List Op3) (k:Nat):∀ m:Nat,m≤k→fC n0 (P.take k) m=fC n0 P m
 | 0,_=>rfl
 | m + 1,h=>by
  rw [fC,fC,Aq n0 P k m (by omega)]
  congr 1
  unfold op3
  rw [List.getD_eq_getElem?_getD,List.getD_eq_getElem?_getD,List.getElem?_take,if_pos (by omega)]
theorem Gt {C:List Int} (hC:C.length≤20) {H:List Bool} (hl:H.length=C.length) (base op:Int):EC Tryz.prog G162 [(mkK C H).map iy] [.i base,.i op] fun x rs vs=>x=0∧rs=[(mkK C H).map iy]∧vs=[.i (CX C H base op),.i base,.i op]:=by
 refine E162 fun _ EV V=>⟨fun h=>⟨rfl,rfl,by rw [CX,if_pos h]⟩,fun h=>(C_Level (mkK C H) _ rfl (by rw [uT hl];omega) 0 base).mono ?_⟩
 rintro _ _ _ ⟨rfl,rfl,v,rfl,rfl⟩
 refine ⟨rfl,_,_,rfl,rfl,rfl,rfl,?_⟩
 rw [CX,if_neg (by omega)]
 have:=Jh (mkK C H) C H 0 base hl (fun j hj=>by rw [Nat.zero_add,Hu hl hj])
 rw [← this];rfl
theorem WStep_E {C:List Int} (hC:C.length≤20) {H:List Bool} (hl:H.length=C.length) (k a b base op:Int) (ho:0≤op∧op≤1000):EC Tryz.prog G142 [(mkK C H).map iy] [.i k,.i a,.i b,.i base,.i op] fun x rs vs=>x=0∧rs=[(mkK C (gI ⟨k,a,b⟩ (H,op)).1).map iy] ∧
  vs=[.i (CX C H base op),.i (CX C (gI ⟨k,a,b⟩ (H,op)).1 base (gI ⟨k,a,b⟩ (H,op)).2),.i base,.i (gI ⟨k,a,b⟩ (H,op)).2]:=by
 refine E142 fun _ EV V=>(Gt hC hl base op).mono ?_
 rintro _ _ _ ⟨rfl,rfl,rfl⟩
 have p25:∀ s:List Bool × Int,s=gI ⟨k,a,b⟩ (H,op)→s.1.length=C.length→EV 25 [(mkK C s.1).map iy] [.i base,.i s.2,.i 0,.i 0,.i (CX C H base op),.i 0]:=by
  intro s hs hsl
  refine V.p25 fun _=>(Gt hC hsl base s.2).mono ?_
  rintro _ _ _ ⟨rfl,rfl,rfl⟩
  exact ⟨rfl,_,_,_,_,rfl,rfl,rfl,by rw [hs],by rw [hs]⟩
 refine ⟨rfl,_,_,_,_,rfl,rfl,fun h3=>?_,fun h3=>⟨fun h4=>?_,fun h4=>⟨fun h5=>?_,fun h5=>⟨fun h6=>?_,fun h6=>?_⟩⟩⟩⟩
 ·rw [wrap64 (by omega) (by omega)]
  exact p25 (H,op + 1) (by simp [gI,h3]) hl
 ·rw [mxS,wrap64 (by omega) (by omega)]
  exact p25 (H,max (op - 1) 0) (by simp [gI,h4]) hl
 ·refine (C_Lock (mkK C H) _ rfl a 0).mono ?_
  rintro _ _ _ ⟨rfl,R,e,_,rfl,rfl,he⟩
  refine ⟨rfl,_,_,rfl,rfl,?_⟩
  have hR:R=(mkK C (setH H a true)).map iy:=by
   rw [uT hl] at he
   unfold setH
   split at he
   ·rw [if_neg (by omega)];exact he.2
   ·rename_i hr
    have hi:a.toNat < C.length:=by omega
    rw [Hu hl hi] at he
    simp only at he
    rw [if_pos (by omega)]
    split at he
    ·rename_i hb;rw [Au (by omega) hb];exact he.2
    ·rw [he.2,Jc hl hi]
  rw [hR]
  exact p25 (setH H a true,op) (by simp [gI,h5]) (by simp [yB,hl])
 ·refine (SL (mkK C H) _ rfl a 0).mono ?_
  rintro _ _ _ ⟨rfl,R,e,_,rfl,rfl,he⟩
  refine ⟨rfl,_,_,rfl,rfl,?_⟩
  have hR:R=(mkK C (setH H a false)).map iy:=by
   rw [uT hl] at he
   unfold setH
   split at he
   ·rw [if_neg (by omega)];exact he.2
   ·rename_i hr
    have hi:a.toNat < C.length:=by omega
    rw [Hu hl hi] at he
    simp only at he
    rw [if_pos (by omega)]
    split at he
    ·rename_i hb
     rw [Au (by omega) (by simpa using hb)];exact he.2
    ·rw [he.2,Jc hl hi]
  rw [hR]
  exact p25 (setH H a false,op) (by simp [gI,h6]) (by simp [yB,hl])
 ·exact p25 (H,op) (by simp [gI,h3,h4,h5,h6]) hl
def di (C:List Int) (base:Int) (P:List Op3) (m:Nat):Int:=CX C (fC C.length P m).1 base (fC C.length P m).2
def pairs (C:List Int) (base:Int) (P:List Op3) (n:Nat):List (Int × Int):=(List.range n).map fun m=>(di C base P m,di C base P (m + 1))
def iQ (p:Int × Int):List AV:=[.int .i64 p.1,.int .i64 p.2]
section
variable {c0 c1 c2 c3 c5:Int} {c4 c6 c9:List (List AV)} {C:List Int} {T:List Tk}
theorem is_E (a:Int):EC Tryz.prog G140 [] [.i c0,.i c1,.i c2,.i c3,.r c4,.i c5,.r c6,.r (ints C),.r (T.map aF),.r c9,.i a] fun x rs vs=>x=0∧rs=[]∧vs=[.b (decide (0≤a∧a < T.length))] :=
 E140 fun EV V=>⟨fun h=>⟨rfl,rfl,by simp [h]⟩,fun h=>⟨rfl,rfl,by simp;omega⟩⟩
theorem Qh (hC:C.length≤20) (hP:∀ t∈T,t.pg.length≤100) (a:Int):EC Tryz.prog G108 [] [.i c0,.i c1,.i c2,.i c3,.r c4,.i c5,.r c6,.r (ints C),.r (T.map aF),.r c9,.i a] fun x rs vs=>x=0∧vs=[]∧rs=[if 0≤a∧a < T.length then (pairs C (tk T a.toNat).th (tk T a.toNat).pg (tk T a.toNat).pg.length).map iQ else []]:=by
 refine E108 fun EV V=>(is_E a).mono ?_
 rintro _ _ _ ⟨rfl,rfl,rfl⟩
 refine ⟨rfl,_,rfl,rfl,fun h=>⟨rfl,rfl,?_⟩,fun h=>?_⟩
 ·rw [if_neg (by simpa using h)]
 ·have ha:0≤a∧a < T.length:=by simpa using h
  have hat:a.toNat < T.length:=by omega
  have hpl:(tk T a.toNat).pg.length≤100:=hP _ (by rw [bP hat];exact List.getElem_mem hat)
  refine ⟨ha.1,aW hat,(C_New C _ rfl (by omega)).mono ?_⟩
  rintro _ _ _ ⟨rfl,rfl,R,hR,rfl⟩
  have hR0:R=(mkK C (fC C.length (tk T a.toNat).pg 0).1).map iy:=by
   rw [hR]
   congr 1
   apply List.ext_getElem (by simp [mkK,fC])
   intro i h1 h2
   simp [mkK,fC]
  refine ⟨rfl,_,rfl,rfl,?_⟩
  rw [tk1]
  refine V.p12 fun _=>⟨ha.1,aW hat,?_⟩
  rw [tk6,List.length_map]
  generalize (tk T a.toNat).pg=P at *
  generalize (tk T a.toNat).th=base at *
  have loop:∀ (d m:Nat),P.length - m < d→m≤P.length→EV 19 [(pairs C base P m).map iQ,(mkK C (fC C.length P m).1).map iy] [.r (P.map bY),.i P.length,.i m,.i base,.i (fC C.length P m).2]:=by
   intro d
   induction d with
   | zero=>intro m hd;omega
   | succ d ih =>
    intro m hd hm
    have hb:=BR C.length P m
    refine V.p19 fun _ _=>⟨fun hlt=>?_,fun hge=>?_⟩
    ·have hmP:m < P.length:=by omega
     refine ⟨by omega,gp hmP,(WStep_E hC (yx _ _ m) _ _ _ base _ (by omega)).mono ?_⟩
     rintro _ _ _ ⟨rfl,rfl,rfl⟩
     refine ⟨rfl,_,_,_,_,_,rfl,rfl,by simp [pairs];omega,by simp [pairs];omega,?_⟩
     have:=ih (m + 1) (by omega) (by omega)
     rw [uP,uO,xO,Int.toNat_natCast,wrap64 (by omega) (by omega)]
     have e:pairs C base P (m + 1)=pairs C base P m++[(di C base P m,di C base P (m + 1))]:=by simp [pairs,List.range_succ]
     rw [e,List.map_append] at this
     exact this
    ·obtain rfl:m=P.length:=by omega
     exact ⟨rfl,rfl,by rw [if_pos ha]⟩
  rw [hR0]
  exact loop _ 0 (Nat.lt_succ_self _) (by omega)
def jO (level:Int):List (Int × Int)→Int→Int→Int
 | [],_,b=>b
 | (x,c)::l,n,b=>if x < level then jO level l 0 b else jO level l (n + c) (max b (n + c))
def tK (level:Int):List (Int × Int)→Int→Int→Int
 | [],_,b=>b
 | (x,c)::l,n,b=>if x < level then b else tK level l (n + c) (max b (n + c))
def wI (level:Int):List (Int × Int)→Int→Int
 | [],b=>b
 | x::l,b=>wI level l (tK level (x::l) 0 b)
theorem Cc (level:Int):∀ (l:List (Int × Int)) (n b:Int),b≤tK level l n b
 | [],_,b=>Int.le_refl b
 | (x,c)::l,n,b=>by
  simp only [tK]
  split
  ·exact Int.le_refl b
  ·have:=Cc level l (n + c) (max b (n + c));omega
theorem yE (level:Int):∀ (l:List (Int × Int)) (m m' b b':Int),m≤m'→tK level l m' b≤b'→tK level l m b'=b'
 | [],_,_,_,_,_,_=>rfl
 | (x,c)::l,m,m',b,b',h,hb=>by
  simp only [tK] at hb ⊢
  split
  ·rfl
  ·rename_i hx
   rw [if_neg hx] at hb
   have h1:=Cc level l (m' + c) (max b (m' + c))
   rw [show max b' (m + c)=b' by omega]
   exact yE level l (m + c) (m' + c) _ b' (by omega) hb
theorem ED (level:Int) (l:List (Int × Int)) (b:Int):wI level l (tK level l 0 b)=wI level l b:=by
 cases l with
 | nil=>rfl
 | cons y r =>
  simp only [wI]
  rw [yE level (y::r) 0 0 b _ (Int.le_refl _) (Int.le_refl _)]
theorem yY (level:Int):∀ (l:List (Int × Int)) (n b:Int),0≤n→(∀ p∈l,0≤p.2)→jO level l n b=wI level l (tK level l n b)
 | [],n,b,_,_=>rfl
 | (x,c)::l,n,b,hn,hl=>by
  have hc:0≤c:=hl (x,c) (List.mem_cons_self ..)
  have hl':∀ p∈l,0≤p.2:=fun p hp=>hl p (List.mem_cons_of_mem _ hp)
  simp only [jO,wI,tK]
  split
  ·rw [yY level l 0 b (Int.le_refl _) hl',ED]
  ·rw [yY level l (n + c) (max b (n + c)) (by omega) hl']
   congr 1
   have hge:=Cc level l (n + c) (max b (n + c))
   rw [Int.zero_add,show max (tK level l (n + c) (max b (n + c))) c=tK level l (n + c) (max b (n + c)) by omega]
   exact (yE level l c (n + c) (max b (n + c)) _ (by omega) (Int.le_refl _)).symm
def dat (C:List Int) (hit miss base:Int) (P:List Op3):List (Int × Int):=(List.range P.length).map fun m=>(max (di C base P m) (di C base P (m + 1)),dK hit miss false (op3 P m))
theorem vK {C:List Int} {hit miss base:Int} {P:List Op3} {m:Nat} (hm:m < P.length):(dat C hit miss base P).drop m=(max (di C base P m) (di C base P (m + 1)),dK hit miss false (op3 P m))::(dat C hit miss base P).drop (m + 1):=by
 rw [List.drop_eq_getElem_cons (by simpa [dat] using hm)]
 simp [dat]
theorem yg (C:List Int) (hit miss base:Int) (P:List Op3):(dat C hit miss base P).length=P.length:=by simp [dat]
def dY (C:List Int) (hit miss base:Int) (P:List Op3) (level:Int):Int:=jO level (dat C hit miss base P) 0 0
theorem MV {C:List Int} {base:Int} {P:List Op3} {n m:Nat} (h:m < n):((pairs C base P n).map iQ)[m]?=some [.int .i64 (cIS ((pairs C base P n).map iQ) m 0),.int .i64 (cIS ((pairs C base P n).map iQ) m 1)]∧cIS ((pairs C base P n).map iQ) m 0=di C base P m∧cIS ((pairs C base P n).map iQ) m 1=di C base P (m + 1):=by
 have hg:((pairs C base P n).map iQ)[m]?=some [.int .i64 (di C base P m),.int .i64 (di C base P (m + 1))]:=by
  simp [pairs,h,iQ]
 have e0:cIS ((pairs C base P n).map iQ) m 0=di C base P m:=by unfold cIS cellS;rw [hg];rfl
 have e1:cIS ((pairs C base P n).map iQ) m 1=di C base P (m + 1):=by unfold cIS cellS;rw [hg];rfl
 exact ⟨by rw [e0,e1];exact hg,e0,e1⟩
theorem BM (hC:C.length≤20) (hP:∀ t∈T,t.pg.length≤100) (a level:Int) (ha:0≤a∧a < T.length):EC Tryz.prog G75 [] [.i c0,.i c1,.i c2,.i c3,.r c4,.i c5,.r c6,.r (ints C),.r (T.map aF),.r c9,.i a,.i level] fun x rs vs=>x=0∧rs=[]∧vs=[.i (dY C c2 c3 (tk T a.toNat).th (tk T a.toNat).pg level)]:=by
 refine E75 fun EV V=>(Qh hC hP a).mono ?_
 rintro _ _ _ ⟨rfl,rfl,rfl⟩
 rw [if_pos ha]
 have hat:a.toNat < T.length:=by omega
 have hpl:(tk T a.toNat).pg.length≤100:=hP _ (by rw [bP hat];exact List.getElem_mem hat)
 refine ⟨rfl,_,rfl,rfl,?_⟩
 have hpll:∀ P,((pairs C (tk T a.toNat).th P P.length).map iQ).length=P.length:=fun P=>by simp [pairs]
 rw [hpll]
 have loop:∀ (d m:Nat) (n b:Int),(tk T a.toNat).pg.length - m < d→m≤(tk T a.toNat).pg.length→0≤n→n≤m * 1073741824→jO level ((dat C c2 c3 (tk T a.toNat).th (tk T a.toNat).pg).drop m) n b=dY C c2 c3 (tk T a.toNat).th (tk T a.toNat).pg level →
   EV 9 [(pairs C (tk T a.toNat).th (tk T a.toNat).pg (tk T a.toNat).pg.length).map iQ] [.i a,.i level,.i b,.i n,.i (tk T a.toNat).pg.length,.i m,.i c0,.i c1,.i c2,.i c3,.r c4,.i c5,.r c6,.r (ints C),.r (T.map aF),.r c9]:=by
  intro d
  induction d with
  | zero=>intro m n b hd;omega
  | succ d ih =>
   intro m n b hd hm h0 h1 hinv
   refine V.p9 fun _=>⟨fun hlt=>?_,fun hge=>?_⟩
   ·have hmP:m < (tk T a.toNat).pg.length:=by omega
    obtain ⟨g1,g2,g3⟩:=MV (C:=C) (base:=(tk T a.toNat).th) (P:=(tk T a.toNat).pg) hmP
    have ev1:IntKind.wrap .i64 ((m:Int) + 1)=((m + 1:Nat):Int):=by rw [wrap64 (by omega) (by omega)];rfl
    have hcb:=kV c2 c3 false (op3 (tk T a.toNat).pg m)
    rw [vK hmP,jO] at hinv
    rw [Int.toNat_natCast,g2,g3,mxS,ev1]
    refine ⟨by omega,by rw [hpll];omega,by rw [← g2,← g3];exact g1,fun hx=>?_,fun hx=>⟨ha.1,aW hat,by omega,?_,?_⟩⟩
    ·rw [if_pos hx] at hinv
     exact ih (m + 1) 0 b (by omega) (by omega) (Int.le_refl _) (by omega) hinv
    ·rw [tk6];exact gp hmP
    ·rw [tk6,uP,uO,xO]
     refine (SG _ _ _ c0 c1 c2 c3 false).mono ?_
     rintro _ _ _ ⟨rfl,rfl,rfl⟩
     rw [if_neg (by omega)] at hinv
     refine ⟨rfl,_,rfl,rfl,?_⟩
     have e:dK c2 c3 false ⟨(op3 (tk T a.toNat).pg m).k,(op3 (tk T a.toNat).pg m).a,(op3 (tk T a.toNat).pg m).b⟩=dK c2 c3 false (op3 (tk T a.toNat).pg m):=rfl
     rw [e,wrap64 (x:=n + dK c2 c3 false (op3 (tk T a.toNat).pg m)) (by omega) (by omega),mxS]
     exact ih (m + 1) _ _ (by omega) (by omega) (by omega) (by omega) hinv
   ·obtain rfl:m=(tk T a.toNat).pg.length:=by omega
    rw [List.drop_eq_nil_of_le (by rw [yg];exact Nat.le_refl _),jO] at hinv
    exact ⟨rfl,rfl,by rw [hinv]⟩
 exact loop _ 0 0 0 (Nat.lt_succ_self _) (by omega) (by omega) (by omega) rfl
def xR (h:Bool):List AV:=[.int .i64 (if h=true then 1 else 0)]
theorem Dp (H:List Bool) (i:Nat) (hi:i < H.length):cIS (H.map xR) i 0=if H.getD i false=true then 1 else 0:=by
 unfold cIS cellS
 rw [List.getElem?_map,List.getElem?_eq_getElem hi,List.getD_eq_getElem?_getD,List.getElem?_eq_getElem hi];rfl
theorem zy {H:List Bool} {i:Nat} (h:i < H.length):(H.map xR)[i]?=some [.int .i64 (cIS (H.map xR) i 0)]:=by
 rw [Dp H i h,List.getElem?_map,List.getElem?_eq_getElem h,List.getD_eq_getElem?_getD,List.getElem?_eq_getElem h];rfl
theorem Gu (hC:C.length≤20) (P:List Op3) (hP:P.length≤1000) (t0 th t2 t3 t4 t5:Int) (t6:List (List AV)):EC Tryz.prog G76 [] [.i c0,.i c1,.i c2,.i c3,.r c4,.i c5,.r c6,.r (ints C),.r (T.map aF),.r c9,.i t0,.i th,.i t2,.i t3,.i t4,.i t5,.r t6,.r (P.map bY)] fun x rs vs=>x=0∧rs=[]∧vs=[.i (di C th P P.length)]:=by
 refine E76 fun EV V=>?_
 rw [ints_length]
 refine ⟨by omega,by omega,?_⟩
 have p59:∀ (H:List Bool) (op:Int),H.length=C.length→∀ (d m:Nat) (n:Int),C.length - m < d→m≤C.length→EV 59 [H.map xR] [.i op,.i n,.i C.length,.i m,.i c0,.i c1,.i c2,.i c3,.r c4,.i c5,.r c6,.r (ints C),.r (T.map aF),.r c9]∨True:=fun _ _ _ _ _ _ _ _=>.inr trivial
 have tail:∀ (H:List Bool) (op v:Int),H.length=C.length→(∀ n,uV C H th=n→(if op > 0 then 64 else n)=v)→v=di C th P P.length→∀ (d m:Nat) (n:Int),C.length - m < d→m≤C.length→uV (C.drop m) (H.drop m) n=uV C H th→EV 59 [H.map xR] [.i op,.i n,.i C.length,.i m,.i c0,.i c1,.i c2,.i c3,.r c4,.i c5,.r c6,.r (ints C),.r (T.map aF),.r c9]:=by
  intro H op v hH hv hva d
  induction d with
  | zero=>intro m n hd;omega
  | succ d ih =>
   intro m n hd hm hinv
   refine V.p59 fun _=>⟨fun hlt=>?_,fun hge=>?_⟩
   ·have hmC:m < C.length:=by omega
    have ev1:IntKind.wrap .i64 ((m:Int) + 1)=((m + 1:Nat):Int):=by rw [wrap64 (by omega) (by omega)];rfl
    rw [List.drop_eq_getElem_cons hmC,List.drop_eq_getElem_cons (by omega:m < H.length),uV] at hinv
    have hg:H.getD m false=H[m]:=by rw [List.getD_eq_getElem?_getD,List.getElem?_eq_getElem (by omega:m < H.length)];rfl
    have hgc:C.getD m 0=C[m]:=by rw [List.getD_eq_getElem?_getD,List.getElem?_eq_getElem hmC];rfl
    rw [Int.toNat_natCast,Dp H m (by omega),ev1,aN,hg,hgc]
    refine ⟨by omega,by simp;omega,by rw [← hg,← Dp H m (by omega)];exact zy (by omega),fun hx=>⟨by omega,by rw [← hgc,← aN];exact aJ hmC,fun hy=>⟨by omega,by rw [← hgc,← aN];exact aJ hmC,?_⟩,fun hy=>?_⟩,fun hx=>?_⟩
    ·have hb:H[m]=true:=by cases hb:H[m] <;> simp_all
     rw [if_pos hb,show max n C[m]=C[m] by omega] at hinv
     exact ih (m + 1) _ (by omega) (by omega) hinv
    ·have hb:H[m]=true:=by cases hb:H[m] <;> simp_all
     rw [if_pos hb,show max n C[m]=n by omega] at hinv
     exact ih (m + 1) _ (by omega) (by omega) hinv
    ·have hb:¬ H[m]=true:=by cases hb:H[m] <;> simp_all
     rw [if_neg hb] at hinv
     exact ih (m + 1) _ (by omega) (by omega) hinv
   ·obtain rfl:m=C.length:=by omega
    rw [List.drop_length,List.drop_eq_nil_of_le (by omega)] at hinv
    have hv:=hv n hinv.symm
    refine ⟨fun h=>⟨rfl,rfl,?_⟩,fun h=>⟨rfl,rfl,?_⟩⟩
    ·rw [if_pos h] at hv;rw [hv,hva]
    ·rw [if_neg (by omega)] at hv;rw [hv,hva]
 have loop:∀ (d m:Nat),P.length - m < d→m≤P.length→EV 13 [(fC C.length P m).1.map xR] [.i (fC C.length P m).2,.i th,.r (P.map bY),.i P.length,.i m,.i c0,.i c1,.i c2,.i c3,.r c4,.i c5,.r c6,.r (ints C),.r (T.map aF),.r c9]:=by
  intro d
  induction d with
  | zero=>intro m hd;omega
  | succ d ih =>
   intro m hd hm
   have hb:=BR C.length P m
   have hsl:=yx C.length P m
   refine V.p13 fun _=>⟨fun hlt=>?_,fun hge=>?_⟩
   ·have hmP:m < P.length:=by omega
    have ev1:IntKind.wrap .i64 ((m:Int) + 1)=((m + 1:Nat):Int):=by rw [wrap64 (by omega) (by omega)];rfl
    have next:=ih (m + 1) (by omega) (by omega)
    rw [fC] at next
    rw [Int.toNat_natCast,uP,uO,xO,ev1]
    refine ⟨by omega,by first | exact gp hmP | (rw [← uP,← uO,← xO];exact gp hmP),fun h3=>?_,fun h3=>⟨fun h4=>?_,fun h4=>?_⟩⟩
    ·rw [wrap64 (by omega) (by omega)]
     simpa [gI,h3] using next
    ·rw [wrap64 (by omega) (by omega),mxS]
     simpa [gI,h4] using next
    ·have p40:∀ q:Bool,(q=true↔(op3 P m).k=5∨(op3 P m).k=6)→EV 40 [(fC C.length P m).1.map xR] [.i (fC C.length P m).2,.i th,.r (P.map bY),.i P.length,.i m,.b q,.i c0,.i c1,.i c2,.i c3,.r c4,.i c5,.r c6,.r (ints C),.r (T.map aF),.r c9,.i (op3 P m).k,.i (op3 P m).a,.i (op3 P m).b]:=by
      intro q hq
      refine V.p40 fun _=>?_
      rw [ev1,List.length_map,hsl]
      have enc1:∀ (i:Nat) (v:Bool) (z:Int),(if v=true then 1 else 0)=z→List.set ((fC C.length P m).1.map xR) i [.int .i64 z]=((fC C.length P m).1.set i v).map xR:=fun i v z hz=>by rw [List.map_set,xR,hz]
      refine ⟨fun hqt=>?_,fun hqf=>?_⟩
      ·have hk:=hq.1 hqt
       refine ⟨fun h0=>⟨fun h1=>?_,fun h1=>⟨fun h5=>⟨h0,h1,zy (by omega),?_⟩,fun h5=>⟨h0,h1,zy (by omega),?_⟩⟩⟩,fun h0=>?_⟩
       ·rcases hk with hk | hk <;> simpa [gI,hk,setH,hsl,show ¬ (op3 P m).a < C.length by omega] using next
       ·rw [enc1 _ true 1 rfl]
        simpa [gI,h5,setH,hsl,h0,h1] using next
       ·rw [enc1 _ false 0 rfl]
        have hk6:(op3 P m).k=6:=by omega
        simpa [gI,hk6,setH,hsl,h0,h1] using next
       ·rcases hk with hk | hk <;> simpa [gI,hk,setH,hsl,show ¬ 0≤(op3 P m).a by omega] using next
      ·have hk:¬ ((op3 P m).k=5∨(op3 P m).k=6):=fun h=>by have:=hq.2 h;rw [hqf] at this;cases this
       simpa [gI,h3,h4,show ¬ (op3 P m).k=5 by omega,show ¬ (op3 P m).k=6 by omega] using next
     exact ⟨fun h5=>p40 true (by simp [h5]),fun h5=>p40 _ (by simp [h5])⟩
   ·obtain rfl:m=P.length:=by omega
    rw [List.length_map,hsl]
    refine tail _ _ (di C th P P.length) hsl (fun n hn=>?_) rfl _ 0 th (Nat.lt_succ_self _) (by omega) rfl
    rw [di,CX,hn]
 have:=loop _ 0 (Nat.lt_succ_self _) (by omega)
 have e:(fC C.length P 0).1.map xR=List.replicate C.length [.int .i64 0]:=by simp [fC,xR]
 rw [e] at this
 rw [List.length_map]
 exact this
theorem y5 (C:List Int) (base:Int) (P:List Op3) (k:Nat) (hk:k≤P.length):di C base (P.take k) (P.take k).length=di C base P k:=by
 unfold di
 rw [List.length_take,show min k P.length=k by omega,Aq _ _ _ _ (Nat.le_refl _)]
theorem zQ (hC:C.length≤20) (hP:∀ t∈T,t.pg.length≤100) (a level:Int) (ha:0≤a∧a < T.length):EC Tryz.prog G34 [] [.i c0,.i c1,.i c2,.i c3,.r c4,.i c5,.r c6,.r (ints C),.r (T.map aF),.r c9,.i a,.i level] fun x rs vs=>x=0∧rs=[]∧vs=[.i (dY C c2 c3 (tk T a.toNat).th (tk T a.toNat).pg level)]:=by
 have hat:a.toNat < T.length:=by omega
 have hpl:(tk T a.toNat).pg.length≤100:=hP _ (by rw [bP hat];exact List.getElem_mem hat)
 have heq:dY C c2 c3 (tk T a.toNat).th (tk T a.toNat).pg level=wI level (dat C c2 c3 (tk T a.toNat).th (tk T a.toNat).pg) 0:=by
  unfold dY
  rw [yY level _ 0 0 (Int.le_refl _) (fun p hp=>by
   simp only [dat,List.mem_map] at hp
   obtain ⟨m,_,rfl⟩:=hp
   exact (kV _ _ _ _).1),ED]
 refine E34 fun EV V=>⟨ha.1,aW hat,?_⟩
 rw [tk0,tk1,tk2,tk3,tk4,tk5,tk6,List.length_map]
 generalize hP0:(tk T a.toNat).pg=P at *
 generalize (tk T a.toNat).th=base at *
 generalize (tk T a.toNat).p=q0 at *
 generalize (tk T a.toNat).pe=q2 at *
 generalize (tk T a.toNat).de=q3 at *
 generalize (tk T a.toNat).fr=q4 at *
 generalize (tk T a.toNat).fl=q5 at *
 have loop:∀ (d i:Nat) (b:Int),P.length - i < d→i≤P.length→wI level ((dat C c2 c3 base P).drop i) b=wI level (dat C c2 c3 base P) 0→EV 11 [] [.i level,.i b,.i P.length,.i i,.i c0,.i c1,.i c2,.i c3,.r c4,.i c5,.r c6,.r (ints C),.r (T.map aF),.r c9,.i q0,.i base,.i q2,.i q3,.i q4,.i q5,.r (P.map bY)]:=by
  intro d
  induction d with
  | zero=>intro i b hd;omega
  | succ d ih =>
   intro i b hd hi hinv
   refine V.p11 ⟨fun hlt=>?_,fun hge=>?_⟩
   ·have hiP:i < P.length:=by omega
    have evi:IntKind.wrap .i64 ((i:Int) + 1)=((i + 1:Nat):Int):=by rw [wrap64 (by omega) (by omega)];rfl
    have inner:∀ (d k:Nat) (n b:Int),P.length - k < d→k≤P.length→0≤n→n≤k * 1073741824→wI level ((dat C c2 c3 base P).drop (i + 1)) (tK level ((dat C c2 c3 base P).drop k) n b)=wI level (dat C c2 c3 base P) 0 →
      EV 27 [] [.i level,.i b,.i n,.i k,.i P.length,.i i,.i c0,.i c1,.i c2,.i c3,.r c4,.i c5,.r c6,.r (ints C),.r (T.map aF),.r c9,.i q0,.i base,.i q2,.i q3,.i q4,.i q5,.r (P.map bY)]:=by
     intro d
     induction d with
     | zero=>intro k n b hd;omega
     | succ d ihi =>
      intro k n b hd hk h0 h1 hinv
      refine V.p27 ⟨fun hlt=>?_,fun hge=>?_⟩
      ·rw [List.length_map] at hlt
       have hkP:k < P.length:=by omega
       have evk:IntKind.wrap .i64 ((k:Int) + 1)=((k + 1:Nat):Int):=by rw [wrap64 (by omega) (by omega)];rfl
       have hcb:=kV c2 c3 false (op3 P k)
       rw [vK hkP,tK] at hinv
       have p38:∀ q:Bool,(q=true↔max (di C base P k) (di C base P (k + 1)) < level)→EV 38 [] [.i level,.i b,.i n,.i k,.i P.length,.i i,.b q,.i c0,.i c1,.i c2,.i c3,.r c4,.i c5,.r c6,.r (ints C),.r (T.map aF),.r c9,.i q0,.i base,.i q2,.i q3,.i q4,.i q5,.r (P.map bY)]:=by
        intro q hq
        refine V.p38 ⟨fun hqt=>?_,fun hqf=>⟨by omega,gp hkP,?_⟩⟩
        ·rw [if_pos (hq.1 hqt)] at hinv
         rw [evi]
         exact ih (i + 1) b (by omega) (by omega) hinv
        ·rw [Int.toNat_natCast,uP,uO,xO]
         refine (JV _ _ _ c0 c1 c2 c3 false).mono ?_
         rintro _ _ _ ⟨rfl,rfl,rfl⟩
         rw [if_neg (fun h=>by have:=hq.2 h;rw [hqf] at this;cases this)] at hinv
         refine ⟨rfl,_,rfl,rfl,?_⟩
         have e:dK c2 c3 false ⟨(op3 P k).k,(op3 P k).a,(op3 P k).b⟩=dK c2 c3 false (op3 P k):=rfl
         rw [e,wrap64 (x:=n + dK c2 c3 false (op3 P k)) (by omega) (by omega),mxS,evk]
         exact ihi (k + 1) _ _ (by omega) (by omega) (by omega) (by omega) hinv
       have htk:∀ k:Nat,List.take k (P.map bY)=(P.take k).map bY:=fun k=>by rw [List.map_take]
       rw [Int.toNat_natCast,htk,evk,Int.toNat_natCast,htk,List.length_map]
       refine ⟨by omega,by omega,(Gu hC (P.take k) (by simp;omega) q0 base q2 q3 q4 q5 _).mono ?_⟩
       rintro _ _ _ ⟨rfl,rfl,rfl⟩
       rw [y5 C base P k (by omega)]
       refine ⟨rfl,_,rfl,rfl,fun hlv=>⟨by omega,by omega,(Gu hC (P.take (k + 1)) (by simp;omega) q0 base q2 q3 q4 q5 _).mono ?_⟩,fun hlv=>p38 false (by simp;omega)⟩
       rintro _ _ _ ⟨rfl,rfl,rfl⟩
       rw [y5 C base P (k + 1) (by omega)]
       refine ⟨rfl,_,rfl,rfl,p38 _ ?_⟩
       simp only [decide_eq_true_eq]
       omega
      ·rw [List.length_map] at hge
       have hnil:(dat C c2 c3 base P).drop k=[]:=List.drop_eq_nil_of_le (by rw [yg];omega)
       rw [hnil,tK] at hinv
       rw [evi]
       exact ih (i + 1) b (by omega) (by omega) hinv
    refine inner _ i 0 b (Nat.lt_succ_self _) (by omega) (Int.le_refl _) (by omega) ?_
    rw [vK hiP,wI,← vK hiP] at hinv
    exact hinv
   ·obtain rfl:i=P.length:=by omega
    rw [List.drop_eq_nil_of_le (by rw [yg];exact Nat.le_refl _),wI] at hinv
    exact ⟨rfl,rfl,by rw [hinv,← heq]⟩
 exact loop _ 0 0 (Nat.lt_succ_self _) (by omega) rfl
end
end Go.Ab
