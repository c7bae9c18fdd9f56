import Derived.Test.YtlakbkdhdgicfaaGreatQPtB
namespace Go.Ab
open Go Go.Proofs
set_option linter.unusedVariables false
set_option linter.unusedSimpArgs false
set_option maxRecDepth 100000
set_option maxHeartbeats 1000000
def nN (f:Tk→Bool) (T:List Tk) (n:Nat):List Int:=((List.range n).filter fun m=>f (tk T m)).map fun (m:Nat)=>(m:Int)
theorem iL (f:Tk→Bool) (T:List Tk) (n:Nat):nN f T (n + 1)=nN f T n++if f (tk T n)=true then [(n:Int)] else []:=by
 simp only [nN,List.range_succ,List.filter_append,List.map_append]
 congr 1
 cases h:f (tk T n) <;> simp [h]
theorem jd (f:Tk→Bool) (T:List Tk) (n:Nat):(nN f T n).length≤n:=by
 have:=List.length_filter_le (fun m=>f (tk T m)) (List.range n)
 simp [nN] at *;omega
theorem gY {f:Tk→Bool} {T:List Tk} {n:Nat} {i:Int} (h:i∈nN f T n):0≤i∧i < n:=by
 simp only [nN,List.mem_map,List.mem_filter,List.mem_range] at h
 obtain ⟨m,⟨h1,_⟩,rfl⟩:=h
 omega
section
variable {c0 c1 c2 c3 c5:Int} {c4 c6 c9:List (List AV)} {C:List Int} {T:List Tk}
theorem C9 (a:Int):EC Tryz.prog G145 [] [.i c0,.i c1,.i c2,.i c3,.r c4,.i c5,.r c6,.r (ints C),.r (T.map aF),.r c9,.i a] fun x rs vs=>x=0∧rs=[]∧vs=[.b (decide (0≤a∧a < T.length))] :=
 E145 fun EV V=>⟨fun h=>⟨rfl,rfl,by simp [h]⟩,fun h=>⟨rfl,rfl,by simp;omega⟩⟩
theorem H7 (a:Int):EC Tryz.prog G128 [] [.i c0,.i c1,.i c2,.i c3,.r c4,.i c5,.r c6,.r (ints C),.r (T.map aF),.r c9,.i a] fun x rs vs=>x=0∧rs=[]∧vs=[.b (decide (0≤a∧a < T.length))] :=
 E128 fun EV V=>⟨fun h=>⟨rfl,rfl,by simp [h]⟩,fun h=>⟨rfl,rfl,by simp;omega⟩⟩
def above (T:List Tk) (a:Int):List Int:=nN (fun t=>decide (t.p > (tk T a.toNat).th)) T T.length
def fO (T:List Tk) (a:Int):List Int:=nN (fun t=>decide (t.p < (tk T a.toNat).p)) T T.length
def bT (T:List Tk) (a:Int):List Int:=nN (fun t=>decide (t.p≥(tk T a.toNat).p)) T T.length
theorem Md (hT:T.length≤20) (a:Int):EC Tryz.prog G131 [] [.i c0,.i c1,.i c2,.i c3,.r c4,.i c5,.r c6,.r (ints C),.r (T.map aF),.r c9,.i a] fun x rs vs=>x=0∧vs=[]∧rs=[ints (if 0≤a∧a < T.length then above T a else [])]:=by
 refine E131 fun EV V=>(H7 a).mono ?_
 rintro _ _ _ ⟨rfl,rfl,rfl⟩
 refine ⟨rfl,_,rfl,rfl,fun h=>⟨rfl,rfl,by rw [if_neg (by simpa using h)];rfl⟩,fun h=>?_⟩
 have ha:0≤a∧a < T.length:=by simpa using h
 have hat:a.toNat < T.length:=by omega
 have loop:∀ (d m:Nat),T.length - m < d→m≤T.length→EV 17 [ints (nN (fun t=>decide (t.p > (tk T a.toNat).th)) T m)] [.i a,.r (T.map aF),.i T.length,.i m,.i c0,.i c1,.i c2,.i c3,.r c4,.i c5,.r c6,.r (ints C),.r (T.map aF),.r c9]:=by
  intro d
  induction d with
  | zero=>intro m hd;omega
  | succ d ih =>
   intro m hd hm
   have hl:=jd (fun t=>decide (t.p > (tk T a.toNat).th)) T m
   refine V.p17 fun _=>⟨fun hlt=>?_,fun hge=>?_⟩
   ·have hmT:m < T.length:=by omega
    have ev1:IntKind.wrap .i64 ((m:Int) + 1)=((m + 1:Nat):Int):=by rw [wrap64 (by omega) (by omega)];rfl
    have next:=ih (m + 1) (by omega) (by omega)
    rw [iL] at next
    refine ⟨by omega,aW hmT,ha.1,aW hat,fun hx=>⟨by simp only [ints_length,List.take,List.drop,List.length_cons,List.length_nil];omega,by simp only [ints_length,List.take,List.drop,List.length_cons,List.length_nil];omega,?_⟩,fun hx=>?_⟩
    ·rw [Int.toNat_natCast,tk0,tk1] at hx
     rw [if_pos (by simpa using hx),← iK] at next
     rw [ev1];exact next
    ·rw [Int.toNat_natCast,tk0,tk1] at hx
     rw [if_neg (by simp;omega),List.append_nil] at next
     rw [ev1];exact next
   ·obtain rfl:m=T.length:=by omega
    exact ⟨rfl,rfl,by rw [if_pos ha];rfl⟩
 rw [List.length_map]
 exact loop _ 0 (Nat.lt_succ_self _) (by omega)
theorem Lower_E (hT:T.length≤20) (a:Int):EC Tryz.prog G126 [] [.i c0,.i c1,.i c2,.i c3,.r c4,.i c5,.r c6,.r (ints C),.r (T.map aF),.r c9,.i a] fun x rs vs=>x=0∧vs=[]∧rs=[ints (if 0≤a∧a < T.length then fO T a else [])]:=by
 refine E126 fun EV V=>EC.mono (Q:=fun x rs vs=>x=0∧vs=[]∧rs=[ints (if 0≤a∧a < T.length then fO T a else [])]) ?_ (by
  rintro _ _ _ ⟨rfl,rfl,rfl⟩
  exact ⟨rfl,_,rfl,rfl,rfl,rfl,rfl⟩)
 refine E113 fun EV V=>(C9 a).mono ?_
 rintro _ _ _ ⟨rfl,rfl,rfl⟩
 refine ⟨rfl,_,rfl,rfl,fun h=>⟨rfl,rfl,by rw [if_neg (by simpa using h)];rfl⟩,fun h=>?_⟩
 have ha:0≤a∧a < T.length:=by simpa using h
 have hat:a.toNat < T.length:=by omega
 have loop:∀ (d m:Nat),T.length - m < d→m≤T.length→EV 17 [ints (nN (fun t=>decide (t.p < (tk T a.toNat).p)) T m)] [.i a,.r (T.map aF),.i T.length,.i m,.i c0,.i c1,.i c2,.i c3,.r c4,.i c5,.r c6,.r (ints C),.r (T.map aF),.r c9]:=by
  intro d
  induction d with
  | zero=>intro m hd;omega
  | succ d ih =>
   intro m hd hm
   have hl:=jd (fun t=>decide (t.p < (tk T a.toNat).p)) T m
   refine V.p17 fun _=>⟨fun hlt=>?_,fun hge=>?_⟩
   ·have hmT:m < T.length:=by omega
    have ev1:IntKind.wrap .i64 ((m:Int) + 1)=((m + 1:Nat):Int):=by rw [wrap64 (by omega) (by omega)];rfl
    have next:=ih (m + 1) (by omega) (by omega)
    rw [iL] at next
    refine ⟨by omega,aW hmT,ha.1,aW hat,E156 fun _ _=>⟨rfl,_,rfl,rfl,fun hx=>⟨by simp only [ints_length,List.take,List.drop,List.length_cons,List.length_nil];omega,by simp only [ints_length,List.take,List.drop,List.length_cons,List.length_nil];omega,?_⟩,fun hx=>?_⟩⟩
    ·rw [Int.toNat_natCast,tk0,tk0] at hx
     rw [if_pos hx,← iK] at next
     rw [ev1];exact next
    ·rw [Int.toNat_natCast,tk0,tk0] at hx
     rw [if_neg (by rw [hx];simp),List.append_nil] at next
     rw [ev1];exact next
   ·obtain rfl:m=T.length:=by omega
    exact ⟨rfl,rfl,by rw [if_pos ha];rfl⟩
 rw [List.length_map]
 exact loop _ 0 (Nat.lt_succ_self _) (by omega)
theorem Qi (hT:T.length≤20) (a:Int):EC Tryz.prog G88 [] [.i c0,.i c1,.i c2,.i c3,.r c4,.i c5,.r c6,.r (ints C),.r (T.map aF),.r c9,.i a] fun x rs vs=>x=0∧vs=[]∧rs=[ints (if 0≤a∧a < T.length then bT T a else [])]:=by
 refine E88 fun EV V=>EC.mono (Q:=fun x rs vs=>x=0∧vs=[]∧rs=[ints (if 0≤a∧a < T.length then bT T a else [])]) ?_ (by
  rintro _ _ _ ⟨rfl,rfl,rfl⟩
  exact ⟨rfl,_,rfl,rfl,rfl,rfl,rfl⟩)
 refine E113a fun EV V=>(C9 a).mono ?_
 rintro _ _ _ ⟨rfl,rfl,rfl⟩
 refine ⟨rfl,_,rfl,rfl,fun h=>⟨rfl,rfl,by rw [if_neg (by simpa using h)];rfl⟩,fun h=>?_⟩
 have ha:0≤a∧a < T.length:=by simpa using h
 have hat:a.toNat < T.length:=by omega
 have loop:∀ (d m:Nat),T.length - m < d→m≤T.length→EV 17 [ints (nN (fun t=>decide (t.p≥(tk T a.toNat).p)) T m)] [.i a,.r (T.map aF),.i T.length,.i m,.i c0,.i c1,.i c2,.i c3,.r c4,.i c5,.r c6,.r (ints C),.r (T.map aF),.r c9]:=by
  intro d
  induction d with
  | zero=>intro m hd;omega
  | succ d ih =>
   intro m hd hm
   have hl:=jd (fun t=>decide (t.p≥(tk T a.toNat).p)) T m
   refine V.p17 fun _=>⟨fun hlt=>?_,fun hge=>?_⟩
   ·have hmT:m < T.length:=by omega
    have ev1:IntKind.wrap .i64 ((m:Int) + 1)=((m + 1:Nat):Int):=by rw [wrap64 (by omega) (by omega)];rfl
    have next:=ih (m + 1) (by omega) (by omega)
    rw [iL] at next
    refine ⟨by omega,aW hmT,ha.1,aW hat,E114 fun _ _=>⟨rfl,_,rfl,rfl,fun hx=>⟨by simp only [ints_length,List.take,List.drop,List.length_cons,List.length_nil];omega,by simp only [ints_length,List.take,List.drop,List.length_cons,List.length_nil];omega,?_⟩,fun hx=>?_⟩⟩
    ·rw [Int.toNat_natCast,tk0,tk0] at hx
     rw [if_pos hx,← iK] at next
     rw [ev1];exact next
    ·rw [Int.toNat_natCast,tk0,tk0] at hx
     rw [if_neg (by rw [hx];simp),List.append_nil] at next
     rw [ev1];exact next
   ·obtain rfl:m=T.length:=by omega
    exact ⟨rfl,rfl,by rw [if_pos ha];rfl⟩
 rw [List.length_map]
 exact loop _ 0 (Nat.lt_succ_self _) (by omega)
structure Fits (C:List Int) (T:List Tk):Prop where
 c:C.length≤20
 t:T.length≤20
 pg:∀ t∈T,t.pg.length≤80
 fl:∀ t∈T,t.fl≤1099511627776
 pe:∀ t∈T,t.pe≤9223372036854775807
theorem Fits.pg2 (h:Fits C T):∀ t∈T,t.pg.length≤100:=fun t ht=>by have:=h.pg t ht;omega
theorem Fits.at (h:Fits C T) {i:Nat} (hi:i < T.length):(tk T i).pg.length≤80∧(tk T i).fl≤1099511627776∧(tk T i).pe≤9223372036854775807:=by
 rw [bP hi]
 exact ⟨h.pg _ (List.getElem_mem hi),h.fl _ (List.getElem_mem hi),h.pe _ (List.getElem_mem hi)⟩
def FV (T:List Tk) (w:Int) (l:List Int):Int:=l.foldl (fun n i=>gG n (bW w (max (tk T i.toNat).pe 0))) 0
theorem BC (T:List Tk) (w:Int) (l:List Int) {m:Nat} (h:m < l.length):FV T w (l.take (m + 1))=gG (FV T w (l.take m)) (bW w (max (tk T l[m].toNat).pe 0)):=by
 rw [List.take_add_one,List.getElem?_eq_getElem h]
 simp only [FV,Option.toList,List.foldl_append,List.foldl_cons,List.foldl_nil]
theorem Ih (hF:Fits C T) {w:Int} (hw:U w) (l:List Int) (hl:∀ i∈l,0≤i∧i < T.length):∀ m:Nat,m≤l.length→U (FV T w (l.take m))
 | 0,_=>by unfold U;simp [FV]
 | m + 1,h=>by
  have hm:=hl _ (List.getElem_mem (show m < l.length by omega))
  rw [BC T w l (by omega)]
  exact rG (Ih hF hw l hl m (by omega)) (dL hw (OQ (hF.at (by omega)).2.2))
theorem Count_E (hF:Fits C T) (a w:Int) (hw:U w):EC Tryz.prog G96 [] [.i c0,.i c1,.i c2,.i c3,.r c4,.i c5,.r c6,.r (ints C),.r (T.map aF),.r c9,.i a,.i w] fun x rs vs=>x=0∧rs=[]∧vs=[.i (FV T w (if 0≤a∧a < T.length then above T a else []))]:=by
 refine E96 fun EV V=>(Md hF.t a).mono ?_
 rintro _ _ _ ⟨rfl,rfl,rfl⟩
 refine ⟨rfl,_,rfl,rfl,?_⟩
 generalize hl:(if 0≤a∧a < T.length then above T a else [])=l
 have hmem:∀ i∈l,0≤i∧i < T.length:=fun i hi=>by
  rw [← hl] at hi
  split at hi
  ·exact gY hi
  ·cases hi
 have hll:l.length≤20:=by
  rw [← hl]
  split
  ·have:=jd (fun t=>decide (t.p > (tk T a.toNat).th)) T T.length
   have:=hF.t
   unfold above;omega
  ·simp
 have loop:∀ (d m:Nat),l.length - m < d→m≤l.length→EV 9 [ints l] [.i w,.i (FV T w (l.take m)),.i l.length,.i m,.i c0,.i c1,.i c2,.i c3,.r c4,.i c5,.r c6,.r (ints C),.r (T.map aF),.r c9]:=by
  intro d
  induction d with
  | zero=>intro m hd;omega
  | succ d ih =>
   intro m hd hm
   refine V.p9 fun _=>⟨fun hlt=>?_,fun hge=>?_⟩
   ·have hml:m < l.length:=by omega
    have hmm:=hmem _ (List.getElem_mem hml)
    have ev1:IntKind.wrap .i64 ((m:Int) + 1)=((m + 1:Nat):Int):=by rw [wrap64 (by omega) (by omega)];rfl
    have hg:l.getD m 0=l[m]:=by rw [List.getD_eq_getElem?_getD,List.getElem?_eq_getElem hml];rfl
    have hf:=hF.at (i:=l[m].toNat) (by omega)
    rw [Int.toNat_natCast,aN,hg,ev1]
    refine ⟨by omega,by simp;omega,by rw [← hg,← aN];exact aJ hml,hmm.1,aW (by omega),?_⟩
    rw [tk2]
    refine (Gw hf.2.2).mono ?_
    rintro _ _ _ ⟨rfl,rfl,rfl⟩
    refine ⟨rfl,_,rfl,rfl,(SK hw (OQ hf.2.2)).mono ?_⟩
    rintro _ _ _ ⟨rfl,rfl,rfl⟩
    refine ⟨rfl,_,rfl,rfl,(zW (Ih hF hw l hmem m hm) (dL hw (OQ hf.2.2))).mono ?_⟩
    rintro _ _ _ ⟨rfl,rfl,rfl⟩
    refine ⟨rfl,_,rfl,rfl,?_⟩
    rw [← BC T w l hml]
    exact ih (m + 1) (by omega) (by omega)
   ·obtain rfl:m=l.length:=by omega
    exact ⟨rfl,rfl,by rw [List.take_length,hl]⟩
 rw [ints_length]
 exact loop _ 0 (Nat.lt_succ_self _) (by omega)
theorem CW (level:Int):∀ (l:List (Int × Int)) (n b:Int),0≤n→(∀ p∈l,0≤p.2∧p.2≤1073741824)→b≤jO level l n b∧jO level l n b≤max b (n + l.length * 1073741824)
 | [],n,b,hn,_=>by simp only [jO,List.length_nil];omega
 | (x,c)::l,n,b,hn,h=>by
  have hc:=h (x,c) (List.mem_cons_self ..)
  simp only at hc
  have h':∀ p∈l,0≤p.2∧p.2≤1073741824:=fun p hp=>h p (List.mem_cons_of_mem _ hp)
  simp only [jO,List.length_cons]
  split
  ·have:=CW level l 0 b (Int.le_refl _) h'
   omega
  ·have:=CW level l (n + c) (max b (n + c)) (by omega) h'
   omega
theorem xZ (C:List Int) (hit miss base:Int) (P:List Op3) (level:Int):0≤dY C hit miss base P level∧dY C hit miss base P level≤P.length * 1073741824:=by
 have:=CW level (dat C hit miss base P) 0 0 (Int.le_refl _) (fun p hp=>by
  simp only [dat,List.mem_map] at hp
  obtain ⟨m,_,rfl⟩:=hp
  exact kV _ _ _ _)
 rw [yg] at this
 unfold dY
 omega
def sU (C:List Int) (T:List Tk) (hit miss lo a:Int):Int :=
 if (tk T lo.toNat).th≥(tk T a.toNat).p then ig hit miss false (tk T lo.toNat).pg else
  min (ig hit miss false (tk T lo.toNat).pg) (if (tk T lo.toNat).fl > 0 then (tk T lo.toNat).fl + 2 * dY C hit miss (tk T lo.toNat).th (tk T lo.toNat).pg (tk T a.toNat).p else dY C hit miss (tk T lo.toNat).th (tk T lo.toNat).pg (tk T a.toNat).p)
theorem II (hF:Fits C T) (lo a:Int):EC Tryz.prog G127 [] [.i c0,.i c1,.i c2,.i c3,.r c4,.i c5,.r c6,.r (ints C),.r (T.map aF),.r c9,.i lo,.i a] fun x rs vs=>x=0∧rs=[]∧vs=[.i (if (0≤lo∧lo < T.length)∧(0≤a∧a < T.length) then sU C T c2 c3 lo a else 0)]:=by
 refine E127 fun EV V=>(C9 lo).mono ?_
 rintro _ _ _ ⟨rfl,rfl,rfl⟩
 refine ⟨rfl,_,rfl,rfl,fun h1=>(C9 a).mono ?_,fun h1=>⟨rfl,rfl,by rw [if_neg fun h=>by have:=of_decide_eq_false h1;exact this h.1]⟩⟩
 rintro _ _ _ ⟨rfl,rfl,rfl⟩
 have hlo:0≤lo∧lo < T.length:=of_decide_eq_true h1
 refine ⟨rfl,_,rfl,rfl,fun h2=>⟨rfl,rfl,by rw [if_neg fun h=>by have:=of_decide_eq_false h2;exact this h.2]⟩,fun h2=>?_⟩
 have ha:0≤a∧a < T.length:=of_decide_eq_true h2
 have hf:=hF.at (i:=lo.toNat) (by omega)
 have hs:=lG c2 c3 false (tk T lo.toNat).pg
 have hlz:=xZ C c2 c3 (tk T lo.toNat).th (tk T lo.toNat).pg (tk T a.toNat).p
 refine ⟨hlo.1,aW (by omega),ha.1,aW (by omega),?_⟩
 simp only [tk0,tk1,tk2,tk3,tk4,tk5,tk6]
 refine V.p12 ((JR _ (by omega) c0 c1 c2 c3).mono ?_)
 rintro _ _ _ ⟨rfl,rfl,rfl⟩
 refine ⟨rfl,_,rfl,rfl,(Gw (by omega)).mono ?_⟩
 rintro _ _ _ ⟨rfl,rfl,rfl⟩
 rw [show max (ig c2 c3 false (tk T lo.toNat).pg) 0=ig c2 c3 false (tk T lo.toNat).pg by omega]
 refine ⟨rfl,_,rfl,rfl,fun hx=>⟨rfl,rfl,by rw [if_pos ⟨hlo,ha⟩,sU,if_pos hx]⟩,fun hx=>(BM hF.c hF.pg2 lo _ hlo).mono ?_⟩
 rintro _ _ _ ⟨rfl,rfl,rfl⟩
 refine ⟨rfl,_,rfl,rfl,(Gw (by omega)).mono ?_⟩
 rintro _ _ _ ⟨rfl,rfl,rfl⟩
 rw [show max (dY C c2 c3 (tk T lo.toNat).th (tk T lo.toNat).pg (tk T a.toNat).p) 0=dY C c2 c3 (tk T lo.toNat).th (tk T lo.toNat).pg (tk T a.toNat).p by omega]
 refine ⟨rfl,_,rfl,rfl,fun hy=>(Gw (by omega)).mono ?_,fun hy=>⟨rfl,rfl,by rw [if_pos ⟨hlo,ha⟩,sU,if_neg (by omega),if_neg (by omega),mnS]⟩⟩
 rintro _ _ _ ⟨rfl,rfl,rfl⟩
 rw [show max (tk T lo.toNat).fl 0=(tk T lo.toNat).fl by omega]
 refine ⟨rfl,_,rfl,rfl,(SumL_E ⟨by omega,hf.2.1⟩ ⟨hlz.1,by omega⟩ ⟨hlz.1,by omega⟩).mono ?_⟩
 rintro _ _ _ ⟨rfl,rfl,rfl⟩
 refine ⟨rfl,_,rfl,rfl,rfl,rfl,?_⟩
 rw [if_pos ⟨hlo,ha⟩,sU,if_neg (by omega),if_pos hy,mnS]
 congr 3;omega
theorem Gv (hF:Fits C T) (lo a:Int) (hlo:0≤lo∧lo < T.length) (ha:0≤a∧a < T.length):EC Tryz.prog G102 [] [.i c0,.i c1,.i c2,.i c3,.r c4,.i c5,.r c6,.r (ints C),.r (T.map aF),.r c9,.i lo,.i a] fun x rs vs=>x=0∧rs=[]∧vs=[.i (sU C T c2 c3 lo a)]:=by
 have hf:=hF.at (i:=lo.toNat) (by omega)
 have hs:=lG c2 c3 false (tk T lo.toNat).pg
 have hlz:=xZ C c2 c3 (tk T lo.toNat).th (tk T lo.toNat).pg (tk T a.toNat).p
 refine E102 fun EV V=>⟨hlo.1,aW (by omega),?_⟩
 simp only [tk0,tk1,tk2,tk3,tk4,tk5,tk6]
 refine (Qa _ (by omega) c0 c1 c2 c3 false).mono ?_
 rintro _ _ _ ⟨rfl,rfl,rfl⟩
 refine ⟨rfl,_,rfl,rfl,(Qb (by omega)).mono ?_⟩
 rintro _ _ _ ⟨rfl,rfl,rfl⟩
 rw [show max (ig c2 c3 false (tk T lo.toNat).pg) 0=ig c2 c3 false (tk T lo.toNat).pg by omega]
 have hga:=aW (T:=T) (i:=a.toNat) (by omega)
 refine ⟨rfl,_,rfl,rfl,ha.1,hga,fun hx=>⟨trivial,trivial,by rw [sU,if_pos hx]⟩,fun hx=>⟨ha.1,hga,(zQ hF.c hF.pg2 lo _ hlo).mono ?_⟩⟩
 rintro _ _ _ ⟨rfl,rfl,rfl⟩
 refine ⟨rfl,_,rfl,rfl,(Qb (by omega)).mono ?_⟩
 rintro _ _ _ ⟨rfl,rfl,rfl⟩
 rw [show max (dY C c2 c3 (tk T lo.toNat).th (tk T lo.toNat).pg (tk T a.toNat).p) 0=dY C c2 c3 (tk T lo.toNat).th (tk T lo.toNat).pg (tk T a.toNat).p by omega]
 refine ⟨rfl,_,rfl,rfl,V.p16 ⟨fun hy=>(Qb (by omega)).mono ?_,fun hy=>⟨rfl,rfl,by rw [sU,if_neg (by omega),if_neg (by omega),mnS]⟩⟩⟩
 rintro _ _ _ ⟨rfl,rfl,rfl⟩
 rw [show max (tk T lo.toNat).fl 0=(tk T lo.toNat).fl by omega]
 refine ⟨rfl,_,rfl,rfl,rfl,rfl,?_⟩
 rw [sU,if_neg (by omega),if_pos hy,mnS,fE (x:=2 * _) (by omega) (by omega),fE (by omega) (by omega)]
def qY (C:List Int) (T:List Tk) (hit miss a:Int) (l:List Int):Int:=l.foldl (fun n i=>max n (sU C T hit miss i a)) 0
theorem Delay_E (hF:Fits C T) (a:Int):EC Tryz.prog G93 [] [.i c0,.i c1,.i c2,.i c3,.r c4,.i c5,.r c6,.r (ints C),.r (T.map aF),.r c9,.i a] fun x rs vs=>x=0∧rs=[]∧vs=[.i (qY C T c2 c3 a (if 0≤a∧a < T.length then fO T a else []))]:=by
 refine E93 fun EV V=>(Lower_E hF.t a).mono ?_
 rintro _ _ _ ⟨rfl,rfl,rfl⟩
 refine ⟨rfl,_,rfl,rfl,?_⟩
 generalize hl:(if 0≤a∧a < T.length then fO T a else [])=l
 have hmem:∀ i∈l,(0≤i∧i < T.length)∧(0≤a∧a < T.length):=fun i hi=>by
  rw [← hl] at hi
  split at hi
  ·rename_i h;exact ⟨gY hi,h⟩
  ·cases hi
 have hll:l.length≤20:=by
  rw [← hl]
  split
  ·have:=jd (fun t=>decide (t.p < (tk T a.toNat).p)) T T.length
   have:=hF.t
   unfold fO;omega
  ·simp
 have loop:∀ (d m:Nat),l.length - m < d→m≤l.length→EV 9 [ints l] [.i a,.i (qY C T c2 c3 a (l.take m)),.i l.length,.i m,.i c0,.i c1,.i c2,.i c3,.r c4,.i c5,.r c6,.r (ints C),.r (T.map aF),.r c9]:=by
  intro d
  induction d with
  | zero=>intro m hd;omega
  | succ d ih =>
   intro m hd hm
   refine V.p9 fun _=>⟨fun hlt=>?_,fun hge=>?_⟩
   ·have hml:m < l.length:=by omega
    have hmm:=hmem _ (List.getElem_mem hml)
    have ev1:IntKind.wrap .i64 ((m:Int) + 1)=((m + 1:Nat):Int):=by rw [wrap64 (by omega) (by omega)];rfl
    have hg:l.getD m 0=l[m]:=by rw [List.getD_eq_getElem?_getD,List.getElem?_eq_getElem hml];rfl
    rw [Int.toNat_natCast,aN,hg,ev1]
    refine ⟨by omega,by simp;omega,by rw [← hg,← aN];exact aJ hml,(II hF _ a).mono ?_⟩
    rintro _ _ _ ⟨rfl,rfl,rfl⟩
    rw [if_pos hmm]
    refine ⟨rfl,_,rfl,rfl,?_⟩
    rw [mxS]
    have:=ih (m + 1) (by omega) (by omega)
    rw [List.take_add_one,List.getElem?_eq_getElem hml] at this
    simp only [qY,Option.toList,List.foldl_append,List.foldl_cons,List.foldl_nil] at this ⊢
    exact this
   ·obtain rfl:m=l.length:=by omega
    exact ⟨rfl,rfl,by rw [List.take_length,hl]⟩
 rw [ints_length]
 exact loop _ 0 (Nat.lt_succ_self _) (by omega)
theorem Qc (hF:Fits C T) (a:Int) (ha:0≤a∧a < T.length):EC Tryz.prog G66 [] [.i c0,.i c1,.i c2,.i c3,.r c4,.i c5,.r c6,.r (ints C),.r (T.map aF),.r c9,.i a] fun x rs vs=>x=0∧rs=[]∧vs=[.i (qY C T c2 c3 a (fO T a))]:=by
 refine E66 fun EV V=>?_
 have hT:=hF.t
 have loop:∀ (d m:Nat),T.length - m < d→m≤T.length→EV 9 [] [.i a,.i (qY C T c2 c3 a (nN (fun t=>decide (t.p < (tk T a.toNat).p)) T m)),.r (T.map aF),.i T.length,.i m,.i c0,.i c1,.i c2,.i c3,.r c4,.i c5,.r c6,.r (ints C),.r (T.map aF),.r c9]:=by
  intro d
  induction d with
  | zero=>intro m hd;omega
  | succ d ih =>
   intro m hd hm
   refine V.p9 ⟨fun hlt=>?_,fun hge=>?_⟩
   ·have hmT:m < T.length:=by omega
    have ev1:IntKind.wrap .i64 ((m:Int) + 1)=((m + 1:Nat):Int):=by rw [wrap64 (by omega) (by omega)];rfl
    have next:=ih (m + 1) (by omega) (by omega)
    rw [iL] at next
    refine ⟨by omega,aW hmT,ha.1,aW (by omega),fun hx=>(Gv hF _ a (by omega) ha).mono ?_,fun hx=>?_⟩
    ·rintro _ _ _ ⟨rfl,rfl,rfl⟩
     refine ⟨rfl,_,rfl,rfl,?_⟩
     rw [Int.toNat_natCast,tk0,tk0] at hx
     rw [if_pos (by simpa using hx)] at next
     rw [ev1,mxS]
     simp only [qY,List.foldl_append,List.foldl_cons,List.foldl_nil] at next ⊢
     exact next
    ·rw [Int.toNat_natCast,tk0,tk0] at hx
     rw [if_neg (by simp;omega),List.append_nil] at next
     rw [ev1];exact next
   ·obtain rfl:m=T.length:=by omega
    exact ⟨rfl,rfl,rfl⟩
 rw [List.length_map]
 exact loop _ 0 (Nat.lt_succ_self _) (by omega)
def qX (p:Int × Bool):List AV:=[.int .i64 p.1,.bool p.2]
theorem OO (n:Int):∀ M:List (Int × Bool),(∃ b,∀ z,jM .i64 n z (M.map qX)=some (.bool b))∨∀ z,jM .i64 n z (M.map qX)=some z
 | []=>.inr fun z=>rfl
 | (k,b)::M=>by
  simp only [List.map_cons,qX,jM,if_true]
  by_cases h:n=k
  ·simp only [if_pos h];exact .inl ⟨b,fun _=>rfl⟩
  ·simp only [if_neg h];exact OO n M
theorem Jd (n:Int) (M:List (Int × Bool)):jM .i64 n (.bool false) (M.map qX)=some (.bool (mBS (M.map qX) .i64 n)):=by
 unfold mBS
 rcases OO n M with ⟨b,h⟩ | h
 ·rw [h,h]
 ·rw [h,h]
end
abbrev TKd:List DT:=[.int .i64,.int .i64,.int .i64,.int .i64,.int .i64,.int .i64,.rows [.int .i64,.int .i64,.int .i64]]
theorem exO:∀ {rows:List (List AV)},(∀ r∈rows,GdL [.int .i64,.int .i64,.int .i64] r)→∃ l:List Op3,rows=l.map bY
 | [],_=>⟨[],rfl⟩
 | r::rows,h=>by
  obtain ⟨l,hl⟩:=exO fun x hx=>h x (List.mem_cons_of_mem _ hx)
  have h0:=h r (List.mem_cons_self ..)
  simp only [GdL,GdC] at h0
  obtain ⟨_,_,e,⟨t,rfl,_⟩,_,_,rfl,⟨k',rfl,_⟩,_,_,rfl,⟨a,rfl,_⟩,rfl⟩:=h0
  exact ⟨⟨t,k',a⟩::l,by rw [e,hl];rfl⟩
theorem wf64 {n:Int} (h:(Lit.int .i64 n).wf=true):-9223372036854775808≤n∧n≤9223372036854775807:=by
 simp only [Lit.wf,Bool.and_eq_true,decide_eq_true_eq] at h
 have e1:IntKind.min .i64=-9223372036854775808:=rfl
 have e2:IntKind.max .i64=9223372036854775807:=rfl
 rw [e1,e2] at h;exact h
theorem FP:∀ {rows:List (List AV)},(∀ r∈rows,GdL TKd r)→∃ l:List Tk,rows=l.map aF∧∀ t∈l,t.pe≤9223372036854775807
 | [],_=>⟨[],rfl,fun t ht=>by cases ht⟩
 | r::rows,h=>by
  obtain ⟨l,hl,hp⟩:=FP fun x hx=>h x (List.mem_cons_of_mem _ hx)
  have h0:=h r (List.mem_cons_self ..)
  simp only [GdL,GdC] at h0
  obtain ⟨_,_,e,⟨t0,rfl,_⟩,_,_,rfl,⟨t1,rfl,_⟩,_,_,rfl,⟨t2,rfl,w2⟩,_,_,rfl,⟨t3,rfl,_⟩,_,_,rfl,⟨t4,rfl,_⟩,_,_,rfl,⟨t5,rfl,_⟩,_,_,rfl,⟨t6,rfl,_,g6⟩,rfl⟩:=h0
  obtain ⟨P,rfl⟩:=exO g6
  refine ⟨⟨t0,t1,t2,t3,t4,t5,P⟩::l,by rw [e,hl];rfl,fun t ht=>?_⟩
  rcases List.mem_cons.1 ht with rfl | ht
  ·exact (wf64 w2).2
  ·exact hp t ht
theorem exC:∀ {rows:List (List AV)},(∀ r∈rows,GdL [.int .i64] r)→∃ l:List Int,rows=ints l
 | [],_=>⟨[],rfl⟩
 | r::rows,h=>by
  obtain ⟨l,hl⟩:=exC fun x hx=>h x (List.mem_cons_of_mem _ hx)
  have h0:=h r (List.mem_cons_self ..)
  simp only [GdL,GdC] at h0
  obtain ⟨_,_,e,⟨t,rfl,_⟩,rfl⟩:=h0
  exact ⟨t::l,by rw [e,hl];rfl⟩
end Go.Ab
