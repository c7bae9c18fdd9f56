import Derived.Test.YtlakbkdhdgicfaaGreatQDqC
namespace Go.Ab
open Go Go.Proofs
set_option linter.unusedVariables false
set_option linter.unusedSimpArgs false
set_option maxRecDepth 100000
set_option maxHeartbeats 1000000
theorem O9 {nm ng nc nl:Int}:∀ {P:List Op3} {s:NSt},goZ nm ng nc nl P s=0→∀ o∈P,opZ nm ng nc nl o=0
 | [],_,_,o,ho=>by cases ho
 | x::P,s,h,o,ho=>by
  rw [goZ] at h
  split at h
  ·rename_i h1;exact absurd h h1
  ·rename_i h1
   have h1:opZ nm ng nc nl x=0:=by simpa using h1
   rcases List.mem_cons.1 ho with rfl | ho
   ·exact h1
   ·split at h
    ·cases h
    ·exact O9 h o ho
theorem yK {nm ng nc nl:Int} {P:List Op3} (h:gJ nm ng nc nl P=0):0 < P.length∧P.length≤64∧∀ o∈P,opZ nm ng nc nl o=0:=by
 unfold gJ at h
 split at h
 ·cases h
 ·split at h
  ·cases h
  ·exact ⟨by omega,by omega,O9 h⟩
theorem EF {nm ng nc nl:Int} {o:Op3} (h:opZ nm ng nc nl o=0) (hk:o.k=5):0≤o.a∧o.a < nl:=by
 unfold opZ at h
 split at h
 ·cases h
 ·split at h
  ·rename_i h1
   simp only [inZ,Bool.and_eq_true,decide_eq_true_eq] at h1
   have e1:loZ o.k=0:=by simp [loZ,hk]
   have e2:hiZ nm ng nc nl o.k=nl - 1:=by simp [hiZ,hk]
   omega
  ·cases h
def bV (t:Tk):Bool:=inZ t.p 0 63 && inZ t.th t.p 63 && inZ t.pe 1 1048576 && inZ t.de 1 t.pe && inZ t.fr 0 4096 && inZ t.fl 0 1048576
def sS (C:List Int) (p:Int) (o:Op3):Bool:=decide (o.k=5) && decide (C.getD o.a.toNat 0 < p)
def uf (C:List Int) (p:Int) (P:List Op3):Bool:=P.any (sS C p)
def jk (A:List Tk) (p:Int):Bool:=A.any fun x=>decide (x.p=p)
def fG (nm ng nc:Int) (C:List Int) (t:Tk) (A:List Tk):Int :=
 if bV t=false then 5 else if gJ nm ng nc C.length t.pg≠0 then gJ nm ng nc C.length t.pg
 else if uf C t.p t.pg=true then 9 else if jk A t.p=true then 10 else 0
section
variable {c0 c1 c2 c3 c5:Int} {M K C L:List Int} {T:List Tk} {t:Tk}
theorem low119 (o:Op3) (ho:o.k=5→0≤o.a∧o.a < C.length):EC Tryz.prog G119 [] [.i o.k,.i o.a,.i o.b,.i c0,.i c1,.i c2,.i c3,.r (ints M),.i c5,.r (ints K),.r (ints C),.r (T.map aF),.r (ints L),.i t.p,.i t.th,.i t.pe,.i t.de,.i t.fr,.i t.fl,.r (t.pg.map bY)] fun x rs vs=>x=0∧rs=[]∧vs=[.b (sS C t.p o),.i c0,.i c1,.i c2,.i c3,.r (ints M),.i c5,.r (ints K),.r (ints C),.r (T.map aF),.r (ints L),.i t.p,.i t.th,.i t.pe,.i t.de,.i t.fr,.i t.fl,.r (t.pg.map bY)]:=by
 refine E119 fun _ _=>⟨fun h=>?_,fun h=>⟨rfl,rfl,by simp [sS,h]⟩⟩
 have hb:=ho h
 have hl:o.a.toNat < C.length:=by omega
 refine ⟨hb.1,aJ hl,rfl,rfl,?_⟩
 rw [aN]
 simp [sS,h]
theorem jZ {α:Type} {l:List α} {f:α→Bool} {m:Nat} (hm:m < l.length):(l.take (m + 1)).any f=((l.take m).any f || f l[m]):=by
 rw [List.take_succ_eq_append_getElem hm,List.any_append];simp
theorem any_true {α:Type} {l:List α} {f:α→Bool} {m:Nat} (h:(l.take m).any f=true):l.any f=true:=by
 rw [List.any_eq_true] at h ⊢
 obtain ⟨x,hx,hf⟩:=h
 exact ⟨x,List.mem_of_mem_take hx,hf⟩
theorem low149 (P:List Op3) (hP:P.length≤1000) (ho:∀ o∈P,o.k=5→0≤o.a∧o.a < C.length):EC Tryz.prog G149 [] [.r (P.map bY),.i c0,.i c1,.i c2,.i c3,.r (ints M),.i c5,.r (ints K),.r (ints C),.r (T.map aF),.r (ints L),.i t.p,.i t.th,.i t.pe,.i t.de,.i t.fr,.i t.fl,.r (t.pg.map bY)] fun x rs vs=>x=0∧rs=[]∧∃ k,vs=[.i k,.i c0,.i c1,.i c2,.i c3,.r (ints M),.i c5,.r (ints K),.r (ints C),.r (T.map aF),.r (ints L),.i t.p,.i t.th,.i t.pe,.i t.de,.i t.fr,.i t.fl,.r (t.pg.map bY)]∧(0≤k↔uf C t.p P=true):=by
 refine E149 fun EV V=>?_
 rw [List.length_map]
 have loop:∀ n k:Nat,k + n=P.length→(P.take k).any (sS C t.p)=false→EV 7 [] [.r (P.map bY),.i (P.length:Int),.i (k:Int),.i c0,.i c1,.i c2,.i c3,.r (ints M),.i c5,.r (ints K),.r (ints C),.r (T.map aF),.r (ints L),.i t.p,.i t.th,.i t.pe,.i t.de,.i t.fr,.i t.fl,.r (t.pg.map bY)]:=by
  intro n
  induction n with
  | zero =>
   intro k hk hz
   refine V.p7 ⟨fun h=>by omega,fun _=>⟨rfl,rfl,_,rfl,?_⟩⟩
   rw [List.take_of_length_le (by omega)] at hz
   simp [uf,hz]
  | succ n ih =>
   intro k hk hz
   have hlt:k < P.length:=by omega
   refine V.p7 ⟨fun h=>⟨by omega,gp hlt,?_⟩,fun h=>by omega⟩
   rw [uP,uO,xO,Int.toNat_natCast,kG hlt]
   refine (low119 P[k] (ho _ (List.getElem_mem hlt))).mono ?_
   rintro _ _ _ ⟨rfl,rfl,rfl⟩
   refine ⟨rfl,_,_,_,_,_,_,_,_,_,_,_,_,_,_,_,_,_,_,rfl,rfl,fun h=>⟨rfl,rfl,_,rfl,?_⟩,fun h=>?_⟩
   ·have:(P.take (k + 1)).any (sS C t.p)=true:=by rw [jZ hlt,hz,h];rfl
    simp [uf,any_true this]
   ·rw [wrap64 (by omega) (by omega),show (k:Int) + 1=((k + 1:Nat):Int) by omega]
    exact ih (k + 1) (by omega) (by rw [jZ hlt,hz,h];rfl)
 exact loop P.length 0 (by omega) rfl
theorem low120 (P:List Op3) (hP:P.length≤1000) (ho:∀ o∈P,o.k=5→0≤o.a∧o.a < C.length):EC Tryz.prog G120 [] [.r (P.map bY),.i c0,.i c1,.i c2,.i c3,.r (ints M),.i c5,.r (ints K),.r (ints C),.r (T.map aF),.r (ints L),.i t.p,.i t.th,.i t.pe,.i t.de,.i t.fr,.i t.fl,.r (t.pg.map bY)] fun x rs vs=>x=0∧rs=[]∧vs=[.b (uf C t.p P),.i c0,.i c1,.i c2,.i c3,.r (ints M),.i c5,.r (ints K),.r (ints C),.r (T.map aF),.r (ints L),.i t.p,.i t.th,.i t.pe,.i t.de,.i t.fr,.i t.fl,.r (t.pg.map bY)]:=by
 refine E120 fun _ _=>(low149 P hP ho).mono ?_
 rintro _ _ _ ⟨rfl,rfl,k,rfl,hk⟩
 refine ⟨rfl,_,_,_,_,_,_,_,_,_,_,_,_,_,_,_,_,_,_,rfl,rfl,rfl,rfl,?_⟩
 have:decide (k≥(0:Int))=uf C t.p P:=by
  cases hz:uf C t.p P <;> simp [hz] at hk ⊢ <;> omega
 rw [this]
theorem two150 (A:List Tk) (hA:A.length≤1000):EC Tryz.prog G150 [] [.r (A.map aF),.i t.p,.i t.th,.i t.pe,.i t.de,.i t.fr,.i t.fl,.r (t.pg.map bY)] fun x rs vs=>x=0∧rs=[]∧∃ k,vs=[.i k,.i t.p,.i t.th,.i t.pe,.i t.de,.i t.fr,.i t.fl,.r (t.pg.map bY)]∧(0≤k↔jk A t.p=true):=by
 refine E150 fun EV V=>?_
 rw [List.length_map]
 have loop:∀ n k:Nat,k + n=A.length→(A.take k).any (fun x=>decide (x.p=t.p))=false→EV 7 [] [.r (A.map aF),.i (A.length:Int),.i (k:Int),.i t.p,.i t.th,.i t.pe,.i t.de,.i t.fr,.i t.fl,.r (t.pg.map bY)]:=by
  intro n
  induction n with
  | zero =>
   intro k hk hz
   refine V.p7 ⟨fun h=>by omega,fun _=>⟨rfl,rfl,_,rfl,?_⟩⟩
   rw [List.take_of_length_le (by omega)] at hz
   simp [jk,hz]
  | succ n ih =>
   intro k hk hz
   have hlt:k < A.length:=by omega
   refine V.p7 ⟨fun h=>⟨by omega,aW hlt,?_⟩,fun h=>by omega⟩
   refine E122 fun _ _=>⟨rfl,_,_,_,_,_,_,_,_,rfl,rfl,fun h=>⟨rfl,rfl,_,rfl,?_⟩,fun h=>?_⟩
   ·rw [tk0,Int.toNat_natCast,bP hlt] at h
    have:(A.take (k + 1)).any (fun x=>decide (x.p=t.p))=true:=by
     rw [jZ hlt,hz];simpa using h
    simp [jk,any_true this]
   ·rw [tk0,Int.toNat_natCast,bP hlt] at h
    rw [wrap64 (by omega) (by omega),show (k:Int) + 1=((k + 1:Nat):Int) by omega]
    exact ih (k + 1) (by omega) (by rw [jZ hlt,hz];simpa using h)
 exact loop A.length 0 (by omega) rfl
theorem two121 (A:List Tk) (hA:A.length≤1000):EC Tryz.prog G121 [] [.r (A.map aF),.i t.p,.i t.th,.i t.pe,.i t.de,.i t.fr,.i t.fl,.r (t.pg.map bY)] fun x rs vs=>x=0∧rs=[]∧vs=[.b (jk A t.p),.i t.p,.i t.th,.i t.pe,.i t.de,.i t.fr,.i t.fl,.r (t.pg.map bY)]:=by
 refine E121 fun _ _=>(two150 A hA).mono ?_
 rintro _ _ _ ⟨rfl,rfl,k,rfl,hk⟩
 refine ⟨rfl,_,_,_,_,_,_,_,_,rfl,rfl,rfl,rfl,?_⟩
 have:decide (k≥(0:Int))=jk A t.p:=by
  cases hz:jk A t.p <;> simp [hz] at hk ⊢ <;> omega
 rw [this]
theorem Room_E:EC Tryz.prog G118 [] [.i c0,.i c1,.i c2,.i c3,.r (ints M),.i c5,.r (ints K),.r (ints C),.r (T.map aF),.r (ints L)] fun x rs vs=>x=0∧rs=[]∧vs=[.i (M.length:Int),.i c5,.i (K.length:Int),.i (C.length:Int)] :=
 E118 fun _ _=>⟨rfl,rfl,by simp⟩
theorem task_E (hr:Rm M.length c5 K.length C.length) (A:List Tk) (hA:A.length≤1000):EC Tryz.prog G91 [] [.i c0,.i c1,.i c2,.i c3,.r (ints M),.i c5,.r (ints K),.r (ints C),.r (T.map aF),.r (ints L),.i t.p,.i t.th,.i t.pe,.i t.de,.i t.fr,.i t.fl,.r (t.pg.map bY),.r (A.map aF)] fun x rs vs=>x=0∧rs=[]∧vs=[.i (fG M.length c5 K.length C t A)]:=by
 refine E91 fun EV V=>(jD _ _ _).mono ?_
 have no:bV t=false→(0:Nat)=0∧([]:Rs)=[]∧[Lf.i 5]=[.i (fG M.length c5 K.length C t A)]:=fun h=>⟨rfl,rfl,by rw [fG,if_pos h]⟩
 rintro _ _ _ ⟨rfl,rfl,rfl⟩
 refine ⟨rfl,_,rfl,rfl,fun h0=>(jD _ _ _).mono ?_,fun h=>no (by simp [bV,h])⟩
 rintro _ _ _ ⟨rfl,rfl,rfl⟩
 refine ⟨rfl,_,rfl,rfl,fun h1=>(jD _ _ _).mono ?_,fun h=>no (by simp [bV,h])⟩
 rintro _ _ _ ⟨rfl,rfl,rfl⟩
 refine ⟨rfl,_,rfl,rfl,fun h2=>(jD _ _ _).mono ?_,fun h=>no (by simp [bV,h])⟩
 rintro _ _ _ ⟨rfl,rfl,rfl⟩
 refine ⟨rfl,_,rfl,rfl,fun h3=>(jD _ _ _).mono ?_,fun h=>no (by simp [bV,h])⟩
 rintro _ _ _ ⟨rfl,rfl,rfl⟩
 refine ⟨rfl,_,rfl,rfl,fun h4=>(jD _ _ _).mono ?_,fun h=>no (by simp [bV,h])⟩
 rintro _ _ _ ⟨rfl,rfl,rfl⟩
 refine ⟨rfl,_,rfl,rfl,fun h=>no (by simp [bV,h]),fun h5=>Room_E.mono ?_⟩
 have hn:¬ bV t=false:=by simp [bV,h0,h1,h2,h3,h4,h5]
 rintro _ _ _ ⟨rfl,rfl,rfl⟩
 refine ⟨rfl,_,_,_,_,rfl,rfl,(Qe hr t.pg).mono ?_⟩
 rintro _ _ _ ⟨rfl,rfl,rfl⟩
 refine ⟨rfl,_,rfl,rfl,V.p15 ⟨fun h=>⟨rfl,rfl,by rw [fG,if_neg hn,if_pos h]⟩,fun h=>?_⟩⟩
 have hp:=yK h
 refine (low120 t.pg (by omega) fun o ho hk=>EF (hp.2.2 o ho) hk).mono ?_
 rintro _ _ _ ⟨rfl,rfl,rfl⟩
 refine ⟨rfl,_,_,_,_,_,_,_,_,_,_,_,_,_,_,_,_,_,_,rfl,rfl,fun hl=>⟨rfl,rfl,by rw [fG,if_neg hn,if_neg (by simp [h]),if_pos hl]⟩,fun hl=>(two121 A hA).mono ?_⟩
 rintro _ _ _ ⟨rfl,rfl,rfl⟩
 refine ⟨rfl,_,_,_,_,_,_,_,_,rfl,rfl,fun h2=>⟨rfl,rfl,?_⟩,fun h2=>⟨rfl,rfl,?_⟩⟩
 ·rw [fG,if_neg hn,if_neg (by simp [h]),if_neg (by simp [hl]),if_pos h2]
 ·rw [fG,if_neg hn,if_neg (by simp [h]),if_neg (by simp [hl]),if_neg (by simp [h2])]
theorem Rtask_E (hr:Rm M.length c5 K.length C.length) (hT:T.length≤1000) (i:Nat) (hi:i < T.length):EC Tryz.prog G64 [] [.i c0,.i c1,.i c2,.i c3,.r (ints M),.i c5,.r (ints K),.r (ints C),.r (T.map aF),.r (ints L),.i (i:Int),.i t.p,.i t.th,.i t.pe,.i t.de,.i t.fr,.i t.fl,.r (t.pg.map bY)] fun x rs vs=>x=0∧rs=[]∧vs=[.i (fG M.length c5 K.length C t (T.take i))]:=by
 refine E64 fun EV V=>(zg _ _ _).mono ?_
 have no:bV t=false→(0:Nat)=0∧([]:Rs)=[]∧[Lf.i 5]=[.i (fG M.length c5 K.length C t (T.take i))]:=fun h=>⟨rfl,rfl,by rw [fG,if_pos h]⟩
 rintro _ _ _ ⟨rfl,rfl,rfl⟩
 refine ⟨rfl,_,rfl,rfl,fun h0=>(zg _ _ _).mono ?_,fun h=>no (by simp [bV,h])⟩
 rintro _ _ _ ⟨rfl,rfl,rfl⟩
 refine ⟨rfl,_,rfl,rfl,fun h1=>(zg _ _ _).mono ?_,fun h=>no (by simp [bV,h])⟩
 rintro _ _ _ ⟨rfl,rfl,rfl⟩
 refine ⟨rfl,_,rfl,rfl,fun h2=>(zg _ _ _).mono ?_,fun h=>no (by simp [bV,h])⟩
 rintro _ _ _ ⟨rfl,rfl,rfl⟩
 refine ⟨rfl,_,rfl,rfl,fun h3=>(zg _ _ _).mono ?_,fun h=>no (by simp [bV,h])⟩
 rintro _ _ _ ⟨rfl,rfl,rfl⟩
 refine ⟨rfl,_,rfl,rfl,fun h4=>(zg _ _ _).mono ?_,fun h=>no (by simp [bV,h])⟩
 rintro _ _ _ ⟨rfl,rfl,rfl⟩
 refine ⟨rfl,_,rfl,rfl,fun h=>no (by simp [bV,h]),fun h5=>?_⟩
 have hn:¬ bV t=false:=by simp [bV,h0,h1,h2,h3,h4,h5]
 rw [ints_length,ints_length,ints_length]
 refine (NG hr t.pg).mono ?_
 rintro _ _ _ ⟨rfl,rfl,rfl⟩
 refine ⟨rfl,_,rfl,rfl,fun h=>⟨rfl,rfl,by rw [fG,if_neg hn,if_pos h]⟩,fun h=>?_⟩
 have hp:=yK h
 rw [List.length_map]
 have h48:uf C t.p t.pg=false→∀ n k:Nat,k + n=i→(T.take k).any (fun x=>decide (x.p=t.p))=false→EV 48 [] [.i (i:Int),.i (k:Int),.i c0,.i c1,.i c2,.i c3,.r (ints M),.i c5,.r (ints K),.r (ints C),.r (T.map aF),.r (ints L),.i t.p,.i t.th,.i t.pe,.i t.de,.i t.fr,.i t.fl,.r (t.pg.map bY)]:=by
  intro hl n
  induction n with
  | zero =>
   intro k hk hz
   obtain rfl:k=i:=by omega
   refine V.p48 ⟨fun h=>by omega,fun _=>⟨rfl,rfl,?_⟩⟩
   rw [fG,if_neg hn,if_neg (by simp [h]),if_neg (by simp [hl]),if_neg (by simp [jk];simpa using hz)]
  | succ n ih =>
   intro k hk hz
   have hlt:k < T.length:=by omega
   refine V.p48 ⟨fun _=>⟨by omega,aW hlt,fun h2=>⟨rfl,rfl,?_⟩,fun h2=>?_⟩,fun h=>by omega⟩
   ·rw [tk0,Int.toNat_natCast,bP hlt] at h2
    have:(T.take (k + 1)).any (fun x=>decide (x.p=t.p))=true:=by rw [jZ hlt,hz];simpa using h2
    have h3:jk (T.take i) t.p=true:=by
     refine any_true (m:=k + 1) ?_
     rw [List.take_take,Nat.min_eq_left (by omega)];exact this
    rw [fG,if_neg hn,if_neg (by simp [h]),if_neg (by simp [hl]),if_pos h3]
   ·rw [tk0,Int.toNat_natCast,bP hlt] at h2
    rw [wrap64 (by omega) (by omega),show (k:Int) + 1=((k + 1:Nat):Int) by omega]
    exact ih (k + 1) (by omega) (by rw [jZ hlt,hz];simpa using h2)
 have h25:∀ n k:Nat,k + n=t.pg.length→(t.pg.take k).any (sS C t.p)=false→EV 25 [] [.i (i:Int),.r (t.pg.map bY),.i (t.pg.length:Int),.i (k:Int),.i c0,.i c1,.i c2,.i c3,.r (ints M),.i c5,.r (ints K),.r (ints C),.r (T.map aF),.r (ints L),.i t.p,.i t.th,.i t.pe,.i t.de,.i t.fr,.i t.fl,.r (t.pg.map bY)]:=by
  intro n
  induction n with
  | zero =>
   intro k hk hz
   rw [List.take_of_length_le (by omega)] at hz
   exact V.p25 ⟨fun h=>by omega,fun _=>h48 hz i 0 (by omega) rfl⟩
  | succ n ih =>
   intro k hk hz
   have hlt:k < t.pg.length:=by omega
   have ho:=hp.2.2 _ (List.getElem_mem hlt)
   have next:sS C t.p t.pg[k]=false→EV 25 [] [.i (i:Int),.r (t.pg.map bY),.i (t.pg.length:Int),.i (IntKind.wrap .i64 ((k:Int) + 1)),.i c0,.i c1,.i c2,.i c3,.r (ints M),.i c5,.r (ints K),.r (ints C),.r (T.map aF),.r (ints L),.i t.p,.i t.th,.i t.pe,.i t.de,.i t.fr,.i t.fl,.r (t.pg.map bY)]:=fun h=>by
    rw [wrap64 (by omega) (by omega),show (k:Int) + 1=((k + 1:Nat):Int) by omega]
    exact ih (k + 1) (by omega) (by rw [jZ hlt,hz,h];rfl)
   refine V.p25 ⟨fun _=>⟨by omega,gp hlt,?_⟩,fun h=>by omega⟩
   rw [uP,uO,Int.toNat_natCast,kG hlt]
   refine ⟨fun hk5=>?_,fun hk5=>next (by simp [sS,hk5])⟩
   have hb:=EF ho hk5
   have hl:t.pg[k].a.toNat < C.length:=by omega
   refine ⟨hb.1,aJ hl,?_⟩
   rw [aN]
   refine ⟨fun h2=>⟨rfl,rfl,?_⟩,fun h2=>next ?_⟩
   ·have h3:sS C t.p t.pg[k]=true:=by rw [sS,decide_eq_true hk5,decide_eq_true h2];rfl
    have:(t.pg.take (k + 1)).any (sS C t.p)=true:=by rw [jZ hlt,hz,h3];rfl
    have h4:uf C t.p t.pg=true:=any_true this
    rw [fG,if_neg hn,if_neg (by simp [h]),if_pos h4]
   ·have:¬ C.getD t.pg[k].a.toNat 0 < t.p:=by omega
    rw [sS,decide_eq_false this,Bool.and_false]
 exact h25 t.pg.length 0 (by omega) rfl
def goT (nm ng nc:Int) (C:List Int):List Tk→List Tk→Int
 | _,[]=>0
 | A,t::R=>if fG nm ng nc C t A≠0 then fG nm ng nc C t A else goT nm ng nc C (A++[t]) R
def ji (c0 c1 c2 c3:Int):Bool:=inZ c0 1 16 && inZ c1 1 4 && inZ c2 1 100 && inZ c3 c2 100
def bK (c0 c1 c2 c3:Int) (M:List Int) (c5:Int) (K C:List Int) (T:List Tk) (L:List Int):Int :=
 if ji c0 c1 c2 c3=false then 5
 else if ¬ (M.length≤4∧c5≤4∧K.length≤4∧C.length≤4∧T.length≤8∧L.length≤8) then 4
 else if T.length=0∨c5 < 0 then 1
 else if (dR M 1 8 && dR K 1 8 && dR C 0 63 && dR L 0 ((T.length:Int) - 1))=false then 5
 else goT M.length c5 K.length C [] T
theorem Nc (c0 c1 c2 c3:Int):EC Tryz.prog G89 [] [.i c0,.i c1,.i c2,.i c3] fun x rs vs=>x=0∧rs=[]∧vs=[.b (ji c0 c1 c2 c3)]:=by
 refine E89 fun _ _=>(jD _ _ _).mono ?_
 rintro _ _ _ ⟨rfl,rfl,rfl⟩
 refine ⟨rfl,_,rfl,rfl,fun h0=>(jD _ _ _).mono ?_,fun h=>⟨rfl,rfl,by simp [ji,h]⟩⟩
 rintro _ _ _ ⟨rfl,rfl,rfl⟩
 refine ⟨rfl,_,rfl,rfl,fun h1=>(jD _ _ _).mono ?_,fun h=>⟨rfl,rfl,by simp [ji,h]⟩⟩
 rintro _ _ _ ⟨rfl,rfl,rfl⟩
 refine ⟨rfl,_,rfl,rfl,fun h2=>(jD _ _ _).mono ?_,fun h=>⟨rfl,rfl,by simp [ji,h]⟩⟩
 rintro _ _ _ ⟨rfl,rfl,rfl⟩
 exact ⟨rfl,_,rfl,rfl,rfl,rfl,by simp [ji,h0,h1,h2]⟩
theorem FD {nm ng nc:Int} {m:Nat} (hm:m < T.length):goT nm ng nc C (T.take m) (T.drop m)=if fG nm ng nc C (tk T m) (T.take m)≠0 then fG nm ng nc C (tk T m) (T.take m) else goT nm ng nc C (T.take (m + 1)) (T.drop (m + 1)):=by
 rw [List.drop_eq_getElem_cons hm,goT,bP hm,List.take_succ_eq_append_getElem hm]
theorem D7:EC Tryz.prog G55 [] [.i c0,.i c1,.i c2,.i c3,.r (ints M),.i c5,.r (ints K),.r (ints C),.r (T.map aF),.r (ints L)] fun x rs vs=>x=0∧rs=[]∧vs=[.i (bK c0 c1 c2 c3 M c5 K C T L)]:=by
 refine E55 fun EV V=>(Nc c0 c1 c2 c3).mono ?_
 rw [ints_length M,ints_length K,ints_length C,ints_length L,List.length_map,mxS,mxS,mxS]
 rintro _ _ _ ⟨rfl,rfl,rfl⟩
 refine ⟨rfl,_,rfl,rfl,fun h=>⟨rfl,rfl,by rw [bK,if_pos h]⟩,fun hm=>?_⟩
 have hm':¬ ji c0 c1 c2 c3=false:=by simp [hm]
 have four:¬ (M.length≤4∧c5≤4∧K.length≤4∧C.length≤4∧T.length≤8∧L.length≤8)→(0:Nat)=0∧([]:Rs)=[]∧[Lf.i 4]=[.i (bK c0 c1 c2 c3 M c5 K C T L)]:=fun h=>⟨rfl,rfl,by rw [bK,if_neg hm',if_pos h]⟩
 refine ⟨fun h1=>⟨fun h2=>⟨fun h=>four (by omega),fun h3=>?_⟩,fun h=>four (by omega)⟩,fun h=>four (by omega)⟩
 have hf:¬ ¬ (M.length≤4∧c5≤4∧K.length≤4∧C.length≤4∧T.length≤8∧L.length≤8):=by omega
 have one:T.length=0∨c5 < 0→(0:Nat)=0∧([]:Rs)=[]∧[Lf.i 1]=[.i (bK c0 c1 c2 c3 M c5 K C T L)]:=fun h=>⟨rfl,rfl,by rw [bK,if_neg hm',if_neg hf,if_pos h]⟩
 refine ⟨fun h4=>⟨fun h=>one (by omega),fun h5=>?_⟩,fun h=>one (by omega)⟩
 have ho:¬ (T.length=0∨c5 < 0):=by omega
 have five:(dR M 1 8 && dR K 1 8 && dR C 0 63 && dR L 0 ((T.length:Int) - 1))=false→(0:Nat)=0∧([]:Rs)=[]∧[Lf.i 5]=[.i (bK c0 c1 c2 c3 M c5 K C T L)]:=fun h=>⟨rfl,rfl,by rw [bK,if_neg hm',if_neg hf,if_neg ho,if_pos h]⟩
 refine (pU M (by omega) _ _).mono ?_
 rintro _ _ _ ⟨rfl,rfl,rfl⟩
 refine ⟨rfl,_,rfl,rfl,fun g0=>(pU K (by omega) _ _).mono ?_,fun h=>five (by simp [h])⟩
 rintro _ _ _ ⟨rfl,rfl,rfl⟩
 refine ⟨rfl,_,rfl,rfl,fun h=>five (by simp [h]),fun g1=>(pU C (by omega) _ _).mono ?_⟩
 rintro _ _ _ ⟨rfl,rfl,rfl⟩
 refine ⟨rfl,_,rfl,rfl,fun g2=>(pU L (by omega) _ _).mono ?_,fun h=>five (by simp [h])⟩
 rintro _ _ _ ⟨rfl,rfl,rfl⟩
 rw [wrap64 (by omega) (by omega)]
 refine ⟨rfl,_,rfl,rfl,fun h=>five (by simp [h]),fun g3=>?_⟩
 have hc:bK c0 c1 c2 c3 M c5 K C T L=goT M.length c5 K.length C [] T:=by
  rw [bK,if_neg hm',if_neg hf,if_neg ho,if_neg (by simp [g0,g1,g2,g3])]
 rw [hc] at V
 have hr:Rm M.length c5 K.length C.length:=⟨by omega,by omega,by omega,by omega⟩
 have loop:∀ n k:Nat,k + n=T.length→goT M.length c5 K.length C (T.take k) (T.drop k)=goT M.length c5 K.length C [] T→EV 42 [] [.r (T.map aF),.i (T.length:Int),.i (k:Int),.i c0,.i c1,.i c2,.i c3,.r (ints M),.i c5,.r (ints K),.r (ints C),.r (T.map aF),.r (ints L)]:=by
  intro n
  induction n with
  | zero =>
   intro k hk hz
   rw [List.drop_of_length_le (by omega),goT] at hz
   exact V.p42 ⟨fun h=>by omega,fun _=>⟨rfl,rfl,by rw [← hz]⟩⟩
  | succ n ih =>
   intro k hk hz
   have hlt:k < T.length:=by omega
   rw [FD hlt] at hz
   refine V.p42 ⟨fun _=>⟨by omega,aW hlt,by simp;omega,?_⟩,fun h=>by omega⟩
   rw [tk0,tk1,tk2,tk3,tk4,tk5,tk6,Int.toNat_natCast,← List.map_take]
   refine (task_E hr (T.take k) (by simp;omega)).mono ?_
   rintro _ _ _ ⟨rfl,rfl,rfl⟩
   refine ⟨rfl,_,rfl,rfl,fun h=>⟨rfl,rfl,by rw [if_pos h] at hz;rw [hz]⟩,fun h=>?_⟩
   rw [if_neg (by simp [h])] at hz
   rw [wrap64 (by omega) (by omega),show (k:Int) + 1=((k + 1:Nat):Int) by omega]
   exact ih (k + 1) (by omega) hz
 exact loop T.length 0 (by omega) rfl
theorem vV:EC Tryz.prog G18 [] [.i c0,.i c1,.i c2,.i c3,.r (ints M),.i c5,.r (ints K),.r (ints C),.r (T.map aF),.r (ints L)] fun x rs vs=>x=0∧rs=[]∧vs=[.i (bK c0 c1 c2 c3 M c5 K C T L)]:=by
 refine E18 fun EV V=>(zg _ _ _).mono ?_
 rw [ints_length M,ints_length K,ints_length C,ints_length L,List.length_map]
 have no:ji c0 c1 c2 c3=false→(0:Nat)=0∧([]:Rs)=[]∧[Lf.i 5]=[.i (bK c0 c1 c2 c3 M c5 K C T L)]:=fun h=>⟨rfl,rfl,by rw [bK,if_pos h]⟩
 rintro _ _ _ ⟨rfl,rfl,rfl⟩
 refine ⟨rfl,_,rfl,rfl,fun m0=>(zg _ _ _).mono ?_,fun h=>no (by simp [ji,h])⟩
 rintro _ _ _ ⟨rfl,rfl,rfl⟩
 refine ⟨rfl,_,rfl,rfl,fun m1=>(zg _ _ _).mono ?_,fun h=>no (by simp [ji,h])⟩
 rintro _ _ _ ⟨rfl,rfl,rfl⟩
 refine ⟨rfl,_,rfl,rfl,fun m2=>(zg _ _ _).mono ?_,fun h=>no (by simp [ji,h])⟩
 rintro _ _ _ ⟨rfl,rfl,rfl⟩
 refine ⟨rfl,_,rfl,rfl,fun h=>no (by simp [ji,h]),fun m3=>?_⟩
 have hm':¬ ji c0 c1 c2 c3=false:=by simp [ji,m0,m1,m2,m3]
 have four:¬ (M.length≤4∧c5≤4∧K.length≤4∧C.length≤4∧T.length≤8∧L.length≤8)→(0:Nat)=0∧([]:Rs)=[]∧[Lf.i 4]=[.i (bK c0 c1 c2 c3 M c5 K C T L)]:=fun h=>⟨rfl,rfl,by rw [bK,if_neg hm',if_pos h]⟩
 refine ⟨fun q0=>⟨fun q1=>⟨fun q2=>⟨fun q3=>⟨fun q4=>⟨fun h=>four (by omega),fun q5=>?_⟩,fun h=>four (by omega)⟩,fun h=>four (by omega)⟩,fun h=>four (by omega)⟩,fun h=>four (by omega)⟩,fun h=>four (by omega)⟩
 have hf:¬ ¬ (M.length≤4∧c5≤4∧K.length≤4∧C.length≤4∧T.length≤8∧L.length≤8):=by omega
 have one:T.length=0∨c5 < 0→(0:Nat)=0∧([]:Rs)=[]∧[Lf.i 1]=[.i (bK c0 c1 c2 c3 M c5 K C T L)]:=fun h=>⟨rfl,rfl,by rw [bK,if_neg hm',if_neg hf,if_pos h]⟩
 refine ⟨fun h4=>⟨fun h=>one (by omega),fun h5=>?_⟩,fun h=>one (by omega)⟩
 have ho:¬ (T.length=0∨c5 < 0):=by omega
 have five:(dR M 1 8 && dR K 1 8 && dR C 0 63 && dR L 0 ((T.length:Int) - 1))=false→(0:Nat)=0∧([]:Rs)=[]∧[Lf.i 5]=[.i (bK c0 c1 c2 c3 M c5 K C T L)]:=fun h=>⟨rfl,rfl,by rw [bK,if_neg hm',if_neg hf,if_neg ho,if_pos h]⟩
 refine (JO M (by omega) _ _).mono ?_
 rintro _ _ _ ⟨rfl,rfl,rfl⟩
 refine ⟨rfl,_,rfl,rfl,fun g0=>(JO K (by omega) _ _).mono ?_,fun h=>five (by simp [h])⟩
 rintro _ _ _ ⟨rfl,rfl,rfl⟩
 refine ⟨rfl,_,rfl,rfl,fun g1=>(JO C (by omega) _ _).mono ?_,fun h=>five (by simp [h])⟩
 rintro _ _ _ ⟨rfl,rfl,rfl⟩
 refine ⟨rfl,_,rfl,rfl,fun g2=>(JO L (by omega) _ _).mono ?_,fun h=>five (by simp [h])⟩
 rintro _ _ _ ⟨rfl,rfl,rfl⟩
 rw [wrap64 (by omega) (by omega)]
 refine ⟨rfl,_,rfl,rfl,fun h=>five (by simp [h]),fun g3=>?_⟩
 have hc:bK c0 c1 c2 c3 M c5 K C T L=goT M.length c5 K.length C [] T:=by
  rw [bK,if_neg hm',if_neg hf,if_neg ho,if_neg (by simp [g0,g1,g2,g3])]
 rw [hc] at V
 have hr:Rm M.length c5 K.length C.length:=⟨by omega,by omega,by omega,by omega⟩
 have loop:∀ n k:Nat,k + n=T.length→goT M.length c5 K.length C (T.take k) (T.drop k)=goT M.length c5 K.length C [] T→EV 41 [] [.r (T.map aF),.i (T.length:Int),.i (k:Int),.i c0,.i c1,.i c2,.i c3,.r (ints M),.i c5,.r (ints K),.r (ints C),.r (T.map aF),.r (ints L)]:=by
  intro n
  induction n with
  | zero =>
   intro k hk hz
   rw [List.drop_of_length_le (by omega),goT] at hz
   exact V.p41 ⟨fun h=>by omega,fun _=>⟨rfl,rfl,by rw [← hz]⟩⟩
  | succ n ih =>
   intro k hk hz
   have hlt:k < T.length:=by omega
   rw [FD hlt] at hz
   refine V.p41 ⟨fun _=>⟨by omega,aW hlt,?_⟩,fun h=>by omega⟩
   rw [tk0,tk1,tk2,tk3,tk4,tk5,tk6,Int.toNat_natCast]
   refine (Rtask_E hr (by omega) k hlt).mono ?_
   rintro _ _ _ ⟨rfl,rfl,rfl⟩
   refine ⟨rfl,_,rfl,rfl,fun h=>⟨rfl,rfl,by rw [if_pos h] at hz;rw [hz]⟩,fun h=>?_⟩
   rw [if_neg (by simp [h])] at hz
   rw [wrap64 (by omega) (by omega),show (k:Int) + 1=((k + 1:Nat):Int) by omega]
   exact ih (k + 1) (by omega) hz
 exact loop T.length 0 (by omega) rfl
end
end Go.Ab
