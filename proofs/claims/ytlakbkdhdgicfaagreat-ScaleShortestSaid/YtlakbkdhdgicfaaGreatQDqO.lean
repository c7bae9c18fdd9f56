import Derived.Test.YtlakbkdhdgicfaaGreatQDqM
namespace Go.Ab
open Go Go.Proofs
set_option linter.unusedVariables false
set_option linter.unusedSimpArgs false
set_option maxRecDepth 100000
set_option maxHeartbeats 1000000
def zX (n a:Int):Int:=if 1≤a∧a≤1000 then min (max ((a * n + 7) / 8) 1) 1000 else a
def ou (n:Int) (o:Op3):Op3:=if o.k=1 then ⟨o.k,zX n o.a,o.b⟩ else o
def qc (n:Int) (P:List Op3):List Op3:=P.map (ou n)
def yC (n:Int) (t:Tk):Tk:={ t with pg:=qc n t.pg }
theorem yD (n:Int) (o:Op3):(ou n o).k=o.k:=by unfold ou;split <;> rfl
theorem wo (n:Int) (o:Op3) (h:o.k≠1):ou n o=o:=by unfold ou;rw [if_neg h]
theorem sclA_in (n a:Int):(1≤zX n a∧zX n a≤1000)↔(1≤a∧a≤1000):=by
 unfold zX;split
 ·rename_i h;exact ⟨fun _=>h,fun _=>by omega⟩
 ·exact Iff.rfl
theorem MM {n m:Int} (h:n≤m) (a:Int):zX n a≤zX m a:=by
 unfold zX
 split
 ·rename_i ha
  have h1:a * n≤a * m:=Int.mul_le_mul_of_nonneg_left h (by omega)
  have h2:(a * n + 7) / 8≤(a * m + 7) / 8:=Int.ediv_le_ediv (by omega) (by omega)
  omega
 ·exact Int.le_refl _
theorem opZ_scl (nm ng nc nl n:Int) (o:Op3):opZ nm ng nc nl (ou n o)=0↔opZ nm ng nc nl o=0:=by
 by_cases h:o.k=1
 ·have h1:=sclA_in n o.a
  have e:ou n o=⟨o.k,zX n o.a,o.b⟩:=by unfold ou;rw [if_pos h]
  have lo:loZ o.k=1:=by simp [loZ,h]
  have hi:hiZ nm ng nc nl o.k=1000:=by simp [hiZ,h]
  rw [e]
  unfold opZ
  simp only [lo,hi,inZ]
  have hk:¬ (o.k < 1∨15 < o.k):=by omega
  rw [if_neg hk,if_neg hk]
  have h2:(decide (1≤zX n o.a) && decide (zX n o.a≤1000))=(decide (1≤o.a) && decide (o.a≤1000)):=by
   rw [Bool.eq_iff_iff];simpa using h1
  rw [h2]
 ·rw [wo n o h]
theorem MF (n:Int) (o:Op3) (s:NSt):dW s (ou n o)=dW s o:=by
 by_cases h:o.k=1
 ·unfold dW fD
  simp only [yD,h]
  simp
 ·rw [wo n o h]
theorem Jp {nm ng nc nl n:Int}:∀ {P:List Op3} {s:NSt},goZ nm ng nc nl (P.map (ou n)) s=0↔goZ nm ng nc nl P s=0
 | [],s=>Iff.rfl
 | o::P,s=>by
  have h1:=opZ_scl nm ng nc nl n o
  rw [List.map_cons,goZ,goZ,MF]
  by_cases h:opZ nm ng nc nl o=0
  ·rw [if_neg (show ¬ opZ nm ng nc nl (ou n o)≠0 from fun g=>g (h1.2 h)),if_neg (show ¬ opZ nm ng nc nl o≠0 from fun g=>g h)]
   cases dW s o with
   | none=>exact Iff.rfl
   | some t=>exact Jp
  ·have h2:¬ opZ nm ng nc nl (ou n o)=0:=fun g=>h (h1.1 g)
   rw [if_pos h,if_pos h2]
   exact ⟨fun g=>absurd g h2,fun g=>absurd g h⟩
theorem MS (nm ng nc nl n:Int) (P:List Op3):gJ nm ng nc nl (qc n P)=0↔gJ nm ng nc nl P=0:=by
 unfold gJ qc
 rw [List.length_map]
 split
 ·exact Iff.rfl
 ·split
  ·exact Iff.rfl
  ·exact Jp
theorem OW (C:List Int) (p n:Int) (o:Op3):sS C p (ou n o)=sS C p o:=by
 by_cases h:o.k=1
 ·unfold sS;rw [yD,h];rfl
 ·rw [wo n o h]
theorem OV (C:List Int) (p n:Int) (P:List Op3):uf C p (qc n P)=uf C p P:=by
 unfold uf qc
 rw [List.any_map]
 congr 1
 funext o
 exact OW C p n o
theorem EG (nm ng nc:Int) (C:List Int) (n:Int) (t:Tk):uQ nm ng nc C (yC n t)↔uQ nm ng nc C t:=by
 unfold uQ yC
 simp only
 rw [MS,OV]
theorem BB {hit miss n m:Int} (h:n≤m) (o:Op3):dK hit miss false (ou n o)≤dK hit miss false (ou m o):=by
 by_cases hk:o.k=1
 ·have h1:=MM h o.a
  unfold dK
  rw [if_pos (by rw [yD];exact hk),if_pos (by rw [yD];exact hk)]
  unfold ou iC
  rw [if_pos hk,if_pos hk]
  simp only
  omega
 ·rw [wo n o hk,wo m o hk];exact Int.le_refl _
theorem yt {hit miss n m:Int} (h:n≤m):∀ P:List Op3,ig hit miss false (qc n P)≤ig hit miss false (qc m P)
 | []=>Int.le_refl _
 | o::P=>by
  have h1:=BB (hit:=hit) (miss:=miss) h o
  have h2:=yt (hit:=hit) (miss:=miss) h P
  unfold ig qc at *
  simp only [List.map_cons,List.sum_cons] at *
  omega
theorem IY {n:Int} {P:List Op3} {i:Nat} (hi:i < P.length):op3 (qc n P) i=ou n (op3 P i):=by
 rw [kG hi,kG (by simp [qc];exact hi)]
 simp [qc]
theorem Eb (n0:Nat) (n:Int) (P:List Op3):∀ m:Nat,m≤P.length→fC n0 (qc n P) m=fC n0 P m
 | 0,_=>rfl
 | m + 1,h=>by
  rw [fC,fC,Eb n0 n P m (by omega),IY (by omega)]
  by_cases hk:(op3 P m).k=1
  ·unfold gI
   simp [yD,hk]
  ·rw [wo n _ hk]
theorem Nj {C:List Int} {hit miss base level n m:Int} (h:n≤m) (P:List Op3):dY C hit miss base (qc n P) level≤dY C hit miss base (qc m P) level:=by
 have hlev:∀ (k:Int) (i:Nat),i≤P.length→di C base (qc k P) i=di C base P i:=fun k i hi=>by
  unfold di;rw [Eb _ _ _ _ hi]
 have hlen:∀ k:Int,(qc k P).length=P.length:=fun k=>by simp [qc]
 unfold dY dat
 rw [hlen,hlen]
 refine qL (fun i hi=>?_) (Int.le_refl 0) (Int.le_refl 0) (Int.le_refl 0)
 have hi:i < P.length:=by simpa using hi
 refine ⟨?_,(kV _ _ _ _).1,?_⟩
 ·simp only [hlev n i (by omega),hlev m i (by omega),hlev n (i + 1) (by omega),hlev m (i + 1) (by omega)]
  exact id
 ·simp only [IY hi]
  exact BB h _
theorem PR {C:List Int} {hit miss a n m:Int} (t:Tk) (h:n≤m):oV C hit miss (yC n t) a≤oV C hit miss (yC m t) a:=by
 have h1:=yt (hit:=hit) (miss:=miss) h t.pg
 have h2:=Nj (C:=C) (hit:=hit) (miss:=miss) (base:=t.th) (level:=a) h t.pg
 unfold oV yC
 simp only
 split
 ·exact h1
 ·split <;> omega
theorem oq (n:Int) {T:List Tk} {i:Nat} (hi:i < T.length):tk (T.map (yC n)) i=yC n (tk T i):=by
 rw [bP hi,bP (by simpa using hi)];simp
theorem EM (n:Int) (t:Tk):bV (yC n t)=bV t:=rfl
theorem VC {c0 c1 c2 c3 c5:Int} {M K C L:List Int} {T:List Tk} {n m:Int} (h:n≤m) (ha:eF c0 c1 c2 c3 M c5 K C (T.map (yC m)) L=true):eF c0 c1 c2 c3 M c5 K C (T.map (yC n)) L=true:=by
 have hc:=(jB.1 (fU.1 ha).1).2.1
 rw [mV,List.length_map] at hc
 refine aal (T:=T.map (yC m)) ⟨by simp,fun i hi=>?_,fun i hi=>?_⟩ ?_ (fun i hi=>?_) ha
 ·rw [List.length_map] at hi
  rw [oq n hi,oq m hi];rfl
 ·rw [List.length_map] at hi
  rw [oq n hi,oq m hi,EG,EG]
 ·rw [mV,List.length_map]
  intro i hi
  have:=hc i hi
  rw [oq m hi,EM] at this
  rw [oq n hi,EM];exact this
 ·rw [List.length_map] at hi
  have:=hc i hi
  rw [oq m hi] at this
  have hb:=dm this
  rw [oq n hi,oq m hi]
  exact ⟨rfl,⟨Int.le_refl _,hb.2.2.1.2⟩,Int.le_refl _,yt h _,fun a _=>PR _ h⟩
def mX (t:Tk) (n:Int):Tk:={ t with pe:=n,de:=min t.de n }
theorem WX {c0 c1 c2 c3 c5:Int} {M K C L:List Int} {T:List Tk} {i:Nat} (hi:i < T.length) {n m:Int} (h:n≤m) (hm:m≤1048576) (ha:eF c0 c1 c2 c3 M c5 K C (T.set i (mX (tk T i) n)) L=true):eF c0 c1 c2 c3 M c5 K C (T.set i (mX (tk T i) m)) L=true:=by
 have hc:=(jB.1 (fU.1 ha).1).2.1
 rw [sJ hi] at hc
 have hb:=dm hc.1
 simp only [mX] at hb
 refine aal (T:=T.set i (mX (tk T i) n)) (Fe (s:=mX (tk T i) m) (t:=mX (tk T i) n) rfl rfl hi) ?_ (fun j hj=>?_) ha
 ·rw [sJ hi]
  refine ⟨?_,hc.2⟩
  have:=hc.1
  simp only [bV,inZ,Bool.and_eq_true,decide_eq_true_eq] at this ⊢
  simp only [mX] at this ⊢
  omega
 ·rw [BO] at hj
  rw [jl _ hi,jl _ hi]
  by_cases e:i=j
  ·rw [if_pos e,if_pos e]
   refine ⟨rfl,⟨h,hm⟩,?_,Int.le_refl _,fun a _=>Int.le_refl _⟩
   simp only [mX];omega
  ·rw [if_neg e,if_neg e]
   exact Es.rfl' (dm (hc.2 j hj fun g=>e g.symm)).2.2.1.2
theorem V3 {c0 c1 c2 c3 c5:Int} {M K C L:List Int} {T:List Tk} {i:Nat} (hi:i < T.length) {n:Int} (ha:eF c0 c1 c2 c3 M c5 K C (T.set i (mX (tk T i) n)) L=true):1≤n:=by
 have hc:=(jB.1 (fU.1 ha).1).2.1
 rw [sJ hi] at hc
 have hb:=dm hc.1
 simp only [mX] at hb
 omega
theorem Wp {T:List Tk} {i:Nat} (hi:i < T.length) (h:(tk T i).de≤(tk T i).pe):T.set i (mX (tk T i) (tk T i).pe)=T:=by
 have e:mX (tk T i) (tk T i).pe=T[i]:=by
  rw [← bP hi];unfold mX
  rw [show min (tk T i).de (tk T i).pe=(tk T i).de by omega]
 rw [e];exact List.set_getElem_self hi
end Go.Ab
