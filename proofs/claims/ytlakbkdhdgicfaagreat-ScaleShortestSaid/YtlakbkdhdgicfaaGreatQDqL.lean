import Derived.Test.YtlakbkdhdgicfaaGreatQDqJ
namespace Go.Ab
open Go Go.Proofs
set_option linter.unusedVariables false
set_option linter.unusedSimpArgs false
set_option maxRecDepth 100000
set_option maxHeartbeats 1000000
theorem Ij {x p q:Int} (hx:1≤x) (hp:1≤p) (h:p≤q):bW x q≤bW x p:=by
 have h0:0≤(x - 1) / q:=Int.ediv_nonneg (by omega) (by omega)
 have h1:(x - 1) / q * p≤(x - 1) / q * q:=Int.mul_le_mul_of_nonneg_left h h0
 have h2:(x - 1) / q * q≤x - 1:=Int.ediv_mul_le _ (by omega)
 have h3:=Int.le_ediv_of_mul_le (show 0 < p by omega) (Int.le_trans h1 h2)
 unfold bW
 rw [if_neg (show ¬ x=0 by omega),if_neg (show ¬ x=0 by omega)]
 by_cases hx2:x=cu
 ·rw [if_pos (show q=0∨x=cu from .inr hx2),if_pos (show p=0∨x=cu from .inr hx2)];exact Int.le_refl _
 ·rw [if_neg (show ¬ (q=0∨x=cu) by omega),if_neg (show ¬ (p=0∨x=cu) by omega)];omega
theorem Ht {a b c d:Int} (h:0≤a) (hac:a≤c) (hb:0≤b) (hbd:b≤d):dV a b≤dV c d:=by
 have h1:a * b≤c * d:=Int.mul_le_mul hac hbd hb (by omega)
 unfold dV cu;omega
def NJ (f g:Int→Int × Int) (l:List Int):Prop:=∀ i∈l,0≤(f i).1∧(f i).1≤(g i).1∧1≤(g i).2∧(g i).2≤(f i).2∧(f i).2≤cu
theorem JF {x:Int} (hx:1≤x) (hu:U x) {f g:Int→Int × Int}:∀ {l:List Int} {n m:Int},NJ f g l→n≤m→iR x (l.map f) n≤iR x (l.map g) m
 | [],n,m,_,hn=>hn
 | i::l,n,m,h,hn=>by
  obtain ⟨h1,h2,h3,h4,h5⟩:=h i (by simp)
  have hc:=dL hu (show U (f i).2 by unfold U;unfold cu at h5;omega)
  exact JF hx hu (l:=l) (fun j hj=>h j (by simp [hj])) (BL hn (Ht h1 h2 hc.1 (Ij hx h3 h4)))
theorem vC {f g:Int→Int × Int} {l:List Int} {n m d e:Int} (h:NJ f g l) (hn:n≤m) (he:e≤d) (hb:e≤1048576) (hf:kT (l.map g) m e=true):kT (l.map f) n d=true:=by
 rw [vF] at hf ⊢
 obtain ⟨y,h1,h2,h3⟩:=hf
 refine ⟨y,h1,by omega,Int.le_trans (JF h1 (by unfold U;omega) h hn) h3⟩
theorem Pn {f:Int→Int × Int} {l:List Int} {a b d:Int} (h:NJ f f l) (hb:d≤1048576):kT (l.map f) (max a b) d=true↔kT (l.map f) a d=true∧kT (l.map f) b d=true:=by
 constructor
 ·exact fun g=>⟨vC h (by omega) (Int.le_refl d) hb g,vC h (by omega) (Int.le_refl d) hb g⟩
 ·rintro ⟨g1,g2⟩
  rcases Int.le_total a b with hab | hab
  ·rw [show max a b=b by omega];exact g2
  ·rw [show max a b=a by omega];exact g1
theorem Bq {f:Int→Int × Int} {l:List Int} {d:Int} (h:NJ f f l) (hb:d≤1048576) (k:Int→Int):∀ (r:List Int) (n:Int),kT (l.map f) (r.foldl (fun n i=>max n (k i)) n) d=true↔kT (l.map f) n d=true∧∀ i∈r,kT (l.map f) (k i) d=true
 | [],n=>by simp
 | i::r,n=>by
  rw [List.foldl_cons,Bq h hb k r,Pn h hb]
  simp only [List.mem_cons,forall_eq_or_imp,and_assoc]
def oV (C:List Int) (hit miss:Int) (t:Tk) (pa:Int):Int :=
 if t.th≥pa then ig hit miss false t.pg else
  min (ig hit miss false t.pg) (if t.fl > 0 then t.fl + 2 * dY C hit miss t.th t.pg pa else dY C hit miss t.th t.pg pa)
theorem uk {f g:Tk→Bool} {S T:List Tk}:∀ {n:Nat},(∀ m,m < n→f (tk S m)=g (tk T m))→nN f S n=nN g T n
 | 0,_=>rfl
 | n + 1,h=>by rw [iL,iL,uk (n:=n) fun m hm=>h m (by omega),h n (by omega)]
theorem Fz {f:Tk→Bool} {T:List Tk} {n:Nat} {i:Int}:i∈nN f T n↔0≤i∧i < n∧f (tk T i.toNat)=true:=by
 simp only [nN,List.mem_map,List.mem_filter,List.mem_range]
 constructor
 ·rintro ⟨m,⟨h1,h2⟩,rfl⟩
  exact ⟨by omega,by omega,by rw [Int.toNat_natCast];exact h2⟩
 ·rintro ⟨h1,h2,h3⟩
  exact ⟨i.toNat,⟨by omega,h3⟩,by omega⟩
def Pd (T:List Tk):Prop:=∀ t∈T,1≤t.pe∧t.pe≤1048576∧t.de≤1048576
theorem Cf.pd {c0 c1 c2 c3 c5:Int} {M K C L:List Int} {T:List Tk} (h:Cf c0 c1 c2 c3 M c5 K C T L):Pd T:=fun t ht=>by
 have:=dm (h.nums t ht);omega
theorem Pd.at {T:List Tk} (h:Pd T) {i:Nat} (hi:i < T.length):1≤(tk T i).pe∧(tk T i).pe≤1048576∧(tk T i).de≤1048576:=by
 rw [bP hi];exact h _ (List.getElem_mem hi)
structure Es (C:List Int) (hit miss:Int) (s t:Tk):Prop where
 p:s.p=t.p
 pe:t.pe≤s.pe∧s.pe≤1048576
 de:t.de≤s.de
 c:ig hit miss false s.pg≤ig hit miss false t.pg
 b:∀ a,t.p < a→oV C hit miss s a≤oV C hit miss t a
section
variable {c2 c3:Int} {C:List Int} {S T:List Tk}
theorem Ji (hP:Pd T) (a:Int):NJ (fun i=>ldP c2 c3 (tk T i.toNat)) (fun i=>ldP c2 c3 (tk T i.toNat)) (bT T a):=by
 intro i hi
 have h1:=gY hi
 have h2:=hP.at (show i.toNat < T.length by omega)
 have h3:=lG c2 c3 false (tk T i.toNat).pg
 simp only [ldP,cu]
 omega
theorem uj (hP:Pd T) {i:Nat} (hi:i < T.length):jc c2 c3 C T i=true↔kT (ldL c2 c3 T i) 0 (tk T i).de=true∧∀ j,j < T.length→(tk T j).p < (tk T i).p→kT (ldL c2 c3 T i) (oV C c2 c3 (tk T j) (tk T i).p) (tk T i).de=true:=by
 have h1:=Bq (Ji hP (c2:=c2) (c3:=c3) (i:Int)) (hP.at hi).2.2 (fun j=>sU C T c2 c3 j i) (fO T i) 0
 show kT (ldL c2 c3 T i) (qY C T c2 c3 i (fO T i)) (tk T i).de=true↔_
 unfold qY ldL
 rw [h1]
 refine and_congr Iff.rfl ⟨fun h j hj hp=>h (j:Int) (Fz.2 ⟨by omega,by omega,by simpa using hp⟩),fun h j hj=>?_⟩
 obtain ⟨g1,g2,g3⟩:=Fz.1 hj
 have:=h j.toNat (by omega) (by simpa using g3)
 simpa [sU,oV] using this
theorem xg {n:Nat}:gQ c2 c3 C T n=true↔∀ i,i < n→jc c2 c3 C T i=true:=by simp [gQ]
theorem Dz (hP:Pd T) (hQ:Pd S) (hl:S.length=T.length) (h:∀ i,i < T.length→Es C c2 c3 (tk S i) (tk T i)) (ha:gQ c2 c3 C T T.length=true):gQ c2 c3 C S S.length=true:=by
 rw [xg] at ha ⊢
 intro i hi
 rw [hl] at hi
 have h1:=(uj hP hi).1 (ha i hi)
 rw [uj hQ (by omega)]
 have hp:∀ j,j < T.length→(tk S j).p=(tk T j).p:=fun j hj=>(h j hj).p
 have hH:bT S i=bT T i:=by
  unfold bT
  rw [hl]
  exact uk fun m hm=>by rw [hp m hm,Int.toNat_natCast,hp i hi]
 have hle:NJ (fun i=>ldP c2 c3 (tk S i.toNat)) (fun i=>ldP c2 c3 (tk T i.toNat)) (bT T i):=by
  intro j hj
  have g1:=gY hj
  have hj':j.toNat < T.length:=by omega
  have g2:=hP.at hj'
  have g3:=lG c2 c3 false (tk S j.toNat).pg
  have g4:=h _ hj'
  have g5:=g4.pe
  have g6:=g4.c
  simp only [ldP,cu]
  omega
 have hdi:=(h i hi).de
 have hdb:=(hP.at hi).2.2
 unfold ldL at h1 ⊢
 rw [hH]
 refine ⟨vC hle (Int.le_refl 0) hdi hdb h1.1,fun j hj hpj=>?_⟩
 rw [hl] at hj
 rw [hp j hj,hp i hi] at hpj
 rw [hp i hi]
 exact vC hle ((h j hj).b _ hpj) hdi hdb (h1.2 j hj hpj)
end
def Jo (c0 c1 c2 c3:Int) (M:List Int) (c5:Int) (K C:List Int) (n:Nat) (L:List Int):Prop :=
 ji c0 c1 c2 c3=true∧(M.length≤4∧c5≤4∧K.length≤4∧C.length≤4∧n≤8∧L.length≤8)∧n≠0∧0≤c5∧(dR M 1 8 && dR K 1 8 && dR C 0 63 && dR L 0 ((n:Int) - 1))=true
def uQ (nm ng nc:Int) (C:List Int) (t:Tk):Prop:=gJ nm ng nc C.length t.pg=0∧uf C t.p t.pg=false
theorem Ag {nm ng nc:Int} {C:List Int} {t:Tk} {A:List Tk}:fG nm ng nc C t A=0↔bV t=true∧uQ nm ng nc C t∧∀ x∈A,x.p≠t.p:=by
 have e:jk A t.p=true↔¬ ∀ x∈A,x.p≠t.p:=by
  simp [jk]
 unfold fG uQ
 by_cases h1:bV t=false
 ·rw [if_pos h1];simp [h1]
 ·rw [if_neg h1]
  have h1:bV t=true:=by simpa using h1
  by_cases h2:gJ nm ng nc C.length t.pg=0
  ·rw [if_neg (by simp [h2])]
   by_cases h3:uf C t.p t.pg=true
   ·rw [if_pos h3];simp [h3]
   ·rw [if_neg h3]
    have h3:uf C t.p t.pg=false:=by simpa using h3
    by_cases h4:jk A t.p=true
    ·rw [if_pos h4]
     exact ⟨(fun h=>by cases h),fun h=>absurd h.2.2 (e.1 h4)⟩
    ·rw [if_neg h4]
     refine ⟨fun _=>⟨h1,⟨h2,h3⟩,?_⟩,fun _=>rfl⟩
     exact Classical.not_not.1 fun h=>h4 (e.2 h)
  ·rw [if_pos h2];simp [h2]
theorem Jq {nm ng nc:Int} {C:List Int}:∀ {R A:List Tk},goT nm ng nc C A R=0↔(∀ t∈R,bV t=true)∧(∀ t∈R,uQ nm ng nc C t)∧(∀ t∈R,∀ x∈A,x.p≠t.p)∧R.Pairwise fun a b=>a.p≠b.p
 | [],A=>by simp [goT]
 | t::R,A=>by
  have ih:=Jq (nm:=nm) (ng:=ng) (nc:=nc) (C:=C) (R:=R) (A:=A++[t])
  rw [goT]
  by_cases h:fG nm ng nc C t A=0
  ·rw [if_neg (by simp [h]),ih]
   obtain ⟨h1,h2,h3⟩:=Ag.1 h
   simp only [List.mem_append,List.mem_singleton,List.pairwise_cons,List.forall_mem_cons]
   constructor
   ·rintro ⟨g1,g2,g3,g4⟩
    exact ⟨⟨h1,g1⟩,⟨h2,g2⟩,⟨h3,fun s hs x hx=>g3 s hs x (.inl hx)⟩,fun s hs=>g3 s hs t (.inr rfl),g4⟩
   ·rintro ⟨⟨_,g1⟩,⟨_,g2⟩,⟨_,g3⟩,g4,g5⟩
    refine ⟨g1,g2,fun s hs x hx=>?_,g5⟩
    rcases hx with hx | rfl
    ·exact g3 s hs x hx
    ·exact g4 s hs
  ·rw [if_pos h]
   refine ⟨fun g=>absurd g h,fun g=>absurd (Ag.2 ⟨g.1 t (by simp),g.2.1 t (by simp),g.2.2.1 t (by simp)⟩) h⟩
theorem jB {c0 c1 c2 c3 c5:Int} {M K C L:List Int} {T:List Tk}:bK c0 c1 c2 c3 M c5 K C T L=0↔Jo c0 c1 c2 c3 M c5 K C T.length L∧(∀ t∈T,bV t=true)∧(∀ t∈T,uQ M.length c5 K.length C t)∧T.Pairwise fun a b=>a.p≠b.p:=by
 unfold bK Jo
 by_cases h1:ji c0 c1 c2 c3=true
 ·rw [if_neg (by simp [h1])]
  by_cases h2:(M.length≤4∧c5≤4∧K.length≤4∧C.length≤4∧T.length≤8∧L.length≤8)
  ·rw [if_neg (by simpa using h2)]
   by_cases h3:T.length=0∨c5 < 0
   ·rw [if_pos h3]
    exact ⟨(fun h=>by cases h),fun h=>absurd h3 (by have:=h.1.2.2;omega)⟩
   ·rw [if_neg h3]
    by_cases h4:(dR M 1 8 && dR K 1 8 && dR C 0 63 && dR L 0 ((T.length:Int) - 1))=true
    ·rw [if_neg (by simp [h4]),Jq]
     exact ⟨fun h=>⟨⟨h1,h2,by omega,by omega,h4⟩,h.1,h.2.1,h.2.2.2⟩,fun h=>⟨h.2.1,h.2.2.1,(fun _ _ x hx=>by cases hx),h.2.2.2⟩⟩
    ·rw [if_pos (by simpa using h4)]
     exact ⟨(fun h=>by cases h),fun h=>absurd h.1.2.2.2.2 h4⟩
  ·rw [if_pos h2]
   exact ⟨(fun h=>by cases h),fun h=>absurd h.1.2.1 h2⟩
 ·rw [if_pos (by simpa using h1)]
  exact ⟨(fun h=>by cases h),fun h=>absurd h.1.1 h1⟩
structure Like (nm ng nc:Int) (C:List Int) (S T:List Tk):Prop where
 l:S.length=T.length
 p:∀ i,i < T.length→(tk S i).p=(tk T i).p
 o:∀ i,i < T.length→(uQ nm ng nc C (tk S i)↔uQ nm ng nc C (tk T i))
theorem mV {T:List Tk} {q:Tk→Prop}:(∀ t∈T,q t)↔∀ i,i < T.length→q (tk T i):=by
 constructor
 ·intro h i hi;rw [bP hi];exact h _ (List.getElem_mem hi)
 ·intro h t ht
  obtain ⟨i,hi,rfl⟩:=List.mem_iff_getElem.1 ht
  rw [← bP hi];exact h i hi
theorem pw_tk {T:List Tk}:(T.Pairwise fun a b=>a.p≠b.p)↔∀ i j,i < j→j < T.length→(tk T i).p≠(tk T j).p:=by
 rw [List.pairwise_iff_getElem]
 constructor
 ·intro h i j hij hj;rw [bP hj,bP (by omega)];exact h i j (by omega) hj hij
 ·intro h i j hi hj hij;have:=h i j hij hj;rw [bP hj,bP (by omega)] at this;exact this
theorem zD {c0 c1 c2 c3 c5:Int} {M K C L:List Int} {S T:List Tk} (h:Like M.length c5 K.length C S T):bK c0 c1 c2 c3 M c5 K C S L=0↔(Jo c0 c1 c2 c3 M c5 K C T.length L∧(∀ t∈T,uQ M.length c5 K.length C t)∧T.Pairwise fun a b=>a.p≠b.p)∧∀ t∈S,bV t=true:=by
 have e1:(∀ t∈S,uQ M.length c5 K.length C t)↔∀ t∈T,uQ M.length c5 K.length C t:=by
  rw [mV,mV,h.l]
  exact ⟨fun g i hi=>(h.o i hi).1 (g i hi),fun g i hi=>(h.o i hi).2 (g i hi)⟩
 have e2:(S.Pairwise fun a b=>a.p≠b.p)↔T.Pairwise fun a b=>a.p≠b.p:=by
  rw [pw_tk,pw_tk,h.l]
  exact ⟨fun g i j hij hj=>by rw [← h.p i (by omega),← h.p j hj];exact g i j hij hj,fun g i j hij hj=>by rw [h.p i (by omega),h.p j hj];exact g i j hij hj⟩
 rw [jB,e1,e2,h.l]
 exact ⟨fun g=>⟨⟨g.1,g.2.2.1,g.2.2.2⟩,g.2.1⟩,fun g=>⟨g.1.1,g.2,g.1.2.1,g.1.2.2⟩⟩
theorem fU {c0 c1 c2 c3 c5:Int} {M K C L:List Int} {T:List Tk}:eF c0 c1 c2 c3 M c5 K C T L=true↔bK c0 c1 c2 c3 M c5 K C T L=0∧gQ c2 c3 C T T.length=true:=by
 simp [eF]
theorem aal {c0 c1 c2 c3 c5:Int} {M K C L:List Int} {S T:List Tk} (h:Like M.length c5 K.length C S T) (hn:∀ t∈S,bV t=true) (he:∀ i,i < T.length→Es C c2 c3 (tk S i) (tk T i)) (ha:eF c0 c1 c2 c3 M c5 K C T L=true):eF c0 c1 c2 c3 M c5 K C S L=true:=by
 rw [fU] at ha ⊢
 have h1:=ha.1
 rw [jB] at h1
 have h2:bK c0 c1 c2 c3 M c5 K C S L=0:=(zD h).2 ⟨⟨h1.1,h1.2.2.1,h1.2.2.2⟩,hn⟩
 exact ⟨h2,Dz (dP ha.1).pd (dP h2).pd h.l he ha.2⟩
end Go.Ab
