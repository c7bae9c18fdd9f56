import Derived.Test.YtlakbkdhdgicfaaGreatQDqM
namespace Go.Ab
open Go Go.Proofs
set_option linter.unusedVariables false
set_option linter.unusedSimpArgs false
set_option maxRecDepth 100000
set_option maxHeartbeats 1000000
def nZ (T:List Tk) (l:List Int) (m:Nat):List Tk:=(List.range T.length).map fun i=>if i < m then iW (tk T i) (l.getD i 0) else tk T i
theorem eH (T:List Tk) (l:List Int) (m:Nat):(nZ T l m).length=T.length:=by simp [nZ]
theorem uF (T:List Tk) (l:List Int) (m:Nat) {i:Nat} (hi:i < T.length):tk (nZ T l m) i=if i < m then iW (tk T i) (l.getD i 0) else tk T i:=by
 rw [bP (by rw [eH];exact hi)]
 simp [nZ]
theorem NW {S T:List Tk} (hl:S.length=T.length) (h:∀ i,i < T.length→tk S i=tk T i):S=T:=by
 apply List.ext_getElem hl
 intro i h1 h2
 rw [← bP h1,← bP h2];exact h i h2
theorem Gz (T:List Tk) (l:List Int):nZ T l 0=T:=NW (eH _ _ _) fun i hi=>by rw [uF T l 0 hi,if_neg (by omega)]
theorem MC (T:List Tk) (l:List Int) {m:Nat} (hm:m < T.length):(nZ T l m).set m (iW (tk T m) (l.getD m 0))=nZ T l (m + 1) :=
 NW (by simp [eH]) fun i hi=>by
  rw [eH] at hi
  rw [jl _ (by rw [eH];exact hm),uF T l (m + 1) hi,uF T l m hi]
  by_cases e:m=i
  ·subst e;rw [if_pos rfl,if_pos (by omega)]
  ·rw [if_neg e]
   by_cases h:i < m
   ·rw [if_pos h,if_pos (by omega)]
   ·rw [if_neg h,if_neg (by omega)]
def thr (T:List Tk) (l:List Int):List Tk:=nZ T l T.length
theorem kN (T:List Tk) (l:List Int):(thr T l).length=T.length:=eH ..
theorem kz (T:List Tk) (l:List Int) {i:Nat} (hi:i < T.length):tk (thr T l) i=iW (tk T i) (l.getD i 0):=by
 unfold thr;rw [uF T l _ hi,if_pos hi]
def okT (C:List Int) (c2 c3:Int) (T:List Tk) (j:Nat) (n:Int):Prop :=
 bV (iW (tk T j) n)=true∧∀ i,i < T.length→(tk T j).p < (tk T i).p→kT (ldL c2 c3 T i) (oV C c2 c3 (iW (tk T j) n) (tk T i).p) (tk T i).de=true
def baseT (c0 c1 c2 c3:Int) (M:List Int) (c5:Int) (K C:List Int) (T:List Tk) (L:List Int):Prop :=
 (Jo c0 c1 c2 c3 M c5 K C T.length L∧(∀ t∈T,uQ M.length c5 K.length C t)∧T.Pairwise fun a b=>a.p≠b.p)∧∀ i,i < T.length→kT (ldL c2 c3 T i) 0 (tk T i).de=true
section
variable {c0 c1 c2 c3 c5:Int} {M K C L:List Int} {T:List Tk}
theorem O1 (nm ng nc:Int) (C:List Int) (T:List Tk) (l:List Int):Like nm ng nc C (thr T l) T :=
 ⟨kN T l,fun i hi=>by rw [kz T l hi];rfl,fun i hi=>by rw [kz T l hi];exact Iff.rfl⟩
theorem nums_pd {t:Tk} {n:Int} (h:bV (iW t n)=true):1≤t.pe∧t.pe≤1048576∧t.de≤1048576:=by
 have:=dm h
 simp only [iW] at this
 omega
theorem ldL_thr (l:List Int) {i:Nat} (hi:i < T.length):ldL c2 c3 (thr T l) i=ldL c2 c3 T i:=by
 have hH:bT (thr T l) i=bT T i:=by
  unfold bT
  rw [kN]
  exact uk fun m hm=>by rw [kz T l hm,Int.toNat_natCast,kz T l hi];rfl
 unfold ldL
 rw [hH]
 refine List.map_congr_left fun j hj=>?_
 have:=gY hj
 rw [kz T l (show j.toNat < T.length by omega)]
 rfl
theorem jL (l:List Int):eF c0 c1 c2 c3 M c5 K C (thr T l) L=true↔baseT c0 c1 c2 c3 M c5 K C T L∧∀ j,j < T.length→okT C c2 c3 T j (l.getD j 0):=by
 have key:bK c0 c1 c2 c3 M c5 K C (thr T l) L=0→(gQ c2 c3 C (thr T l) (thr T l).length=true↔(∀ i,i < T.length→kT (ldL c2 c3 T i) 0 (tk T i).de=true)∧∀ j,j < T.length→∀ i,i < T.length→(tk T j).p < (tk T i).p→kT (ldL c2 c3 T i) (oV C c2 c3 (iW (tk T j) (l.getD j 0)) (tk T i).p) (tk T i).de=true):=by
  intro hc
  have hP:=(dP hc).pd
  rw [xg,kN]
  have h1:∀ i,i < T.length→(jc c2 c3 C (thr T l) i=true↔kT (ldL c2 c3 T i) 0 (tk T i).de=true∧∀ j,j < T.length→(tk T j).p < (tk T i).p→kT (ldL c2 c3 T i) (oV C c2 c3 (iW (tk T j) (l.getD j 0)) (tk T i).p) (tk T i).de=true):=by
   intro i hi
   rw [uj hP (by rw [kN];exact hi),ldL_thr l hi,kN,kz T l hi]
   refine and_congr Iff.rfl ⟨fun g j hj hp=>?_,fun g j hj hp=>?_⟩
   ·have:=g j hj (by rw [kz T l hj];exact hp)
    rwa [kz T l hj] at this
   ·rw [kz T l hj] at hp ⊢
    exact g j hj hp
  constructor
  ·exact fun g=>⟨fun i hi=>((h1 i hi).1 (g i hi)).1,fun j hj i hi hp=>((h1 i hi).1 (g i hi)).2 j hj hp⟩
  ·exact fun g i hi=>(h1 i hi).2 ⟨g.1 i hi,fun j hj hp=>g.2 j hj i hi hp⟩
 have hn:(∀ t∈thr T l,bV t=true)↔∀ j,j < T.length→bV (iW (tk T j) (l.getD j 0))=true:=by
  rw [mV,kN]
  exact ⟨fun g j hj=>by have:=g j hj;rwa [kz T l hj] at this,fun g j hj=>by rw [kz T l hj];exact g j hj⟩
 have hc:=zD (c0:=c0) (c1:=c1) (c2:=c2) (c3:=c3) (L:=L) (O1 M.length c5 K.length C T l)
 rw [hn] at hc
 rw [fU]
 constructor
 ·rintro ⟨h1,h2⟩
  have h3:=(key h1).1 h2
  have h4:=hc.1 h1
  exact ⟨⟨h4.1,h3.1⟩,fun j hj=>⟨h4.2 j hj,h3.2 j hj⟩⟩
 ·rintro ⟨⟨h1,h2⟩,h3⟩
  have h4:=hc.2 ⟨h1,fun j hj=>(h3 j hj).1⟩
  exact ⟨h4,(key h4).2 ⟨h2,fun j hj=>(h3 j hj).2⟩⟩
theorem CG {l:List Int} (h:eF c0 c1 c2 c3 M c5 K C (thr T l) L=true):Pd T:=by
 unfold Pd
 rw [mV]
 exact fun i hi=>nums_pd ((jL l).1 h |>.2 i hi).1
theorem yR {j:Nat} {n:Int} (h:okT C c2 c3 T j n):(tk T j).p≤n∧n≤63:=by
 have:=(dm h.1).2.1
 exact this
theorem EJ (hP:Pd T) {j:Nat} {n m:Int} (hn:(tk T j).p≤n∧n≤63) (hm:okT C c2 c3 T j m) (h:∀ i,i < T.length→(tk T j).p < (tk T i).p→n≥(tk T i).p→m≥(tk T i).p):okT C c2 c3 T j n:=by
 refine ⟨?_,fun i hi hp=>?_⟩
 ·have:=hm.1
  simp only [bV,inZ,Bool.and_eq_true,decide_eq_true_eq] at this ⊢
  simp only [iW] at this ⊢
  omega
 ·have h1:=hm.2 i hi hp
  refine vC (Ji hP (c2:=c2) (c3:=c3) (i:Int)) ?_ (Int.le_refl _) (hP.at hi).2.2 h1
  rcases Int.le_total n m with hnm | hnm
  ·exact blkT_th _ hnm
  ·rw [Nw (C:=C) (hit:=c2) (miss:=c3) (tk T j) (n:=n) (m:=m) (a:=(tk T i).p) ⟨h i hi hp,fun g=>by omega⟩]
   exact Int.le_refl _
theorem EK (hP:Pd T) {j:Nat} {n m:Int} (hn:(tk T j).p≤n) (h:n≤m) (hm:okT C c2 c3 T j m):okT C c2 c3 T j n :=
 EJ hP ⟨hn,by have:=yR hm;omega⟩ hm fun i hi hp g=>by omega
def bI (T:List Tk):List Int:=T.map Tk.p
theorem oO {i:Nat} (hi:i < T.length):(bI T).getD i 0=(tk T i).p:=by
 unfold bI
 rw [List.getD_eq_getElem?_getD,List.getElem?_map,List.getElem?_eq_getElem hi,bP hi];rfl
theorem GX {l:List Int} (h:eF c0 c1 c2 c3 M c5 K C (thr T l) L=true):eF c0 c1 c2 c3 M c5 K C (thr T (bI T)) L=true:=by
 have hP:=CG h
 rw [jL] at h ⊢
 refine ⟨h.1,fun j hj=>?_⟩
 rw [oO hj]
 exact EK hP (Int.le_refl _) (yR (h.2 j hj)).1 (h.2 j hj)
theorem Ou (hL:eF c0 c1 c2 c3 M c5 K C (thr T (bI T)) L=true) {j:Nat} (hj:j < T.length) (n:Int):eF c0 c1 c2 c3 M c5 K C (thr T ((bI T).set j n)) L=true↔okT C c2 c3 T j n:=by
 rw [jL] at hL ⊢
 have hg:∀ i,((bI T).set j n).getD i 0=if j=i then n else (bI T).getD i 0:=fun i=>by
  rw [List.getD_eq_getElem?_getD,List.getD_eq_getElem?_getD,List.getElem?_set]
  by_cases e:j=i
  ·rw [if_pos e,if_pos e,if_pos (by simp [bI];omega)];rfl
  ·rw [if_neg e,if_neg e]
 constructor
 ·intro h
  have:=h.2 j hj
  rwa [hg,if_pos rfl] at this
 ·intro h
  refine ⟨hL.1,fun i hi=>?_⟩
  rw [hg]
  by_cases e:j=i
  ·subst e;rw [if_pos rfl];exact h
  ·rw [if_neg e];exact hL.2 i hi
def zV (C:List Int) (c2 c3:Int) (T:List Tk) (j:Nat) (b:Int):Prop:=okT C c2 c3 T j b∧∀ n,okT C c2 c3 T j n→n≤b
def fH (T:List Tk) (j:Nat):List Int:=63::((T.filter fun t=>decide (t.p > (tk T j).p)).map fun t=>t.p - 1)
theorem GH {j:Nat} {i:Nat} (hi:i < T.length) (h:(tk T j).p < (tk T i).p):(tk T i).p - 1∈fH T j:=by
 refine List.mem_cons_of_mem _ (List.mem_map.2 ⟨tk T i,List.mem_filter.2 ⟨by rw [bP hi];exact List.getElem_mem hi,by simpa using h⟩,rfl⟩)
theorem N8 (hn:∀ t∈T,t.p≤63) {j:Nat} (hj:j < T.length) {v:Int} (hv:v∈fH T j):(tk T j).p≤v∧v≤63:=by
 have hp:(tk T j).p≤63:=by rw [bP hj];exact hn _ (List.getElem_mem hj)
 rcases List.mem_cons.1 hv with rfl | hv
 ·omega
 ·obtain ⟨t,ht,rfl⟩:=List.mem_map.1 hv
  obtain ⟨h1,h2⟩:=List.mem_filter.1 ht
  have:=hn t h1
  simp only [decide_eq_true_eq] at h2
  omega
theorem Ny (hP:Pd T) (hn:∀ t∈T,t.p≤63) {j:Nat} (hj:j < T.length) {b v:Int} (hb:okT C c2 c3 T j b) (hv:v∈fH T j) (hno:¬ okT C c2 c3 T j v) (hs:∀ w∈fH T j,w≤b∨v≤w):zV C c2 c3 T j b:=by
 refine ⟨hb,fun n hok=>?_⟩
 rcases Int.lt_or_le b n with hlt | hle
 ·exfalso
  have hvb:=N8 hn hj hv
  refine hno (EJ hP hvb hok fun i hi hp hge=>?_)
  rcases hs _ (GH hi hp) with h1 | h1 <;> omega
 ·exact hle
theorem PV {j:Nat} {b:Int} (hb:okT C c2 c3 T j b) (hs:∀ w∈fH T j,w≤b):zV C c2 c3 T j b :=
 ⟨hb,fun n hok=>by have:=yR hok;have:=hs 63 (by simp [fH]);omega⟩
theorem Nz (hL:eF c0 c1 c2 c3 M c5 K C (thr T (bI T)) L=true) {B:List Int} (hB:∀ j,j < T.length→zV C c2 c3 T j (B.getD j 0)):eF c0 c1 c2 c3 M c5 K C (thr T B) L=true:=by
 rw [jL] at hL ⊢
 exact ⟨hL.1,fun j hj=>(hB j hj).1⟩
theorem BI {B l:List Int} (hB:∀ j,j < T.length→zV C c2 c3 T j (B.getD j 0)) (h:eF c0 c1 c2 c3 M c5 K C (thr T l) L=true):∀ j,j < T.length→l.getD j 0≤B.getD j 0:=fun j hj=>(hB j hj).2 _ (((jL l).1 h).2 j hj)
end
end Go.Ab
