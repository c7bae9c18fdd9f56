import Derived.WalkKit
namespace Go.Ab
set_option linter.unusedVariables false
set_option linter.unusedSimpArgs false
open Go
inductive AV where
 | int (k:IntKind) (n:Int)
 | bool (b:Bool)
 | sb (b:Bool)
 | str (s:ByteArray)
 | nilp
 | ptr (id tot row off:Nat)
 | aA (id off:Nat)
 | iptr (cells:List AV)
 | nils
 | sl (id tot off len:Nat)
 | inl (sz:Nat) (rows:List (List AV))
 | fn (f:Fn) (first cap:List AV)
 | nilf
 | iface (t:TypeId) (v:AV)
 | nili
 | agg (cs:List AV)
 | tup (vs:List AV)
 | map (id:Nat)
 | nilm
 | bn
 deriving Inhabited
inductive Shp where
 | row (m sz:Nat)
 | box (n:Nat)
 | mp
 deriving DecidableEq
structure RS where
 W0:World
 D:Nat→Prop
 ρ:Nat→Option (Nat × Nat)
 φ:Nat→Nat→Option Value
abbrev Sh:=Nat→Option Shp
def noSh:Sh:=fun _=>none
mutual
def rel (S:RS):AV→Sh→Value→Prop
 | .int k n,_,v=>v=.int k n
 | .bool b,_,v=>v=.bool b
 | .sb b,_,v=>v=.bool b
 | .str s,_,v=>v=.string s
 | .nilp,_,v=>v=.pointer none
 | .ptr id t r o,T,v=>∃ m sz B' o',T id=some (.row m sz)∧t≤m∧v=.pointer (some ⟨B',o',none⟩)∧(t=m→∃ c,S.ρ id=some (B',c)∧o'=r * sz + o)
 | .aA id o,T,v=>∃ n B c,T id=some (.box n)∧S.ρ id=some (B,c)∧v=.pointer (some ⟨B,o,none⟩)
 | .iptr cs,_,v=>∃ B o,v=.pointer (some ⟨B,o,none⟩)∧fz S B o cs
 | .nils,_,v=>∃ a,v=.slice a 0 0
 | .sl id t o n,T,v=>∃ m sz,T id=some (.row m sz)∧t≤m∧v.oneCell'=true∧(t=m→o + n≤m ∧
   match S.ρ id with
   | some (B,c)=>∃ a,v=.slice a n (c - o)∧(o < c→a=some ⟨B,o * sz,none⟩)
   | none=>n=0∧∃ a,v=.slice a 0 0)
 | .inl sz rows,_,v=>∃ a c,v=.slice a rows.length c∧rows.length≤c∧(rows=[]∨∃ B o,a=some ⟨B,o,none⟩∧fzs S B o sz rows)
 | .fn f fi ca,T,v=>∃ a b,v=.func f a b∧aG S fi T a.toList∧aG S ca T b.toList
 | .nilf,_,v=>v=.nilFunc
 | .iface t x,T,v=>∃ u,v=.iface t u∧rel S x T u
 | .nili,_,v=>v=.nilIface
 | .agg cs,T,v=>∃ us,v=.agg us∧aG S cs T us.toList∧∀ u∈us.toList,u.oneCell'=true
 | .tup cs,T,v=>∃ us,v=.tuple us∧aG S cs T us.toList
 | .map id,T,v=>∃ B c,T id=some .mp∧S.ρ id=some (B,c)∧v=.map (some B)
 | .nilm,_,v=>v=.map none
 | .bn,_,_=>True
def aG (S:RS):List AV→Sh→List Value→Prop
 | [],_,vs=>vs=[]
 | c::cs,T,vs=>∃ v vs',vs=v::vs'∧rel S c T v∧aG S cs T vs'
def fz (S:RS) (B o:Nat):List AV→Prop
 | []=>True
 | c::cs=>(∃ v,S.φ B o=some v∧rel S c noSh v∧v.oneCell'=true)∧fz S B (o + 1) cs
def fzs (S:RS) (B o sz:Nat):List (List AV)→Prop
 | []=>True
 | r::rs=>r.length=sz∧fz S B o r∧fzs S B (o + sz) sz rs
end
structure Ext (S:RS) (T:Sh) (S':RS) (T':Sh):Prop where
 W0:S'.W0=S.W0
 D:S'.D=S.D
 fro:∀ B o v,S.φ B o=some v→S'.φ B o=some v
 fnw:∀ B o v,S'.φ B o=some v→S.φ B o=some v∨¬ S.D B
 box:∀ id n,T id=some (.box n)→T' id=some (.box n)∧S'.ρ id=S.ρ id
 mp:∀ id,T id=some .mp→T' id=some .mp∧S'.ρ id=S.ρ id
 row:∀ id m sz,T id=some (.row m sz)→∃ m',T' id=some (.row m' sz)∧m≤m'∧(m'=m→S'.ρ id=S.ρ id)
theorem Ext.refl (S:RS) (T:Sh):Ext S T S T :=
 ⟨rfl,rfl,fun _ _ _ h=>h,fun _ _ _ h=>.inl h,fun _ _ h=>⟨h,rfl⟩,fun _ h=>⟨h,rfl⟩,fun _ m _ h=>⟨m,h,Nat.le_refl _,fun _=>rfl⟩⟩
theorem Ext.trans {S S' S'':RS} {T T' T'':Sh} (h:Ext S T S' T') (k:Ext S' T' S'' T''):Ext S T S'' T'' where
 W0:=k.W0.trans h.W0
 D:=k.D.trans h.D
 fro:=fun B o v hv=>k.fro B o v (h.fro B o v hv)
 fnw:=fun B o v hv=>by
  rcases k.fnw B o v hv with h1 | h1
  ·exact h.fnw B o v h1
  ·exact .inr (by rwa [h.D] at h1)
 box:=fun id n hn=>by
  obtain ⟨a,b⟩:=h.box id n hn
  obtain ⟨c,d⟩:=k.box id n a
  exact ⟨c,d.trans b⟩
 mp:=fun id hn=>by
  obtain ⟨a,b⟩:=h.mp id hn
  obtain ⟨c,d⟩:=k.mp id a
  exact ⟨c,d.trans b⟩
 row:=fun id m sz hn=>by
  obtain ⟨m1,a,b,c⟩:=h.row id m sz hn
  obtain ⟨m2,d,e,f⟩:=k.row id m1 sz a
  refine ⟨m2,d,Nat.le_trans b e,fun h2=>?_⟩
  have h3:m2=m1:=by omega
  have h4:m1=m:=by omega
  exact (f h3).trans (c h4)
theorem Ext.noSh {S S':RS} {T T':Sh} (h:Ext S T S' T'):Ext S noSh S' noSh :=
 ⟨h.W0,h.D,h.fro,h.fnw,fun _ _ h=>(by cases h),fun _ h=>(by cases h),fun _ _ _ h=>(by cases h)⟩
structure vX (S:RS) (T:Sh) (S':RS) (T':Sh):Prop where
 fro:∀ B o v,S.φ B o=some v→S'.φ B o=some v
 box:∀ id n,T id=some (.box n)→T' id=some (.box n)∧S'.ρ id=S.ρ id
 mp:∀ id,T id=some .mp→T' id=some .mp∧S'.ρ id=S.ρ id
 row:∀ id m sz,T id=some (.row m sz)→∃ m',T' id=some (.row m' sz)∧m≤m'∧(m'=m→S'.ρ id=S.ρ id)
theorem vX.noSh {S S':RS} {T T':Sh} (h:vX S T S' T'):vX S noSh S' noSh :=
 ⟨h.fro,fun _ _ h=>(by cases h),fun _ h=>(by cases h),fun _ _ _ h=>(by cases h)⟩
theorem Ext.zero {S S':RS} {T T':Sh} (h:Ext S T S' T'):vX S T S' T':=⟨h.fro,h.box,h.mp,h.row⟩
mutual
theorem dM {S S':RS}:∀ (c:AV) (T T':Sh) (v:Value),vX S T S' T'→rel S c T v→rel S' c T' v
 | .int ..,_,_,_,_,h=>h
 | .bool ..,_,_,_,_,h=>h
 | .sb ..,_,_,_,_,h=>h
 | .str ..,_,_,_,_,h=>h
 | .nilp,_,_,_,_,h=>h
 | .nils,_,_,_,_,h=>h
 | .nilf,_,_,_,_,h=>h
 | .nili,_,_,_,_,h=>h
 | .nilm,_,_,_,_,h=>h
 | .bn,_,_,_,_,_=>trivial
 | .ptr id t r o,T,T',v,e,h=>by
  simp only [rel] at h ⊢
  obtain ⟨m,sz,B',o',h1,h2,h0,h3⟩:=h
  obtain ⟨m',g1,g2,g3⟩:=e.row id m sz h1
  refine ⟨m',sz,B',o',g1,by omega,h0,fun ht=>?_⟩
  have hm:m'=m:=by omega
  obtain ⟨c,k1,k2⟩:=h3 (by omega)
  exact ⟨c,(g3 hm).trans k1,k2⟩
 | .aA id o,T,T',v,e,h=>by
  simp only [rel] at h ⊢
  obtain ⟨n,B,c,h1,h2,h3⟩:=h
  obtain ⟨g1,g2⟩:=e.box id n h1
  exact ⟨n,B,c,g1,g2.trans h2,h3⟩
 | .iptr cs,T,T',v,e,h=>by
  simp only [rel] at h ⊢
  obtain ⟨B,o,h1,h2⟩:=h
  exact ⟨B,o,h1,su cs B o e.noSh h2⟩
 | .sl id t o n,T,T',v,e,h=>by
  simp only [rel] at h ⊢
  obtain ⟨m,sz,h1,h2,h0,h3⟩:=h
  obtain ⟨m',g1,g2,g3⟩:=e.row id m sz h1
  refine ⟨m',sz,g1,by omega,h0,fun ht=>?_⟩
  have hm:m'=m:=by omega
  obtain ⟨k1,k2⟩:=h3 (by omega)
  rw [g3 hm]
  exact ⟨by omega,k2⟩
 | .inl sz rows,T,T',v,e,h=>by
  simp only [rel] at h ⊢
  obtain ⟨a,c,h1,h2,h3⟩:=h
  refine ⟨a,c,h1,h2,?_⟩
  rcases h3 with h3 | ⟨B,o,h3,h4⟩
  ·exact .inl h3
  ·exact .inr ⟨B,o,h3,qO rows B o sz e.noSh h4⟩
 | .fn f fi ca,T,T',v,e,h=>by
  simp only [rel] at h ⊢
  obtain ⟨a,b,h1,h2,h3⟩:=h
  exact ⟨a,b,h1,eY fi T T' _ e h2,eY ca T T' _ e h3⟩
 | .iface t x,T,T',v,e,h=>by
  simp only [rel] at h ⊢
  obtain ⟨u,h1,h2⟩:=h
  exact ⟨u,h1,dM x T T' u e h2⟩
 | .agg cs,T,T',v,e,h=>by
  simp only [rel] at h ⊢
  obtain ⟨us,h1,h2,h3⟩:=h
  exact ⟨us,h1,eY cs T T' _ e h2,h3⟩
 | .tup cs,T,T',v,e,h=>by
  simp only [rel] at h ⊢
  obtain ⟨us,h1,h2⟩:=h
  exact ⟨us,h1,eY cs T T' _ e h2⟩
 | .map id,T,T',v,e,h=>by
  simp only [rel] at h ⊢
  obtain ⟨B,c,h1,h2,h3⟩:=h
  obtain ⟨g1,g2⟩:=e.mp id h1
  exact ⟨B,c,g1,g2.trans h2,h3⟩
theorem eY {S S':RS}:∀ (cs:List AV) (T T':Sh) (vs:List Value),vX S T S' T'→aG S cs T vs→aG S' cs T' vs
 | [],_,_,_,_,h=>h
 | c::cs,T,T',vs,e,h=>by
  simp only [aG] at h ⊢
  obtain ⟨v,vs',h1,h2,h3⟩:=h
  exact ⟨v,vs',h1,dM c T T' v e h2,eY cs T T' vs' e h3⟩
theorem su {S S':RS}:∀ (cs:List AV) (B o:Nat),vX S noSh S' noSh→fz S B o cs→fz S' B o cs
 | [],_,_,_,_=>trivial
 | c::cs,B,o,e,h=>by
  simp only [fz] at h ⊢
  obtain ⟨⟨v,h1,h2,h3⟩,h4⟩:=h
  exact ⟨⟨v,e.fro _ _ _ h1,dM c noSh noSh v e h2,h3⟩,su cs B (o + 1) e h4⟩
theorem qO {S S':RS}:∀ (rs:List (List AV)) (B o sz:Nat),vX S noSh S' noSh→fzs S B o sz rs→fzs S' B o sz rs
 | [],_,_,_,_,_=>trivial
 | r::rs,B,o,sz,e,h=>by
  simp only [fzs] at h ⊢
  obtain ⟨h1,h2,h3⟩:=h
  exact ⟨h1,su r B o e h2,qO rs B (o + sz) sz e h3⟩
end
theorem lZ {S S':RS} (c:AV) (T T':Sh) (v:Value) (e:Ext S T S' T') (h:rel S c T v):rel S' c T' v:=dM c T T' v e.zero h
theorem eP {S S':RS} (cs:List AV) (T T':Sh) (vs:List Value) (e:Ext S T S' T') (h:aG S cs T vs):aG S' cs T' vs:=eY cs T T' vs e.zero h
theorem Pg {S S':RS} (cs:List AV) (B o:Nat) (e:Ext S noSh S' noSh) (h:fz S B o cs):fz S' B o cs:=su cs B o e.zero h
theorem Jt {S S':RS} (rs:List (List AV)) (B o sz:Nat) (e:Ext S noSh S' noSh) (h:fzs S B o sz rs):fzs S' B o sz rs:=qO rs B o sz e.zero h
theorem bu {S:RS} {T:Sh}:∀ {cs:List AV} {vs:List Value},aG S cs T vs→vs.length=cs.length
 | [],vs,h=>by simp only [aG] at h;simp [h]
 | c::cs,vs,h=>by
  simp only [aG] at h
  obtain ⟨v,vs',rfl,_,h3⟩:=h
  simp [bu h3]
theorem bJ {S:RS} {T:Sh}:∀ {cs:List AV} {vs:List Value} (_:aG S cs T vs) {i:Nat} {c:AV},cs[i]?=some c→∃ v,vs[i]?=some v∧rel S c T v
 | [],vs,h,i,c,hc=>by simp at hc
 | c0::cs,vs,h,i,c,hc=>by
  simp only [aG] at h
  obtain ⟨v,vs',rfl,h2,h3⟩:=h
  cases i with
  | zero=>simp at hc;subst hc;exact ⟨v,by simp,h2⟩
  | succ i=>simp at hc;simpa using bJ h3 hc
theorem qo {S:RS} {T:Sh}:∀ {cs:List AV} {vs:List Value} (_:aG S cs T vs) (i:Nat) {c:AV} {v:Value},rel S c T v→aG S (cs.set i c) T (vs.set i v)
 | [],vs,h,i,c,v,hc=>by simp only [aG] at h;subst h;simp [aG]
 | c0::cs,vs,h,i,c,v,hc=>by
  simp only [aG] at h
  obtain ⟨v0,vs',rfl,h2,h3⟩:=h
  cases i with
  | zero=>simp only [List.set_cons_zero,aG];exact ⟨v,vs',rfl,hc,h3⟩
  | succ i=>simp only [List.set_cons_succ,aG];exact ⟨v0,_,rfl,h2,qo h3 i hc⟩
theorem dF {S:RS} {T:Sh}:∀ {cs ds:List AV} {vs us:List Value},aG S cs T vs→aG S ds T us→aG S (cs++ds) T (vs++us)
 | [],ds,vs,us,h,k=>by simp only [aG] at h;subst h;simpa using k
 | c::cs,ds,vs,us,h,k=>by
  simp only [aG] at h
  obtain ⟨v,vs',rfl,h2,h3⟩:=h
  simp only [List.cons_append,aG]
  exact ⟨v,vs'++us,rfl,h2,dF h3 k⟩
theorem dX {S:RS} {T:Sh}:∀ {cs:List AV} {vs:List Value},vs.length=cs.length→(∀ (i:Nat) (c:AV),cs[i]?=some c→∃ v,vs[i]?=some v∧rel S c T v)→aG S cs T vs
 | [],vs,hl,_=>by simp only [aG];exact List.eq_nil_of_length_eq_zero (by simpa using hl)
 | c::cs,[],hl,_=>by simp at hl
 | c::cs,v::vs,hl,h=>by
  simp only [aG]
  obtain ⟨v',h1,h2⟩:=h 0 c (by simp)
  simp at h1
  subst h1
  exact ⟨v,vs,rfl,h2,dX (by simpa using hl) (fun i c' hc=>by simpa using h (i + 1) c' (by simpa using hc))⟩
theorem AB {S:RS} {T:Sh} {cs:List AV} {vs:List Value} (h:aG S cs T vs) (n:Nat):aG S (cs.take n) T (vs.take n) :=
 dX (by simp [bu h]) (fun i c hc=>by
  rw [List.getElem?_take] at hc ⊢
  split at hc
  ·rename_i hi;rw [if_pos hi];exact bJ h hc
  ·cases hc)
theorem AP {S:RS} {T:Sh} {cs:List AV} {vs:List Value} (h:aG S cs T vs) (n:Nat):aG S (cs.drop n) T (vs.drop n) :=
 dX (by simp [bu h]) (fun i c hc=>by
  rw [List.getElem?_drop] at hc ⊢
  exact bJ h hc)
theorem Dh {S:RS}:∀ {cs:List AV} {B o:Nat} (_:fz S B o cs) {j:Nat} {c:AV},cs[j]?=some c→∃ v,S.φ B (o + j)=some v∧rel S c noSh v∧v.oneCell'=true
 | [],_,_,_,j,c,hc=>by simp at hc
 | c0::cs,B,o,h,j,c,hc=>by
  simp only [fz] at h
  obtain ⟨⟨v,h1,h2,h3⟩,h4⟩:=h
  cases j with
  | zero=>simp at hc;subst hc;exact ⟨v,by simpa using h1,h2,h3⟩
  | succ j =>
   simp at hc
   obtain ⟨u,g1,g2⟩:=Dh h4 hc
   exact ⟨u,by rw [← g1];congr 1;omega,g2⟩
theorem dO {S:RS}:∀ {cs:List AV} {B o:Nat},(∀ (j:Nat) (c:AV),cs[j]?=some c→∃ v,S.φ B (o + j)=some v∧rel S c noSh v∧v.oneCell'=true)→fz S B o cs
 | [],_,_,_=>trivial
 | c::cs,B,o,h=>by
  simp only [fz]
  refine ⟨by simpa using h 0 c (by simp),dO (fun j c' hc=>?_)⟩
  obtain ⟨v,h1,h2⟩:=h (j + 1) c' (by simpa using hc)
  exact ⟨v,by rw [← h1];congr 1;omega,h2⟩
theorem fz_drop {S:RS} {cs:List AV} {B o:Nat} (h:fz S B o cs) (n:Nat):fz S B (o + n) (cs.drop n) :=
 dO fun j c hc=>by
  rw [List.getElem?_drop] at hc
  obtain ⟨v,h1,h2⟩:=Dh h hc
  exact ⟨v,by rw [← h1];congr 1;omega,h2⟩
theorem vg {S:RS}:∀ {rs:List (List AV)} {B o sz:Nat} (_:fzs S B o sz rs) {i:Nat} {r:List AV},rs[i]?=some r→r.length=sz∧fz S B (o + i * sz) r
 | [],_,_,_,_,i,r,hc=>by simp at hc
 | r0::rs,B,o,sz,h,i,r,hc=>by
  simp only [fzs] at h
  obtain ⟨h1,h2,h3⟩:=h
  cases i with
  | zero=>simp at hc;subst hc;exact ⟨h1,by simpa using h2⟩
  | succ i =>
   simp at hc
   obtain ⟨g1,g2⟩:=vg h3 hc
   refine ⟨g1,?_⟩
   rw [show o + (i + 1) * sz=o + sz + i * sz by rw [Nat.add_mul];omega]
   exact g2
theorem iw {S:RS}:∀ {rs:List (List AV)} {B o sz:Nat},(∀ (i:Nat) (r:List AV),rs[i]?=some r→r.length=sz∧fz S B (o + i * sz) r)→fzs S B o sz rs
 | [],_,_,_,_=>trivial
 | r::rs,B,o,sz,h=>by
  simp only [fzs]
  obtain ⟨h1,h2⟩:=h 0 r (by simp)
  refine ⟨h1,by simpa using h2,iw (fun i r' hr=>?_)⟩
  obtain ⟨g1,g2⟩:=h (i + 1) r' (by simpa using hr)
  refine ⟨g1,?_⟩
  rw [show o + sz + i * sz=o + (i + 1) * sz by rw [Nat.add_mul];omega]
  exact g2
theorem uK {S:RS} {T:Sh} {c:AV} {v:Value} (h:rel S c noSh v):rel S c T v :=
 lZ c noSh T v ⟨rfl,rfl,fun _ _ _ h=>h,fun _ _ _ h=>.inl h,fun _ _ h=>(by cases h),fun _ h=>(by cases h),fun _ _ _ h=>(by cases h)⟩ h
end Go.Ab

namespace Go.Ab
set_option linter.unusedVariables false
set_option linter.unusedSimpArgs false
open Go
inductive aj where
 | box (e:TypeId) (cells:List AV)
 | arr (e:TypeId) (sz:Nat) (rows:List (List AV))
 | mpb (rows:List (List AV))
 | dead (s:Shp)
 deriving Inhabited
instance:Inhabited Shp:=⟨.mp⟩
def aj.shp:aj→Shp
 | .box _ cs=>.box cs.length
 | .arr _ sz rows=>.row rows.length sz
 | .mpb _=>.mp
 | .dead s=>s
def aj.live:aj→Bool
 | .dead _=>false
 | _=>true
def shape (H:List aj):Sh:=fun id=>(H[id]?).map aj.shp
def Own (S:RS) (B:Nat):Prop:=¬ S.D B∧∀ o,S.φ B o=none
def xQ (S:RS):List (List AV)→List MapEntry→Prop
 | [],es=>es=[]
 | r::rs,es=>∃ e es',es=e::es'∧(∃ k v,r=[k,v]∧rel S k noSh e.key∧rel S v noSh e.val)∧xQ S rs es'
theorem jV {S S':RS} (hx:vX S noSh S' noSh):∀ {rows:List (List AV)} {es:List MapEntry},xQ S rows es→xQ S' rows es
 | [],es,h=>h
 | r::rs,es,h=>by
  obtain ⟨e,es',rfl,⟨k,v,rfl,h1,h2⟩,h3⟩:=h
  exact ⟨e,es',rfl,⟨k,v,rfl,dM k noSh noSh _ hx h1,dM v noSh noSh _ hx h2⟩,jV hx h3⟩
def fV (S:RS) (T:Sh) (b:aj) (id:Nat) (w:World):Prop :=
 match b with
 | .box e cs=>∃ B c arr,S.ρ id=some (B,c)∧w.heap[B]?=some (.cells arr e (0,0))∧aG S cs T arr.toList∧(∀ u∈arr.toList,u.oneCell'=true)∧Own S B
 | .arr e sz rows=>0 < sz ∧
  match S.ρ id with
  | some (B,c)=>∃ arr,w.heap[B]?=some (.cells arr e (0,0))∧arr.size=c * sz∧rows.length≤c ∧
    (∀ (i:Nat) (r:List AV),rows[i]?=some r→r.length=sz∧∀ (j:Nat) (c:AV),r[j]?=some c→∃ u,arr[i * sz + j]?=some u∧rel S c T u∧u.oneCell'=true)∧Own S B
  | none=>rows=[]
 | .mpb rows=>∃ B c es clock,S.ρ id=some (B,c)∧w.heap[B]?=some (.map es clock)∧xQ S rows es.toList∧Own S B
 | .dead _=>True
structure aK (S:RS) (H:List aj) (w:World):Prop where
 os:w.os=S.W0.os
 tape:w.tape=S.W0.tape
 output:w.output=S.W0.output
 size:S.W0.heap.size≤w.heap.size
 prot:∀ k,S.D k→k < S.W0.heap.size∧w.heap[k]?=S.W0.heap[k]?
 fro:∀ B o v,S.φ B o=some v→w.cell? ⟨B,o,none⟩=some v
 blk:∀ id b,H[id]?=some b→fV S (shape H) b id w
 inj:∀ i j b b' B c c',H[i]?=some b→H[j]?=some b'→b.live=true→b'.live=true→S.ρ i=some (B,c)→S.ρ j=some (B,c')→i=j
structure Chg (w w':World) (M:Nat→Prop):Prop where
 os:w'.os=w.os
 tape:w'.tape=w.tape
 output:w'.output=w.output
 size:w.heap.size≤w'.heap.size
 block:∀ k,k < w.heap.size→¬ M k→w'.heap[k]?=w.heap[k]?
theorem Chg.refl (w:World) (M:Nat→Prop):Chg w w M:=⟨rfl,rfl,rfl,Nat.le_refl _,fun _ _ _=>rfl⟩
theorem Chg.drew (w:World) (M:Nat→Prop):Chg w w.drew M:=⟨rfl,rfl,rfl,Nat.le_refl _,fun _ _ _=>rfl⟩
theorem Chg.alloc (w:World) (o:Obj) (M:Nat→Prop):Chg w (w.alloc o) M:=⟨rfl,rfl,rfl,by simp,fun k hk _=>Go.RowKit.Below.heap_alloc w o k hk⟩
theorem Chg.trans {a b c:World} {M:Nat→Prop} (h:Chg a b M) (k:Chg b c M):Chg a c M :=
 ⟨k.os.trans h.os,k.tape.trans h.tape,k.output.trans h.output,Nat.le_trans h.size k.size,fun i hi hm=>(k.block i (Nat.lt_of_lt_of_le hi h.size) hm).trans (h.block i hi hm)⟩
theorem Chg.setRow (w:World) (g:Nat) (cs:Array Value):Chg w (w.setRow g cs) (·=g) :=
 ⟨rfl,rfl,rfl,by simp,fun k _ hk=>setRow_other w g k cs hk⟩
theorem Chg.mono {w w':World} {M M':Nat→Prop} (h:Chg w w' M) (hm:∀ k,M k→M' k):Chg w w' M' :=
 ⟨h.os,h.tape,h.output,h.size,fun k hk hn=>h.block k hk (fun x=>hn (hm k x))⟩
theorem block_lt {w:World} {B:Nat} {o:Obj} (h:w.heap[B]?=some o):B < w.heap.size:=(Array.getElem?_eq_some_iff.1 h).1
theorem fV.keep {S S':RS} {T T':Sh} {b:aj} {id:Nat} {w w':World} (h:fV S T b id w) (e:Ext S T S' T')
  (hρ:b.live=true→S'.ρ id=S.ρ id) (hw:∀ B c,b.live=true→S.ρ id=some (B,c)→B < w.heap.size→Own S B→w'.heap[B]?=w.heap[B]?∧Own S' B):fV S' T' b id w':=by
 cases b with
 | box e' cs =>
  obtain ⟨B,c,arr,h1,h2,h3,h4,h5⟩:=h
  obtain ⟨k1,k2⟩:=hw B c rfl h1 (block_lt h2) h5
  exact ⟨B,c,arr,(hρ rfl).trans h1,k1.trans h2,eP cs T T' _ e h3,h4,k2⟩
 | arr e' sz rows =>
  obtain ⟨h0,h⟩:=h
  refine ⟨h0,?_⟩
  rw [hρ rfl]
  cases hr:S.ρ id with
  | none=>rw [hr] at h;exact h
  | some p =>
   obtain ⟨B,c⟩:=p
   rw [hr] at h
   obtain ⟨arr,h2,h3,h4,h5,h6⟩:=h
   obtain ⟨k1,k2⟩:=hw B c rfl hr (block_lt h2) h6
   refine ⟨arr,k1.trans h2,h3,h4,fun i r hi=>?_,k2⟩
   obtain ⟨g1,g2⟩:=h5 i r hi
   refine ⟨g1,fun j c hj=>?_⟩
   obtain ⟨u,m1,m2,m3⟩:=g2 j c hj
   exact ⟨u,m1,lZ c T T' u e m2,m3⟩
 | mpb rows =>
  obtain ⟨B,c,es,clock,h1,h2,h3,h5⟩:=h
  obtain ⟨k1,k2⟩:=hw B c rfl h1 (block_lt h2) h5
  exact ⟨B,c,es,clock,(hρ rfl).trans h1,k1.trans h2,jV e.noSh.zero h3,k2⟩
 | dead s=>trivial
theorem aK.step {S S':RS} {H H':List aj} {w w':World} (h:aK S H w) (e:Ext S (shape H) S' (shape H')) (M:Nat→Prop) (N:Nat→Prop) (c:Chg w w' M)
  (hM:∀ k,k < w.heap.size→M k→Own S k)
  (hφ:∀ B o v,S'.φ B o=some v→S.φ B o=some v∨w'.cell? ⟨B,o,none⟩=some v∧w.heap.size≤B)
  (hD:∀ k,S.D k→k < w.heap.size:=fun k hk=>Nat.lt_of_lt_of_le (h.prot k hk).1 h.size)
  (old:∀ id b,H'[id]?=some b→¬ N id→H[id]?=some b∧S'.ρ id=S.ρ id∧∀ B c,b.live=true→S.ρ id=some (B,c)→¬ M B)
  (new:∀ id b,H'[id]?=some b→N id→fV S' (shape H') b id w')
  (inj:∀ i j b b' B c c',H'[i]?=some b→H'[j]?=some b'→b.live=true→b'.live=true→S'.ρ i=some (B,c)→S'.ρ j=some (B,c')→N i→i=j):aK S' H' w' where
 os:=by rw [e.W0];exact c.os.trans h.os
 tape:=by rw [e.W0];exact c.tape.trans h.tape
 output:=by rw [e.W0];exact c.output.trans h.output
 size:=by rw [e.W0];exact Nat.le_trans h.size c.size
 prot:=fun k hk=>by
  rw [e.D] at hk
  rw [e.W0]
  obtain ⟨h1,h2⟩:=h.prot k hk
  exact ⟨h1,(c.block k (hD k hk) (fun hm=>(hM k (hD k hk) hm).1 hk)).trans h2⟩
 fro:=fun B o v hv=>by
  rcases hφ B o v hv with hv | ⟨hv,_⟩
  ·have h1:=h.fro B o v hv
   have hB:B < w.heap.size:=World.block_lt_of_cell? w _ h1
   rw [World.cell?_of_block (c.block B hB (fun hm=>by have:=(hM B hB hm).2 o;rw [hv] at this;cases this))]
   exact h1
  ·exact hv
 blk:=fun id b hb=>by
  by_cases hn:N id
  ·exact new id b hb hn
  ·obtain ⟨h1,h2,h3⟩:=old id b hb hn
   refine (h.blk id b h1).keep e (fun _=>h2) (fun B c0 hl hB hlt ho=>⟨c.block B hlt (h3 B c0 hl hB),?_⟩)
   refine ⟨by rw [e.D];exact ho.1,fun o=>?_⟩
   cases hv:S'.φ B o with
   | none=>rfl
   | some v =>
    rcases hφ B o v hv with hv' | ⟨_,hv'⟩
    ·rw [ho.2 o] at hv';cases hv'
    ·omega
 inj:=fun i j b b' B c0 c1 hi hj li lj hBi hBj=>by
  by_cases hni:N i
  ·exact inj i j b b' B c0 c1 hi hj li lj hBi hBj hni
  ·by_cases hnj:N j
   ·exact (inj j i b' b B c1 c0 hj hi lj li hBj hBi hnj).symm
   ·obtain ⟨h1,h2,_⟩:=old i b hi hni
    obtain ⟨k1,k2,_⟩:=old j b' hj hnj
    exact h.inj i j b b' B c0 c1 h1 k1 li lj (h2 ▸ hBi) (k2 ▸ hBj)
theorem aK.dh {S:RS} {H:List aj} {w:World} (h:aK S H w) {id:Nat} {b:aj} {B c:Nat} (hb:H[id]?=some b) (hl:b.live=true) (hρ:S.ρ id=some (B,c)):B < w.heap.size∧Own S B:=by
 have h1:=h.blk id b hb
 cases b with
 | box e cs =>
  obtain ⟨B',c',arr,g1,g2,_,_,g5⟩:=h1
  rw [hρ] at g1
  injection g1 with g1
  injection g1 with g1 _
  subst g1
  exact ⟨block_lt g2,g5⟩
 | arr e sz rows =>
  obtain ⟨_,h1⟩:=h1
  rw [hρ] at h1
  obtain ⟨arr,g2,_,_,_,g5⟩:=h1
  exact ⟨block_lt g2,g5⟩
 | mpb rows =>
  obtain ⟨B',c',es,clock,g1,g2,_,g5⟩:=h1
  rw [hρ] at g1
  injection g1 with g1
  injection g1 with g1 _
  subst g1
  exact ⟨block_lt g2,g5⟩
 | dead s=>cases hl
theorem kP (H L:List aj) (id:Nat) (h:id < H.length):shape (H++L) id=shape H id:=by
 simp [shape,List.getElem?_append_left h]
theorem jH {H:List aj} {id:Nat} {s:Shp} (h:shape H id=some s):id < H.length:=by
 unfold shape at h
 rcases Nat.lt_or_ge id H.length with h' | h'
 ·exact h'
 ·rw [List.getElem?_eq_none h'] at h;cases h
theorem aK.drew {S:RS} {H:List aj} {w:World} (h:aK S H w):aK S H w.drew :=
 h.step (Ext.refl _ _) (fun _=>False) (fun _=>False) (Chg.drew w _) (fun _ _ h=>h.elim) (fun _ _ _ h=>.inl h) (old:=fun _ _ hb _=>⟨hb,rfl,fun _ _ _ _ h=>h⟩)
  (new:=fun _ _ _ h=>h.elim) (inj:=fun _ _ _ _ _ _ _ _ _ _ _ _ _ h=>h.elim)
theorem aK.alloc {S:RS} {H:List aj} {w:World} (h:aK S H w) (o:Obj):aK S H (w.alloc o) :=
 h.step (Ext.refl _ _) (fun _=>False) (fun _=>False) (Chg.alloc w o _) (fun _ _ h=>h.elim) (fun _ _ _ h=>.inl h) (old:=fun _ _ hb _=>⟨hb,rfl,fun _ _ _ _ h=>h⟩)
  (new:=fun _ _ _ h=>h.elim) (inj:=fun _ _ _ _ _ _ _ _ _ _ _ _ _ h=>h.elim)
def RS.put (S:RS) (id:Nat) (p:Option (Nat × Nat)):RS:={ S with ρ:=fun i=>if i=id then p else S.ρ i }
theorem Ext.oH (S:RS) (H:List aj) (b:aj) (p:Option (Nat × Nat)):Ext S (shape H) (S.put H.length p) (shape (H++[b])) where
 W0:=rfl
 D:=rfl
 fro:=fun _ _ _ h=>h
 fnw:=fun _ _ _ h=>.inl h
 box:=fun id n hn=>by
  have:=jH hn
  exact ⟨by rw [kP _ _ _ this];exact hn,by simp [RS.put];omega⟩
 mp:=fun id hn=>by
  have:=jH hn
  exact ⟨by rw [kP _ _ _ this];exact hn,by simp [RS.put];omega⟩
 row:=fun id m sz hn=>by
  have:=jH hn
  exact ⟨m,by rw [kP _ _ _ this];exact hn,Nat.le_refl _,fun _=>by simp [RS.put];omega⟩
theorem dD {H:List aj} {b b':aj} {id:Nat} (h:(H++[b])[id]?=some b'):(id < H.length∧H[id]?=some b')∨(id=H.length∧b'=b):=by
 rcases Nat.lt_trichotomy id H.length with hlt | heq | hgt
 ·exact .inl ⟨hlt,by rwa [List.getElem?_append_left hlt] at h⟩
 ·subst heq
  simp at h
  exact .inr ⟨rfl,h.symm⟩
 ·rw [List.getElem?_eq_none (by simp;omega)] at h
  cases h
theorem aK.new {S:RS} {H:List aj} {w w':World} (h:aK S H w) (c:Chg w w' (fun _=>False)) (b:aj) (cap:Nat)
  (hb:fV (S.put H.length (some (w.heap.size,cap))) (shape (H++[b])) b H.length w'):aK (S.put H.length (some (w.heap.size,cap))) (H++[b]) w' :=
 h.step (Ext.oH S H b _) (fun _=>False) (·=H.length) c (fun _ _ h=>h.elim) (fun _ _ _ h=>.inl h)
  (old:=fun id b' hb' hn=>by
   rcases dD hb' with ⟨h1,h2⟩ | ⟨h1,_⟩
   ·exact ⟨h2,by simp [RS.put];omega,fun _ _ _ _ h=>h⟩
   ·exact absurd h1 hn)
  (new:=fun id b' hb' hn=>by
   subst hn
   rcases dD hb' with ⟨h1,_⟩ | ⟨_,h1⟩
   ·omega
   ·subst h1;exact hb)
  (inj:=fun i j b1 b2 B c0 c1 hi hj li lj hBi hBj hn=>by
   subst hn
   simp only [RS.put,if_true,Option.some.injEq,Prod.mk.injEq] at hBi
   rcases dD hj with ⟨h1,h2⟩ | ⟨h1,_⟩
   ·have hne:j≠H.length:=by omega
    simp only [RS.put,hne,if_false] at hBj
    have:=(h.dh h2 lj hBj).1
    omega
   ·exact h1.symm)
theorem Ol {S:RS} {H:List aj} {b:aj} {p:Option (Nat × Nat)} {cs:List AV} {vs:List Value} (h:aG S cs (shape H) vs):aG (S.put H.length p) cs (shape (H++[b])) vs :=
 eP _ _ _ _ (Ext.oH S H b p) h
theorem aK.JL {S:RS} {H:List aj} {w:World} (h:aK S H w) (e:TypeId) (cs:List AV) (arr:Array Value) (hr:aG S cs (shape H) arr.toList) (ho:∀ u∈arr.toList,u.oneCell'=true) :
  aK (S.put H.length (some (w.heap.size,0))) (H++[.box e cs]) (w.alloc (.cells arr e)):=by
 refine h.new (Chg.alloc w _ _) _ 0 ?_
 refine ⟨w.heap.size,0,arr,by simp [RS.put],heap_alloc_new w _,Ol hr,ho,?_⟩
 refine ⟨fun hd=>?_,fun o=>?_⟩
 ·have:=(h.prot _ hd).1
  have:=h.size
  omega
 ·cases hv:S.φ w.heap.size o with
  | none=>simpa [RS.put] using hv
  | some v =>
   have:=World.block_lt_of_cell? w _ (h.fro _ _ _ hv)
   simp at this
theorem aK.fresh {S:RS} {H:List aj} {w:World} (h:aK S H w) (p:Option (Nat × Nat)) (id:Nat):Own (S.put id p) w.heap.size:=by
 refine ⟨fun hd=>?_,fun o=>?_⟩
 ·have:=(h.prot _ hd).1
  have:=h.size
  omega
 ·cases hv:S.φ w.heap.size o with
  | none=>simpa [RS.put] using hv
  | some v =>
   have:=World.block_lt_of_cell? w _ (h.fro _ _ _ hv)
   simp at this
end Go.Ab

namespace Go.Ab
set_option linter.unusedVariables false
set_option linter.unusedSimpArgs false
open Go
theorem jm {H:List aj} {id:Nat} {b:aj} (h:id < H.length) (j:Nat):shape (H.set id b) j=if j=id then some b.shp else shape H j:=by
 unfold shape
 rw [List.getElem?_set]
 by_cases hj:id=j
 ·subst hj;simp [h]
 ·rw [if_neg hj,if_neg (fun e=>hj e.symm)]
theorem iq {H:List aj} {id:Nat} {b:aj} (h:H[id]?=some b):id < H.length:=(List.getElem?_eq_some_iff.1 h).1
theorem bD {H:List aj} {id:Nat} {b:aj} (h:H[id]?=some b):shape H id=some b.shp:=by simp [shape,h]
theorem RS.gW (S:RS) (id:Nat):S.put id (S.ρ id)=S:=by
 cases S
 simp only [RS.put,RS.mk.injEq,true_and,and_true]
 funext i
 split
 ·rename_i h;rw [h]
 ·rfl
theorem Ext.upd {S:RS} {H:List aj} {id:Nat} {b b':aj} (hb:H[id]?=some b) (hs:b'.shp=b.shp):Ext S (shape H) S (shape (H.set id b')):=by
 have:shape (H.set id b')=shape H:=by
  funext j
  rw [jm (iq hb)]
  split
  ·rename_i h;rw [h,bD hb,hs]
  ·rfl
 rw [this]
 exact Ext.refl _ _
theorem Ext.grow {S:RS} {H:List aj} {id:Nat} {e:TypeId} {sz:Nat} {rows rows':List (List AV)} (hb:H[id]?=some (.arr e sz rows)) (hl:rows.length < rows'.length) (p:Option (Nat × Nat)) :
  Ext S (shape H) (S.put id p) (shape (H.set id (.arr e sz rows'))) where
 W0:=rfl
 D:=rfl
 fro:=fun _ _ _ h=>h
 fnw:=fun _ _ _ h=>.inl h
 box:=fun j n hn=>by
  have hne:j≠id:=by rintro rfl;rw [bD hb] at hn;cases hn
  exact ⟨by rw [jm (iq hb),if_neg hne];exact hn,by simp [RS.put,hne]⟩
 mp:=fun j hn=>by
  have hne:j≠id:=by rintro rfl;rw [bD hb] at hn;cases hn
  exact ⟨by rw [jm (iq hb),if_neg hne];exact hn,by simp [RS.put,hne]⟩
 row:=fun j m s hn=>by
  by_cases hne:j=id
  ·subst hne
   rw [bD hb] at hn
   simp only [aj.shp,Option.some.injEq,Shp.row.injEq] at hn
   obtain ⟨rfl,rfl⟩:=hn
   exact ⟨rows'.length,by rw [jm (iq hb),if_pos rfl];rfl,by omega,fun h=>by omega⟩
  ·exact ⟨m,by rw [jm (iq hb),if_neg hne];exact hn,Nat.le_refl _,fun _=>by simp [RS.put,hne]⟩
theorem mF {H:List aj} {id j:Nat} {b b':aj} (h:(H.set id b)[j]?=some b'):(j≠id∧H[j]?=some b')∨(j=id∧b'=b):=by
 rw [List.getElem?_set] at h
 split at h
 ·rename_i hj
  subst hj
  split at h
  ·exact .inr ⟨rfl,(Option.some.inj h).symm⟩
  ·cases h
 ·rename_i hj;exact .inl ⟨fun e=>hj e.symm,h⟩
theorem aK.repl {S:RS} {H:List aj} {w w':World} (h:aK S H w) {id:Nat} {b b':aj} (hb:H[id]?=some b) (hl:b.live=true) (p:Option (Nat × Nat))
  (c:Chg w w' (fun k=>∃ c,S.ρ id=some (k,c))) (ext:Ext S (shape H) (S.put id p) (shape (H.set id b')))
  (hp:∀ B c,p=some (B,c)→w.heap.size≤B∨∃ c',S.ρ id=some (B,c'))
  (hr:fV (S.put id p) (shape (H.set id b')) b' id w'):aK (S.put id p) (H.set id b') w' :=
 h.step ext (fun k=>∃ c,S.ρ id=some (k,c)) (·=id) c (fun k _ ⟨c,hc⟩=>(h.dh hb hl hc).2) (fun _ _ _ h=>.inl h)
  (old:=fun j b1 hj hn=>by
   rcases mF hj with ⟨h1,h2⟩ | ⟨h1,_⟩
   ·refine ⟨h2,by simp [RS.put,h1],fun B c1 hl1 hB ⟨c2,hc2⟩=>?_⟩
    exact h1 (h.inj j id b1 b B c1 c2 h2 hb hl1 hl hB hc2)
   ·exact absurd h1 hn)
  (new:=fun j b1 hj hn=>by
   subst hn
   rcases mF hj with ⟨h1,_⟩ | ⟨_,h1⟩
   ·exact absurd rfl h1
   ·subst h1;exact hr)
  (inj:=fun i j b1 b2 B c0 c1 hi hj li lj hBi hBj hn=>by
   subst hn
   rcases mF hj with ⟨h1,h2⟩ | ⟨h1,_⟩
   ·simp only [RS.put,if_true] at hBi
    simp only [RS.put,h1,if_false] at hBj
    rcases hp B c0 hBi with hge | ⟨c',hc'⟩
    ·have:=(h.dh h2 lj hBj).1
     omega
    ·exact h.inj i j b b2 B c' c1 hb h2 hl lj hc' hBj
   ·exact h1.symm)
theorem aK.box_upd {S:RS} {H:List aj} {w w':World} (h:aK S H w) {id:Nat} {e:TypeId} {cs cs':List AV} (hb:H[id]?=some (.box e cs)) {B c:Nat} (hρ:S.ρ id=some (B,c))
  (hc:Chg w w' (·=B)) {arr':Array Value} (hw:w'.heap[B]?=some (.cells arr' e (0,0))) (hl:cs'.length=cs.length)
  (hr:aG S cs' (shape H) arr'.toList) (ho:∀ u∈arr'.toList,u.oneCell'=true):aK S (H.set id (.box e cs')) w':=by
 have hext:Ext S (shape H) S (shape (H.set id (.box e cs'))):=Ext.upd hb (by simp [aj.shp,hl])
 have:=h.repl (b':=.box e cs') hb rfl (S.ρ id) (hc.mono fun k hk=>⟨c,by rw [hk];exact hρ⟩) (by rw [RS.gW];exact hext) (fun B' c' hp=>.inr ⟨c',hp⟩) (by
  rw [RS.gW]
  exact ⟨B,c,arr',hρ,hw,eP _ _ _ _ hext hr,ho,(h.dh hb rfl hρ).2⟩)
 rwa [RS.gW] at this
def gV (S:RS) (T:Sh) (sz:Nat) (rows:List (List AV)) (arr:Array Value):Prop :=
 ∀ (i:Nat) (r:List AV),rows[i]?=some r→r.length=sz∧∀ (j:Nat) (c:AV),r[j]?=some c→∃ u,arr[i * sz + j]?=some u∧rel S c T u∧u.oneCell'=true
theorem gV.ext {S S':RS} {T T':Sh} {sz:Nat} {rows:List (List AV)} {arr:Array Value} (h:gV S T sz rows arr) (e:Ext S T S' T'):gV S' T' sz rows arr:=fun i r hi=>by
 obtain ⟨h1,h2⟩:=h i r hi
 refine ⟨h1,fun j c hj=>?_⟩
 obtain ⟨u,k1,k2,k3⟩:=h2 j c hj
 exact ⟨u,k1,lZ _ _ _ _ e k2,k3⟩
theorem aK.vS {S:RS} {H:List aj} {w w':World} (h:aK S H w) {id:Nat} {e:TypeId} {sz:Nat} {rows rows':List (List AV)} (hb:H[id]?=some (.arr e sz rows)) {B c:Nat} (hρ:S.ρ id=some (B,c))
  (hc:Chg w w' (·=B)) {arr':Array Value} (hw:w'.heap[B]?=some (.cells arr' e (0,0))) (hs:arr'.size=c * sz) (hl:rows.length≤rows'.length) (hle:rows'.length≤c)
  (hr:gV S (shape H) sz rows' arr'):aK S (H.set id (.arr e sz rows')) w'∧Ext S (shape H) S (shape (H.set id (.arr e sz rows'))):=by
 have hext:Ext S (shape H) S (shape (H.set id (.arr e sz rows'))):=by
  rcases Nat.eq_or_lt_of_le hl with he | hlt
  ·exact Ext.upd hb (by simp [aj.shp,he])
  ·have:=Ext.grow (S:=S) hb hlt (S.ρ id)
   rwa [RS.gW] at this
 refine ⟨?_,hext⟩
 have:=h.repl (b':=.arr e sz rows') hb rfl (S.ρ id) (hc.mono fun k hk=>⟨c,by rw [hk];exact hρ⟩) (by rw [RS.gW];exact hext) (fun B' c' hp=>.inr ⟨c',hp⟩) (by
  rw [RS.gW]
  refine ⟨(h.blk id _ hb).1,?_⟩
  rw [hρ]
  exact ⟨arr',hw,hs,hle,hr.ext hext,(h.dh hb rfl hρ).2⟩)
 rwa [RS.gW] at this
theorem aK.PW {S:RS} {H:List aj} {w w':World} (h:aK S H w) {id:Nat} {e:TypeId} {sz:Nat} {rows rows':List (List AV)} (hb:H[id]?=some (.arr e sz rows)) (c:Nat)
  (hc:Chg w w' (fun _=>False)) {arr':Array Value} (hw:w'.heap[w.heap.size]?=some (.cells arr' e (0,0))) (hs:arr'.size=c * sz) (hl:rows.length < rows'.length) (hle:rows'.length≤c)
  (hr:gV S (shape H) sz rows' arr'):aK (S.put id (some (w.heap.size,c))) (H.set id (.arr e sz rows')) w'∧Ext S (shape H) (S.put id (some (w.heap.size,c))) (shape (H.set id (.arr e sz rows'))):=by
 have hext:=Ext.grow hb hl (some (w.heap.size,c)) (S:=S)
 refine ⟨?_,hext⟩
 refine h.repl (b':=.arr e sz rows') hb rfl _ (hc.mono fun k hk=>hk.elim) hext (fun B' c' hp=>.inl (by simp at hp;omega)) ?_
 refine ⟨(h.blk id _ hb).1,?_⟩
 simp only [RS.put,if_true]
 exact ⟨arr',hw,hs,hle,hr.ext hext,h.fresh _ _⟩
theorem aK.Dx {S:RS} {H:List aj} {w w':World} (h:aK S H w) (e:TypeId) (sz:Nat) (rows:List (List AV)) (c:Nat) (h0:0 < sz)
  (hc:Chg w w' (fun _=>False)) {arr':Array Value} (hw:w'.heap[w.heap.size]?=some (.cells arr' e (0,0))) (hs:arr'.size=c * sz) (hle:rows.length≤c)
  (hr:gV S (shape H) sz rows arr'):aK (S.put H.length (some (w.heap.size,c))) (H++[.arr e sz rows]) w'∧Ext S (shape H) (S.put H.length (some (w.heap.size,c))) (shape (H++[.arr e sz rows])):=by
 have hext:=Ext.oH S H (.arr e sz rows) (some (w.heap.size,c))
 refine ⟨h.new hc _ c ?_,hext⟩
 refine ⟨h0,?_⟩
 simp only [RS.put,if_true]
 exact ⟨arr',hw,hs,hle,hr.ext hext,h.fresh _ _⟩
theorem aK.vT {S:RS} {H:List aj} {w:World} (h:aK S H w) (e:TypeId) (sz:Nat) (h0:0 < sz):aK (S.put H.length none) (H++[.arr e sz []]) w∧Ext S (shape H) (S.put H.length none) (shape (H++[.arr e sz []])):=by
 have hext:=Ext.oH S H (.arr e sz []) none
 refine ⟨h.step hext (fun _=>False) (·=H.length) (Chg.refl w _) (fun _ _ h=>h.elim) (fun _ _ _ h=>.inl h) (old:=fun id b' hb' hn=>?_) (new:=fun id b' hb' hn=>?_) (inj:=fun i j b1 b2 B c0 c1 hi hj li lj hBi hBj hn=>?_),hext⟩
 ·rcases dD hb' with ⟨h1,h2⟩ | ⟨h1,_⟩
  ·exact ⟨h2,by simp [RS.put];omega,fun _ _ _ _ h=>h⟩
  ·exact absurd h1 hn
 ·subst hn
  rcases dD hb' with ⟨h1,_⟩ | ⟨_,h1⟩
  ·omega
  ·subst h1;exact ⟨h0,by simp [RS.put]⟩
 ·subst hn
  simp [RS.put] at hBi
open Classical in
noncomputable def RS.frz (S:RS) (w:World) (F:Nat→Bool) (H:List aj):RS :=
 { S with φ:=fun B o=>if ∃ id c b,F id=true∧H[id]?=some b∧b.live=true∧S.ρ id=some (B,c) then w.cell? ⟨B,o,none⟩ else S.φ B o }
theorem Jw {S:RS} {H:List aj} {w:World} (h:aK S H w) (F:Nat→Bool):∀ B o v,S.φ B o=some v→(S.frz w F H).φ B o=some v:=fun B o v hv=>by
 simp only [RS.frz]
 split
 ·rename_i hx
  obtain ⟨id,c,b,_,hb,hl,hρ⟩:=hx
  have:=(h.dh hb hl hρ).2.2 o
  rw [hv] at this
  cases this
 ·exact hv
theorem Jy {S:RS} {H:List aj} {w:World} (h:aK S H w) (F:Nat→Bool):∀ B o v,(S.frz w F H).φ B o=some v→S.φ B o=some v∨¬ S.D B:=fun B o v hv=>by
 simp only [RS.frz] at hv
 split at hv
 ·rename_i hx
  obtain ⟨id,c,b,_,hb,hl,hρ⟩:=hx
  exact .inr (h.dh hb hl hρ).2.1
 ·exact .inl hv
theorem nP {S:RS} {H:List aj} {w:World} {F:Nat→Bool} {id:Nat} {b:aj} (hF:F id=true) (hb:H[id]?=some b) (hl:b.live=true) {B c:Nat} (hρ:S.ρ id=some (B,c)) (o:Nat) :
  (S.frz w F H).φ B o=w.cell? ⟨B,o,none⟩:=by
 simp only [RS.frz]
 rw [if_pos ⟨id,c,b,hF,hb,hl,hρ⟩]
theorem kS {S:RS} {H:List aj} {w:World} (h:aK S H w) (F:Nat→Bool):Ext S noSh (S.frz w F H) noSh :=
 ⟨rfl,rfl,Jw h F,Jy h F,fun _ _ h=>(by cases h),fun _ h=>(by cases h),fun _ _ _ h=>(by cases h)⟩
end Go.Ab

namespace Go.Ab
open Go
set_option linter.unusedVariables false
set_option linter.unusedSimpArgs false
inductive AX where
 | t (n:Nat)
 | c (v:AV)
 deriving Inhabited
inductive TK where
 | b | p | i | s | ag (offs:List (Nat × Nat)) | o
 deriving Inhabited
abbrev MT:=List (String × List (TypeId × FuncId × Option (Option Nat)))
inductive AO where
 | mv (x:AX)
 | pick (c a b:AX)
 | alloc (e:TypeId) (cells:List AV)
 | box (e:TypeId) (x:AX)
 | build (zero:List AV) (parts:List (Nat × Nat × AX))
 | lit (e sz n:Nat) (zero:List AV) (parts:List (Nat × AX))
 | ld (n:Option Nat) (x:AX)
 | st (n:Nat) (a v:AX)
 | nilc (mt:MT) (x:AX)
 | bin (op:BinOp) (k:TK) (x y:AX)
 | un (op:UnOp) (x:AX)
 | cvt (k:IntKind) (x:AX)
 | mki (t:TypeId) (x:AX)
 | mkf (f:Fn) (first cap:List AX)
 | mks (e sz bytes:Nat) (zero:List AV) (l c:AX)
 | slc (k:Option Nat) (x:AX) (lo hi:Option AX)
 | fad (off:Nat) (x:AX)
 | fld (off:Nat) (n:Option Nat) (x:AX)
 | idx (e sz:Nat) (x i:AX)
 | idxs (x i:AX)
 | ext (x:AX) (i:Nat)
 | asrt (t:TypeId) (zero:List AV) (ag:Bool) (ok:Bool) (x:AX)
 | call (f:FuncId) (args:List AX)
 | callv (x:AX) (args:List AX)
 | inv (tab:List (TypeId × FuncId × Option (Option Nat))) (x:AX) (args:List AX)
 | len (str:Bool) (x:AX)
 | app (e sz bytes:Nat) (zero:List AV) (x y:AX)
 | mnmx (mx:Bool) (x y:AX)
 | addc (x y z:AX)
 | mx4 (x y z u:AX)
 | mkm
 | mget (zero:AV) (x i:AX)
 | mset (x i v:AX)
 | clr (sz:Nat) (zero:List AV) (x:AX)
 | nilS (neg:Bool) (x:AX)
 | bad
 deriving Inhabited
def one:AV→Bool
 | .agg _ | .tup _ | .bn=>false
 | _=>true
def O8:List AV→Bool
 | []=>false
 | .inl _ _::_=>true
 | _::l=>O8 l
def litOwn (n sz:Nat) (rows:List (List AV)):Bool:=Nat.beq n 1 && (Nat.beq sz 1 || match rows with | r::_=>O8 r | []=>false)
def cZ:List AV→Bool
 | []=>true
 | c::cs=>one c && cZ cs
mutual
def cv:Value→Option AV
 | .int k n=>some (.int k n)
 | .bool b=>some (.bool b)
 | .string s=>some (.str s)
 | .pointer none=>some .nilp
 | .slice none 0 0=>some .nils
 | .nilFunc=>some .nilf
 | .nilIface=>some .nili
 | .map none=>some .nilm
 | .agg ⟨cs⟩=>(cvs cs).bind fun l=>if cZ l=true then some (.agg l) else none
 | .tuple ⟨cs⟩=>(cvs cs).map .tup
 | _=>none
def cvs:List Value→Option (List AV)
 | []=>some []
 | v::vs=>match cv v,cvs vs with
  | some a,some as=>some (a::as)
  | _,_=>none
end
def rx:Operand→Option AX
 | .tmp n=>some (.t n)
 | .const v=>(cv v).map .c
 | .func f=>some (.c (.fn (.func f) [] []))
 | .global _=>none
def rxs (l:List Operand):Option (List AX):=l.mapM rx
def CZ (P:Program) (t:TypeId):Option Bool :=
 match P.underlying t with
 | some (.struct _) | some (.array _ _)=>some true
 | some _=>some false
 | none=>none
def lF (P:Program) (t:TypeId):Option Nat:=(P.info? t).map (·.size)
def y8 (P:Program) (t:TypeId):Option (Option Nat) :=
 match CZ P t,lF P t with
 | some true,some n=>some (some n)
 | some false,some 1=>some none
 | _,_=>none
def zeroOf (P:Program) (t:TypeId):Option (List AV) :=
 match P.info? t with
 | some i=>match i.zero with
  | some z=>cvs z.cells.toList
  | none=>none
 | none=>none
def orBad (o:Option AO):AO:=o.getD .bad
def kR (P:Program) (name:String):List (TypeId × FuncId × Option (Option Nat)) :=
 (List.range P.types.size).filterMap fun t =>
  match P.info? t with
  | none=>none
  | some i=>match i.methods.find? (·.name == name) with
   | none=>none
   | some m=>if m.path.isEmpty then
     match m.func,P.underlying t with
     | some (f,true),some (.pointer _)=>some (t,f,none)
     | some (f,false),some (.pointer e)=>(y8 P e).map fun l=>(t,f,some l)
     | some (f,false),some _=>some (t,f,none)
     | _,_=>none
    else none
def Jn (P:Program):List String :=
 ((List.range P.types.size).flatMap fun t=>match P.underlying t with
  | some (.interface ms)=>ms.toList.map (·.1)
  | _=>[]).eraseDups
def EX (P:Program):MT:=(Jn P).filterMap fun n=>match kR P n with
 | []=>none
 | l=>some (n,l)
def AA (P:Program) (f:FuncId) (args:List AX):Option AO :=
 match P.funcs[f]? with
 | none=>none
 | some fn =>
  if fn.name == "runtime.NumGoroutine" then none
  else if fn.body.isNone then
   (if fn.name == "math/bits.Add64" && fn.origin == "" then
    match args with
    | [x,y,z]=>some (.addc x y z)
    | _=>none
   else none)
  else some (.call f args)
def yG (P:Program) (t t':TypeId) (x y:AX):Option AO :=
 if t=t' then
  match P.underlying t with
  | some (.slice e) =>
   match P.info? e,zeroOf P e with
   | some i,some z=>if i.size=z.length∧0 < i.size then some (.app e i.size i.bytes z x y) else none
   | _,_=>none
  | _=>none
 else none
def wz (P:Program) (b:Builtin) (ts:List TypeId) (args:List AX):Option AO :=
 match b,args with
 | .len,[x]=>match (ts[0]?).bind P.underlying with
  | some .string=>some (.len true x)
  | some (.slice _)=>some (.len false x)
  | _=>none
 | .append,[x,y]=>match ts with
  | [t,t']=>yG P t t' x y
  | _=>none
 | .clear,[x]=>match ts with
  | [t]=>match P.underlying t with
   | some (.slice e)=>match P.info? e,zeroOf P e with
    | some i,some z=>if i.size=z.length∧0 < i.size∧cZ z=true then some (.clr i.size z x) else none
    | _,_=>none
   | _=>none
  | _=>none
 | .max,[x,y]=>some (.mnmx true x y)
 | .min,[x,y]=>some (.mnmx false x y)
 | .max,[x,y,z,u]=>some (.mx4 x y z u)
 | _,_=>none
def qm (P:Program) (c:Call):Option AO :=
 (rxs c.args.toList).bind fun args =>
  match c.callee with
  | .value (.func f)=>AA P f args
  | .value (.tmp n)=>some (.callv (.t n) args)
  | .value _=>none
  | .invoke r m=>(rx r).map fun r=>.inv (kR P m) r args
  | .builtin b=>wz P b c.argTypes.toList args
def fQ (P:Program):List Field→Option (List (Nat × Nat))
 | []=>some []
 | f::fs =>
  if f.name ≠ "_" then
   match P.underlying f.type with
   | some (.int _)=>(fQ P fs).map ((f.offset,0)::·)
   | some .bool=>(fQ P fs).map ((f.offset,1)::·)
   | some .string=>(fQ P fs).map ((f.offset,2)::·)
   | _=>none
  else none
def D9 (P:Program) (t:TypeId):TK :=
 match P.underlying t with
 | some .bool=>.b
 | some (.pointer _)=>.p
 | some (.interface _)=>.i
 | some (.slice _)=>.s
 | some (.struct fs)=>if P.stoodInHeld t=false∧P.eqGuardType P.depth t=false then
   match fQ P fs.toList with
   | some l=>.ag l
   | none=>.o
  else .o
 | _=>.o
def CJ:Option Operand→Option (Option AX)
 | none=>some none
 | some y=>(rx y).map some
def H6 (P:Program) (op:BinOp) (t:TypeId) (y:Operand):Option Bool :=
 match op,P.underlying t,y with
 | .eql,some (.slice _),.const (.slice none 0 0)=>some false
 | .neq,some (.slice _),.const (.slice none 0 0)=>some true
 | _,_,_=>none
def rslv (P:Program) (op:Op):AO:=orBad <|
 match op with
 | .move x | .assign x=>(rx x).map .mv
 | .pick c a b=>do some (.pick (← rx c) (← rx a) (← rx b))
 | .alloc e=>(zeroOf P e).map (.alloc e)
 | .box e x=>(rx x).map (.box e)
 | .build t parts=>do
  let z ← zeroOf P t
  match P.underlying t with
  | some (.struct fs) =>
   let ps ← parts.toList.mapM fun (i,x)=>do
    let f ← fs[i]?
    some (f.offset,← lF P f.type,← rx x)
   let _ ← fs.toList.mapM fun f=>lF P f.type
   some (.build z ps)
  | _=>none
 | .buildSlice t n parts =>
  match P.underlying t with
  | some (.slice e)=>do
   let sz ← lF P e
   let z ← zeroOf P e
   let ps ← parts.toList.mapM fun (i,x)=>do some (i,← rx x)
   if n * sz≤2 ^ 24∧z.length=sz∧0 < sz then some (.lit e sz n z ps) else none
  | _=>none
 | .load t x=>do some (.ld (← y8 P t) (← rx x))
 | .store t a v=>do some (.st (← lF P t) (← rx a) (← rx v))
 | .nilCheck x=>(rx x).map (.nilc (EX P))
 | .binOp op t x y _=>match H6 P op t y with
  | some neg=>do some (.nilS neg (← rx x))
  | none=>do some (.bin op (D9 P t) (← rx x) (← rx y))
 | .unOp op _ x=>(rx x).map (.un op)
 | .convert s d x =>
  match P.underlying s,P.underlying d with
  | some (.int _),some (.int k)=>(rx x).map (.cvt k)
  | _,_=>none
 | .makeInterface t x =>
  match P.underlying t with
  | some (.interface _) | none=>none
  | _=>(rx x).map (.mki t)
 | .makeFunc f a b=>do some (.mkf f (← rxs a.toList) (← rxs b.toList))
 | .makeSlice t l c =>
  match P.underlying t with
  | some (.slice e)=>do
   let i ← P.info? e
   let z ← zeroOf P e
   if i.size=z.length∧0 < i.size then some (.mks e i.size i.bytes z (← rx l) (← rx c)) else none
  | _=>none
 | .slice t x lo hi none =>
  match P.underlying t with
  | some (.slice e)=>do
   let k ← lF P e
   let lo' ← CJ lo
   let hi' ← CJ hi
   some (.slc (some k) (← rx x) lo' hi')
  | some .string=>do
   let lo' ← CJ lo
   let hi' ← CJ hi
   some (.slc none (← rx x) lo' hi')
  | _=>none
 | .fieldAddr s x i =>
  match P.underlying s with
  | some (.struct fs)=>do
   let f ← fs[i]?
   let n ← lF P f.type
   if n=0 then none else some (.fad f.offset (← rx x))
  | _=>none
 | .field s x i =>
  match P.underlying s with
  | some (.struct fs)=>do
   let f ← fs[i]?
   some (.fld f.offset (← y8 P f.type) (← rx x))
  | _=>none
 | .indexAddr t x i =>
  match P.underlying t with
  | some (.slice e)=>do some (.idx e (← lF P e) (← rx x) (← rx i))
  | _=>none
 | .index t x i =>
  match P.underlying t with
  | some .string=>do some (.idxs (← rx x) (← rx i))
  | _=>none
 | .extract x i=>(rx x).map (.ext · i)
 | .typeAssert x _ t ok =>
  match P.underlying t with
  | some (.interface _) | none=>none
  | _=>do some (.asrt t (← zeroOf P t) (← CZ P t) ok (← rx x))
 | .call c=>qm P c
 | .makeMap _ none=>some .mkm
 | .lookup t x i false =>
  match P.underlying t with
  | some (.map k e)=>match P.underlying k,(P.info? e).bind (·.zero) with
   | some (.int _),some (.bool b)=>do some (.mget (.bool b) (← rx x) (← rx i))
   | some (.int _),some (.int k n)=>do some (.mget (.int k n) (← rx x) (← rx i))
   | _,_=>none
  | _=>none
 | .mapUpdate t x i v =>
  match P.underlying t with
  | some (.map k _)=>match P.underlying k with
   | some (.int _)=>do some (.mset (← rx x) (← rx i) (← rx v))
   | _=>none
  | _=>none
 | _=>none
mutual
def pur:AV→Bool
 | .ptr .. | .aA .. | .sl .. | .map _=>false
 | .fn _ a b=>gm a && gm b
 | .iface _ x=>pur x
 | .agg cs=>gm cs
 | .tup cs=>gm cs
 | _=>true
def gm:List AV→Bool
 | []=>true
 | c::cs=>pur c && gm cs
end
def aB:List (List AV)→Bool
 | []=>true
 | r::rs=>gm r && aB rs
inductive Cnd where
 | t
 | and (a b:Cnd)
 | eqN (x y:Nat)
 | leN (x y:Nat)
 | leI (x y:Int)
 | ltI (x y:Int)
 | neI (x y:Int)
 | rget (rows:List (List AV)) (i:Nat) (r:List AV)
 | nil (rows:List (List AV))
 | pu (rows:List (List AV))
 | mget (rows:List (List AV)) (k:IntKind) (n:Int) (z v:AV)
 | mset (rows:List (List AV)) (k:IntKind) (n:Int) (v:AV) (rows':List (List AV))
 deriving Inhabited
def jM (k:IntKind) (n:Int) (z:AV):List (List AV)→Option AV
 | []=>some z
 | [.int k' m,v]::rows=>if k=k' then if n=m then some v else jM k n z rows else none
 | _=>none
def jh (k:IntKind) (n:Int) (v:AV):List (List AV)→Option (List (List AV))
 | []=>some [[.int k n,v]]
 | [.int k' m,u]::rows=>if k=k' then if n=m then some ([.int k n,v]::rows) else (jh k n v rows).map ([.int k' m,u]::·) else none
 | _=>none
def mBS (rows:List (List AV)) (k:IntKind) (n:Int):Bool:=match jM k n .bn rows with
 | some (.bool b)=>b
 | _=>false
def mIS (rows:List (List AV)) (k:IntKind) (n:Int):Int:=match jM k n .bn rows with
 | some (.int _ m)=>m
 | _=>0
def mSS (rows:List (List AV)) (k:IntKind) (n:Int) (v:AV):List (List AV):=(jh k n v rows).getD rows
def Cnd.holds:Cnd→Prop
 | .t=>True
 | .and a b=>a.holds∧b.holds
 | .eqN x y=>x=y
 | .leN x y=>x≤y
 | .leI x y=>x≤y
 | .ltI x y=>x < y
 | .neI x y=>x≠y
 | .rget rows i r=>rows[i]?=some r
 | .nil rows=>rows=[]
 | .pu rows=>aB rows=true
 | .mget rows k n z v=>jM k n z rows=some v
 | .mset rows k n v rows'=>jh k n v rows=some rows'
structure Ar where
 iop:BinOp→IntKind→Int→Int→Int
 cmp:BinOp→Int→Int→Bool
 sop:BinOp→ByteArray→ByteArray→Bool
 cat:ByteArray→ByteArray→ByteArray
 ssub:ByteArray→Nat→Nat→ByteArray
 beq:Bool→Bool→Bool
 and:Bool→Bool→Bool
 not:Bool→Bool
 neg:IntKind→Int→Int
 xor:IntKind→Int→Int
 cvt:IntKind→Int→Int
 mx:Int→Int→Int
 mn:Int→Int→Int
 tn:Int→Nat
 ofN:Nat→Int
 add:Nat→Nat→Nat
 mul:Nat→Nat→Nat
 mulI:Int→Nat→Int
 sub:Nat→Nat→Nat
 slen:ByteArray→Nat
 sidx:ByteArray→Int→Int
 rlen:List (List AV)→Nat
 rtake:List (List AV)→Nat→List (List AV)
 rdrop:List (List AV)→Nat→List (List AV)
 rapp:List (List AV)→Nat→List (List AV)→List (List AV)
 rset:List (List AV)→Nat→List AV→List (List AV)
 rrep:Nat→List AV→List (List AV)
 nd:Cnd→Prop
 im:Bool→Bool→Prop→Prop
 cI:List (List AV)→Nat→Nat→Int
 cB:List (List AV)→Nat→Nat→Bool
 cS:List (List AV)→Nat→Nat→ByteArray
 cR:List (List AV)→Nat→Nat→List (List AV)
 cX:List (List AV)→Nat→List AV
 s0:Int→Int→Int
 c0:Int→Int→Int
 mB:List (List AV)→IntKind→Int→Bool
 mI:List (List AV)→IntKind→Int→Int
 mS:List (List AV)→IntKind→Int→AV→List (List AV)
 adz:Nat→Nat→Nat
def oZ:Nat→Nat→Nat
 | 0,x=>x
 | k + 1,x=>k + 1 + x
theorem JP (o x:Nat):oZ o x=o + x:=by cases o <;> simp [oZ]
def cO (op:BinOp) (k:IntKind) (x y:Int):Int :=
 match op with
 | .add=>k.wrap (x + y)
 | .sub=>k.wrap (x - y)
 | .mul=>k.wrap (x * y)
 | .quo=>k.wrap (x.tdiv y)
 | .rem=>x.tmod y
 | .and=>k.wrap (BitVec.ofInt k.bits x &&& BitVec.ofInt k.bits y).toNat
 | .or=>k.wrap (BitVec.ofInt k.bits x ||| BitVec.ofInt k.bits y).toNat
 | .xor=>k.wrap (BitVec.ofInt k.bits x ^^^ BitVec.ofInt k.bits y).toNat
 | .andNot=>k.wrap (BitVec.ofInt k.bits x &&& ~~~ BitVec.ofInt k.bits y).toNat
 | .shl=>k.wrap (x * 2 ^ (Nat.min y.toNat k.bits))
 | .shr=>x.fdiv (2 ^ (Nat.min y.toNat k.bits))
 | _=>0
def jX (op:BinOp) (x y:Int):Bool :=
 match op with
 | .eql=>x == y
 | .neq=>x != y
 | .lss=>decide (x < y)
 | .leq=>decide (x≤y)
 | .gtr=>decide (x > y)
 | .geq=>decide (x≥y)
 | _=>false
def vZ (op:BinOp) (x y:ByteArray):Bool :=
 match op with
 | .eql=>x.toList == y.toList
 | .neq=>!(x.toList == y.toList)
 | .lss=>Op.bytesLess x.toList y.toList
 | .leq=>Op.bytesLess x.toList y.toList || x.toList == y.toList
 | .gtr=>!(Op.bytesLess x.toList y.toList || x.toList == y.toList)
 | .geq=>!(Op.bytesLess x.toList y.toList)
 | _=>false
def aP (rows:List (List AV)) (n:Nat) (new:List (List AV)):List (List AV):=rows.take n++new++rows.drop (n + new.length)
def cellS (rows:List (List AV)) (i j:Nat):AV:=((rows[i]?).bind (·[j]?)).getD .bn
def cIS (rows:List (List AV)) (i j:Nat):Int:=match cellS rows i j with
 | .int _ n=>n
 | _=>0
def cBS (rows:List (List AV)) (i j:Nat):Bool:=match cellS rows i j with
 | .bool b=>b
 | _=>false
def cSS (rows:List (List AV)) (i j:Nat):ByteArray:=match cellS rows i j with
 | .str s=>s
 | _=>ByteArray.empty
def cRS (rows:List (List AV)) (i j:Nat):List (List AV):=match cellS rows i j with
 | .inl _ rs=>rs
 | _=>[]
def arS:Ar where
 iop:=cO
 cmp:=jX
 sop:=vZ
 cat:=fun x y=>x++y
 ssub:=fun s a b=>s.extract a b
 beq:=fun x y=>x == y
 and:=fun x y=>x && y
 not:=fun x=>!x
 neg:=fun k x=>k.wrap (0 - x)
 xor:=fun k x=>k.wrap (BitVec.ofInt k.bits (if k.signed then -1 else k.max) ^^^ BitVec.ofInt k.bits x).toNat
 cvt:=fun k x=>k.wrap x
 mx:=fun x y=>if y > x then y else x
 mn:=fun x y=>if y < x then y else x
 tn:=Int.toNat
 ofN:=fun n=>(n:Int)
 add:=fun x y=>x + y
 mul:=fun x y=>x * y
 mulI:=fun x y=>x * y
 sub:=fun x y=>x - y
 slen:=fun s=>s.size
 sidx:=fun s n=>((s.data.toList.getD n.toNat 0).toNat:Int)
 rlen:=List.length
 rtake:=fun r n=>r.take n
 rdrop:=fun r n=>r.drop n
 rapp:=aP
 rset:=fun r n x=>r.set n x
 rrep:=fun n r=>List.replicate n r
 nd:=Cnd.holds
 im:=fun b c q=>b=c→q
 cI:=cIS
 cB:=cBS
 cS:=cSS
 cR:=cRS
 cX:=fun rows i=>(rows[i]?).getD []
 s0:=fun x y=>((x.toNat + y.toNat:Nat):Int) % 18446744073709551616
 c0:=fun x y=>((x.toNat + y.toNat:Nat):Int) / 18446744073709551616
 mB:=mBS
 mI:=mIS
 mS:=mSS
 adz:=oZ
abbrev dG:=Ar→TypeId→List (List AV)→Nat→List AV
inductive Out where
 | ok (v:AV) (H:List aj)
 | need (p:Cnd) (o:Out)
 | ask (p:List AV→Prop) (k:List AV→Out)
 | br (b:Bool) (k:Bool→Out)
 | nilq (neg:Bool) (n:Nat) (H:List aj)
 | call (f:FuncId) (args:List AV)
 | bad
 deriving Inhabited
def sym:AV→AV
 | .bool b=>.sb b
 | v=>v
def uns:AV→AV
 | .sb b=>.bool b
 | v=>v
def cellsOf:AV→List AV
 | .agg cs=>cs
 | v=>[uns v]
def aS {α:Type}:List α→Nat
 | []=>0
 | _::l=>aS l + 1
def aX {α:Type}:List α→Nat→Option α
 | [],_=>none
 | x::_,0=>some x
 | _::l,n + 1=>aX l n
def bM {α:Type}:List α→Nat→α→List α
 | [],_,_=>[]
 | _::l,0,y=>y::l
 | x::l,n + 1,y=>x::bM l n y
def pG {α:Type}:Nat→List α→List α
 | 0,l=>l
 | _ + 1,[]=>[]
 | n + 1,_::l=>pG n l
def Aj {α:Type}:Nat→List α→Option (List α)
 | 0,_=>some []
 | _ + 1,[]=>none
 | n + 1,x::l=>(Aj n l).map (x::·)
def dQ {α:Type}:List α→List α→List α
 | [],m=>m
 | x::l,m=>x::dQ l m
def pI:List AV→Nat→List AV→Option (List AV)
 | cs,0,[]=>some cs
 | [],0,_::_=>none
 | _::cs,0,y::ys=>(pI cs 0 ys).map (y::·)
 | [],_ + 1,_=>none
 | c::cs,o + 1,ys=>(pI cs o ys).map (c::·)
def kE {α:Type}:Nat→α→List α
 | 0,_=>[]
 | n + 1,x=>x::kE n x
def ev (fr:List AV):AX→AV
 | .t n=>(aX fr n).getD .bn
 | .c v=>v
def evs (fr:List AV):List AX→List AV
 | []=>[]
 | x::xs=>ev fr x::evs fr xs
def jg (n:Option Nat) (cs:List AV):Option AV :=
 match n with
 | none=>match cs with
  | c::_=>some (sym c)
  | []=>none
 | some n=>(Aj n cs).map .agg
def okO (v:Option AV) (H:List aj):Out :=
 match v with
 | some v=>.ok v H
 | none=>.bad
def jC (fr:List AV):List AV→List (Nat × Nat × AX)→Option (List AV)
 | z,[]=>some z
 | z,(o,n,x)::ps =>
  let cs:=cellsOf (ev fr x)
  if aS cs=n∧cZ cs=true then
   match pI z o cs with
   | some z'=>jC fr z' ps
   | none=>none
  else none
def uU (fr:List AV) (sz:Nat):List (List AV)→List (Nat × AX)→Option (List (List AV))
 | rows,[]=>some rows
 | rows,(i,x)::ps =>
  let cs:=cellsOf (ev fr x)
  if aS cs=sz∧cZ cs=true∧i < aS rows then uU fr sz (bM rows i cs) ps else none
def rowsOf (A:Ar) (H:List aj) (x:AV) (k:List (List AV)→Out) (sz:Nat):Out :=
 match x with
 | .nils=>k []
 | .inl sz' rows=>if sz'=sz then k rows else .need (.nil rows) (k [])
 | .sl id t o n=>match aX H id with
  | some (.arr _ sz' rows)=>if sz'=sz then .need (.and (.eqN t (A.rlen rows)) (.leN (A.add o n) (A.rlen rows))) (k (A.rtake (A.rdrop rows o) n)) else .bad
  | _=>.bad
 | _=>.bad
def uw (A:Ar) (op:BinOp) (x y:AV) (H:List aj):Out :=
 match x,y with
 | .int k a,.int k' b =>
  match op with
  | .shl | .shr=>.need (.leI 0 b) (.ok (.int k (A.iop op k a b)) H)
  | _=>if k=k' then
    match op with
    | .quo | .rem=>.need (.neI b 0) (.ok (.int k (A.iop op k a b)) H)
    | .add | .sub | .mul | .and | .or | .xor | .andNot=>.ok (.int k (A.iop op k a b)) H
    | .eql | .neq | .lss | .leq | .gtr | .geq=>.ok (.sb (A.cmp op a b)) H
    | _=>.bad
   else .bad
 | .str s,.str t =>
  match op with
  | .add=>.need (.leN (A.add (A.slen s) (A.slen t)) 9223372036854775807) (.ok (.str (A.cat s t)) H)
  | .eql | .neq | .lss | .leq | .gtr | .geq=>.ok (.sb (A.sop op s t)) H
  | _=>.bad
 | _,_=>.bad
def Hl (x:AV) (H:List aj) (k:Bool→Out):Out :=
 match x with
 | .nilp=>k true
 | .aA _ _=>k false
 | .iptr _=>k false
 | .ptr _ _ _ _=>k false
 | _=>.bad
def wQ:AV→Bool
 | .nilp=>true
 | _=>false
def zY (x y:AV) (H:List aj) (k:Bool→Out):Out :=
 match wQ y,wQ x with
 | true,_=>Hl x H k
 | false,true=>Hl y H k
 | false,false=>.bad
def eqC (A:Ar) (k:Nat) (x y:AV):Option Bool :=
 match k,x,y with
 | 0,.int k a,.int k' b=>if k=k' then some (A.cmp .eql a b) else none
 | 1,.bool a,.bool b=>some (A.beq a b)
 | 2,.str a,.str b=>some (A.sop .eql a b)
 | _,_,_=>none
def eqF (A:Ar) (xs ys:List AV):List (Nat × Nat)→Option Bool
 | []=>some true
 | (o,k)::os=>match aX xs o,aX ys o with
  | some x,some y=>match eqC A k x y,eqF A xs ys os with
   | some b,some c=>some (A.and b c)
   | _,_=>none
  | _,_=>none
def Gl (A:Ar) (op:BinOp) (k:TK) (x y:AV) (H:List aj):Out :=
 match x,y with
 | .int _ _,.int _ _=>uw A op x y H
 | .str _,.str _=>uw A op x y H
 | .agg xs,.agg ys=>match k,op with
  | .ag offs,.eql=>match eqF A xs ys offs with
   | some b=>.ok (.sb b) H
   | none=>.bad
  | .ag offs,.neq=>match eqF A xs ys offs with
   | some b=>.ok (.sb (A.not b)) H
   | none=>.bad
  | _,_=>.bad
 | x,y=>match k,op with
  | .b,.eql=>match sym x,sym y with
   | .sb a,.sb b=>.ok (.sb (A.beq a b)) H
   | _,_=>.bad
  | .b,.neq=>match sym x,sym y with
   | .sb a,.sb b=>.ok (.sb (A.not (A.beq a b))) H
   | _,_=>.bad
  | .p,.eql=>zY x y H fun b=>.ok (.bool b) H
  | .p,.neq=>zY x y H fun b=>.ok (.bool (!b)) H
  | _,_=>.bad
def ldA (A:Ar) (σr:dG) (n:Option Nat) (x:AV) (H:List aj) (k:AV→Out):Out :=
 match x with
 | .aA id o=>match aX H id with
  | some (.box _ cs)=>match jg n (pG o cs) with
   | some v=>k v
   | none=>.bad
  | _=>.bad
 | .iptr cs=>match jg n cs with
  | some v=>k v
  | none=>.bad
 | .ptr id t r o=>match aX H id with
  | some (.arr e _ rows)=>.need (.and (.eqN t (A.rlen rows)) (.rget rows r (σr A e rows r))) (match jg n (pG o (σr A e rows r)) with
   | some v=>k v
   | none=>.bad)
  | _=>.bad
 | _=>.bad
def wY (fr:List AV):Option AX→Option (Option Int)
 | none=>some none
 | some x=>match ev fr x with
  | .int _ n=>some (some n)
  | _=>none
def MJ (A:Ar) (k:Option Nat) (x:AV) (lo hi:Option Int) (H:List aj):Out :=
 match k,x with
 | some z,.inl sz rows=>if sz=z then match lo,hi with
  | none,none=>.ok (.inl sz rows) H
  | none,some h=>.need (.and (.leI 0 h) (.leI h (A.ofN (A.rlen rows)))) (.ok (.inl sz (A.rtake rows (A.tn h))) H)
  | some l,none=>.need (.and (.leI 0 l) (.leI l (A.ofN (A.rlen rows)))) (.ok (.inl sz (A.rdrop rows (A.tn l))) H)
  | some l,some h=>.need (.and (.leI 0 l) (.and (.leI l h) (.leI h (A.ofN (A.rlen rows))))) (.ok (.inl sz (A.rdrop (A.rtake rows (A.tn h)) (A.tn l))) H)
  else .bad
 | some z,.sl id t o n=>match aX H id with
  | some (.arr _ sz rows)=>if sz=z then match lo,hi with
   | none,none=>.need (.eqN t (A.rlen rows)) (.ok (.sl id t o n) H)
   | none,some h=>.need (.and (.leI 0 h) (.and (.leI h (A.ofN n)) (.eqN t (A.rlen rows)))) (.ok (.sl id t o (A.tn h)) H)
   | some l,none=>.need (.and (.leI 0 l) (.and (.leI l (A.ofN n)) (.eqN t (A.rlen rows)))) (.ok (.sl id t (A.add o (A.tn l)) (A.sub n (A.tn l))) H)
   | some l,some h=>.need (.and (.leI 0 l) (.and (.leI l h) (.and (.leI h (A.ofN n)) (.eqN t (A.rlen rows))))) (.ok (.sl id t (A.add o (A.tn l)) (A.sub (A.tn h) (A.tn l))) H)
   else .bad
  | _=>.bad
 | some _,.nils=>.need (.and (.leI (lo.getD 0) 0) (.and (.leI 0 (lo.getD 0)) (.and (.leI (hi.getD 0) 0) (.leI 0 (hi.getD 0))))) (.ok .nils H)
 | none,.str s=>match lo,hi with
  | none,none=>.ok (.str s) H
  | none,some h=>.need (.and (.leI 0 h) (.leI h (A.ofN (A.slen s)))) (.ok (.str (A.ssub s 0 (A.tn h))) H)
  | some l,none=>.need (.and (.leI 0 l) (.leI l (A.ofN (A.slen s)))) (.ok (.str (A.ssub s (A.tn l) (A.slen s))) H)
  | some l,some h=>.need (.and (.leI 0 l) (.and (.leI l h) (.leI h (A.ofN (A.slen s))))) (.ok (.str (A.ssub s (A.tn l) (A.tn h))) H)
 | _,_=>.bad
def appA (A:Ar) (e sz bytes:Nat) (x:AV) (new:List (List AV)) (H:List aj):Out :=
 match x with
 | .nils=>.need (.and (.leN (A.rlen new) 140737488355328) (.leN (A.mul (A.rlen new) bytes) 140737488355328)) (.ok (.sl (aS H) (A.rlen new) 0 (A.rlen new)) (dQ H [.arr e sz new]))
 | .sl id t 0 n=>match aX H id with
  | some (.arr e' sz' rows)=>if e'=e∧sz'=sz then
    .need (.and (.eqN t (A.rlen rows)) (.and (.leN n (A.rlen rows)) (.and (.leN (A.add n (A.rlen new)) 140737488355328) (.leN (A.mul (A.add n (A.rlen new)) bytes) 140737488355328)))) (.ok (.sl id (A.rlen (A.rapp rows n new)) 0 (A.add n (A.rlen new))) (bM H id (.arr e sz (A.rapp rows n new))))
   else .bad
  | _=>.bad
 | _=>.bad
def pz:List (TypeId × FuncId × Option (Option Nat))→TypeId→Option (FuncId × Option (Option Nat))
 | [],_=>none
 | (t',f,l)::r,t=>if t'=t then some (f,l) else pz r t
def EY:MT→String→TypeId→Option (FuncId × Option (Option Nat))
 | [],_,_=>none
 | (m,l)::r,n,t=>if m=n then pz l t else EY r n t
def Ho (mt:MT) (n:String):List AV→List AV→Bool
 | [.iface t _],[]=>match EY mt n t with
  | some (_,none)=>true
  | _=>false
 | _,_=>false
def aH (A:Ar) (σr:dG) (fr:List AV) (H:List aj):AO→Out
 | .mv x=>.ok (ev fr x) H
 | .pick c a b=>match ev fr c with
  | .bool true=>.ok (ev fr a) H
  | .bool false=>.ok (ev fr b) H
  | .sb s=>.br s fun s=>.ok (ev fr (if s then a else b)) H
  | _=>.bad
 | .alloc e z=>if cZ z=true then .ok (.aA (aS H) 0) (dQ H [.box e z]) else .bad
 | .box e x=>let cs:=cellsOf (ev fr x);if cZ cs=true then .ok (.aA (aS H) 0) (dQ H [.box e cs]) else .bad
 | .build z ps=>if cZ z=true then okO ((jC fr z ps).map .agg) H else .bad
 | .lit e sz n z ps=>if cZ z=true then
   match uU fr sz (kE n z) ps with
   | some rows=>if n=0 then .ok .nils H else if aB rows && !(litOwn n sz rows) then .ok (.inl sz rows) H else .ok (.sl (aS H) n 0 n) (dQ H [.arr e sz rows])
   | none=>.bad
  else .bad
 | .ld n x=>ldA A σr n (ev fr x) H fun v=>.ok v H
 | .st n a v =>
  let cs:=cellsOf (ev fr v)
  if aS cs=n∧cZ cs=true then
   match ev fr a with
   | .aA id o=>match aX H id with
    | some (.box e bs)=>match pI bs o cs with
     | some bs'=>.ok (.tup []) (bM H id (.box e bs'))
     | none=>.bad
    | _=>.bad
   | .ptr id t r o=>match aX H id with
    | some (.arr e sz rows)=>match pI (σr A e rows r) o cs with
     | some row'=>.need (.and (.eqN t (A.rlen rows)) (.rget rows r (σr A e rows r))) (.ok (.tup []) (bM H id (.arr e sz (A.rset rows r row'))))
     | none=>.bad
    | _=>.bad
   | _=>.bad
  else .bad
 | .nilc mt x=>match ev fr x with
  | .ptr a b c d=>.ok (.ptr a b c d) H
  | .aA a b=>.ok (.aA a b) H
  | .iptr cs=>.ok (.iptr cs) H
  | .fn (.func f) a b=>.ok (.fn (.func f) a b) H
  | .fn (.method n) fi ca=>if Ho mt n fi ca then .ok (.fn (.method n) fi ca) H else .bad
  | _=>.bad
 | .bin op k x y=>Gl A op k (ev fr x) (ev fr y) H
 | .un op x=>match op,ev fr x with
  | .not,.bool b=>.ok (.bool (!b)) H
  | .not,.sb b=>.ok (.sb (A.not b)) H
  | .neg,.int k n=>.ok (.int k (A.neg k n)) H
  | .xor,.int k n=>.ok (.int k (A.xor k n)) H
  | _,_=>.bad
 | .cvt k x=>match ev fr x with
  | .int _ n=>.ok (.int k (A.cvt k n)) H
  | _=>.bad
 | .mki t x=>.ok (.iface t (uns (ev fr x))) H
 | .mkf f a b=>.ok (.fn f (evs fr a) (evs fr b)) H
 | .mks e sz bytes z l c=>match ev fr l,ev fr c with
  | .int .i64 l,.int .i64 c=>if cZ z=true then .need (.and (.leI 0 l) (.and (.leI l c) (.and (.leI c 140737488355328) (.leI (A.mulI c bytes) 140737488355328)))) (.ok (.sl (aS H) (A.tn l) 0 (A.tn l)) (dQ H [.arr e sz (A.rrep (A.tn l) z)])) else .bad
  | _,_=>.bad
 | .slc k x lo hi=>match wY fr lo,wY fr hi with
  | some lo,some hi=>MJ A k (ev fr x) lo hi H
  | _,_=>.bad
 | .fad off x=>match ev fr x with
  | .aA id o=>.ok (.aA id (o + off)) H
  | .iptr cs=>.ok (.iptr (pG off cs)) H
  | .ptr id t r o=>.ok (.ptr id t r (o + off)) H
  | _=>.bad
 | .fld off n x=>match ev fr x with
  | .agg cs=>okO (jg n (pG off cs)) H
  | _=>.bad
 | .idx e sz x i=>match ev fr x,ev fr i with
  | .inl sz' rows,.int _ n=>if sz=sz' then .need (.and (.leI 0 n) (.rget rows (A.tn n) (σr A e rows (A.tn n)))) (.ok (.iptr (σr A e rows (A.tn n))) H) else .bad
  | .sl id t o len,.int _ n=>match aX H id with
   | some (.arr _ sz' rows)=>if sz=sz' then .need (.and (.leI 0 n) (.and (.ltI n (A.ofN len)) (.eqN t (A.rlen rows)))) (.ok (.ptr id t (A.adz o (A.tn n)) 0) H) else .bad
   | _=>.bad
  | _,_=>.bad
 | .idxs x i=>match ev fr x,ev fr i with
  | .str s,.int _ n=>.need (.and (.leI 0 n) (.ltI n (A.ofN (A.slen s)))) (.ok (.int .u8 (A.sidx s n)) H)
  | _,_=>.bad
 | .ext x i=>match ev fr x with
  | .tup vs=>okO ((aX vs i).map sym) H
  | _=>.bad
 | .asrt t z ag ok x=>match ev fr x with
  | .iface t' v=>if t'=t then .ok (if ok then .tup [v,.bool true] else sym v) H else .bad
  | _=>.bad
 | .call f args=>.call f (evs fr args)
 | .callv x args=>match ev fr x with
  | .fn (.func f) a b=>.call f (dQ a (dQ (evs fr args) b))
  | _=>.bad
 | .inv tab x args=>match ev fr x with
  | .iface t v=>match pz tab t with
   | some (f,none)=>.call f (v::evs fr args)
   | some (f,some l)=>ldA A σr l v H fun u=>.call f (u::evs fr args)
   | none=>.bad
  | _=>.bad
 | .len str x=>match str,ev fr x with
  | false,.nils=>.ok (.int .i64 0) H
  | false,.inl _ rows=>.ok (.int .i64 (A.ofN (A.rlen rows))) H
  | false,.sl id t _ n=>match aX H id with
   | some (.arr _ _ rows)=>.need (.eqN t (A.rlen rows)) (.ok (.int .i64 (A.ofN n)) H)
   | _=>.bad
  | true,.str s=>.ok (.int .i64 (A.ofN (A.slen s))) H
  | _,_=>.bad
 | .app e sz bytes _ x y=>rowsOf A H (ev fr y) (fun new=>appA A e sz bytes (ev fr x) new H) sz
 | .mnmx mx x y=>match ev fr x,ev fr y with
  | .int k a,.int k' b=>if k=k' then .ok (.int k (if mx then A.mx a b else A.mn a b)) H else .bad
  | _,_=>.bad
 | .addc x y z=>match ev fr x,ev fr y,ev fr z with
  | .int .u64 a,.int .u64 b,.int .u64 0=>.ok (.tup [.int .u64 (A.s0 a b),.int .u64 (A.c0 a b)]) H
  | _,_,_=>.bad
 | .mx4 x y z u=>match ev fr x,ev fr y,ev fr z,ev fr u with
  | .int .i64 a,.int .i64 b,.int .i64 c,.int .i64 d=>.ok (.int .i64 (A.mx (A.mx (A.mx a b) c) d)) H
  | _,_,_,_=>.bad
 | .mkm=>.ok (.map (aS H)) (dQ H [.mpb []])
 | .mget z x i=>match ev fr x,ev fr i with
  | .nilm,.int _ _=>.ok (sym z) H
  | .map id,.int k n=>match aX H id with
   | some (.mpb rows)=>match z with
    | .bool b=>.need (.mget rows k n (.bool b) (.bool (A.mB rows k n))) (.ok (.sb (A.mB rows k n)) H)
    | .int k' m=>.need (.mget rows k n (.int k' m) (.int k' (A.mI rows k n))) (.ok (.int k' (A.mI rows k n)) H)
    | _=>.bad
   | _=>.bad
  | _,_=>.bad
 | .mset x i v=>match ev fr x,ev fr i with
  | .map id,.int k n=>match aX H id with
   | some (.mpb rows)=>if pur (uns (ev fr v))=true then .need (.mset rows k n (uns (ev fr v)) (A.mS rows k n (uns (ev fr v)))) (.ok (.tup []) (bM H id (.mpb (A.mS rows k n (uns (ev fr v)))))) else .bad
   | _=>.bad
  | _,_=>.bad
 | .nilS neg x=>match ev fr x with
  | .nils=>.nilq neg 0 H
  | .inl _ rows=>.nilq neg (A.rlen rows) H
  | .sl id t _ n=>match aX H id with
   | some (.arr _ _ rows)=>.need (.eqN t (A.rlen rows)) (.nilq neg n H)
   | _=>.bad
  | _=>.bad
 | .clr sz z x=>match ev fr x with
  | .nils=>.ok (.tup []) H
  | .sl id t o n=>match aX H id with
   | some (.arr e sz' rows)=>if sz'=sz then .need (.and (.eqN t (A.rlen rows)) (.leN (A.add o n) (A.rlen rows))) (.ok (.tup []) (bM H id (.arr e sz (A.rapp rows o (A.rrep n z))))) else .bad
   | _=>.bad
  | _=>.bad
 | .bad=>.bad
end Go.Ab

namespace Go.Ab
open Go
set_option linter.unusedVariables false
set_option linter.unusedSimpArgs false
theorem aO {α:Type}:∀ l:List α,aS l=l.length
 | []=>rfl
 | _::l=>by simp [aS,aO l]
theorem aI {α:Type}:∀ (l:List α) (n:Nat),aX l n=l[n]?
 | [],_=>by simp [aX]
 | x::_,0=>by simp [aX]
 | _::l,n + 1=>by simp [aX,aI l n]
theorem bg {α:Type}:∀ (l:List α) (n:Nat) (y:α),bM l n y=l.set n y
 | [],_,_=>rfl
 | _::l,0,y=>rfl
 | x::l,n + 1,y=>by simp [bM,bg l n y]
theorem jW {α:Type}:∀ (n:Nat) (l:List α),pG n l=l.drop n
 | 0,l=>by simp [pG]
 | _ + 1,[]=>by simp [pG]
 | n + 1,_::l=>by simp [pG,jW n l]
theorem bC {α:Type}:∀ l m:List α,dQ l m=l++m
 | [],m=>rfl
 | x::l,m=>by simp [dQ,bC l m]
theorem yl {α:Type}:∀ (n:Nat) (l r:List α),Aj n l=some r→r=l.take n∧r.length=n
 | 0,l,r,h=>by simp [Aj] at h;subst h;simp
 | n + 1,[],r,h=>by simp [Aj] at h
 | n + 1,x::l,r,h=>by
  simp only [Aj,Option.map_eq_some_iff] at h
  obtain ⟨r',h1,rfl⟩:=h
  obtain ⟨h2,h3⟩:=yl n l r' h1
  simp [← h2,h3]
theorem dZ {α:Type}:∀ (n:Nat) (x:α),kE n x=List.replicate n x
 | 0,_=>rfl
 | n + 1,x=>by simp [kE,List.replicate_succ,dZ n x]
theorem rO:∀ (cs:List AV) (o:Nat) (ys r:List AV),pI cs o ys=some r→o + ys.length≤cs.length∧r=cs.take o++ys++cs.drop (o + ys.length)
 | cs,0,[],r,h=>by simp [pI] at h;subst h;simp
 | [],0,_::_,r,h=>by simp [pI] at h
 | _::cs,0,y::ys,r,h=>by
  simp only [pI,Option.map_eq_some_iff] at h
  obtain ⟨r',h1,rfl⟩:=h
  obtain ⟨h2,h3⟩:=rO cs 0 ys r' h1
  subst h3
  simp at h2 ⊢
  omega
 | [],_ + 1,ys,r,h=>by cases ys <;> simp [pI] at h
 | c::cs,o + 1,ys,r,h=>by
  have h':(pI cs o ys).map (c::·)=some r:=by cases ys <;> simpa [pI] using h
  simp only [Option.map_eq_some_iff] at h'
  obtain ⟨r',h1,rfl⟩:=h'
  obtain ⟨h2,h3⟩:=rO cs o ys r' h1
  subst h3
  refine ⟨by simp;omega,?_⟩
  rw [show o + 1 + ys.length=(o + ys.length) + 1 by omega]
  simp
theorem one_cell {S:RS} {T:Sh} {c:AV} {v:Value} (h:rel S c T v) (h1:one c=true):v.oneCell'=true:=by
 cases c <;> simp only [one,Bool.false_eq_true] at h1 <;> simp only [rel] at h
 case int=>subst h;rfl
 case bool=>subst h;rfl
 case sb=>subst h;rfl
 case str=>subst h;rfl
 case nilp=>subst h;rfl
 case nilf=>subst h;rfl
 case nili=>subst h;rfl
 case nilm=>subst h;rfl
 case ptr=>obtain ⟨_,_,_,_,_,_,rfl,_⟩:=h;rfl
 case aA=>obtain ⟨_,_,_,_,_,rfl⟩:=h;rfl
 case iptr=>obtain ⟨_,_,rfl,_⟩:=h;rfl
 case nils=>obtain ⟨_,rfl⟩:=h;rfl
 case sl=>obtain ⟨_,_,_,_,h0,_⟩:=h;exact h0
 case inl=>obtain ⟨_,_,rfl,_⟩:=h;rfl
 case fn=>obtain ⟨_,_,rfl,_⟩:=h;rfl
 case iface=>obtain ⟨_,rfl,_⟩:=h;rfl
 case map=>obtain ⟨_,_,_,_,rfl⟩:=h;rfl
theorem ja {S:RS} {T:Sh}:∀ {cs:List AV} {vs:List Value},aG S cs T vs→cZ cs=true→∀ u∈vs,u.oneCell'=true
 | [],vs,h,_,u,hu=>by simp only [aG] at h;subst h;simp at hu
 | c::cs,vs,h,h1,u,hu=>by
  simp only [aG] at h
  obtain ⟨v,vs',rfl,h2,h3⟩:=h
  simp only [cZ,Bool.and_eq_true] at h1
  rcases List.mem_cons.1 hu with rfl | hu
  ·exact one_cell h2 h1.1
  ·exact ja h3 h1.2 u hu
mutual
theorem PI {S:RS} {T:Sh}:∀ (v:Value) (c:AV),cv v=some c→rel S c T v
 | .int k n,c,h=>by simp [cv] at h;subst h;simp [rel]
 | .bool b,c,h=>by simp [cv] at h;subst h;simp [rel]
 | .string s,c,h=>by simp [cv] at h;subst h;simp [rel]
 | .pointer none,c,h=>by simp [cv] at h;subst h;simp [rel]
 | .pointer (some a),c,h=>by simp [cv] at h
 | .slice none 0 0,c,h=>by simp [cv] at h;subst h;exact ⟨none,rfl⟩
 | .slice none 0 (_ + 1),c,h=>by simp [cv] at h
 | .slice none (_ + 1) _,c,h=>by simp [cv] at h
 | .slice (some _) _ _,c,h=>by simp [cv] at h
 | .nilFunc,c,h=>by simp [cv] at h;subst h;simp [rel]
 | .nilIface,c,h=>by simp [cv] at h;subst h;simp [rel]
 | .map none,c,h=>by simp [cv] at h;subst h;simp [rel]
 | .map (some _),c,h=>by simp [cv] at h
 | .float ..,c,h=>by simp [cv] at h
 | .complex ..,c,h=>by simp [cv] at h
 | .chan _,c,h=>by simp [cv] at h
 | .func ..,c,h=>by simp [cv] at h
 | .iface ..,c,h=>by simp [cv] at h
 | .agg ⟨cs⟩,c,h=>by
  simp only [cv,Option.bind_eq_some_iff] at h
  obtain ⟨l,h1,h2⟩:=h
  split at h2
  ·rename_i ho
   injection h2 with h2
   subst h2
   simp only [rel]
   have hr:=kU (S:=S) (T:=T) cs l h1
   exact ⟨_,rfl,hr,fun u hu=>ja hr ho u hu⟩
  ·cases h2
 | .tuple ⟨cs⟩,c,h=>by
  simp only [cv,Option.map_eq_some_iff] at h
  obtain ⟨l,h1,rfl⟩:=h
  simp only [rel]
  exact ⟨_,rfl,kU cs l h1⟩
theorem kU {S:RS} {T:Sh}:∀ (vs:List Value) (cs:List AV),cvs vs=some cs→aG S cs T vs
 | [],cs,h=>by simp [cvs] at h;subst h;simp [aG]
 | v::vs,cs,h=>by
  simp only [cvs] at h
  cases h1:cv v with
  | none=>rw [h1] at h;cases h
  | some a =>
   cases h2:cvs vs with
   | none=>rw [h1,h2] at h;cases h
   | some as =>
    rw [h1,h2] at h
    injection h with h
    subst h
    simp only [aG]
    exact ⟨v,vs,rfl,PI v a h1,kU vs as h2⟩
end
def Act.vals (a:Act):List Value:=a.tmps.toList
theorem aY {S:RS} {T:Sh} {fr:List AV} {a:Act} (hf:aG S fr T a.tmps.toList) {x:Operand} {ax:AX} (h:rx x=some ax):rel S (ev fr ax) T (a.eval x):=by
 cases x with
 | tmp n =>
  simp only [rx,Option.some.injEq] at h
  subst h
  simp only [ev,aI]
  cases hn:fr[n]? with
  | none=>simp [rel]
  | some c =>
   obtain ⟨v,h1,h2⟩:=bJ hf hn
   simp only [Option.getD_some,Act.eval]
   have:a.tmps.getD n undef=v:=by
    rw [Array.getElem?_toList] at h1
    simp [Array.getD_eq_getD_getElem?,h1]
   rw [this]
   exact h2
 | const v =>
  simp only [rx,Option.map_eq_some_iff] at h
  obtain ⟨c,h1,rfl⟩:=h
  exact PI v c h1
 | func f =>
  simp only [rx,Option.some.injEq] at h
  subst h
  simp [ev,rel,aG,Act.eval]
 | global g=>simp [rx] at h
theorem rP {S:RS} {T:Sh} {fr:List AV} {a:Act} (hf:aG S fr T a.tmps.toList):∀ {xs:List Operand} {axs:List AX},rxs xs=some axs→aG S (evs fr axs) T (xs.map a.eval)
 | [],axs,h=>by
  simp [rxs] at h
  subst h
  simp [evs,aG]
 | x::xs,axs,h=>by
  simp only [rxs,List.mapM_cons,Option.bind_eq_bind,Option.bind_eq_some_iff,Option.pure_def,Option.some.injEq] at h
  obtain ⟨ax,h1,as,h2,rfl⟩:=h
  simp only [evs,List.map_cons,aG]
  exact ⟨_,_,rfl,aY hf h1,rP hf h2⟩
theorem qi {P:Program} {t:TypeId} {i:TypeInfo} (h:P.info? t=some i) (w:World):(typeInfo t).run P w=.ok i w:=by simp [typeInfo,h]
theorem iZ {P:Program} {t:TypeId} {n:Nat} (h:lF P t=some n) (w:World):(sizeOf t).run P w=.ok n w:=by
 simp only [lF,Option.map_eq_some_iff] at h
 obtain ⟨i,h1,rfl⟩:=h
 simp [sizeOf,qi h1]
theorem mZ {P:Program} {t:TypeId} {b:Bool} (h:CZ P t=some b) (w:World):(isAgg t).run P w=.ok b w:=by
 unfold CZ at h
 cases hu:P.underlying t with
 | none=>rw [hu] at h;cases h
 | some d =>
  rw [hu] at h
  simp only [isAgg,Sem.run_bind,run_underlying hu,Result.andThen_ok]
  cases d <;> simp at h <;> subst h <;> rfl
def o5 (S:RS) (T:Sh) (w:World) (a:Addr) (cs:List AV):Prop :=
 a.spot=none∧∀ (j:Nat) (c:AV),cs[j]?=some c→∃ u,w.cell? (a.add j)=some u∧rel S c T u∧u.oneCell'=true
theorem o5.drop {S:RS} {T:Sh} {w:World} {a:Addr} {cs:List AV} (h:o5 S T w a cs) (n:Nat):o5 S T w ⟨a.block,a.off + n,none⟩ (cs.drop n):=by
 obtain ⟨B,o,s⟩:=a
 obtain ⟨h0,h⟩:=h
 simp only at h0
 subst h0
 refine ⟨rfl,fun j c hj=>?_⟩
 rw [List.getElem?_drop] at hj
 obtain ⟨u,h1,h2⟩:=h _ _ hj
 exact ⟨u,by rw [← h1];simp [Addr.add_lit,Nat.add_assoc],h2⟩
theorem jE {S:RS} {T:Sh} {c:AV} {v:Value} (h:rel S c T v):rel S (sym c) T v:=by
 cases c <;> first | exact h | (simp only [sym,rel] at h ⊢;exact h)
theorem rM {S:RS} {T:Sh} {c:AV} {v:Value} (h:rel S c T v):rel S (uns c) T v:=by
 cases c <;> first | exact h | (simp only [uns,rel] at h ⊢;exact h)
theorem GK {P:Program} {S:RS} {T:Sh} {w:World} {t:TypeId} {n:Option Nat} (hl:y8 P t=some n) {a:Addr} {cs:List AV} (hc:o5 S T w a cs) {v:AV} (hv:jg n cs=some v) :
  ∃ u,(loadVar t a).run P w=.ok u w∧rel S v T u:=by
 unfold y8 at hl
 cases hag:CZ P t with
 | none=>rw [hag] at hl;cases hl
 | some b =>
  cases hsz:lF P t with
  | none=>rw [hag,hsz] at hl;cases b <;> cases hl
  | some m =>
   rw [hag,hsz] at hl
   cases b with
   | true =>
    injection hl with hl
    subst hl
    simp only [jg,Option.map_eq_some_iff] at hv
    obtain ⟨r,h1,rfl⟩:=hv
    obtain ⟨h2,h3⟩:=yl _ _ _ h1
    have hex:∃ us:List Value,us.length=r.length∧∀ (j:Nat) (c:AV),r[j]?=some c→∃ u,us[j]?=some u∧w.cell? (a.add j)=some u∧rel S c T u∧u.oneCell'=true:=by
     have hr:∀ (j:Nat) (c:AV),r[j]?=some c→∃ u,w.cell? (a.add j)=some u∧rel S c T u∧u.oneCell'=true:=fun j c hj=>hc.2 j c (by
      rw [h2,List.getElem?_take] at hj
      split at hj
      ·exact hj
      ·cases hj)
     clear h1 h2 h3
     have key:∀ (r:List AV) (k:Nat),(∀ (j:Nat) (c:AV),r[j]?=some c→∃ u,w.cell? (a.add (k + j))=some u∧rel S c T u∧u.oneCell'=true)→∃ us:List Value,us.length=r.length∧∀ (j:Nat) (c:AV),r[j]?=some c→∃ u,us[j]?=some u∧w.cell? (a.add (k + j))=some u∧rel S c T u∧u.oneCell'=true:=by
      intro r
      induction r with
      | nil=>intro k _;exact ⟨[],rfl,fun j c hj=>by simp at hj⟩
      | cons c r ih =>
       intro k h
       obtain ⟨u,g1,g2⟩:=h 0 c (by simp)
       obtain ⟨us,k1,k2⟩:=ih (k + 1) (fun j c' hj=>by
        obtain ⟨u',m1,m2⟩:=h (j + 1) c' (by simpa using hj)
        exact ⟨u',by rw [show k + 1 + j=k + (j + 1) by omega];exact m1,m2⟩)
       refine ⟨u::us,by simp [k1],fun j c' hj=>?_⟩
       cases j with
       | zero=>simp at hj;subst hj;exact ⟨u,by simp,g1,g2⟩
       | succ j =>
        obtain ⟨u',m1,m2,m3⟩:=k2 j c' (by simpa using hj)
        exact ⟨u',by simpa using m1,by rw [show k + (j + 1)=k + 1 + j by omega];exact m2,m3⟩
     simpa using key r 0 (by simpa using hr)
    obtain ⟨us,k1,k2⟩:=hex
    have hload:=run_loadCells_list (P:=P) w a us (fun j u hj=>by
     have hlt:j < r.length:=by rw [← k1];exact (List.getElem?_eq_some_iff.1 hj).1
     obtain ⟨u',m1,m2,_⟩:=k2 j r[j] (by simp [hlt])
     rw [m1] at hj
     injection hj with hj
     subst hj
     exact m2)
    rw [k1,h3] at hload
    refine ⟨.agg us.toArray,?_,?_⟩
    ·simp [loadVar,mZ hag,iZ hsz,hload]
    ·simp only [rel]
     refine ⟨_,rfl,dX (by simpa using k1) (fun j c hj=>?_),fun u hu=>?_⟩
     ·obtain ⟨u,m1,_,m3,_⟩:=k2 j c hj
      exact ⟨u,by simpa using m1,m3⟩
     ·simp at hu
      obtain ⟨j,hj⟩:=List.getElem?_of_mem hu
      have hlt:j < r.length:=by rw [← k1];exact (List.getElem?_eq_some_iff.1 hj).1
      obtain ⟨u',m1,_,_,m4⟩:=k2 j r[j] (by simp [hlt])
      rw [m1] at hj
      injection hj with hj
      subst hj
      exact m4
   | false =>
    have hm:m=1∧n=none:=by
     cases m with
     | zero=>cases hl
     | succ m=>cases m with
      | zero=>injection hl with hl;exact ⟨rfl,hl.symm⟩
      | succ m=>cases hl
    obtain ⟨rfl,rfl⟩:=hm
    cases cs with
    | nil=>simp [jg] at hv
    | cons c cs =>
     simp only [jg,Option.some.injEq] at hv
     subst hv
     obtain ⟨u,g1,g2,_⟩:=hc.2 0 c (by simp)
     have ha:a.add 0=a:=by simp [Addr.add]
     rw [ha] at g1
     exact ⟨u,by simp [loadVar,mZ hag,g1],jE g2⟩
theorem Du {S:RS} {H:List aj} {T:Sh} {w:World} (h:aK S H w) {B o:Nat} {cs:List AV} (hf:fz S B o cs):o5 S T w ⟨B,o,none⟩ cs :=
 ⟨rfl,fun j c hj=>by
  obtain ⟨v,h1,h2,h3⟩:=Dh hf hj
  exact ⟨v,by rw [Addr.add_lit];exact h.fro _ _ _ h1,uK h2,h3⟩⟩
theorem FX {S:RS} {H:List aj} {w:World} (h:aK S H w) {id B c:Nat} {e:TypeId} {cs:List AV} (hb:H[id]?=some (.box e cs)) (hρ:S.ρ id=some (B,c)):o5 S (shape H) w ⟨B,0,none⟩ cs:=by
 obtain ⟨B',c',arr,h1,h2,h3,h4,_⟩:=h.blk id _ hb
 rw [hρ] at h1
 injection h1 with h1
 injection h1 with h1 _
 subst h1
 refine ⟨rfl,fun j c hj=>?_⟩
 obtain ⟨u,k1,k2⟩:=bJ h3 hj
 refine ⟨u,?_,k2,h4 u (List.mem_of_getElem? k1)⟩
 rw [Addr.add_lit]
 simp only [World.cell?,h2]
 simpa using k1
theorem FW {S:RS} {H:List aj} {w:World} (h:aK S H w) {id B c:Nat} {e:TypeId} {sz:Nat} {rows:List (List AV)} (hb:H[id]?=some (.arr e sz rows)) (hρ:S.ρ id=some (B,c)) {r:Nat} {row:List AV} (hr:rows[r]?=some row) :
  o5 S (shape H) w ⟨B,r * sz,none⟩ row:=by
 obtain ⟨_,h1⟩:=h.blk id _ hb
 rw [hρ] at h1
 obtain ⟨arr,k1,k2,k3,k4,_⟩:=h1
 refine ⟨rfl,fun j c hj=>?_⟩
 obtain ⟨u,m1,m2,m3⟩:=(k4 r row hr).2 j c hj
 refine ⟨u,?_,m2,m3⟩
 rw [Addr.add_lit]
 simp only [World.cell?,k1]
 simpa using m1
end Go.Ab

namespace Go.Ab
open Go
set_option linter.unusedVariables false
set_option linter.unusedSimpArgs false
variable {σr:dG}
def Done (S:RS) (H:List aj) (K:AV→List aj→Prop) (u:Value) (w':World):Prop :=
 ∃ S' v H',Ext S (shape H) S' (shape H')∧aK S' H' w'∧rel S' v (shape H') u∧K v H'
def rJ (P : Program) (f : FuncId) : Prop := ∃ fn, P.funcs[f]? = some fn ∧ (fn.name == "runtime.NumGoroutine") = false ∧ fn.body.isNone = false
def aC (P:Program) (f:FuncId) (args:List AV) (H:List aj) (R:AV→List aj→Prop):Prop :=
 rJ P f∧∀ S w vs,aK S H w→aG S args (shape H) vs→Calls P f vs.toArray w fun e w'=>∃ u,e=.returned u∧Done S H R u w'
def fF:List AV→List AV
 | []=>[]
 | v::l=>uns v::fF l
def og:List AV→List AV
 | []=>[]
 | v::l=>sym v::og l
theorem D8 {S:RS} {T:Sh}:∀ {cs:List AV} {vs:List Value},aG S cs T vs→aG S (fF cs) T vs
 | [],_,h=>h
 | c::cs,vs,h=>by
  simp only [aG,fF] at h ⊢
  obtain ⟨v,vs',h1,h2,h3⟩:=h
  exact ⟨v,vs',h1,rM h2,D8 h3⟩
theorem Ea {S:RS} {T:Sh}:∀ {cs:List AV} {vs:List Value},aG S cs T vs→aG S (og cs) T vs
 | [],_,h=>h
 | c::cs,vs,h=>by
  simp only [aG,og] at h ⊢
  obtain ⟨v,vs',h1,h2,h3⟩:=h
  exact ⟨v,vs',h1,jE h2,Ea h3⟩
def sat (A:Ar) (P:Program) (H:List aj):Out→(AV→List aj→Prop)→Prop
 | .ok v H',K=>K v H'
 | .need p o,K=>A.nd p∧sat A P H o K
 | .ask p k,K=>∃ r,p r∧sat A P H (k r) K
 | .br b k,K=>sat A P H (k b) K
 | .nilq neg n H',K=>A.im (A.cmp .eql (A.ofN n) 0) true (K (.bool (!neg)) H')∧K (.bool neg) H'
 | .call f args,K=>aC P f (fF args) H fun r H'=>K (sym r) H'
 | .bad,_=>False
def aT (P:Program) (o:Oper) (a:Act) (w:World) (G:Value→World→Prop):Prop :=
 match (execOp a.eval o).run P w with
 | .ok (.value u) w'=>G u w'
 | .ok .skip w'=>G undef w'
 | .ok (.enter f args) w'=>Calls P f args w' fun e w''=>∃ u,e=.returned u∧G u w''
 | _=>False
theorem Done.here {S:RS} {H:List aj} {K:AV→List aj→Prop} {u:Value} {w:World} {v:AV} (h:aK S H w) (hr:rel S v (shape H) u) (hK:K v H):Done S H K u w :=
 ⟨S,v,H,Ext.refl _ _,h,hr,hK⟩
theorem Done.sym {S:RS} {H:List aj} {K:AV→List aj→Prop} {u:Value} {w:World} (h:Done S H (fun r H'=>K (sym r) H') u w):Done S H K u w:=by
 obtain ⟨S',v,H',h1,h2,h3,h4⟩:=h
 exact ⟨S',Ab.sym v,H',h1,h2,jE h3,h4⟩
theorem dH (H:List aj) (b:aj):shape (H++[b]) H.length=some b.shp:=by simp [shape]
theorem fK (S:RS) (i:Nat) (p:Option (Nat × Nat)):(S.put i p).ρ i=p:=by simp [RS.put]
section
variable {P:Program} {S:RS} {H:List aj} {fr:List AV} {K:AV→List aj→Prop} {o:Oper} {a:Act} {w:World}
theorem GY {A:Ar} {x:Option AO} (h:sat A P H (aH A σr fr H (orBad x)) K):∃ ao,x=some ao∧sat A P H (aH A σr fr H ao) K:=by
 cases x with
 | none=>exact h.elim
 | some ao=>exact ⟨ao,rfl,h⟩
theorem BU {A:Ar} {x:Option AV} (h:sat A P H (okO x H) K):∃ v,x=some v∧K v H:=by
 cases x with
 | none=>exact h.elim
 | some v=>exact ⟨v,rfl,h⟩
theorem op_mv {x:Operand} (ho:o.op=.move x∨o.op=.assign x) (hf:aG S fr (shape H) a.tmps.toList) (h:aK S H w) {ax:AX} (hx:rx x=some ax) (hK:K (ev fr ax) H):aT P o a w (Done S H K):=by
 unfold aT execOp
 rcases ho with ho | ho <;> (simp only [ho,Sem.run_pure];exact .here h (aY hf hx) hK)
theorem jY {T:Sh} {v:AV} {u:Value} (h:rel S v T u) (h1:cZ (cellsOf v)=true):aG S (cellsOf v) T u.cells.toList∧∀ x∈u.cells.toList,x.oneCell'=true:=by
 by_cases hc:∃ cs,v=.agg cs
 ·obtain ⟨cs,rfl⟩:=hc
  simp only [rel] at h
  obtain ⟨us,rfl,h2,h3⟩:=h
  exact ⟨h2,h3⟩
 ·have hcell:cellsOf v=[uns v]:=by
   cases v <;> first | rfl | exact absurd ⟨_,rfl⟩ hc
  rw [hcell] at h1 ⊢
  simp only [cZ,Bool.and_true] at h1
  have hu:=rM h
  have ho:=one_cell hu h1
  have hcu:u.cells=#[u]:=by cases u <;> first | rfl | (simp [Value.oneCell'] at ho)
  rw [hcu]
  exact ⟨by simp only [aG];exact ⟨u,[],rfl,hu,rfl⟩,by simpa using ho⟩
theorem op_box {e:TypeId} {x:Operand} (ho:o.op=.box e x) (hf:aG S fr (shape H) a.tmps.toList) (h:aK S H w) {ax:AX} (hx:rx x=some ax) (h1:cZ (cellsOf (ev fr ax))=true)
  (hK:K (.aA (aS H) 0) (dQ H [.box e (cellsOf (ev fr ax))])):aT P o a w (Done S H K):=by
 unfold aT execOp
 simp only [ho,Instr.box,newVar,newRow,Sem.run_bind,run_newObj,World.alloc_eq,Result.andThen_ok,Sem.run_pure]
 obtain ⟨g1,g2⟩:=jY (aY hf hx) h1
 rw [aO,bC] at hK
 refine ⟨_,_,_,Ext.oH S H _ _,h.JL e _ _ g1 g2,?_,hK⟩
 simp only [rel]
 exact ⟨_,_,_,dH _ _,fK _ _ _,rfl⟩
theorem iD {t:TypeId} {z:List AV} (hz:zeroOf P t=some z):∃ i v,P.info? t=some i∧i.zero=some v∧cvs v.cells.toList=some z:=by
 unfold zeroOf at hz
 cases h1:P.info? t with
 | none=>rw [h1] at hz;cases hz
 | some i =>
  rw [h1] at hz
  simp only at hz
  cases h2:i.zero with
  | none=>rw [h2] at hz;cases hz
  | some v=>rw [h2] at hz;exact ⟨i,v,rfl,h2,hz⟩
theorem mY {t:TypeId} {i:TypeInfo} {v:Value} (h1:P.info? t=some i) (h2:i.zero=some v) (w:World):(zeroValue t).run P w=.ok v w:=by
 simp [zeroValue,qi h1,h2]
theorem OA {e:TypeId} (ho:o.op=.alloc e) (h:aK S H w) {z:List AV} (hz:zeroOf P e=some z) (h1:cZ z=true)
  (hK:K (.aA (aS H) 0) (dQ H [.box e z])):aT P o a w (Done S H K):=by
 obtain ⟨i,v,hi,hv,hc⟩:=iD hz
 have hr:=kU (S:=S) (T:=shape H) _ _ hc
 unfold aT execOp
 simp only [ho,Instr.alloc,mY hi hv,newVar,newRow,Sem.run_bind,run_newObj,World.alloc_eq,Result.andThen_ok,Sem.run_pure]
 rw [aO,bC] at hK
 refine ⟨_,_,_,Ext.oH S H _ _,h.JL e _ _ hr (ja hr h1),?_,hK⟩
 simp only [rel]
 exact ⟨_,_,_,dH _ _,fK _ _ _,rfl⟩
theorem CY {n:Option Nat} {x:AV} {k:AV→Out} {u:Value} (hA:∀ p:Cnd,arS.nd p=p.holds) (h:aK S H w) (hx:rel S x (shape H) u) (hs:sat arS P H (ldA arS σr n x H k) K) {t:TypeId} (hl:y8 P t=some n) :
  ∃ v y,(Instr.loadAt t u).run P w=.ok y w∧rel S v (shape H) y∧sat arS P H (k v) K:=by
 cases x <;> simp only [ldA] at hs
 case aA id o =>
  simp only [rel] at hx
  obtain ⟨m,B,c,h1,h2,rfl⟩:=hx
  rw [aI] at hs
  cases hb:H[id]? with
  | none=>rw [hb] at hs;exact hs.elim
  | some b =>
   rw [hb] at hs
   cases b <;> simp only at hs
   case arr=>exact hs.elim
   case dead=>exact hs.elim
   case mpb=>exact hs.elim
   case box e cs =>
    rw [jW] at hs
    have hc:=(FX h hb h2).drop o
    simp only [Nat.zero_add] at hc
    cases hp:jg n (cs.drop o) with
    | none=>rw [hp] at hs;exact hs.elim
    | some v =>
     rw [hp] at hs
     obtain ⟨y,g1,g2⟩:=GK hl hc hp
     exact ⟨v,y,by simp [Instr.loadAt,Instr.sureAddr,g1],g2,hs⟩
 case iptr cs =>
  simp only [rel] at hx
  obtain ⟨B,o,rfl,h2⟩:=hx
  have hc:=Du (T:=shape H) h h2
  cases hp:jg n cs with
  | none=>rw [hp] at hs;exact hs.elim
  | some v =>
   rw [hp] at hs
   obtain ⟨y,g1,g2⟩:=GK hl hc hp
   exact ⟨v,y,by simp [Instr.loadAt,Instr.sureAddr,g1],g2,hs⟩
 case ptr id t' r o =>
  rw [aI] at hs
  cases hb:H[id]? with
  | none=>rw [hb] at hs;exact hs.elim
  | some b =>
   rw [hb] at hs
   cases b <;> simp only at hs
   case box=>exact hs.elim
   case dead=>exact hs.elim
   case mpb=>exact hs.elim
   case arr e sz rows =>
    simp only [sat,hA] at hs
    obtain ⟨⟨ht,hrow⟩,hs⟩:=hs
    generalize σr arS e rows r=row at *
    have hrow:rows[r]?=some row:=hrow
    simp only [rel] at hx
    obtain ⟨m,sz',B,o',h1,h2,rfl,h3⟩:=hx
    rw [bD hb] at h1
    simp only [aj.shp,Option.some.injEq,Shp.row.injEq] at h1
    obtain ⟨rfl,rfl⟩:=h1
    obtain ⟨c,g1,rfl⟩:=h3 ht
    have hc:=(FW h hb g1 hrow).drop o
    rw [jW] at hs
    cases hp:jg n (row.drop o) with
    | none=>rw [hp] at hs;exact hs.elim
    | some v =>
     rw [hp] at hs
     obtain ⟨y,k1,k2⟩:=GK hl hc hp
     exact ⟨v,y,by simp [Instr.loadAt,Instr.sureAddr,k1],k2,hs⟩
 all_goals exact hs.elim
theorem op_ld {t:TypeId} {x:Operand} (ho:o.op=.load t x) (hf:aG S fr (shape H) a.tmps.toList) (h:aK S H w) {ax:AX} (hx:rx x=some ax) {n:Option Nat} (hl:y8 P t=some n)
  (hs:sat arS P H (aH arS σr fr H (.ld n ax)) K):aT P o a w (Done S H K):=by
 simp only [aH] at hs
 obtain ⟨v,y,h1,h2,h3⟩:=CY (fun _=>rfl) h (aY hf hx) hs hl
 unfold aT execOp
 simp only [ho,Sem.run_bind,h1,Result.andThen_ok,Sem.run_pure]
 exact .here h h2 h3
end
end Go.Ab

namespace Go.Ab
open Go
set_option linter.unusedVariables false
set_option linter.unusedSimpArgs false
variable {σr:dG}
section
variable {P:Program} {S:RS} {H:List aj} {fr:List AV} {K:AV→List aj→Prop} {o:Oper} {a:Act} {w:World}
theorem op_pick {x y z:Operand} (ho:o.op=.pick x y z) (hf:aG S fr (shape H) a.tmps.toList) (h:aK S H w) {ax ay az:AX} (hx:rx x=some ax) (hy:rx y=some ay) (hz:rx z=some az)
  (hs:sat arS P H (aH arS σr fr H (.pick ax ay az)) K):aT P o a w (Done S H K):=by
 have gx:=aY hf hx
 have gy:=aY hf hy
 have gz:=aY hf hz
 unfold aT execOp
 simp only [ho]
 simp only [aH] at hs
 generalize ev fr ax=vx at *
 cases vx
 case bool b =>
  simp only [rel] at gx
  rw [gx]
  cases b <;> (simp only [asBool,Sem.run_bind,Sem.run_pure,Result.andThen_ok,if_true,if_false,Bool.false_eq_true];simp only [sat] at hs)
  ·exact .here h gz hs
  ·exact .here h gy hs
 case sb b =>
  simp only [rel] at gx
  rw [gx]
  simp only [sat] at hs
  cases b <;> (simp only [asBool,Sem.run_bind,Sem.run_pure,Result.andThen_ok,if_true,if_false,Bool.false_eq_true];simp only [if_true,if_false,Bool.false_eq_true] at hs)
  ·exact .here h gz hs
  ·exact .here h gy hs
 all_goals exact False.elim hs
theorem MR {id t r o:Nat} {u:Value} {e:TypeId} {sz:Nat} {rows:List (List AV)} (hx:rel S (.ptr id t r o) (shape H) u) (hb:H[id]?=some (.arr e sz rows)) (ht:t=rows.length) :
  ∃ B c,S.ρ id=some (B,c)∧u=.pointer (some ⟨B,r * sz + o,none⟩):=by
 simp only [rel] at hx
 obtain ⟨m,sz',B,o',h1,h2,rfl,h3⟩:=hx
 rw [bD hb] at h1
 simp only [aj.shp,Option.some.injEq,Shp.row.injEq] at h1
 obtain ⟨rfl,rfl⟩:=h1
 obtain ⟨c,k1,rfl⟩:=h3 ht
 exact ⟨B,c,k1,rfl⟩
theorem Hy {P:Program} {n:String} {t:TypeId} {x:FuncId × Option (Option Nat)} (h:EY (EX P) n t=some x):pz (kR P n) t=some x:=by
 unfold EX at h
 generalize Jn P=l at h
 induction l with
 | nil=>simp [EY] at h
 | cons m l ih =>
  rw [List.filterMap_cons] at h
  cases hm:kR P m with
  | nil=>rw [hm] at h;exact ih h
  | cons a as =>
   rw [hm] at h
   simp only [EY] at h
   split at h
   ·rename_i hn;subst hn;rw [hm];exact h
   ·exact ih h
theorem Be:∀ {l:List (TypeId × FuncId × Option (Option Nat))} {t:TypeId} {x:FuncId × Option (Option Nat)},pz l t=some x→(t,x.1,x.2)∈l
 | [],_,_,h=>by simp [pz] at h
 | (t',f,l)::r,t,x,h=>by
  simp only [pz] at h
  split at h
  ·rename_i ht
   injection h with h
   subst h ht
   simp
  ·exact List.mem_cons_of_mem _ (Be h)
theorem BX {P:Program} {n:String} {t:TypeId} {f:FuncId} {u:Value} (hl:pz (kR P n) t=some (f,none)) (w:World) :
  (nilAhead (P.types.size + Made.depth) t u n).run P w=.ok (some false) w:=by
 have hmem:=Be hl
 simp only [kR,List.mem_filterMap] at hmem
 obtain ⟨t',_,hmem⟩:=hmem
 obtain ⟨k,hk⟩:∃ k,P.types.size + Made.depth=k + 1:=⟨P.types.size + Made.depth - 1,by have h9:0 < Made.depth:=(by decide);omega⟩
 rw [hk]
 cases hi:P.info? t' with
 | none=>rw [hi] at hmem;cases hmem
 | some i =>
  rw [hi] at hmem
  simp only at hmem
  cases hm:i.methods.find? (·.name == n) with
  | none=>rw [hm] at hmem;cases hmem
  | some me =>
   rw [hm] at hmem
   simp only at hmem
   split at hmem
   ·rename_i hpath
    have hpath':me.path.toList=[]:=by simpa using hpath
    cases hfunc:me.func with
    | none=>rw [hfunc] at hmem;cases hmem
    | some fp =>
     obtain ⟨f',pr⟩:=fp
     cases hund:P.underlying t' with
     | none=>rw [hfunc,hund] at hmem;cases pr <;> cases hmem
     | some d =>
      rw [hfunc,hund] at hmem
      cases pr with
      | true =>
       have ht:t'=t:=by
        cases d <;> first | exact congrArg Prod.fst (Option.some.inj hmem) | cases hmem
       subst ht
       simp only [nilAhead,Sem.run_bind,qi hi,Result.andThen_ok,hm,hpath',followBlind,Sem.run_pure,hfunc]
      | false =>
       cases d with
       | pointer e =>
        simp only [Option.map_eq_some_iff] at hmem
        obtain ⟨ll,_,hmem⟩:=hmem
        injection hmem with e1 e2
        injection e2 with e2 e3
        cases e3
       | _ =>
        have ht:t'=t:=congrArg Prod.fst (Option.some.inj hmem)
        subst ht
        simp only [nilAhead,Sem.run_bind,qi hi,Result.andThen_ok,hm,hpath',followBlind,Sem.run_pure,hfunc,run_underlying hund]
   ·cases hmem
theorem op_nilc {x:Operand} (ho:o.op=.nilCheck x) (hf:aG S fr (shape H) a.tmps.toList) (h:aK S H w) {ax:AX} (hx:rx x=some ax)
  (hs:sat arS P H (aH arS σr fr H (.nilc (EX P) ax)) K):aT P o a w (Done S H K):=by
 have gx:=aY hf hx
 unfold aT execOp
 simp only [ho]
 simp only [aH] at hs
 generalize ev fr ax=vx at *
 cases vx
 case ptr id t r off =>
  have gx':=gx
  simp only [rel] at gx
  obtain ⟨m,sz,B,o',h1,h2,h3,_⟩:=gx
  simp only [sat] at hs
  rw [h3] at gx' ⊢
  exact .here h gx' hs
 case aA id off =>
  have gx':=gx
  simp only [rel] at gx
  obtain ⟨n,B,c,h1,h2,h3⟩:=gx
  simp only [sat] at hs
  rw [h3] at gx' ⊢
  exact .here h gx' hs
 case iptr cs =>
  have gx':=gx
  simp only [rel] at gx
  obtain ⟨B,c,h1,h2⟩:=gx
  simp only [sat] at hs
  rw [h1] at gx' ⊢
  exact .here h gx' hs
 case fn f fi ca =>
  cases f
  case func f =>
   have gx':=gx
   simp only [rel] at gx
   obtain ⟨x,y,h1,h2,h3⟩:=gx
   simp only [sat] at hs
   rw [h1] at gx' ⊢
   exact .here h gx' hs
  case method n =>
   simp only at hs
   by_cases hm:Ho (EX P) n fi ca=true
   ·rw [if_pos hm] at hs
    have gx':=gx
    simp only [rel] at gx
    obtain ⟨p,q,h1,h2,h3⟩:=gx
    unfold Ho at hm
    split at hm
    ·rename_i t v
     split at hm
     ·rename_i f hl
      obtain ⟨p⟩:=p
      simp only [aG,rel] at h2
      obtain ⟨p0,ps,rfl,⟨u,rfl,h4⟩,rfl⟩:=h2
      have hr:=BX (u:=u) (Hy hl) w
      simp only [sat] at hs
      rw [h1] at gx' ⊢
      simp only [List.getElem?_toArray,List.getElem?_cons_zero,Sem.run_bind,run_program,Result.andThen_ok,hr]
      exact .here h gx' hs
     ·cases hm
    ·cases hm
   ·rw [if_neg hm] at hs;exact False.elim hs
  all_goals exact False.elim hs
 all_goals exact False.elim hs
theorem xK {op:BinOp} {t:TypeId} {x y:Operand} {k k':IntKind} {m n:Int} (w:World):(eqGuard op t x y (.int k m) (.int k' n)).run P w=.ok () w:=by
 unfold eqGuard
 cases op <;> rfl
theorem xJ {op:BinOp} {t:TypeId} {x y:Operand} {m n:ByteArray} (w:World):(eqGuard op t x y (.string m) (.string n)).run P w=.ok () w:=by
 unfold eqGuard
 cases op <;> rfl
theorem ni {op:BinOp} {t:TypeId} {x y:Operand} {m n:Bool} (w:World):(eqGuard op t x y (.bool m) (.bool n)).run P w=.ok () w:=by
 unfold eqGuard
 cases op <;> rfl
theorem CU (p:Cnd):arS.nd p=p.holds:=rfl
theorem Eh {k k':IntKind} {op:BinOp} {t:TypeId} {m n:Int} (w:World) {K:AV→List aj→Prop} (hs:sat arS P H (uw arS op (.int k m) (.int k' n) H) K) :
  ∃ v u,(binOp op t (.int k m) (.int k' n)).run P w=.ok u w∧rel S v (shape H) u∧K v H:=by
 by_cases hsh:op=.shl∨op=.shr
 ·rcases hsh with rfl | rfl
  ·simp only [uw,sat,CU] at hs
   obtain ⟨hb,hs⟩:=hs
   have hb':¬ n < 0:=Int.not_lt.2 hb
   exact ⟨_,.int k (cO .shl k m n),by simp [binOp,Op.shift,hb',cO,Nat.min_def],by simp only [rel];rfl,hs⟩
  ·simp only [uw,sat,CU] at hs
   obtain ⟨hb,hs⟩:=hs
   have hb':¬ n < 0:=Int.not_lt.2 hb
   exact ⟨_,.int k (cO .shr k m n),by simp [binOp,Op.shift,hb',cO,Nat.min_def],by simp only [rel];rfl,hs⟩
 ·by_cases hk:k=k'
  ·subst hk
   cases op <;> simp only [uw,if_true,sat,CU] at hs
   case add=>exact ⟨_,.int k (cO .add k m n),by simp [binOp,Op.intArith,cO],by simp only [rel];rfl,hs⟩
   case sub=>exact ⟨_,.int k (cO .sub k m n),by simp [binOp,Op.intArith,cO],by simp only [rel];rfl,hs⟩
   case mul=>exact ⟨_,.int k (cO .mul k m n),by simp [binOp,Op.intArith,cO],by simp only [rel];rfl,hs⟩
   case and=>exact ⟨_,.int k (cO .and k m n),by simp [binOp,Op.intBits,cO],by simp only [rel];rfl,hs⟩
   case or=>exact ⟨_,.int k (cO .or k m n),by simp [binOp,Op.intBits,cO],by simp only [rel];rfl,hs⟩
   case xor=>exact ⟨_,.int k (cO .xor k m n),by simp [binOp,Op.intBits,cO],by simp only [rel];rfl,hs⟩
   case andNot=>exact ⟨_,.int k (cO .andNot k m n),by simp [binOp,Op.intBits,cO],by simp only [rel];rfl,hs⟩
   case quo=>obtain ⟨hb,hs⟩:=hs;have hb:n≠0:=hb;exact ⟨_,.int k (cO .quo k m n),by simp [binOp,Op.intDiv,hb,cO],by simp only [rel];rfl,hs⟩
   case rem=>obtain ⟨hb,hs⟩:=hs;have hb:n≠0:=hb;exact ⟨_,.int k (cO .rem k m n),by simp [binOp,Op.intDiv,hb,cO],by simp only [rel];rfl,hs⟩
   case eql=>exact ⟨_,.bool (jX .eql m n),by simp [binOp,Op.intCmp,jX],by simp only [rel];rfl,hs⟩
   case neq=>exact ⟨_,.bool (jX .neq m n),by simp [binOp,Op.intCmp,jX],by simp only [rel];rfl,hs⟩
   case lss=>exact ⟨_,.bool (jX .lss m n),by simp [binOp,Op.intCmp,jX],by simp only [rel];rfl,hs⟩
   case leq=>exact ⟨_,.bool (jX .leq m n),by simp [binOp,Op.intCmp,jX],by simp only [rel];rfl,hs⟩
   case gtr=>exact ⟨_,.bool (jX .gtr m n),by simp [binOp,Op.intCmp,jX],by simp only [rel];rfl,hs⟩
   case geq=>exact ⟨_,.bool (jX .geq m n),by simp [binOp,Op.intCmp,jX],by simp only [rel];rfl,hs⟩
   all_goals exact absurd (by simp) hsh
  ·exfalso
   cases op <;> simp [uw,hk] at hs hsh <;> exact hs
theorem Eg {op:BinOp} {t:TypeId} {m n:ByteArray} (w:World) {K:AV→List aj→Prop} (hs:sat arS P H (uw arS op (.str m) (.str n) H) K) :
  ∃ v u,(binOp op t (.string m) (.string n)).run P w=.ok u w∧rel S v (shape H) u∧K v H:=by
 cases op <;> simp only [uw,sat,CU] at hs
 case add =>
  obtain ⟨hb,hs⟩:=hs
  have hb:m.size + n.size≤9223372036854775807:=hb
  refine ⟨_,.string (m++n),?_,by simp only [rel];rfl,hs⟩
  have:¬ (IntKind.i64.max < ((m.size + n.size:Nat):Int)):=by
   have:IntKind.i64.max=9223372036854775807:=by decide
   omega
  simp only [binOp,Op.stringOp]
  rw [if_neg (by simpa using this)]
  rfl
 case eql=>exact ⟨_,.bool (vZ .eql m n),by simp [binOp,Op.stringOp,vZ],by simp only [rel];rfl,hs⟩
 case neq=>exact ⟨_,.bool (vZ .neq m n),by simp [binOp,Op.stringOp,vZ],by simp only [rel];rfl,hs⟩
 case lss=>exact ⟨_,.bool (vZ .lss m n),by simp [binOp,Op.stringOp,vZ],by simp only [rel];rfl,hs⟩
 case leq=>exact ⟨_,.bool (vZ .leq m n),by simp [binOp,Op.stringOp,vZ],by simp only [rel];rfl,hs⟩
 case gtr=>exact ⟨_,.bool (vZ .gtr m n),by simp [binOp,Op.stringOp,vZ],by simp only [rel];rfl,hs⟩
 case geq=>exact ⟨_,.bool (vZ .geq m n),by simp [binOp,Op.stringOp,vZ],by simp only [rel];rfl,hs⟩
theorem oQ (t:TypeId) (x y:Value):∃ d,Op.equal t x y=Op.equalIn (d + 1) t x y:=⟨9999,rfl⟩
theorem xm {t:TypeId} {m n:Bool} (ht:P.underlying t=some .bool) (w:World):(Op.equal t (.bool m) (.bool n)).run P w=.ok (m == n) w:=by
 obtain ⟨d,hd⟩:=oQ t (.bool m) (.bool n)
 rw [hd,run_equalIn_bool' w d t m n ht]
theorem ER {x:AV} {u:Value} {k:Bool→Out} (hx:rel S x (shape H) u) (h:aK S H w) (hs:sat arS P H (Hl x H k) K):∃ p,u=.pointer p∧sat arS P H (k p.isNone) K:=by
 cases x
 case nilp=>simp only [rel] at hx;exact ⟨none,hx,hs⟩
 case aA id o=>simp only [rel] at hx;obtain ⟨_,B,c,_,_,rfl⟩:=hx;exact ⟨_,rfl,hs⟩
 case iptr cs=>simp only [rel] at hx;obtain ⟨B,o,rfl,_⟩:=hx;exact ⟨_,rfl,hs⟩
 case ptr id t r o=>simp only [rel] at hx;obtain ⟨m,sz,B,o',_,_,rfl,_⟩:=hx;exact ⟨_,rfl,hs⟩
 all_goals exact False.elim hs
theorem o9 {op:BinOp} {t:TypeId} {x y:Operand} {m n:Option Addr} (w:World):(eqGuard op t x y (.pointer m) (.pointer n)).run P w=.ok () w:=by
 unfold eqGuard
 cases op <;> rfl
theorem BZ {t e:TypeId} {m:Option Addr} (ht:P.underlying t=some (.pointer e)) (w:World):(Op.equal t (.pointer m) (.pointer none)).run P w=.ok m.isNone w:=by
 obtain ⟨d,hd⟩:=oQ t (.pointer m) (.pointer none)
 rw [hd]
 cases m <;> simp only [Op.equalIn,Sem.run_bind,run_underlying ht,Result.andThen_ok] <;> rfl
theorem Cb {t e:TypeId} {m:Option Addr} (ht:P.underlying t=some (.pointer e)) (w:World):(Op.equal t (.pointer none) (.pointer m)).run P w=.ok m.isNone w:=by
 obtain ⟨d,hd⟩:=oQ t (.pointer none) (.pointer m)
 rw [hd]
 cases m <;> simp only [Op.equalIn,Sem.run_bind,run_underlying ht,Result.andThen_ok] <;> rfl
theorem xA {x:AV} (h:wQ x=true):x=.nilp:=by cases x <;> simp [wQ] at h;rfl
theorem EU {t e:TypeId} {x y:AV} {u v:Value} {k:Bool→Out} (ht:P.underlying t=some (.pointer e)) (hx:rel S x (shape H) u) (hy:rel S y (shape H) v) (h:aK S H w) (hs:sat arS P H (zY x y H k) K) :
  ∃ p q b,u=.pointer p∧v=.pointer q∧(Op.equal t (.pointer p) (.pointer q)).run P w=.ok b w∧sat arS P H (k b) K:=by
 unfold zY at hs
 cases h1:wQ y <;> rw [h1] at hs
 ·cases h2:wQ x <;> rw [h2] at hs
  ·exact False.elim hs
  ·obtain rfl:=xA h2
   obtain ⟨q,rfl,hs⟩:=ER hy h hs
   simp only [rel] at hx
   subst hx
   exact ⟨none,q,_,rfl,rfl,Cb ht w,hs⟩
 ·obtain rfl:=xA h1
  obtain ⟨p,rfl,hs⟩:=ER hx h hs
  simp only [rel] at hy
  subst hy
  exact ⟨p,none,_,rfl,rfl,BZ ht w,hs⟩
theorem rQ {t:TypeId} {u v:Value} {b:Bool} {w:World} (hu:(∃ p,u=.pointer p)∧(∃ p,v=.pointer p)∨(∃ p,u=.bool p)∧(∃ p,v=.bool p)∨(∃ p,u=.agg p)∧(∃ p,v=.agg p))
  (h:(Op.equal t u v).run P w=.ok b w):(binOp .eql t u v).run P w=.ok (.bool b) w∧(binOp .neq t u v).run P w=.ok (.bool (!b)) w:=by
 rcases hu with ⟨⟨p,rfl⟩,⟨q,rfl⟩⟩ | ⟨⟨p,rfl⟩,⟨q,rfl⟩⟩ | ⟨⟨p,rfl⟩,⟨q,rfl⟩⟩
 all_goals exact ⟨by simp only [binOp,Sem.run_bind,h,Result.andThen_ok,Sem.run_pure],by simp only [binOp,Sem.run_bind,h,Result.andThen_ok,Sem.run_pure]⟩
theorem eqC_run {k:Nat} {x y:AV} {u v:Value} {t:TypeId} {b:Bool} {T:Sh} (hx:rel S x T u) (hy:rel S y T v) (h:eqC arS k x y=some b)
  (ht:(k=0∧∃ k,P.underlying t=some (.int k))∨(k=1∧P.underlying t=some .bool)∨(k=2∧P.underlying t=some .string)) (d:Nat) (w:World):(Op.equalIn (d + 1) t u v).run P w=.ok b w:=by
 rcases ht with ⟨rfl,k,ht⟩ | ⟨rfl,ht⟩ | ⟨rfl,ht⟩
 ·cases x <;> cases y <;> simp only [eqC] at h <;> try cases h
  split at h
  ·rename_i hk
   subst hk
   injection h with h
   subst h
   simp only [rel] at hx hy
   subst hx hy
   exact run_equalIn_int w d t _ k _ _ ht
  ·cases h
 ·cases x <;> cases y <;> simp only [eqC] at h <;> try cases h
  simp only [rel] at hx hy
  subst hx hy
  exact run_equalIn_bool' w d t _ _ ht
 ·cases x <;> cases y <;> simp only [eqC] at h <;> try cases h
  simp only [rel] at hx hy
  subst hx hy
  exact run_equalIn_string w d t _ _ ht
theorem JD {T:Sh} (d:Nat):∀ (fs:List Field) (l:List (Nat × Nat)) {xs ys:List AV} {us vs:Array Value} {b:Bool},aG S xs T us.toList→aG S ys T vs.toList→fQ P fs=some l→eqF arS xs ys l=some b →
  ∀ w,(Op.eqFields (d + 1) us vs fs).run P w=.ok b w
 | [],l,xs,ys,us,vs,b,hx,hy,hf,he,w=>by
  simp only [fQ,Option.some.injEq] at hf
  subst hf
  simp only [eqF,Option.some.injEq] at he
  subst he
  rfl
 | f::fs,l,xs,ys,us,vs,b,hx,hy,hf,he,w=>by
  unfold fQ at hf
  split at hf
  ·rename_i hname
   have key:∃ k l',l=(f.offset,k)::l'∧fQ P fs=some l'∧((k=0∧∃ k,P.underlying f.type=some (.int k))∨(k=1∧P.underlying f.type=some .bool)∨(k=2∧P.underlying f.type=some .string)):=by
    cases hu:P.underlying f.type with
    | none=>rw [hu] at hf;cases hf
    | some dd =>
     rw [hu] at hf
     cases dd
     case int k=>obtain ⟨l',h1,h2⟩:=Option.map_eq_some_iff.1 hf;exact ⟨0,l',h2.symm,h1,.inl ⟨rfl,k,rfl⟩⟩
     case bool=>obtain ⟨l',h1,h2⟩:=Option.map_eq_some_iff.1 hf;exact ⟨1,l',h2.symm,h1,.inr (.inl ⟨rfl,rfl⟩)⟩
     case string=>obtain ⟨l',h1,h2⟩:=Option.map_eq_some_iff.1 hf;exact ⟨2,l',h2.symm,h1,.inr (.inr ⟨rfl,rfl⟩)⟩
     all_goals cases hf
   obtain ⟨k,l',rfl,hl',hk⟩:=key
   simp only [eqF,aI] at he
   cases hx1:xs[f.offset]? with
   | none=>rw [hx1] at he;cases he
   | some x =>
    cases hy1:ys[f.offset]? with
    | none=>rw [hx1,hy1] at he;cases he
    | some y =>
     rw [hx1,hy1] at he
     simp only at he
     cases hc:eqC arS k x y with
     | none=>rw [hc] at he;cases he
     | some b1 =>
      cases hr:eqF arS xs ys l' with
      | none=>rw [hc,hr] at he;cases he
      | some b2 =>
       rw [hc,hr] at he
       injection he with he
       subst he
       obtain ⟨u,gu,ru⟩:=bJ hx hx1
       obtain ⟨v,gv,rv⟩:=bJ hy hy1
       rw [Array.getElem?_toList] at gu gv
       have hna:CZ P f.type=some false:=by
        unfold CZ
        rcases hk with ⟨_,k,hk⟩ | ⟨_,hk⟩ | ⟨_,hk⟩ <;> rw [hk]
       have pu:(part f.type us f.offset).run P w=.ok u w:=by simp [part,mZ hna,gu]
       have pv:(part f.type vs f.offset).run P w=.ok v w:=by simp [part,mZ hna,gv]
       have hq:=eqC_run (P:=P) ru rv hc hk d w
       have ih:=JD d fs l' hx hy hl' hr w
       simp only [Op.eqFields,ne_eq,hname,not_false_eq_true,if_true,Sem.run_bind,pu,pv,hq,Result.andThen_ok,Sem.run_ite,Sem.run_pure,ih]
       cases b1 <;> simp [arS]
  ·cases hf
theorem op_bin {op:BinOp} {t t':TypeId} {x y:Operand} (ho:o.op=.binOp op t x y t') (hf:aG S fr (shape H) a.tmps.toList) (h:aK S H w) {ax ay:AX} (hx:rx x=some ax) (hy:rx y=some ay)
  (hs:sat arS P H (aH arS σr fr H (.bin op (D9 P t) ax ay)) K):aT P o a w (Done S H K):=by
 have gx:=aY hf hx
 have gy:=aY hf hy
 have key:∃ v u,(eqGuard op t x y (a.eval x) (a.eval y)).run P w=.ok () w∧(binOp op t (a.eval x) (a.eval y)).run P w=.ok u w∧rel S v (shape H) u∧K v H:=by
  simp only [aH] at hs
  generalize ev fr ax=vx at *
  generalize ev fr ay=vy at *
  generalize a.eval x=ux at *
  generalize a.eval y=uy at *
  unfold Gl at hs
  split at hs
  ·simp only [rel] at gx gy
   subst gx gy
   obtain ⟨v,u,h1,h2,h3⟩:=Eh (S:=S) (t:=t) w (K:=K) hs
   exact ⟨v,u,xK w,h1,h2,h3⟩
  ·simp only [rel] at gx gy
   subst gx gy
   obtain ⟨v,u,h1,h2,h3⟩:=Eg (S:=S) (t:=t) w (K:=K) hs
   exact ⟨v,u,xJ w,h1,h2,h3⟩
  ·rename_i xs ys
   simp only [rel] at gx gy
   obtain ⟨us,rfl,gx,_⟩:=gx
   obtain ⟨vs,rfl,gy,_⟩:=gy
   have hk:∀ offs,D9 P t=.ag offs→∃ fs:Array Field,P.underlying t=some (.struct fs)∧P.stoodInHeld t=false∧P.eqGuardType P.depth t=false∧fQ P fs.toList=some offs:=by
    intro offs hk
    unfold D9 at hk
    cases hu:P.underlying t with
    | none=>rw [hu] at hk;cases hk
    | some dd =>
     rw [hu] at hk
     cases dd <;> simp only at hk <;> try cases hk
     rename_i fs
     split at hk
     ·rename_i hc
      cases hl:fQ P fs.toList with
      | none=>rw [hl] at hk;cases hk
      | some l=>rw [hl] at hk;injection hk with hk;subst hk;exact ⟨fs,rfl,hc.1,hc.2,hl⟩
     ·cases hk
   have run:∀ offs b,D9 P t=.ag offs→eqF arS xs ys offs=some b→(eqGuard op t x y (.agg us) (.agg vs)).run P w=.ok () w∧(Op.equal t (.agg us) (.agg vs)).run P w=.ok b w:=by
    intro offs b hk' hb
    obtain ⟨fs,h1,h2,h3,h4⟩:=hk offs hk'
    refine ⟨run_eqGuard_agg w op t x y us vs h3,?_⟩
    have hfs:P.fieldsOf t=fs:=by simp [Program.fieldsOf,h1]
    show (Op.equalIn (9999 + 1) t (.agg us) (.agg vs)).run P w=.ok b w
    rw [run_equalIn_struct w 9999 t us vs (by rw [hfs];exact h1) h2,hfs]
    exact JD 9998 fs.toList offs gx gy h4 hb w
   cases hk':D9 P t with
   | ag offs =>
    rw [hk'] at hs
    cases op
    case eql =>
     simp only at hs
     cases hb:eqF arS xs ys offs with
     | none=>rw [hb] at hs;exact False.elim hs
     | some b =>
      rw [hb] at hs
      obtain ⟨r1,r2⟩:=run offs b hk' hb
      exact ⟨_,_,r1,(rQ (.inr (.inr ⟨⟨_,rfl⟩,⟨_,rfl⟩⟩)) r2).1,by simp only [rel],hs⟩
    case neq =>
     simp only at hs
     cases hb:eqF arS xs ys offs with
     | none=>rw [hb] at hs;exact False.elim hs
     | some b =>
      rw [hb] at hs
      obtain ⟨r1,r2⟩:=run offs b hk' hb
      exact ⟨_,_,r1,(rQ (.inr (.inr ⟨⟨_,rfl⟩,⟨_,rfl⟩⟩)) r2).2,by simp only [rel];rfl,hs⟩
    all_goals exact False.elim hs
   | _=>rw [hk'] at hs;exact False.elim hs
  ·unfold D9 at hs
   cases hu:P.underlying t with
   | none=>rw [hu] at hs;exact False.elim hs
   | some dd =>
    rw [hu] at hs
    cases dd <;> simp only at hs
    case bool =>
     cases op <;> simp only at hs <;> try exact False.elim hs
     all_goals
      cases hvx:sym vx <;> rw [hvx] at hs <;> (try exact False.elim hs)
      cases hvy:sym vy <;> rw [hvy] at hs <;> (try exact False.elim hs)
      have gx':=jE gx
      have gy':=jE gy
      rw [hvx] at gx'
      rw [hvy] at gy'
      simp only [rel] at gx' gy'
      subst gx' gy'
     ·exact ⟨_,_,ni w,(rQ (.inr (.inl ⟨⟨_,rfl⟩,⟨_,rfl⟩⟩)) (xm hu w)).1,by simp only [rel];rfl,hs⟩
     ·exact ⟨_,_,ni w,(rQ (.inr (.inl ⟨⟨_,rfl⟩,⟨_,rfl⟩⟩)) (xm hu w)).2,by simp only [rel];rfl,hs⟩
    case pointer e =>
     cases op <;> simp only at hs <;> try exact False.elim hs
     ·obtain ⟨p,q,b,rfl,rfl,h1,h2⟩:=EU hu gx gy h hs
      exact ⟨_,_,o9 w,(rQ (.inl ⟨⟨_,rfl⟩,⟨_,rfl⟩⟩) h1).1,by simp only [rel],h2⟩
     ·obtain ⟨p,q,b,rfl,rfl,h1,h2⟩:=EU hu gx gy h hs
      exact ⟨_,_,o9 w,(rQ (.inl ⟨⟨_,rfl⟩,⟨_,rfl⟩⟩) h1).2,by simp only [rel],h2⟩
    case struct fs =>
     generalize hkk:(if P.stoodInHeld t=false∧P.eqGuardType P.depth t=false then (match fQ P fs.toList with | some l=>TK.ag l | none=>TK.o) else TK.o)=kk at hs
     have hk2:kk=.o∨∃ l,kk=.ag l:=by
      rw [← hkk]
      split
      ·split
       ·exact .inr ⟨_,rfl⟩
       ·exact .inl rfl
      ·exact .inl rfl
     rcases hk2 with rfl | ⟨l,rfl⟩ <;> (cases op <;> exact False.elim hs)
    all_goals (cases op <;> exact False.elim hs)
 obtain ⟨v,u,h1,h2,h3,h4⟩:=key
 unfold aT execOp
 simp only [ho,Sem.run_bind,h1,h2,Result.andThen_ok,Sem.run_pure]
 exact .here h h3 h4
theorem uI {op:BinOp} {t:TypeId} {x y:Operand} {m n:Option Addr} {a b c d:Nat} (w:World):(eqGuard op t x y (.slice m a b) (.slice n c d)).run P w=.ok () w:=by
 unfold eqGuard
 cases op <;> rfl
theorem Ef {t e:TypeId} {m:Option Addr} {n c:Nat} (ht:P.underlying t=some (.slice e)) (w:World):(Op.equal t (.slice m n c) (.slice none 0 0)).run P w=.ok m.isNone w:=by
 obtain ⟨d,hd⟩:=oQ t (.slice m n c) (.slice none 0 0)
 rw [hd]
 cases m <;> simp only [Op.equalIn,Sem.run_bind,run_underlying ht,Result.andThen_ok] <;> rfl
end
end Go.Ab
