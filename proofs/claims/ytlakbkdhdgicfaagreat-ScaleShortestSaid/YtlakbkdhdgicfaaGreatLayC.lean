import Derived.Test.YtlakbkdhdgicfaaGreatLayB
import Derived.AtR
import Derived.Below
namespace Go.Ab
open Go
set_option linter.unusedVariables false
set_option linter.unusedSimpArgs false
variable {σr:dG}
theorem IL {l:List Operand} {x:AX} (h:rxs l=some [x]):∃ p,l=[p]∧rx p=some x:=by
 have A:=jf.aab h
 cases A with
 | cons h1 A=>cases A with
  | nil=>exact ⟨_,rfl,h1⟩
theorem BV {l:List Operand} {x y:AX} (h:rxs l=some [x,y]):∃ p q,l=[p,q]∧rx p=some x∧rx q=some y:=by
 have A:=jf.aab h
 cases A with
 | cons h1 A=>cases A with
  | cons h2 A=>cases A with
   | nil=>exact ⟨_,_,rfl,h1,h2⟩
theorem Oh {l:List Operand} {x y z u:AX} (h:rxs l=some [x,y,z,u]):∃ p q r s,l=[p,q,r,s]∧rx p=some x∧rx q=some y∧rx r=some z∧rx s=some u:=by
 have A:=jf.aab h
 cases A with
 | cons h1 A=>cases A with
  | cons h2 A=>cases A with
   | cons h3 A=>cases A with
    | cons h4 A=>cases A with
     | nil=>exact ⟨_,_,_,_,rfl,h1,h2,h3,h4⟩
theorem MN {l:List Operand} {x y z:AX} (h:rxs l=some [x,y,z]):∃ p q r,l=[p,q,r]∧rx p=some x∧rx q=some y∧rx r=some z:=by
 have A:=jf.aab h
 cases A with
 | cons h1 A=>cases A with
  | cons h2 A=>cases A with
   | cons h3 A=>cases A with
    | nil=>exact ⟨_,_,_,rfl,h1,h2,h3⟩
section
variable {P:Program} {S:RS} {H:List aj} {fr:List AV} {K:AV→List aj→Prop} {o:Oper} {a:Act} {w:World}
theorem PU {b:Builtin} {args:List Operand} {ts:List TypeId} (ho:o.op=.call { callee:=.builtin b,args:=⟨args⟩,argTypes:=⟨ts⟩ }) (hf:aG S fr (shape H) a.tmps.toList) (h:aK S H w) {axs:List AX} (hx:rxs args=some axs) {ao:AO} (hr:wz P b ts axs=some ao) (hs:sat arS P H (aH arS σr fr H ao) K):aT P o a w (Done S H K):=by
 unfold wz at hr
 split at hr
 ·rename_i x
  obtain ⟨p,rfl,hx'⟩:=IL hx
  cases ts with
  | nil=>cases hr
  | cons t ts =>
   simp only [List.getElem?_cons_zero,Option.bind_some] at hr
   cases hu:P.underlying t with
   | none=>rw [hu] at hr;cases hr
   | some d =>
    rw [hu] at hr
    cases d <;> try (cases hr;done)
    case string =>
     injection hr with hr
     subst hr
     exact Ox (str:=true) ho hf h hx' (t:=t) (by simp) (by simpa using hu) hs
    case slice e =>
     injection hr with hr
     subst hr
     exact Ox (str:=false) ho hf h hx' (t:=t) (by simp) (by simp only [Bool.false_eq_true,if_false];exact ⟨_,hu⟩) hs
 ·rename_i x y
  obtain ⟨p,q,rfl,hx',hy'⟩:=BV hx
  split at hr
  ·rename_i t t'
   unfold yG at hr
   split at hr
   ·rename_i ht
    subst ht
    cases hu:P.underlying t with
    | none=>rw [hu] at hr;cases hr
    | some d =>
     rw [hu] at hr
     cases d <;> try (cases hr;done)
     rename_i e
     simp only at hr
     cases hi:P.info? e with
     | none=>rw [hi] at hr;cases hr
     | some i =>
      cases hz:zeroOf P e with
      | none=>rw [hi,hz] at hr;cases hr
      | some z =>
       rw [hi,hz] at hr
       simp only at hr
       split at hr
       ·rename_i hc
        injection hr with hr
        subst hr
        exact op_app ho hf h hx' hy' hu hi hz hc.1 hc.2 hs
       ·cases hr
   ·cases hr
  ·cases hr
 ·rename_i x
  obtain ⟨p,rfl,hx'⟩:=IL hx
  split at hr
  ·rename_i t
   cases hu:P.underlying t with
   | none=>rw [hu] at hr;cases hr
   | some d =>
    rw [hu] at hr
    cases d <;> try (cases hr;done)
    rename_i e
    simp only at hr
    cases hi:P.info? e with
    | none=>rw [hi] at hr;cases hr
    | some i =>
     cases hz:zeroOf P e with
     | none=>rw [hi,hz] at hr;cases hr
     | some z =>
      rw [hi,hz] at hr
      simp only at hr
      split at hr
      ·rename_i hc
       injection hr with hr
       subst hr
       exact op_clr ho hf h hx' hu hi hz hc.1 hc.2.2 hc.2.1 hs
      ·cases hr
  ·cases hr
 ·rename_i x y
  obtain ⟨p,q,rfl,hx',hy'⟩:=BV hx
  injection hr with hr
  subst hr
  exact IV (mx:=true) ho hf h hx' hy' hs
 ·rename_i x y
  obtain ⟨p,q,rfl,hx',hy'⟩:=BV hx
  injection hr with hr
  subst hr
  exact IV (mx:=false) ho hf h hx' hy' hs
 ·rename_i x y z u
  obtain ⟨p,q,r,s,rfl,hx',hy',hz',hu'⟩:=Oh hx
  injection hr with hr
  subst hr
  exact op_mx4 ho hf h hx' hy' hz' hu' hs
 ·cases hr
theorem Ik {c:Call} (ho:o.op=.call c) (hf:aG S fr (shape H) a.tmps.toList) (h:aK S H w) {ao:AO} (hr:qm P c=some ao) (hs:sat arS P H (aH arS σr fr H ao) K):aT P o a w (Done S H K):=by
 obtain ⟨callee,args,ts⟩:=c
 simp only [qm,Option.bind_eq_some_iff] at hr
 obtain ⟨axs,hx,hr⟩:=hr
 cases callee with
 | value f =>
  cases f with
  | func f =>
   simp only [AA] at hr
   cases hfn:P.funcs[f]? with
   | none=>rw [hfn] at hr;cases hr
   | some fn =>
    rw [hfn] at hr
    simp only at hr
    split at hr
    ·cases hr
    ·rename_i hname
     split at hr
     ·rename_i hb
      split at hr
      ·rename_i hadd
       simp only [Bool.and_eq_true,beq_iff_eq] at hadd
       split at hr
       ·rename_i x y z
        injection hr with hr
        subst hr
        obtain ⟨args⟩:=args
        obtain ⟨p,q,r,e,k1,k2,k3⟩:=MN hx
        simp only at e
        subst e
        exact op_addc ho hfn hadd.1 hadd.2 hb hf h k1 k2 k3 hs
       ·cases hr
      ·cases hr
     ·rename_i hb
      injection hr with hr
      subst hr
      exact op_call ho hfn (by simpa using hname) (Bool.eq_false_iff.2 hb) hf h hx hs
  | tmp n =>
   injection hr with hr
   subst hr
   exact Oy ho hf h hx hs
  | const _=>cases hr
  | global _=>cases hr
 | invoke r m =>
  obtain ⟨ar,h1,rfl⟩:=Option.map_eq_some_iff.1 hr
  exact op_inv ho hf h h1 hx hs
 | builtin b =>
  obtain ⟨args⟩:=args
  obtain ⟨ts⟩:=ts
  exact PU ho hf h hx hr hs
theorem yQ (hf:aG S fr (shape H) a.tmps.toList) (h:aK S H w) (hs:sat arS P H (aH arS σr fr H (rslv P o.op)) K):aT P o a w (Done S H K):=by
 unfold rslv at hs
 obtain ⟨ao,hr,hs⟩:=GY hs
 cases ho:o.op <;> rw [ho] at hr <;> simp only [Option.bind_eq_bind,Option.bind_eq_some_iff,Option.map_eq_some_iff,Option.some.injEq] at hr
 case move x=>obtain ⟨ax,h1,rfl⟩:=hr;exact op_mv (.inl ho) hf h h1 hs
 case assign x=>obtain ⟨ax,h1,rfl⟩:=hr;exact op_mv (.inr ho) hf h h1 hs
 case pick x y z=>obtain ⟨ax,h1,ay,h2,az,h3,rfl⟩:=hr;exact op_pick ho hf h h1 h2 h3 hs
 case alloc e =>
  obtain ⟨z,h1,rfl⟩:=hr
  simp only [aH] at hs
  split at hs
  ·rename_i h2;exact OA ho h h1 h2 hs
  ·exact False.elim hs
 case box e x =>
  obtain ⟨ax,h1,rfl⟩:=hr
  simp only [aH] at hs
  split at hs
  ·rename_i h2;exact op_box ho hf h h1 h2 hs
  ·exact False.elim hs
 case build t parts =>
  obtain ⟨z,h1,hr⟩:=hr
  split at hr
  ·rename_i fs hu
   simp only [Option.bind_eq_some_iff,Option.some.injEq] at hr
   obtain ⟨ps,h2,szs,h3,rfl⟩:=hr
   refine Oz ho hf h h1 hu (fun f hf'=>?_) ?_ hs
   ·have A:=jf.aab h3
    clear h2 h1 hs h3 hu
    generalize fs.toList=l at *
    induction A with
    | nil=>simp at hf'
    | cons hh _ ih =>
     rcases List.mem_cons.1 hf' with rfl | hf'
     ·exact ⟨_,hh⟩
     ·exact ih hf'
   ·refine jf.imp (fun p q hpq=>?_) (jf.aab h2)
    simp only [Option.bind_eq_some_iff,Option.some.injEq] at hpq
    obtain ⟨f,e1,n,e2,x,e3,rfl⟩:=hpq
    exact ⟨⟨f,e1,rfl,e2⟩,e3⟩
  ·cases hr
 case buildSlice t n parts =>
  split at hr
  ·rename_i e hu
   simp only [Option.bind_eq_some_iff] at hr
   obtain ⟨sz,h1,z,h2,ps,h3,hr⟩:=hr
   split at hr
   ·rename_i hc
    injection hr with hr
    subst hr
    refine op_lit ho hf h hu h1 h2 hc.2.1 hc.2.2 hc.1 ?_ hs
    refine jf.imp (fun p q hpq=>?_) (jf.aab h3)
    simp only [Option.bind_eq_some_iff,Option.some.injEq] at hpq
    obtain ⟨x,e3,rfl⟩:=hpq
    exact ⟨rfl,e3⟩
   ·cases hr
  ·cases hr
 case load t x=>obtain ⟨n,h1,ax,h2,rfl⟩:=hr;exact op_ld ho hf h h2 h1 hs
 case store t x y=>obtain ⟨n,h1,ax,h2,ay,h3,rfl⟩:=hr;exact op_st ho hf h h2 h3 h1 hs
 case nilCheck x=>obtain ⟨ax,h1,rfl⟩:=hr;exact op_nilc ho hf h h1 hs
 case binOp op t x y t' =>
  split at hr
  ·rename_i neg hn
   have hr:(rx x).bind (fun z=>some (AO.nilS neg z))=some ao:=hr
   simp only [Option.bind_eq_some_iff,Option.some.injEq] at hr
   obtain ⟨ax,h1,rfl⟩:=hr
   exact op_nilS ho hf h h1 hn hs
  ·have hr:(rx x).bind (fun z=>(rx y).bind fun z2=>some (AO.bin op (D9 P t) z z2))=some ao:=hr
   simp only [Option.bind_eq_some_iff,Option.some.injEq] at hr
   obtain ⟨ax,h1,ay,h2,rfl⟩:=hr;exact op_bin ho hf h h1 h2 hs
 case unOp op t x=>obtain ⟨ax,h1,rfl⟩:=hr;exact op_un ho hf h h1 hs
 case convert s d x =>
  split at hr
  ·rename_i k k' h1 h2
   obtain ⟨ax,h3,rfl⟩:=Option.map_eq_some_iff.1 hr
   exact op_cvt ho hf h h3 h1 h2 hs
  ·cases hr
 case makeInterface t x =>
  split at hr
  ·cases hr
  ·cases hr
  ·rename_i h1 h2
   obtain ⟨ax,h3,rfl⟩:=Option.map_eq_some_iff.1 hr
   cases hu:P.underlying t with
   | none=>exact absurd hu h2
   | some d=>exact op_mki ho hf h h3 hu (fun ms e=>h1 ms (by rw [hu,e])) hs
 case makeFunc f x y=>obtain ⟨ax,h1,ay,h2,rfl⟩:=hr;exact op_mkf ho hf h h1 h2 hs
 case makeSlice t x y =>
  split at hr
  ·rename_i e hu
   simp only [Option.bind_eq_some_iff] at hr
   obtain ⟨i,h1,z,h2,hr⟩:=hr
   split at hr
   ·rename_i hc
    simp only [Option.bind_eq_some_iff,Option.some.injEq] at hr
    obtain ⟨ax,h3,ay,h4,rfl⟩:=hr
    exact op_mks ho hf h h3 h4 hu h1 h2 hc.1 hc.2 hs
   ·cases hr
  ·cases hr
 case slice t x lo hi mx =>
  cases mx with
  | some _=>cases hr
  | none =>
   simp only at hr
   split at hr
   ·rename_i e hu
    simp only [Option.bind_eq_some_iff,Option.some.injEq] at hr
    obtain ⟨k,h1,alo,h2,ahi,h3,ax,h4,rfl⟩:=hr
    exact Ov (k:=some k) ho hf h h4 h2 h3 ⟨e,hu,h1⟩ hs
   ·rename_i hu
    simp only [Option.bind_eq_some_iff,Option.some.injEq] at hr
    obtain ⟨alo,h2,ahi,h3,ax,h4,rfl⟩:=hr
    exact Ov (k:=none) ho hf h h4 h2 h3 hu hs
   ·cases hr
 case fieldAddr s x i =>
  split at hr
  ·rename_i fs hu
   simp only [Option.bind_eq_some_iff] at hr
   obtain ⟨f,h1,n,h2,hr⟩:=hr
   split at hr
   ·cases hr
   ·rename_i h0
    simp only [Option.bind_eq_some_iff,Option.some.injEq] at hr
    obtain ⟨ax,h3,rfl⟩:=hr
    exact op_fad ho hf h h3 hu h1 h2 h0 hs
  ·cases hr
 case field s x i =>
  split at hr
  ·rename_i fs hu
   simp only [Option.bind_eq_some_iff,Option.some.injEq] at hr
   obtain ⟨f,h1,n,h2,ax,h3,rfl⟩:=hr
   exact op_fld ho hf h h3 hu h1 h2 hs
  ·cases hr
 case indexAddr t x i =>
  split at hr
  ·rename_i e hu
   simp only [Option.bind_eq_some_iff,Option.some.injEq] at hr
   obtain ⟨sz,h1,ax,h2,ay,h3,rfl⟩:=hr
   exact op_idx ho hf h h2 h3 hu h1 hs
  ·cases hr
 case index t x i =>
  split at hr
  ·rename_i hu
   simp only [Option.bind_eq_some_iff,Option.some.injEq] at hr
   obtain ⟨ax,h2,ay,h3,rfl⟩:=hr
   exact op_idxs ho hf h h2 h3 hu hs
  ·cases hr
 case extract x i=>obtain ⟨ax,h1,rfl⟩:=hr;exact op_ext ho hf h h1 hs
 case typeAssert x t0 t ok =>
  split at hr
  ·cases hr
  ·cases hr
  ·rename_i h1 h2
   simp only [Option.bind_eq_some_iff,Option.some.injEq] at hr
   obtain ⟨z,h3,ag,h4,ax,h5,rfl⟩:=hr
   cases hu:P.underlying t with
   | none=>exact absurd hu h2
   | some d=>exact op_asrt ho hf h h5 hu (fun ms e=>h1 ms (by rw [hu,e])) h3 h4 hs
 case call c=>exact Ik ho hf h hr hs
 case makeMap t r =>
  cases r with
  | some _=>cases hr
  | none =>
   simp only [Option.some.injEq] at hr
   subst hr
   exact op_mkm ho h hs
 case lookup t x i ok =>
  cases ok with
  | true=>cases hr
  | false =>
   simp only at hr
   split at hr
   ·rename_i kt et ht
    split at hr
    ·rename_i k0 b hk hz
     obtain ⟨ti,hz1,hz2⟩:=Option.bind_eq_some_iff.1 hz
     replace hr:=Option.bind_eq_some_iff.1 hr
     obtain ⟨ax,h1,hr⟩:=hr
     obtain ⟨ai,h2,hr⟩:=Option.bind_eq_some_iff.1 hr
     simp only [Option.some.injEq] at hr
     subst hr
     exact IW ho hf h h1 h2 ht hk hz1 hz2 (fun T=>by simp only [rel]) hs
    ·rename_i k0 k n hk hz
     obtain ⟨ti,hz1,hz2⟩:=Option.bind_eq_some_iff.1 hz
     replace hr:=Option.bind_eq_some_iff.1 hr
     obtain ⟨ax,h1,hr⟩:=hr
     obtain ⟨ai,h2,hr⟩:=Option.bind_eq_some_iff.1 hr
     simp only [Option.some.injEq] at hr
     subst hr
     exact IW ho hf h h1 h2 ht hk hz1 hz2 (fun T=>by simp only [rel]) hs
    ·cases hr
   ·cases hr
 case mapUpdate t x i v =>
  split at hr
  ·rename_i kt et ht
   split at hr
   ·rename_i k0 hk
    obtain ⟨ax,h1,hr⟩:=Option.bind_eq_some_iff.1 hr
    obtain ⟨ai,h2,hr⟩:=Option.bind_eq_some_iff.1 hr
    obtain ⟨av,h3,hr⟩:=Option.bind_eq_some_iff.1 hr
    simp only [Option.some.injEq] at hr
    subst hr
    exact op_mset ho hf h h1 h2 h3 ht hk hs
   ·cases hr
  ·cases hr
 all_goals cases hr
end
end Go.Ab

namespace Go.Ab
open Go
set_option linter.unusedVariables false
set_option linter.unusedSimpArgs false
structure AOp where
 dst:Option Nat
 op:AO
 guard:Option (Option Nat × Bool)
 after:List Nat:=[]
 looks:List Nat:=[]
 deriving Inhabited
inductive Node where
 | seq (d:Nat)
 | cond (x:AX) (d:Nat)
 | block (id:Nat)
 | loop
 | region (ops:List AOp) (draw:Bool)
 | exit (id:Nat)
 | skip
 | ret
 | rng (g:AX) (ps:List Nat) (d e:Nat)
 | bad
 deriving Inhabited
def bH (P:Program) (ops:Array Oper) (d:Bool) (o:Oper):AOp :=
  { dst:=o.dst,op:=rslv P o.op,guard:=o.guard.map fun (j,b)=>((ops[j]?).bind (·.dst),b),
    after:=if d then (o.after.toList.filter (Region.binds .any)).map (·.on) else [],looks:=if d then o.looksAt ops else [] }
def aU:Code→Nat
 | .seq a b=>aU a + aU b + 1
 | .cond _ a b=>aU a + aU b + 1
 | .block _ a=>aU a + 1
 | .loop a=>aU a + 1
 | .rangeFunc _ _ a b=>aU a + aU b + 1
 | _=>1
def flat (P:Program):Code→List Node
 | .seq a b=>.seq (aU a + 1)::(flat P a++flat P b)
 | .cond x a b=>(match rx x with | some x=>.cond x (aU a + 1) | none=>.bad)::(flat P a++flat P b)
 | .block id a=>.block id::flat P a
 | .loop a=>.loop::flat P a
 | .region _ ops draw=>[.region (ops.toList.map (bH P ops draw)) draw]
 | .exit id=>[.exit id]
 | .skip=>[.skip]
 | .ret=>[.ret]
 | .rangeFunc x ps a b=>(match rx x with | some x=>.rng x ps.toList (aU a + 1) (aU b) | none=>.bad)::(flat P a++flat P b)
 | _=>[.bad]
theorem flat_length (P:Program):∀ c:Code,(flat P c).length=aU c
 | .seq a b=>by simp [flat,aU,flat_length P a,flat_length P b]
 | .cond x a b=>by simp [flat,aU,flat_length P a,flat_length P b]
 | .block id a=>by simp [flat,aU,flat_length P a]
 | .loop a=>by simp [flat,aU,flat_length P a]
 | .region ..=>by simp [flat,aU]
 | .exit _=>by simp [flat,aU]
 | .skip=>by simp [flat,aU]
 | .ret=>by simp [flat,aU]
 | .rangeFunc _ _ a b=>by simp [flat,aU,flat_length P a,flat_length P b]
 | .scope _=>by simp [flat,aU]
 | .label _=>by simp [flat,aU]
 | .goto _=>by simp [flat,aU]
 | .refuse _=>by simp [flat,aU]
inductive RV where
 | t (n:Nat)
 | cell (n:Nat) (l:Option Nat)
 deriving Inhabited
def qh (P:Program):ResultVar→Option RV
 | .tmp n=>some (.t n)
 | .cell n t=>(y8 P t).map (.cell n)
structure AFn where
 np:Nat
 nt:Nat
 res:List RV
 tab:List Node
 deriving Inhabited
def AFn.of (P:Program) (fn:Func) (F:AFn):Prop :=
 F.np=fn.params.size∧F.nt=fn.ntmps∧fn.results.toList.mapM (qh P)=some F.res∧(fn.body.map (flat P))=some F.tab
inductive bf where
 | c (n:Nat)
 | ops (n k:Nat)
 | blk (id:Nat)
 | lp (n:Nat)
 deriving Inhabited
def At (P:Program) (tab:List Node) (n:Nat) (x:Code):Prop:=∃ pre post,tab=pre++flat P x++post∧pre.length=n
def zU (P:Program) (tab:List Node):bf→Item→Prop
 | .c n,.code x=>At P tab n x
 | .ops n k,.inRegion ops l=>(∃ id d,At P tab n (.region id ops d))∧l=List.range' k (ops.size - k)
 | .blk id,.inBlock id'=>id=id'
 | .lp n,.inLoop x=>At P tab n x
 | _,_=>False
def rnd (P:Program) (fn:Func):Bool:=(fn.results.toList.mapM (qh P)).isNone
def Pq (r:Bool) (f:Frame):Frame:=if r then f else { f with mode:=.returning }
def Run (P:Program) (fn:Func) (tab:List Node) (H0:List aj) (R:AV→List aj→Prop) (K:List bf) (fr:List AV) (H:List aj):Prop :=
 ∀ S0 S w a (b:Frame) k cs,Ext S0 (shape H0) S (shape H)→(rnd P fn=false→b.roundOf=none)→aG S fr (shape H) a.tmps.toList→aK S H w→jf (zU P tab) K k →
  ∃ a' w' todo v,Steps P (lone (b.atR a k) cs w) (lone (Pq (rnd P fn) (b.atR a' todo)) cs w')∧a'.defers=a.defers∧(if rnd P fn then todo=[] else (results fn a'.tmps).run P w'=.ok v w')∧Done S0 H0 R v w'
section
variable {P:Program} {fn:Func} {tab:List Node} {H0:List aj} {R:AV→List aj→Prop} {K:List bf} {fr:List AV} {H:List aj}
theorem At.head {n:Nat} {x:Code} (h:At P tab n x):tab[n]?=(flat P x)[0]?:=by
 obtain ⟨pre,post,rfl,rfl⟩:=h
 rw [List.append_assoc,List.getElem?_append_right (Nat.le_refl _),Nat.sub_self]
 cases hf:flat P x with
 | nil=>have:=flat_length P x;rw [hf] at this;cases x <;> simp [aU] at this
 | cons y l=>simp
theorem At.seq {n:Nat} {x y:Code} (h:At P tab n (.seq x y)):At P tab (n + 1) x∧At P tab (n + (aU x + 1)) y:=by
 obtain ⟨pre,post,rfl,rfl⟩:=h
 simp only [flat]
 exact ⟨⟨pre++[.seq (aU x + 1)],flat P y++post,by simp,by simp⟩,⟨pre++.seq (aU x + 1)::flat P x,post,by simp,by simp [flat_length]⟩⟩
theorem At.cond {n:Nat} {c:Operand} {x y:Code} (h:At P tab n (.cond c x y)):At P tab (n + 1) x∧At P tab (n + (aU x + 1)) y:=by
 obtain ⟨pre,post,rfl,rfl⟩:=h
 simp only [flat]
 generalize (match rx c with | some x_1=>Node.cond x_1 (aU x + 1) | none=>Node.bad)=nd
 exact ⟨⟨pre++[nd],flat P y++post,by simp,by simp⟩,⟨pre++nd::flat P x,post,by simp,by simp [flat_length]⟩⟩
theorem At.block {n id:Nat} {x:Code} (h:At P tab n (.block id x)):At P tab (n + 1) x:=by
 obtain ⟨pre,post,rfl,rfl⟩:=h
 simp only [flat]
 exact ⟨pre++[.block id],post,by simp,by simp⟩
theorem At.loop {n:Nat} {x:Code} (h:At P tab n (.loop x)):At P tab (n + 1) x:=by
 obtain ⟨pre,post,rfl,rfl⟩:=h
 simp only [flat]
 exact ⟨pre++[.loop],post,by simp,by simp⟩
theorem At.rng {n:Nat} {c:Operand} {ps:Array Tmp} {x y:Code} (h:At P tab n (.rangeFunc c ps x y)):At P tab (n + 1) x∧At P tab (n + (aU x + 1)) y:=by
 obtain ⟨pre,post,rfl,rfl⟩:=h
 simp only [flat]
 generalize (match rx c with | some x_1=>Node.rng x_1 ps.toList (aU x + 1) (aU y) | none=>Node.bad)=nd
 exact ⟨⟨pre++[nd],flat P y++post,by simp,by simp⟩,⟨pre++nd::flat P x,post,by simp,by simp [flat_length]⟩⟩
theorem At.mask {n e:Nat} {y:Code} {tabB:List Node} (h:At P tab n y) (he:e=aU y) (hB:tabB=List.replicate n .bad++(tab.drop n).take e):At P tabB n y:=by
 obtain ⟨pre,post,rfl,rfl⟩:=h
 refine ⟨List.replicate pre.length .bad,[],?_,by simp⟩
 rw [hB,he,List.append_assoc,List.drop_left,List.append_nil,← flat_length P y,List.take_left]
theorem At.is_seq {n d:Nat} {x:Code} (h:At P tab n x) (ht:tab[n]?=some (.seq d)):∃ a b,x=.seq a b∧d=aU a + 1:=by
 rw [h.head] at ht
 cases x <;> simp [flat] at ht
 ·exact ⟨_,_,rfl,ht.symm⟩
 all_goals (exfalso;revert ht;split <;> simp)
theorem At.is_cond {n d:Nat} {x:Code} {ax:AX} (h:At P tab n x) (ht:tab[n]?=some (.cond ax d)):∃ c a b,x=.cond c a b∧rx c=some ax∧d=aU a + 1:=by
 rw [h.head] at ht
 cases x <;> simp [flat] at ht
 ·rename_i c _ _
  cases hc:rx c with
  | none=>simp [hc] at ht
  | some y=>simp [hc] at ht;exact ⟨_,_,_,rfl,by rw [hc,ht.1],ht.2.symm⟩
 all_goals (exfalso;revert ht;split <;> simp)
theorem At.is_rng {n d e:Nat} {x:Code} {ax:AX} {ps:List Nat} (h:At P tab n x) (ht:tab[n]?=some (.rng ax ps d e)):∃ c qs a b,x=.rangeFunc c qs a b∧rx c=some ax∧qs.toList=ps∧d=aU a + 1∧e=aU b:=by
 rw [h.head] at ht
 cases x <;> simp [flat] at ht
 ·exfalso;revert ht;split <;> simp
 ·rename_i c qs _ _
  cases hc:rx c with
  | none=>simp [hc] at ht
  | some y=>simp [hc] at ht;exact ⟨_,_,_,_,rfl,by rw [hc,ht.1],ht.2.1,ht.2.2.1.symm,ht.2.2.2.symm⟩
theorem At.O5 {n id:Nat} {x:Code} (h:At P tab n x) (ht:tab[n]?=some (.block id)):∃ a,x=.block id a:=by
 rw [h.head] at ht
 cases x <;> simp [flat] at ht
 all_goals first | (exfalso;revert ht;split <;> simp;done) | (subst ht;exact ⟨_,rfl⟩)
theorem At.is_loop {n:Nat} {x:Code} (h:At P tab n x) (ht:tab[n]?=some .loop):∃ a,x=.loop a:=by
 rw [h.head] at ht
 cases x <;> simp [flat] at ht
 all_goals first | (exfalso;revert ht;split <;> simp;done) | (exact ⟨_,rfl⟩)
theorem At.is_exit {n id:Nat} {x:Code} (h:At P tab n x) (ht:tab[n]?=some (.exit id)):x=.exit id:=by
 rw [h.head] at ht
 cases x <;> simp [flat] at ht
 all_goals first | (exfalso;revert ht;split <;> simp;done) | (subst ht;rfl)
theorem At.is_skip {n:Nat} {x:Code} (h:At P tab n x) (ht:tab[n]?=some .skip):x=.skip:=by
 rw [h.head] at ht
 cases x <;> simp [flat] at ht
 all_goals first | (exfalso;revert ht;split <;> simp;done) | rfl
theorem At.is_ret {n:Nat} {x:Code} (h:At P tab n x) (ht:tab[n]?=some .ret):x=.ret:=by
 rw [h.head] at ht
 cases x <;> simp [flat] at ht
 all_goals first | (exfalso;revert ht;split <;> simp;done) | rfl
theorem At.lq {n:Nat} {x:Code} {l:List AOp} {d:Bool} (h:At P tab n x) (ht:tab[n]?=some (.region l d)):∃ id ops,x=.region id ops d∧l=ops.toList.map (bH P ops d):=by
 rw [h.head] at ht
 cases x <;> simp [flat] at ht
 all_goals first | (exfalso;revert ht;split <;> simp;done) | (obtain ⟨h1,rfl⟩:=ht;exact ⟨_,_,rfl,h1.symm⟩)
theorem Run.step {K':List bf} (h:∀ S w a (b:Frame) k cs,True→aG S fr (shape H) a.tmps.toList→aK S H w→jf (zU P tab) K k→∃ k',Steps P (lone (b.atR a k) cs w) (lone (b.atR a k') cs w)∧jf (zU P tab) K' k')
  (hr:Run P fn tab H0 R K' fr H):Run P fn tab H0 R K fr H:=by
 intro S0 S w a b k cs he hd hf hw hk
 obtain ⟨k',h1,h2⟩:=h S w a b k cs trivial hf hw hk
 obtain ⟨a',w',todo,v,q1,q2,q3,q4⟩:=hr S0 S w a b k' cs he hd hf hw h2
 exact ⟨a',w',todo,v,h1.trans q1,q2,q3,q4⟩
theorem Run.seq {n d:Nat} (ht:tab[n]?=some (.seq d)) (h:Run P fn tab H0 R (.c (n + 1)::.c (n + d)::K) fr H):Run P fn tab H0 R (.c n::K) fr H:=by
 refine Run.step (fun S w a b k cs _ _ _ hk=>?_) h
 cases hk with
 | cons h1 hk =>
  rename_i it k
  cases it <;> first | exact h1.elim | skip
  obtain ⟨x,y,rfl,rfl⟩:=At.is_seq h1 ht
  exact ⟨_,.one stepR_seq,.cons (At.seq h1).1 (.cons (At.seq h1).2 hk)⟩
theorem Run.block {n id:Nat} (ht:tab[n]?=some (.block id)) (h:Run P fn tab H0 R (.c (n + 1)::.blk id::K) fr H):Run P fn tab H0 R (.c n::K) fr H:=by
 refine Run.step (fun S w a b k cs _ _ _ hk=>?_) h
 cases hk with
 | cons h1 hk =>
  rename_i it k
  cases it <;> first | exact h1.elim | skip
  obtain ⟨x,rfl⟩:=At.O5 h1 ht
  exact ⟨_,.one stepR_block,.cons (At.block h1) (.cons rfl hk)⟩
theorem Run.loop {n:Nat} (ht:tab[n]?=some .loop) (h:Run P fn tab H0 R (.c (n + 1)::.lp (n + 1)::K) fr H):Run P fn tab H0 R (.c n::K) fr H:=by
 refine Run.step (fun S w a b k cs _ _ _ hk=>?_) h
 cases hk with
 | cons h1 hk =>
  rename_i it k
  cases it <;> first | exact h1.elim | skip
  obtain ⟨x,rfl⟩:=At.is_loop h1 ht
  exact ⟨_,.one stepR_loop,.cons (At.loop h1) (.cons (At.loop h1) hk)⟩
theorem Run.lp {n:Nat} (h:Run P fn tab H0 R (.c n::.lp n::K) fr H):Run P fn tab H0 R (.lp n::K) fr H:=by
 refine Run.step (fun S w a b k cs _ _ _ hk=>?_) h
 cases hk with
 | cons h1 hk =>
  rename_i it k
  cases it <;> first | exact h1.elim | skip
  exact ⟨_,.one stepR_inLoop,.cons h1 (.cons h1 hk)⟩
theorem Run.blk {id:Nat} (h:Run P fn tab H0 R K fr H):Run P fn tab H0 R (.blk id::K) fr H:=by
 refine Run.step (fun S w a b k cs _ _ _ hk=>?_) h
 cases hk with
 | cons h1 hk =>
  rename_i it k
  cases it <;> first | exact h1.elim | skip
  exact ⟨_,.one stepR_inBlock,hk⟩
theorem Run.skip {n:Nat} (ht:tab[n]?=some .skip) (h:Run P fn tab H0 R K fr H):Run P fn tab H0 R (.c n::K) fr H:=by
 refine Run.step (fun S w a b k cs _ _ _ hk=>?_) h
 cases hk with
 | cons h1 hk =>
  rename_i it k
  cases it <;> first | exact h1.elim | skip
  obtain rfl:=At.is_skip h1 ht
  exact ⟨_,.one stepR_skip,hk⟩
def nS (id:Nat):List bf→Option (List bf)
 | .blk id'::K=>if id'=id then some K else nS id K
 | _::K=>nS id K
 | []=>none
theorem jU {id:Nat}:∀ {K K':List bf} {k:List Item},jf (zU P tab) K k→nS id K=some K'→∃ k',exitTo id k=some k'∧jf (zU P tab) K' k'
 | _,_,_,.nil,h=>by simp [nS] at h
 | _,K',_,.cons (x:=it) (y:=it') (l:=K) (m:=k) h1 hk,h=>by
  cases it with
  | blk id' =>
   cases it' <;> first | exact h1.elim | skip
   have h1:id'=_:=h1
   subst h1
   simp only [nS] at h
   split at h
   ·rename_i he
    injection h with h
    subst h he
    exact ⟨k,by simp [exitTo],hk⟩
   ·rename_i he
    obtain ⟨k',q1,q2⟩:=jU hk h
    exact ⟨k',by simp [exitTo,he,q1],q2⟩
  | c n =>
   cases it' <;> first | exact h1.elim | skip
   obtain ⟨k',q1,q2⟩:=jU hk (show nS id K=some K' from h)
   exact ⟨k',by simp [exitTo,q1],q2⟩
  | ops n j =>
   cases it' <;> first | exact h1.elim | skip
   obtain ⟨k',q1,q2⟩:=jU hk (show nS id K=some K' from h)
   exact ⟨k',by simp [exitTo,q1],q2⟩
  | lp n =>
   cases it' <;> first | exact h1.elim | skip
   obtain ⟨k',q1,q2⟩:=jU hk (show nS id K=some K' from h)
   exact ⟨k',by simp [exitTo,q1],q2⟩
theorem Run.exit {n id:Nat} {K':List bf} (ht:tab[n]?=some (.exit id)) (he:nS id K=some K') (h:Run P fn tab H0 R K' fr H):Run P fn tab H0 R (.c n::K) fr H:=by
 refine Run.step (fun S w a b k cs _ _ _ hk=>?_) h
 cases hk with
 | cons h1 hk =>
  rename_i it k
  cases it <;> first | exact h1.elim | skip
  obtain rfl:=At.is_exit h1 ht
  obtain ⟨k',q1,q2⟩:=jU hk he
  exact ⟨_,.one (stepR_exit q1),q2⟩
theorem Run.cond {n d:Nat} {x:AX} {t:Bool} (ht:tab[n]?=some (.cond x d)) (hx:ev fr x=.bool t∨ev fr x=.sb t) (h:Run P fn tab H0 R (.c (if t then n + 1 else n + d)::K) fr H):Run P fn tab H0 R (.c n::K) fr H:=by
 refine Run.step (fun S w a b k cs _ hf _ hk=>?_) h
 cases hk with
 | cons h1 hk =>
  rename_i it k
  cases it <;> first | exact h1.elim | skip
  obtain ⟨c,p,q,rfl,hc,rfl⟩:=At.is_cond h1 ht
  have hr:=aY hf hc
  have he:a.eval c=.bool t:=by
   rcases hx with hx | hx <;> (rw [hx] at hr;simpa [rel] using hr)
  refine ⟨_,.one (stepR_cond he),.cons ?_ hk⟩
  cases t
  ·exact (At.cond h1).2
  ·exact (At.cond h1).1
theorem Run.region {n:Nat} {l:List AOp} (ht:tab[n]?=some (.region l false)) (h:Run P fn tab H0 R (.ops n 0::K) fr H):Run P fn tab H0 R (.c n::K) fr H:=by
 refine Run.step (fun S w a b k cs _ _ _ hk=>?_) h
 cases hk with
 | cons h1 hk =>
  rename_i it k
  cases it <;> first | exact h1.elim | skip
  obtain ⟨id,ops,rfl,rfl⟩:=At.lq h1 ht
  exact ⟨_,.one stepR_region,.cons ⟨⟨id,_,h1⟩,by simp [List.range_eq_range']⟩ hk⟩
end
end Go.Ab

namespace Go.Ab
open Go
set_option linter.unusedVariables false
set_option linter.unusedSimpArgs false
variable {σr:dG}
def bG (fr:List AV) (d:Option Nat) (v:AV):List AV :=
 match d with
 | some d=>bM fr d v
 | none=>fr
section
variable {P:Program} {fn:Func} {tab:List Node} {H0:List aj} {R:AV→List aj→Prop} {K:List bf} {fr:List AV} {H:List aj}
theorem qw {S:RS} {T:Sh} {a:Act} (hf:aG S fr T a.tmps.toList) (d:Option Nat) {v:AV} {u:Value} (hv:rel S v T u):aG S (bG fr d v) T (a.put d u).tmps.toList:=by
 cases d with
 | none=>exact hf
 | some d =>
  simp only [bG,bg,Act.put,Array.toList_setIfInBounds]
  exact qo hf d hv
theorem put_defers (a:Act) (d:Option Nat) (u:Value):(a.put d u).defers=a.defers:=by cases d <;> rfl
theorem qF {ops:Array Oper} {i:Nat} {rest:List Nat} {o:Oper} {a:Act} {w:World} {G:Value→World→Prop} {b:Frame} {k:List Go.Item} {cs:List Frame} (ho:ops[i]?=some o) (hw:Region.wanted o (yielded ops a.tmps)=true) (h:aT P o a w G) :
  ∃ u w',G u w'∧Steps P (lone (b.atR a (.inRegion ops (i::rest)::k)) cs w) (lone (b.atR (a.put o.dst u) (.inRegion ops rest::k)) cs w'):=by
 have hg:=stepGR_op (P:=P) (b:=b) (k:=k) (cs:=cs) (w:=w) (rest:=rest) ho hw
 have hsem:o.semAt b.roundOf a.eval=execOp a.eval o:=by
  refine Oper.semAt_eq _ _ _ fun c hc=>?_
  unfold aT at h
  simp only [execOp,hc] at h
  revert h
  simp only [Sem.run_bind,Result.andThen,Sem.run_pure]
  cases (resolve a.eval c o.type).run P w <;> simp
 rw [hsem] at hg
 have hfin:∀ v,(b.atR a (.inRegion ops (i::rest)::k)).finish v=b.atR (a.put o.dst v) (.inRegion ops rest::k):=by
  intro v;rw [Frame.finish_atR,ho];rfl
 unfold aT at h
 split at h
 ·rename_i u w' hr
  refine ⟨u,w',h,.one (step_lone_go ?_)⟩
  rw [hg,← hfin];simp [stepG.apply,hr]
 ·rename_i w' hr
  refine ⟨undef,w',h,.one (step_lone_go ?_)⟩
  rw [hg,← hfin];simp [stepG.apply,hr]
 ·rename_i f args w' hr
  obtain ⟨e,w'',fr',⟨u,rfl,hR⟩,hsteps,_,hleave⟩:=h (b.atR a (.inRegion ops (i::rest)::k)::cs)
  have henter:step P (lone (b.atR a (.inRegion ops (i::rest)::k)) cs w) =
    .next (lone (Frame.enter P f args .normal) (b.atR a (.inRegion ops (i::rest)::k)::cs) w') :=
   step_lone_go (by rw [hg];simp [stepG.apply,hr,Frame.atR])
  refine ⟨u,w'',hR,.head henter (Steps.trans hsteps (.one ?_))⟩
  rw [← hfin];exact step_leave_returned hleave
 ·exact h.elim
def gOk (fr:List AV) (g:Option (Option Nat × Bool)) (b:Bool):Prop :=
 match g with
 | none=>b=true
 | some (some t,want)=>(ev fr (.t t)=.bool (if b then want else !want))∨(ev fr (.t t)=.sb (if b then want else !want))∨(b=false∧ev fr (.t t)=.tup [])
 | some (none,_)=>b=false
theorem lS {S:RS} {T:Sh} {a:Act} {ops:Array Oper} {o:Oper} {d b:Bool} (hf:aG S fr T a.tmps.toList) (h:gOk fr (bH P ops d o).guard b):Region.wanted o (yielded ops a.tmps)=b:=by
 unfold Region.wanted
 simp only [bH] at h
 cases hg:o.guard with
 | none=>rw [hg] at h;simp only [Option.map_none,gOk] at h;exact h.symm
 | some g =>
  obtain ⟨j,want⟩:=g
  rw [hg] at h
  simp only [Option.map_some] at h
  simp only [yielded]
  cases hd:(ops[j]?).bind (·.dst) with
  | none=>rw [hd] at h;simp only [gOk] at h;subst h;simp
  | some t =>
   rw [hd] at h
   simp only [gOk] at h
   have hget:∀ c,ev fr (.t t)=c→c≠.bn→∃ v,a.tmps[t]?=some v∧rel S c T v:=by
    intro c hc hn
    simp only [ev,aI] at hc
    cases hx:fr[t]? with
    | none=>rw [hx] at hc;simp at hc;exact absurd hc.symm hn
    | some c' =>
     rw [hx] at hc
     simp at hc
     subst hc
     obtain ⟨v,h1,h2⟩:=bJ hf hx
     rw [Array.getElem?_toList] at h1
     exact ⟨v,h1,h2⟩
   rcases h with h | h | ⟨rfl,h⟩
   ·obtain ⟨v,h1,h2⟩:=hget _ h (by simp)
    simp only [rel] at h2
    simp only [Option.bind_some,h1,h2]
    cases b <;> cases want <;> rfl
   ·obtain ⟨v,h1,h2⟩:=hget _ h (by simp)
    simp only [rel] at h2
    simp only [Option.bind_some,h1,h2]
    cases b <;> cases want <;> rfl
   ·obtain ⟨v,h1,h2⟩:=hget _ h (by simp)
    simp only [rel,aG] at h2
    obtain ⟨us,rfl,_⟩:=h2
    simp only [Option.bind_some,h1]
    rfl
theorem Run.op {n j:Nat} {l:List AOp} {d:Bool} {o:AOp} (ht:tab[n]?=some (.region l d)) (ho:l[j]?=some o) (hg:gOk fr o.guard true)
  (h:sat arS P H (aH arS σr fr H o.op) fun v H'=>Run P fn tab H0 R (.ops n (j + 1)::K) (bG fr o.dst v) H'):Run P fn tab H0 R (.ops n j::K) fr H:=by
 intro S0 S w a b k cs he hd hf hw hk
 cases hk with
 | cons h1 hk =>
  rename_i it k
  cases it <;> first | exact h1.elim | skip
  rename_i ops li
  obtain ⟨⟨id,d',hat⟩,rfl⟩:=h1
  have hreg:=At.lq hat ht
  obtain ⟨id',ops',heq,rfl⟩:=hreg
  injection heq with _ heq _
  subst heq
  rw [List.getElem?_map] at ho
  obtain ⟨o',ho',rfl⟩:=Option.map_eq_some_iff.1 ho
  have hlt:j < ops.size:=by
   have:=(List.getElem?_eq_some_iff.1 ho').1
   simpa using this
  have ho2:ops[j]?=some o':=by rw [← Array.getElem?_toList];exact ho'
  have hres:=yQ (o:=o') hf hw h
  obtain ⟨u,w',hG,hs⟩:=qF (b:=b) (k:=k) (cs:=cs) (rest:=List.range' (j + 1) (ops.size - (j + 1))) ho2 (lS hf hg) hres
  obtain ⟨S',v,H',e1,e2,e3,e4⟩:=hG
  have hl:List.range' j (ops.size - j)=j::List.range' (j + 1) (ops.size - (j + 1)):=by
   rw [show ops.size - j=(ops.size - (j + 1)) + 1 by omega,List.range'_succ]
  rw [hl]
  obtain ⟨a',w'',todo,vv,q1,q2,q3,q4⟩:=e4 S0 S' w' (a.put o'.dst u) b (.inRegion ops (List.range' (j + 1) (ops.size - (j + 1)))::k) cs (he.trans e1) hd
   (qw (eP _ _ _ _ e1 hf) _ e3) e2 (.cons ⟨⟨id,d',hat⟩,rfl⟩ hk)
  exact ⟨a',w'',todo,vv,hs.trans q1,q2.trans (put_defers _ _ _),q3,q4⟩
theorem Run.qE {n j:Nat} {l:List AOp} {d:Bool} {o:AOp} (ht:tab[n]?=some (.region l d)) (ho:l[j]?=some o) (hg:gOk fr o.guard false)
  (h:Run P fn tab H0 R (.ops n (j + 1)::K) (bG fr o.dst (.tup [])) H):Run P fn tab H0 R (.ops n j::K) fr H:=by
 intro S0 S w a b k cs he hd hf hw hk
 cases hk with
 | cons h1 hk =>
  rename_i it k
  cases it <;> first | exact h1.elim | skip
  rename_i ops li
  obtain ⟨⟨id,d',hat⟩,rfl⟩:=h1
  obtain ⟨id',ops',heq,rfl⟩:=At.lq hat ht
  injection heq with _ heq _
  subst heq
  rw [List.getElem?_map] at ho
  obtain ⟨o',ho',rfl⟩:=Option.map_eq_some_iff.1 ho
  have hlt:j < ops.size:=by
   have:=(List.getElem?_eq_some_iff.1 ho').1
   simpa using this
  have ho2:ops[j]?=some o':=by rw [← Array.getElem?_toList];exact ho'
  have hl:List.range' j (ops.size - j)=j::List.range' (j + 1) (ops.size - (j + 1)):=by
   rw [show ops.size - j=(ops.size - (j + 1)) + 1 by omega,List.range'_succ]
  rw [hl]
  have hstep:=stepR_op_skip (P:=P) (b:=b) (a:=a) (k:=k) (cs:=cs) (w:=w) (ops:=ops) (i:=j) (rest:=List.range' (j + 1) (ops.size - (j + 1))) (by simp [ho2,lS hf hg])
  simp only [ho2,Option.bind_some] at hstep
  obtain ⟨a',w'',todo,vv,q1,q2,q3,q4⟩:=h S0 S w (a.put o'.dst undef) b (.inRegion ops (List.range' (j + 1) (ops.size - (j + 1)))::k) cs he hd
   (qw hf _ (by simp [rel,aG,undef])) hw (.cons ⟨⟨id,d',hat⟩,rfl⟩ hk)
  exact ⟨a',w'',todo,vv,.head hstep q1,q2.trans (put_defers _ _ _),q3,q4⟩
theorem Run.CO {n j:Nat} {l:List AOp} {d:Bool} (ht:tab[n]?=some (.region l d)) (ho:l.length≤j) (h:Run P fn tab H0 R K fr H):Run P fn tab H0 R (.ops n j::K) fr H:=by
 refine Run.step (fun S w a b k cs _ _ _ hk=>?_) h
 cases hk with
 | cons h1 hk =>
  rename_i it k
  cases it <;> first | exact h1.elim | skip
  rename_i ops li
  obtain ⟨⟨id,d',hat⟩,rfl⟩:=h1
  obtain ⟨id',ops',heq,rfl⟩:=At.lq hat ht
  injection heq with _ heq _
  subst heq
  simp at ho
  rw [show ops.size - j=0 by omega]
  exact ⟨k,.one stepR_region_end,hk⟩
def tV (A:Ar) (σr:dG) (fr:List AV) (H:List aj):List RV→List AV→Out
 | [],acc=>.ok (match acc with
  | [v]=>v
  | l=>.tup l) H
 | .t n::rs,acc=>tV A σr fr H rs (dQ acc [uns (ev fr (.t n))])
 | .cell n l::rs,acc=>ldA A σr l (ev fr (.t n)) H fun v=>tV A σr fr H rs (dQ acc [uns v])
theorem IJ {S:RS} {T:Sh} {a:Act} (hf:aG S fr T a.tmps.toList) (n:Nat):rel S (ev fr (.t n)) T (a.tmps.getD n undef):=aY hf (x:=.tmp n) rfl
def resF (tmps:Array Value):ResultVar→Sem Value
 | .tmp t=>pure (tmps.getD t undef)
 | .cell x t=>do loadVar t (← asAddr (tmps.getD x undef))
theorem GM (fn:Func) (tmps:Array Value):results fn tmps=(do
  let vs ← fn.results.mapM (resF tmps)
  pure (if h:vs.size=1 then vs[0] else .tuple vs)):=by
 unfold results
 congr 1
theorem xM (A:Addr) (w:World):(asAddr (.pointer (some A))).run P w=.ok A w:=rfl
theorem yH {S:RS} {a:Act} {w:World} (hf:aG S fr (shape H) a.tmps.toList) (h:aK S H w):∀ (l:List ResultVar) (rs:List RV) (acc:List AV) (vs:List Value),l.mapM (qh P)=some rs→aG S acc (shape H) vs→sat arS P H (tV arS σr fr H rs acc) R →
  ∃ us,(l.mapM (resF a.tmps)).run P w=.ok us w ∧
   ∃ v,rel S v (shape H) (if h:(vs++us).length=1 then (vs++us)[0] else .tuple (vs++us).toArray)∧R v H
 | [],rs,acc,vs,hm,hacc,hs=>by
  simp at hm
  subst hm
  refine ⟨[],by simp,?_⟩
  simp only [List.append_nil]
  simp only [tV,sat] at hs
  refine ⟨_,?_,hs⟩
  cases acc with
  | nil=>simp only [aG] at hacc;subst hacc;simp [rel,aG]
  | cons c acc =>
   cases acc with
   | nil =>
    simp only [aG] at hacc
    obtain ⟨v,_,rfl,hv,rfl⟩:=hacc
    simpa using hv
   | cons c' acc =>
    have hl:=bu hacc
    rw [dif_neg (by rw [hl];simp)]
    simp only [rel]
    exact ⟨_,rfl,hacc⟩
 | .tmp n::l,rs,acc,vs,hm,hacc,hs=>by
  simp only [List.mapM_cons,Option.bind_eq_bind,Option.bind_eq_some_iff,Option.pure_def,Option.some.injEq,qh] at hm
  obtain ⟨_,rfl,rs,hm,rfl⟩:=hm
  simp only [tV,bC] at hs
  obtain ⟨us,q1,q2⟩:=yH hf h l rs _ (vs++[a.tmps.getD n undef]) hm (dF hacc (by simp only [aG];exact ⟨_,[],rfl,rM (IJ hf n),rfl⟩)) hs
  refine ⟨a.tmps.getD n undef::us,?_,by simpa using q2⟩
  simp only [List.mapM_cons,resF,Sem.run_bind,Sem.run_pure,Result.andThen_ok,q1]
 | .cell n t::l,rs,acc,vs,hm,hacc,hs=>by
  simp only [List.mapM_cons,Option.bind_eq_bind,Option.bind_eq_some_iff,Option.pure_def,Option.some.injEq,qh,Option.map_eq_some_iff] at hm
  obtain ⟨_,⟨ll,hll,rfl⟩,rs,hm,rfl⟩:=hm
  simp only [tV,bC] at hs
  obtain ⟨v,y,p1,p2,p3⟩:=CY (fun _=>rfl) h (IJ hf n) hs hll
  obtain ⟨us,q1,q2⟩:=yH hf h l rs _ (vs++[y]) hm (dF hacc (by simp only [aG];exact ⟨_,[],rfl,rM p2,rfl⟩)) p3
  refine ⟨y::us,?_,by simpa using q2⟩
  have hptr:∃ A,a.tmps.getD n undef=.pointer (some A):=by
   generalize a.tmps.getD n undef=u at *
   cases u <;> simp [Instr.loadAt,Instr.sureAddr] at p1
   rename_i p
   cases p <;> simp at p1
   exact ⟨_,rfl⟩
  obtain ⟨A,hA⟩:=hptr
  rw [hA] at p1
  simp only [Instr.loadAt,Instr.sureAddr,Sem.run_bind,Sem.run_pure,Result.andThen_ok] at p1
  simp only [List.mapM_cons,resF,Sem.run_bind,Sem.run_pure,Result.andThen_ok,hA,xM,p1,q1]
theorem xq {S:RS} {a:Act} {w:World} {rs:List RV} (hrs:fn.results.toList.mapM (qh P)=some rs) (hf:aG S fr (shape H) a.tmps.toList) (h:aK S H w) (hs:sat arS P H (tV arS σr fr H rs []) R) :
  ∃ v,(results fn a.tmps).run P w=.ok v w∧Done S H R v w:=by
 obtain ⟨us,q1,v,q2,q3⟩:=yH hf h fn.results.toList rs [] [] hrs (by simp [aG]) hs
 refine ⟨_,?_,.here h q2 q3⟩
 rw [GM,Sem.run_bind,Array.mapM_eq_mapM_toList,Sem.run_map,q1]
 simp only [Result.andThen_ok,Sem.run_pure,List.nil_append,List.size_toArray]
 split <;> rfl
theorem Done.trans {S0 S:RS} {H0 H:List aj} {v:Value} {w:World} (he:Ext S0 (shape H0) S (shape H)) (h:Done S H R v w):Done S0 H0 R v w:=by
 obtain ⟨S',x,H',h1,h2⟩:=h
 exact ⟨S',x,H',he.trans h1,h2⟩
theorem Run.ret {n:Nat} {rs:List RV} (ht:tab[n]?=some .ret) (hrs:fn.results.toList.mapM (qh P)=some rs) (h:sat arS P H (tV arS σr fr H rs []) R):Run P fn tab H0 R (.c n::K) fr H:=by
 intro S0 S w a b k cs he hd hf hw hk
 cases hk with
 | cons h1 hk =>
  rename_i it k
  cases it <;> first | exact h1.elim | skip
  obtain rfl:=At.is_ret h1 ht
  obtain ⟨v,q1,q2⟩:=xq hrs hf hw h
  have hr:rnd P fn=false:=by simp [rnd,hrs]
  refine ⟨a,w,.code .ret::k,v,?_,rfl,by rw [hr];exact q1,q2.trans he⟩
  rw [hr]
  exact .one (stepR_ret (hd hr))
theorem Run.fin {rs:List RV} (hrs:fn.results.toList.mapM (qh P)=some rs) (h:sat arS P H (tV arS σr fr H rs []) R):Run P fn tab H0 R [] fr H:=by
 intro S0 S w a b k cs he hd hf hw hk
 cases hk
 obtain ⟨v,q1,q2⟩:=xq hrs hf hw h
 have hr:rnd P fn=false:=by simp [rnd,hrs]
 refine ⟨a,w,[],v,?_,rfl,by rw [hr];exact q1,q2.trans he⟩
 rw [hr]
 exact .one (stepR_end (hd hr))
theorem Run.finR (hr:rnd P fn=true) (h:R (.tup []) H):Run P fn tab H0 R [] fr H:=by
 intro S0 S w a b k cs he hd hf hw hk
 cases hk
 refine ⟨a,w,[],.tuple #[],?_,rfl,by rw [hr];rfl,S,.tup [],H,he,hw,by simp [rel,aG],h⟩
 rw [hr]
 exact Steps.refl _ _
theorem aC.enter {f : FuncId} {F : AFn} {body : Code} {args : List AV} (hfn : P.funcs[f]? = some fn) (hname : (fn.name == "runtime.NumGoroutine") = false) (hb : fn.body = some body) (hF : F.of P fn)
  (h:Run P fn F.tab H R [.c 0] (og args++List.replicate (F.nt - args.length) .bn) H):aC P f args H R:=by
 refine ⟨⟨fn,hfn,hname,by rw [hb];rfl⟩,fun S w vs hw hr cs=>?_⟩
 let b:Frame:={ (default:Frame) with fn:=f,kind:=.normal }
 have henter:Frame.enter P f vs.toArray .normal=b.atR { tmps:=vs.toArray++Array.replicate (fn.ntmps - vs.toArray.size) undef,defers:=[] } [.code body]:=by
  simp [Frame.enter,Frame.atR,hfn,hb,b]
  rfl
 obtain ⟨h1,h2,h3,h4⟩:=hF
 rw [hb] at h4
 simp only [Option.map_some,Option.some.injEq] at h4
 have hl:=bu hr
 obtain ⟨a',w',todo,v,q1,q2,q3,q4⟩:=h S S w { tmps:=vs.toArray++Array.replicate (fn.ntmps - vs.toArray.size) undef,defers:=[] } b [.code body] cs (Ext.refl _ _) (fun _=>rfl) (by
  simp only [Array.toList_append,Array.toList_replicate,List.size_toArray]
  rw [hl,← h2]
  refine dF (Ea hr) (dX (by simp) fun i c hi=>?_)
  rw [List.getElem?_replicate] at hi ⊢
  split at hi
  ·rename_i hlt
   injection hi with hi
   subst hi
   exact ⟨undef,by rw [if_pos hlt],by simp [rel]⟩
  ·cases hi) hw (.cons ⟨[],[],by simp [h4],rfl⟩ .nil)
 have hr:rnd P fn=false:=by simp [rnd,h3]
 rw [hr] at q1 q3
 refine ⟨.returned v,w',{ b.atR a' todo with mode:=.returning },⟨v,rfl,q4⟩,?_,rfl,rfl,q2,rfl,fn,hfn,q3⟩
 rw [henter]
 exact q1
def NZ:List AV→List AV→Prop
 | [],[]=>True
 | x::xs,y::ys=>(y=.bn∨x=y)∧NZ xs ys
 | _,_=>False
theorem Ap {S:RS} {T:Sh}:∀ {xs ys:List AV} {vs:List Value},NZ xs ys→aG S xs T vs→aG S ys T vs
 | [],[],vs,_,h=>h
 | x::xs,y::ys,vs,hs,h=>by
  simp only [NZ] at hs
  simp only [aG] at h ⊢
  obtain ⟨v,vs',h1,h2,h3⟩:=h
  refine ⟨v,vs',h1,?_,Ap hs.2 h3⟩
  rcases hs.1 with rfl | rfl
  ·simp [rel]
  ·exact h2
 | [],_::_,_,h,_=>h.elim
 | _::_,[],_,h,_=>h.elim
theorem Run.sub {fr':List AV} (h:Run P fn tab H0 R K fr' H) (hs:NZ fr fr'):Run P fn tab H0 R K fr H:=fun S0 S w a b k cs he hd hf hw hk=>h S0 S w a b k cs he hd (Ap hs hf) hw hk
end
end Go.Ab

namespace Go.Ab
open Go
set_option linter.unusedVariables false
set_option linter.unusedSimpArgs false
variable {σr:dG}
def uH (A:Ar) (C:FuncId→List AV→List aj→(AV→List aj→Prop)→Prop) (H:List aj):Out→(AV→List aj→Prop)→Prop
 | .ok v H',K=>K v H'
 | .need p o,K=>A.nd p∧uH A C H o K
 | .ask p k,K=>∃ r,p r∧uH A C H (k r) K
 | .br b k,K=>uH A C H (k b) K
 | .nilq neg n H',K=>A.im (A.cmp .eql (A.ofN n) 0) true (K (.bool (!neg)) H')∧K (.bool neg) H'
 | .call f args,K=>C f (fF args) H fun r H'=>K (sym r) H'
 | .bad,_=>False
theorem iY {P:Program} {H:List aj}:∀ {o:Out} {K:AV→List aj→Prop},uH arS (aC P) H o K→sat arS P H o K
 | .ok _ _,_,h=>h
 | .need _ _,_,h=>⟨h.1,iY h.2⟩
 | .ask _ _,_,h=>h.elim fun r hr=>⟨r,hr.1,iY hr.2⟩
 | .br _ _,_,h=>by simp only [uH] at h;simp only [sat];exact iY h
 | .nilq _ _ _,_,h=>h
 | .call _ _,_,h=>h
 | .bad,_,h=>h
inductive GS where
 | yes | no | sym (t:Nat) (b:Bool) (want:Bool) | bad
def gst (fr:List AV):Option (Option Nat × Bool)→GS
 | none=>.yes
 | some (none,_)=>.no
 | some (some t,want)=>match ev fr (.t t),want with
  | .bool true,true=>.yes
  | .bool false,false=>.yes
  | .bool true,false=>.no
  | .bool false,true=>.no
  | .sb b,want=>.sym t b want
  | .tup [],_=>.no
  | _,_=>.bad
section
variable (A:Ar) (σr:dG) (C:FuncId→List AV→List aj→(AV→List aj→Prop)→Prop) (Rn:List bf→List AV→List aj→Prop) (R:AV→List aj→Prop) (tab:List Node) (rs:List RV)
def CB (fr:List AV):AO→Option (Nat × Bool × AV × AV)
 | .pick (.t t) a b=>match ev fr (.t t) with
  | .sb s=>some (t,s,ev (bM fr t (.bool true)) a,ev (bM fr t (.bool false)) b)
  | _=>none
 | _=>none
def Me (m:Nat) (K:List bf) (k:Nat) (o:AOp) (cont:List AV→List aj→Prop) (fr:List AV) (H:List aj):Prop :=
 match CB fr o.op with
 | some (t,b,va,vb)=>A.im b true (cont (bG (bM fr t (.bool true)) o.dst va) H)∧A.im b false (cont (bG (bM fr t (.bool false)) o.dst vb) H)
 | none=>match aH A σr fr H o.op with
  | .ok v H'=>cont (bG fr o.dst v) H'
  | .need p (.ok v H')=>A.nd p∧cont (bG fr o.dst v) H'
  | out=>uH A C H out fun v H'=>Rn (.ops m (k + 1)::K) (bG fr o.dst v) H'
def yP (m:Nat) (K:List bf) (fin:List AV→List aj→Prop):List AOp→Nat→List AV→List aj→Prop
 | [],_,fr,H=>fin fr H
 | o::os,k,fr,H =>
  match gst fr o.guard with
  | .yes=>Me A σr C Rn m K k o (fun fr H=>yP m K fin os (k + 1) fr H) fr H
  | .no=>yP m K fin os (k + 1) (bG fr o.dst (.tup [])) H
  | .sym t b true=>A.im b true (Me A σr C Rn m K k o (fun fr H=>yP m K fin os (k + 1) fr H) (bM fr t (.bool true)) H)∧A.im b false (yP m K fin os (k + 1) (bG (bM fr t (.bool false)) o.dst (.tup [])) H)
  | .sym t b false=>A.im b false (Me A σr C Rn m K k o (fun fr H=>yP m K fin os (k + 1) fr H) (bM fr t (.bool false)) H)∧A.im b true (yP m K fin os (k + 1) (bG (bM fr t (.bool true)) o.dst (.tup [])) H)
  | .bad=>False
def N7 (m:Nat):List Nat→Bool
 | []=>false
 | x::xs=>Nat.beq m x || N7 m xs
def GT (st:List Nat):Nat→List bf→List AV→List aj→Prop
 | 0,K,fr,H=>Rn K fr H
 | _ + 1,[],fr,H=>uH A C H (tV A σr fr H rs []) R
 | n + 1,.blk _::K,fr,H=>GT st n K fr H
 | _ + 1,.lp m::K,fr,H=>Rn (.lp m::K) fr H
 | n + 1,.ops m k::K,fr,H=>match aX tab m with
  | some (.region l false)=>yP A σr C Rn m K (GT st n K) (pG k l) k fr H
  | _=>False
 | n + 1,.c m::K,fr,H=>if N7 m st=true then Rn (.c m::K) fr H else match aX tab m with
  | some (.seq d)=>GT st n (.c (m + 1)::.c (m + d)::K) fr H
  | some (.block id)=>GT st n (.c (m + 1)::.blk id::K) fr H
  | some .loop=>Rn (.c m::K) fr H
  | some (.cond x d)=>match ev fr x with
   | .bool true=>GT st n (.c (m + 1)::K) fr H
   | .bool false=>GT st n (.c (m + d)::K) fr H
   | .sb b=>match x with
    | .t t=>A.im b true (GT st n (.c (m + 1)::K) (bM fr t (.bool true)) H)∧A.im b false (GT st n (.c (m + d)::K) (bM fr t (.bool false)) H)
    | .c _=>False
   | _=>False
  | some (.region l false)=>yP A σr C Rn m K (GT st n K) l 0 fr H
  | some (.region _ true)=>Rn (.c m::K) fr H
  | some (.exit id)=>match nS id K with
   | some K'=>GT st n K' fr H
   | none=>False
  | some .skip=>GT st n K fr H
  | some .ret=>uH A C H (tV A σr fr H rs []) R
  | _=>False
def G (n:Nat) (K:List bf) (fr:List AV) (H:List aj):Prop:=GT A σr C Rn R tab rs [] n K fr H
end
section
variable {P:Program} {fn:Func} {tab:List Node} {H0:List aj} {R:AV→List aj→Prop} {K:List bf} {fr:List AV} {H:List aj} {rs:List RV}
theorem ML {S:RS} {T:Sh} {vs:List Value} {t:Nat} {b:Bool} (hf:aG S fr T vs) (h:ev fr (.t t)=.sb b):aG S (bM fr t (.bool b)) T vs:=by
 simp only [ev,aI] at h
 cases hx:fr[t]? with
 | none=>rw [hx] at h;simp at h
 | some c =>
  rw [hx] at h
  simp at h
  subst h
  obtain ⟨v,h1,h2⟩:=bJ hf hx
  rw [bg]
  have:=qo hf t (c:=.bool b) (v:=v) (by simpa only [rel] using h2)
  have e:vs.set t v=vs:=by
   apply List.ext_getElem?
   intro i
   rw [List.getElem?_set]
   split
   ·rename_i hi
    subst hi
    rw [if_pos (List.getElem?_eq_some_iff.1 h1).1,h1]
   ·rfl
  rwa [e] at this
theorem Run.known {t:Nat} {b:Bool} (hb:ev fr (.t t)=.sb b) (h:Run P fn tab H0 R K (bM fr t (.bool b)) H):Run P fn tab H0 R K fr H :=
 fun S0 S w a bb k cs he hd hf hw hk=>h S0 S w a bb k cs he hd (ML hf hb) hw hk
theorem je {g:Option (Option Nat × Bool)} (h:gst fr g=.yes):gOk fr g true:=by
 cases g with
 | none=>rfl
 | some g =>
  obtain ⟨t,want⟩:=g
  cases t with
  | none=>cases h
  | some t =>
   simp only [gst] at h
   simp only [gOk,if_true]
   cases he:ev fr (.t t) <;> rw [he] at h <;> try (cases want <;> cases h)
   ·rename_i b
    cases b <;> cases want <;> simp_all
   ·rename_i vs
    cases vs <;> cases want <;> simp_all
theorem mM {g:Option (Option Nat × Bool)} (h:gst fr g=.no):gOk fr g false:=by
 cases g with
 | none=>cases h
 | some g =>
  obtain ⟨t,want⟩:=g
  cases t with
  | none=>rfl
  | some t =>
   simp only [gst] at h
   simp only [gOk,Bool.false_eq_true,if_false]
   cases he:ev fr (.t t) <;> rw [he] at h <;> try (cases want <;> cases h)
   ·rename_i b
    cases b <;> cases want <;> simp_all
   ·rename_i vs
    cases vs <;> cases want <;> simp_all
theorem Dc {g:Option (Option Nat × Bool)} {t:Nat} {b want:Bool} (h:gst fr g=.sym t b want):ev fr (.t t)=.sb b∧g=some (some t,want):=by
 cases g with
 | none=>cases h
 | some g =>
  obtain ⟨t',want⟩:=g
  cases t' with
  | none=>cases h
  | some t' =>
   simp only [gst] at h
   cases he:ev fr (.t t') <;> rw [he] at h <;> try (cases want <;> cases h)
   all_goals first
    | exact ⟨he,rfl⟩
    | (rename_i b';cases b' <;> cases want <;> cases h;done)
    | (rename_i vs;cases vs <;> cases want <;> simp_all;done)
theorem zx {t:Nat} {b c:Bool} (h:ev fr (.t t)=.sb b):ev (bM fr t (.bool c)) (.t t)=.bool c:=by
 simp only [ev,aI,bg] at h ⊢
 cases hx:fr[t]? with
 | none=>rw [hx] at h;simp at h
 | some x =>
  have:=(List.getElem?_eq_some_iff.1 hx).1
  simp [this]
theorem Js {t:Nat} {b c want:Bool} (h:ev fr (.t t)=.sb b):gOk (bM fr t (.bool c)) (some (some t,want)) (c == want):=by
 simp only [gOk]
 refine .inl ?_
 rw [zx h]
 cases c <;> cases want <;> rfl
theorem Eu {ao:AO} {t:Nat} {s:Bool} {va vb:AV} (h:CB fr ao=some (t,s,va,vb)):∃ a b,ao=.pick (.t t) a b∧ev fr (.t t)=.sb s∧va=ev (bM fr t (.bool true)) a∧vb=ev (bM fr t (.bool false)) b:=by
 unfold CB at h
 split at h
 ·split at h
  ·rename_i he
   injection h with h
   injection h with h1 h
   injection h with h2 h
   injection h with h3 h4
   subst h1 h2 h3 h4
   exact ⟨_,_,rfl,he,rfl,rfl⟩
  ·cases h
 ·cases h
theorem nX {m k:Nat} {l:List AOp} {d:Bool} {o:AOp} (ht:tab[m]?=some (.region l d)) (ho:l[k]?=some o) {cont:List AV→List aj→Prop} (hc:∀ fr H,cont fr H→Run P fn tab H0 R (.ops m (k + 1)::K) fr H) (hg:gOk fr o.guard true) (hg2:∀ t b c,ev fr (.t t)=.sb b→gOk (bM fr t (.bool c)) o.guard true)
  (h:Me arS σr (aC P) (Run P fn tab H0 R) m K k o cont fr H):Run P fn tab H0 R (.ops m k::K) fr H:=by
 unfold Me at h
 split at h
 ·rename_i t b va vb hp
  obtain ⟨x,y,hao,he,rfl,rfl⟩:=Eu hp
  cases b
  ·refine Run.known he (Run.op (σr:=σr) ht ho (hg2 _ _ _ he) ?_)
   rw [hao]
   simp only [aH,zx he]
   exact hc _ _ (h.2 rfl)
  ·refine Run.known he (Run.op (σr:=σr) ht ho (hg2 _ _ _ he) ?_)
   rw [hao]
   simp only [aH,zx he]
   exact hc _ _ (h.1 rfl)
 ·refine Run.op (σr:=σr) ht ho hg ?_
  split at h
  ·rename_i v H' hx
   rw [hx]
   exact hc _ _ h
  ·rename_i p v H' hx
   rw [hx]
   exact ⟨h.1,hc _ _ h.2⟩
  ·exact iY h
theorem Ns {t t':Nat} {x:AV} (h:t'≠t):ev (bM fr t x) (.t t')=ev fr (.t t'):=by
 simp only [ev,aI,bg]
 rw [List.getElem?_set_ne (fun e=>h e.symm)]
theorem ve {g:Option (Option Nat × Bool)} {want:Bool} (hg:gOk fr g want):∀ t b c,ev fr (.t t)=.sb b→(g=some (some t,true)∨g=some (some t,false)→gOk (bM fr t (.bool c)) g want)→gOk (bM fr t (.bool c)) g want:=by
 intro t b c he hs
 cases g with
 | none=>exact hg
 | some g =>
  obtain ⟨t',w⟩:=g
  cases t' with
  | none=>exact hg
  | some t' =>
   by_cases ht:t'=t
   ·subst ht
    cases w
    ·exact hs (.inr rfl)
    ·exact hs (.inl rfl)
   ·simp only [gOk] at hg ⊢
    rw [Ns ht]
    exact hg
theorem tZ {m:Nat} {l:List AOp} {d:Bool} (ht:tab[m]?=some (.region l d)) {fin:List AV→List aj→Prop} (hfin:∀ fr H,fin fr H→Run P fn tab H0 R K fr H):∀ (os:List AOp) (k:Nat) (fr:List AV) (H:List aj),os=l.drop k →
  yP arS σr (aC P) (Run P fn tab H0 R) m K fin os k fr H→Run P fn tab H0 R (.ops m k::K) fr H
 | [],k,fr,H,he,h=>Run.CO ht (by have:=congrArg List.length he;simp at this;omega) (hfin fr H h)
 | o::os,k,fr,H,he,h=>by
  have ho:l[k]?=some o:=by
   have:(l.drop k)[0]?=some o:=by rw [← he];rfl
   simpa using this
  have hos:os=l.drop (k + 1):=by
   have:(l.drop k).drop 1=os:=by rw [← he];rfl
   rw [← this,List.drop_drop]
  have hc:∀ fr H,yP arS σr (aC P) (Run P fn tab H0 R) m K fin os (k + 1) fr H→Run P fn tab H0 R (.ops m (k + 1)::K) fr H:=fun fr H h=>tZ ht hfin os (k + 1) fr H hos h
  unfold yP at h
  cases hg:gst fr o.guard with
  | yes =>
   rw [hg] at h
   have hgy:=je hg
   refine nX ht ho hc hgy (fun t b c he=>ve hgy t b c he fun hs=>?_) h
   exfalso
   rcases hs with hs | hs <;> (rw [hs] at hg;simp only [gst,he] at hg;cases hg)
  | no =>
   rw [hg] at h
   exact Run.qE ht ho (mM hg) (hc _ _ h)
  | sym t b want =>
   rw [hg] at h
   obtain ⟨hsy,hgd⟩:=Dc hg
   have hk:∀ c,gOk (bM fr t (.bool c)) o.guard (c == want):=fun c=>by rw [hgd];exact Js hsy
   have hk2:∀ c,gOk (bM fr t (.bool c)) o.guard true→∀ t' b' c',ev (bM fr t (.bool c)) (.t t')=.sb b'→gOk (bM (bM fr t (.bool c)) t' (.bool c')) o.guard true:=fun c hc t' b' c' he=>by
    refine ve hc t' b' c' he fun hs=>?_
    exfalso
    have:t'=t:=by rw [hgd] at hs;rcases hs with hs | hs <;> (injection hs with hs;injection hs with hs _;injection hs with hs;exact hs.symm)
    subst this
    rw [zx hsy] at he
    cases he
   cases want <;> cases b
   ·exact Run.known hsy (nX ht ho hc (hk false) (hk2 false (hk false)) (h.1 rfl))
   ·exact Run.known hsy (Run.qE ht ho (hk true) (hc _ _ (h.2 rfl)))
   ·exact Run.known hsy (Run.qE ht ho (hk false) (hc _ _ (h.2 rfl)))
   ·exact Run.known hsy (nX ht ho hc (hk true) (hk2 true (hk true)) (h.1 rfl))
  | bad=>rw [hg] at h;exact h.elim
theorem dS (st:List Nat) (hrs:fn.results.toList.mapM (qh P)=some rs):∀ (n:Nat) (K:List bf) (fr:List AV) (H:List aj),GT arS σr (aC P) (Run P fn tab H0 R) R tab rs st n K fr H→Run P fn tab H0 R K fr H
 | 0,K,fr,H,h=>h
 | n + 1,[],fr,H,h=>Run.fin hrs (iY h)
 | n + 1,.blk id::K,fr,H,h=>Run.blk (dS st hrs n K fr H h)
 | n + 1,.lp m::K,fr,H,h=>h
 | n + 1,.ops m k::K,fr,H,h=>by
  simp only [GT,aI] at h
  split at h
  ·rename_i l ht
   exact tZ ht (fun fr H=>dS st hrs n K fr H) _ k fr H (jW k l) h
  ·exact h.elim
 | n + 1,.c m::K,fr,H,h=>by
  unfold GT at h
  split at h
  ·exact h
  simp only [aI] at h
  split at h
  ·rename_i d ht
   exact Run.seq ht (dS st hrs n _ fr H h)
  ·rename_i id ht
   exact Run.block ht (dS st hrs n _ fr H h)
  ·exact h
  ·rename_i x d ht
   split at h
   ·rename_i hx
    exact Run.cond (t:=true) ht (.inl hx) (dS st hrs n _ fr H h)
   ·rename_i hx
    exact Run.cond (t:=false) ht (.inl hx) (dS st hrs n _ fr H h)
   ·rename_i b hx
    split at h
    ·rename_i t
     cases b
     ·exact Run.cond (t:=false) ht (.inr hx) (Run.known hx (dS st hrs n _ _ H (h.2 rfl)))
     ·exact Run.cond (t:=true) ht (.inr hx) (Run.known hx (dS st hrs n _ _ H (h.1 rfl)))
    ·exact h.elim
   ·exact h.elim
  ·rename_i l ht
   exact Run.region ht (tZ ht (fun fr H=>dS st hrs n K fr H) l 0 fr H rfl h)
  ·exact h
  ·rename_i id ht
   split at h
   ·rename_i K' he
    exact Run.exit ht he (dS st hrs n _ fr H h)
   ·exact h.elim
  ·rename_i ht
   exact Run.skip ht (dS st hrs n _ fr H h)
  ·rename_i ht
   exact Run.ret ht hrs (iY h)
  ·exact h.elim
theorem G_sound (hrs:fn.results.toList.mapM (qh P)=some rs) (n:Nat) (K:List bf) (fr:List AV) (H:List aj) (h:G arS σr (aC P) (Run P fn tab H0 R) R tab rs n K fr H):Run P fn tab H0 R K fr H :=
 dS [] hrs n K fr H h
theorem Run.go (σr:dG) (n:Nat) (hrs:fn.results.toList.mapM (qh P)=some rs)
  (h:∀ A C Rn RR,A=arS→C=aC P→Rn=Run P fn tab H0 R→RR=R→G A σr C Rn RR tab rs n K fr H):Run P fn tab H0 R K fr H :=
 G_sound hrs n K fr H (h _ _ _ _ rfl rfl rfl rfl)
theorem aC.mono {f:FuncId} {args:List AV} {R':AV→List aj→Prop} (h:aC P f args H R) (hm:∀ r H',R r H'→R' r H'):aC P f args H R' :=
 ⟨h.1,fun S w vs hw hr=>(h.2 S w vs hw hr).mono fun e w' ⟨u,he,S',v,H',h1,h2,h3,h4⟩=>⟨u,he,S',v,H',h1,h2,h3,hm _ _ h4⟩⟩
end
end Go.Ab

namespace Go.Ab
open Go
set_option linter.unusedVariables false
set_option linter.unusedSimpArgs false
structure AFn.at (P:Program) (i:Nat) (fn:Func) (F:AFn):Prop where
 func:P.funcs[i]?=some fn
 name : (fn.name == "runtime.NumGoroutine") = false
 res:fn.results.toList.mapM (qh P)=some F.res
 np:F.np=fn.params.size
 nt:F.nt=fn.ntmps
 tab:fn.body.map (flat P)=some F.tab
end Go.Ab

namespace Go.Ab
open Go
set_option linter.unusedVariables false
set_option linter.unusedSimpArgs false
mutual
def blw (n:Nat):AV→Bool
 | .ptr id _ _ _=>Nat.blt id n
 | .aA id _=>Nat.blt id n
 | .sl id _ _ _=>Nat.blt id n
 | .map id=>Nat.blt id n
 | .fn _ a b=>nV n a && nV n b
 | .iface _ x=>blw n x
 | .agg cs=>nV n cs
 | .tup cs=>nV n cs
 | _=>true
def nV (n:Nat):List AV→Bool
 | []=>true
 | c::cs=>blw n c && nV n cs
end
theorem Gg {n:Nat}:∀ {cs:List AV} {i:Nat} {c:AV},nV n cs=true→cs[i]?=some c→blw n c=true
 | [],i,c,_,h=>by simp at h
 | c0::cs,i,c,h0,h=>by
  simp only [nV,Bool.and_eq_true] at h0
  cases i with
  | zero=>simp at h;subst h;exact h0.1
  | succ i=>simp at h;exact Gg h0.2 h
mutual
theorem Dv (n:Nat):∀ (c:AV),pur c=true→blw n c=true
 | .int ..,_=>rfl
 | .bool ..,_=>rfl
 | .sb ..,_=>rfl
 | .str ..,_=>rfl
 | .nilp,_=>rfl
 | .nils,_=>rfl
 | .nilf,_=>rfl
 | .nili,_=>rfl
 | .nilm,_=>rfl
 | .bn,_=>rfl
 | .iptr _,_=>rfl
 | .inl ..,_=>rfl
 | .ptr ..,h=>by simp [pur] at h
 | .aA ..,h=>by simp [pur] at h
 | .sl ..,h=>by simp [pur] at h
 | .map _,h=>by simp [pur] at h
 | .fn _ a b,h=>by simp only [pur,Bool.and_eq_true] at h;simp only [blw,Bool.and_eq_true];exact ⟨iO n a h.1,iO n b h.2⟩
 | .iface _ x,h=>by simp only [pur] at h;simp only [blw];exact Dv n x h
 | .agg cs,h=>by simp only [pur] at h;simp only [blw];exact iO n cs h
 | .tup cs,h=>by simp only [pur] at h;simp only [blw];exact iO n cs h
theorem iO (n:Nat):∀ (cs:List AV),gm cs=true→nV n cs=true
 | [],_=>rfl
 | c::cs,h=>by simp only [gm,Bool.and_eq_true] at h;simp only [nV,Bool.and_eq_true];exact ⟨Dv n c h.1,iO n cs h.2⟩
end
section
variable {S S':RS} {T T':Sh} {n:Nat}
theorem Jz (hφ:∀ B o v,S.φ B o=some v→S'.φ B o=some v):vX S noSh S' noSh:=⟨hφ,fun _ _ h=>(by cases h),fun _ h=>(by cases h),fun _ _ _ h=>(by cases h)⟩
mutual
theorem rU (hT:∀ id,id < n→T' id=T id∧S'.ρ id=S.ρ id) (hφ:∀ B o v,S.φ B o=some v→S'.φ B o=some v):∀ (c:AV) (v:Value),blw n c=true→rel S c T v→rel S' c T' v
 | .int ..,_,_,h=>h
 | .bool ..,_,_,h=>h
 | .sb ..,_,_,h=>h
 | .str ..,_,_,h=>h
 | .nilp,_,_,h=>h
 | .nils,_,_,h=>h
 | .nilf,_,_,h=>h
 | .nili,_,_,h=>h
 | .nilm,_,_,h=>h
 | .bn,_,_,_=>trivial
 | .ptr id t r o,v,hb,h=>by
  simp only [blw] at hb
  obtain ⟨h1,h2⟩:=hT id (Nat.blt_eq.mp hb)
  simp only [rel] at h ⊢
  rw [h1,h2]
  exact h
 | .aA id o,v,hb,h=>by
  simp only [blw] at hb
  obtain ⟨h1,h2⟩:=hT id (Nat.blt_eq.mp hb)
  simp only [rel] at h ⊢
  rw [h1,h2]
  exact h
 | .iptr cs,v,_,h=>by
  simp only [rel] at h ⊢
  obtain ⟨B,o,h1,h2⟩:=h
  exact ⟨B,o,h1,su cs B o (Jz hφ) h2⟩
 | .sl id t o k,v,hb,h=>by
  simp only [blw] at hb
  obtain ⟨h1,h2⟩:=hT id (Nat.blt_eq.mp hb)
  simp only [rel] at h ⊢
  rw [h1,h2]
  exact h
 | .inl sz rows,v,_,h=>by
  simp only [rel] at h ⊢
  obtain ⟨a,c,h1,h2,h3⟩:=h
  refine ⟨a,c,h1,h2,?_⟩
  rcases h3 with h3 | ⟨B,o,h3,h4⟩
  ·exact .inl h3
  ·exact .inr ⟨B,o,h3,qO rows B o sz (Jz hφ) h4⟩
 | .fn f fi ca,v,hb,h=>by
  simp only [blw,Bool.and_eq_true] at hb
  simp only [rel] at h ⊢
  obtain ⟨a,b,h1,h2,h3⟩:=h
  exact ⟨a,b,h1,jJ hT hφ fi _ hb.1 h2,jJ hT hφ ca _ hb.2 h3⟩
 | .iface t x,v,hb,h=>by
  simp only [blw] at hb
  simp only [rel] at h ⊢
  obtain ⟨u,h1,h2⟩:=h
  exact ⟨u,h1,rU hT hφ x u hb h2⟩
 | .agg cs,v,hb,h=>by
  simp only [blw] at hb
  simp only [rel] at h ⊢
  obtain ⟨us,h1,h2,h3⟩:=h
  exact ⟨us,h1,jJ hT hφ cs _ hb h2,h3⟩
 | .tup cs,v,hb,h=>by
  simp only [blw] at hb
  simp only [rel] at h ⊢
  obtain ⟨us,h1,h2⟩:=h
  exact ⟨us,h1,jJ hT hφ cs _ hb h2⟩
 | .map id,v,hb,h=>by
  simp only [blw] at hb
  obtain ⟨h1,h2⟩:=hT id (Nat.blt_eq.mp hb)
  simp only [rel] at h ⊢
  rw [h1,h2]
  exact h
theorem jJ (hT:∀ id,id < n→T' id=T id∧S'.ρ id=S.ρ id) (hφ:∀ B o v,S.φ B o=some v→S'.φ B o=some v):∀ (cs:List AV) (vs:List Value),nV n cs=true→aG S cs T vs→aG S' cs T' vs
 | [],_,_,h=>h
 | c::cs,vs,hb,h=>by
  simp only [nV,Bool.and_eq_true] at hb
  simp only [aG] at h ⊢
  obtain ⟨v,vs',h1,h2,h3⟩:=h
  exact ⟨v,vs',h1,rU hT hφ c v hb.1 h2,jJ hT hφ cs vs' hb.2 h3⟩
end
end
def aj.cells:aj→List AV
 | .box _ cs=>cs
 | .arr _ _ rows=>rows.flatten
 | .mpb _=>[]
 | .dead _=>[]
def aj.blw (n:Nat) (b:aj):Prop:=∀ c∈b.cells,Ab.blw n c=true
theorem fV.loc {S S':RS} {T T':Sh} {n:Nat} {b:aj} {id:Nat} {w w':World} (h:fV S T b id w) (hT:∀ id,id < n→T' id=T id∧S'.ρ id=S.ρ id) (hφ:∀ B o v,S.φ B o=some v→S'.φ B o=some v)
  (hb:b.blw n) (hρ:b.live=true→S'.ρ id=S.ρ id) (hw:∀ B c,b.live=true→S.ρ id=some (B,c)→B < w.heap.size→Own S B→w'.heap[B]?=w.heap[B]?∧Own S' B):fV S' T' b id w':=by
 cases b with
 | box e' cs =>
  obtain ⟨B,c,arr,h1,h2,h3,h4,h5⟩:=h
  obtain ⟨k1,k2⟩:=hw B c rfl h1 (block_lt h2) h5
  refine ⟨B,c,arr,(hρ rfl).trans h1,k1.trans h2,?_,h4,k2⟩
  refine dX (bu h3) fun i c hi=>?_
  obtain ⟨v,g1,g2⟩:=bJ h3 hi
  exact ⟨v,g1,rU hT hφ c v (hb c (List.mem_of_getElem? hi)) g2⟩
 | arr e' sz rows =>
  obtain ⟨h0,h⟩:=h
  refine ⟨h0,?_⟩
  rw [hρ rfl]
  cases hr:S.ρ id with
  | none=>rw [hr] at h;exact h
  | some p =>
   obtain ⟨B,c⟩:=p
   rw [hr] at h
   obtain ⟨arr,h2,h3,h4,h5,h6⟩:=h
   obtain ⟨k1,k2⟩:=hw B c rfl hr (block_lt h2) h6
   refine ⟨arr,k1.trans h2,h3,h4,fun i r hi=>?_,k2⟩
   obtain ⟨g1,g2⟩:=h5 i r hi
   refine ⟨g1,fun j c hj=>?_⟩
   obtain ⟨u,m1,m2,m3⟩:=g2 j c hj
   exact ⟨u,m1,rU hT hφ c u (hb c (List.mem_flatten.2 ⟨r,List.mem_of_getElem? hi,List.mem_of_getElem? hj⟩)) m2,m3⟩
 | mpb rows =>
  obtain ⟨B,c,es,clock,h1,h2,h3,h5⟩:=h
  obtain ⟨k1,k2⟩:=hw B c rfl h1 (block_lt h2) h5
  have hx:vX S noSh S' noSh:=⟨hφ,fun _ _ h=>(by cases h),fun _ h=>(by cases h),fun _ _ _ h=>(by cases h)⟩
  exact ⟨B,c,es,clock,(hρ rfl).trans h1,k1.trans h2,jV hx h3,k2⟩
 | dead s=>trivial
section
variable {P:Program} {f:FuncId} {args:List AV} {Hp:List aj} {R:AV→List aj→Prop}
theorem jo (H L:List aj) (id:Nat) (h:id < H.length):shape (H++L) id=shape H id:=kP H L id h
theorem xk (H L:List aj) (id:Nat) (h:H.length≤id):shape (H++L) id=shape L (id - H.length):=by
 simp [shape,List.getElem?_append_right h]
theorem aC.frame (h:aC P f args Hp R) (hl:∀ r H',R r H'→H'.length=Hp.length) (ha:nV Hp.length args=true) (hH:∀ b∈Hp,b.blw Hp.length) (rest:List aj) :
  aC P f args (Hp++rest) (fun r H'=>∃ Hp',R r Hp'∧H'=Hp'++rest):=by
 refine ⟨h.1,fun S w vs hw hr=>?_⟩
 let D1:Nat→Prop:=fun k=>k < w.heap.size∧¬ ∃ id c b,Hp[id]?=some b∧b.live=true∧S.ρ id=some (k,c)
 let S1:RS:={ W0:=w,D:=D1,ρ:=S.ρ,φ:=S.φ }
 have hT1:∀ id,id < Hp.length→shape Hp id=shape (Hp++rest) id∧S1.ρ id=S.ρ id:=fun id hid=>⟨(jo _ _ _ hid).symm,rfl⟩
 have hget:∀ {id b},Hp[id]?=some b→(Hp++rest)[id]?=some b:=fun {id b} hb=>by
  have:=iq hb
  rw [List.getElem?_append_left this];exact hb
 have hw1:aK S1 Hp w:=by
  refine ⟨rfl,rfl,rfl,Nat.le_refl _,fun k hk=>⟨hk.1,rfl⟩,hw.fro,fun id b hb=>?_,fun i j b b' B c c' hi hj li lj hBi hBj=>?_⟩
  ·refine (hw.blk id b (hget hb)).loc hT1 (fun _ _ _ h=>h) (hH b (List.mem_of_getElem? hb)) (fun _=>rfl) (fun B c hl hB _ ho=>⟨rfl,fun hd=>?_,ho.2⟩)
   exact hd.2 ⟨id,c,b,hb,hl,hB⟩
  ·exact hw.inj i j b b' B c c' (hget hi) (hget hj) li lj hBi hBj
 have hr1:aG S1 args (shape Hp) vs:=jJ hT1 (fun _ _ _ h=>h) args vs ha hr
 refine (h.2 S1 w vs hw1 hr1).mono fun e w' ⟨u,he,S2,r,Hp',q1,q2,q3,q4⟩=>⟨u,he,?_⟩
 have hlen:=hl r Hp' q4
 let S':RS:={ W0:=S.W0,D:=S.D,ρ:=fun id=>if id < Hp.length then S2.ρ id else S.ρ id,φ:=S2.φ }
 have hW2:S2.W0=w:=q1.W0
 have hD2:S2.D=D1:=q1.D
 have hkeep:∀ k,D1 k→w'.heap[k]?=w.heap[k]?:=fun k hk=>by
  have:=(q2.prot k (by rw [hD2];exact hk)).2
  rw [hW2] at this
  exact this
 have hDD:∀ k,S.D k→D1 k:=fun k hk=>⟨Nat.lt_of_lt_of_le (hw.prot k hk).1 hw.size,fun ⟨id,c,b,hb,hl,hρ⟩=>(hw.dh (hget hb) hl hρ).2.1 hk⟩
 have hrest:∀ {id b B c},Hp.length≤id→(Hp++rest)[id]?=some b→b.live=true→S.ρ id=some (B,c)→D1 B:=fun {id b B c} hge hb hl hρ=>by
  refine ⟨(hw.dh hb hl hρ).1,fun ⟨id',c',b',hb',hl',hρ'⟩=>?_⟩
  have:=hw.inj id id' b b' B c c' hb (hget hb') hl hl' hρ hρ'
  have:=iq hb'
  omega
 have hshape:∀ id,id < Hp.length→shape (Hp'++rest) id=shape Hp' id:=fun id hid=>jo _ _ _ (by omega)
 have hshape':∀ id,¬ id < Hp.length→shape (Hp'++rest) id=shape (Hp++rest) id:=fun id hid=>by
  rw [xk _ _ _ (by omega),xk _ _ _ (by omega),hlen]
 have hext:Ext S (shape (Hp++rest)) S' (shape (Hp'++rest)):=by
  refine ⟨rfl,rfl,q1.fro,fun B o v hv=>?_,fun id n hn=>?_,fun id hn=>?_,fun id m sz hn=>?_⟩
  ·rcases q1.fnw B o v hv with h1 | h1
   ·exact .inl h1
   ·exact .inr fun hd=>h1 (hDD B hd)
  ·by_cases hid:id < Hp.length
   ·rw [jo _ _ _ hid] at hn
    obtain ⟨a,b⟩:=q1.box id n hn
    exact ⟨by rw [hshape id hid];exact a,by simp only [S',if_pos hid];exact b⟩
   ·exact ⟨by rw [hshape' id hid];exact hn,by simp only [S',if_neg hid]⟩
  ·by_cases hid:id < Hp.length
   ·rw [jo _ _ _ hid] at hn
    obtain ⟨a,b⟩:=q1.mp id hn
    exact ⟨by rw [hshape id hid];exact a,by simp only [S',if_pos hid];exact b⟩
   ·exact ⟨by rw [hshape' id hid];exact hn,by simp only [S',if_neg hid]⟩
  ·by_cases hid:id < Hp.length
   ·rw [jo _ _ _ hid] at hn
    obtain ⟨m',a,b,c⟩:=q1.row id m sz hn
    exact ⟨m',by rw [hshape id hid];exact a,b,fun hm=>by simp only [S',if_pos hid];exact c hm⟩
   ·exact ⟨m,by rw [hshape' id hid];exact hn,Nat.le_refl _,fun _=>by simp only [S',if_neg hid]⟩
 have hext2:vX S2 (shape Hp') S' (shape (Hp'++rest)):=by
  have key:∀ id s,shape Hp' id=some s→shape (Hp'++rest) id=some s∧S'.ρ id=S2.ρ id:=fun id s hs=>by
   have:=jH hs
   exact ⟨by rw [jo _ _ _ this];exact hs,by simp only [S'];rw [if_pos (by omega)]⟩
  exact ⟨fun _ _ _ h=>h,fun id n hn=>key id _ hn,fun id hn=>key id _ hn,fun id m sz hn=>⟨m,(key id _ hn).1,Nat.le_refl _,fun _=>(key id _ hn).2⟩⟩
 refine ⟨S',r,Hp'++rest,hext,?_,dM r _ _ u hext2 q3,Hp',q4,rfl⟩
 have hsz:w.heap.size≤w'.heap.size:=by have:=q2.size;rw [hW2] at this;exact this
 have hOwn:∀ B,Own S2 B→Own S' B:=fun B ho=>⟨fun hd=>ho.1 (by rw [hD2];exact hDD B hd),ho.2⟩
 refine ⟨?_,?_,?_,Nat.le_trans hw.size hsz,fun k hk=>?_,q2.fro,fun id b hb=>?_,fun i j b b' B c c' hi hj li lj hBi hBj=>?_⟩
 ·have:=q2.os;rw [hW2] at this;exact this.trans hw.os
 ·have:=q2.tape;rw [hW2] at this;exact this.trans hw.tape
 ·have:=q2.output;rw [hW2] at this;exact this.trans hw.output
 ·obtain ⟨a,b⟩:=hw.prot k hk
  exact ⟨a,(hkeep k (hDD k hk)).trans b⟩
 ·by_cases hid:id < Hp.length
  ·have hb':Hp'[id]?=some b:=by rw [List.getElem?_append_left (by omega)] at hb;exact hb
   have h1:=q2.blk id b hb'
   cases b with
   | box e' cs =>
    obtain ⟨B,c,arr,h1,h2,h3,h4,h5⟩:=h1
    exact ⟨B,c,arr,by simp only [S',if_pos hid];exact h1,h2,eY _ _ _ _ hext2 h3,h4,hOwn B h5⟩
   | arr e' sz rows =>
    obtain ⟨h0,h1⟩:=h1
    refine ⟨h0,?_⟩
    simp only [S',if_pos hid]
    cases hr:S2.ρ id with
    | none=>rw [hr] at h1;exact h1
    | some p =>
     obtain ⟨B,c⟩:=p
     rw [hr] at h1
     obtain ⟨arr,h2,h3,h4,h5,h6⟩:=h1
     refine ⟨arr,h2,h3,h4,fun i r hi=>?_,hOwn B h6⟩
     obtain ⟨g1,g2⟩:=h5 i r hi
     refine ⟨g1,fun j c hj=>?_⟩
     obtain ⟨u,m1,m2,m3⟩:=g2 j c hj
     exact ⟨u,m1,dM c _ _ u hext2 m2,m3⟩
   | mpb rows =>
    obtain ⟨B,c,es,clock,h1,h2,h3,h5⟩:=h1
    exact ⟨B,c,es,clock,by simp only [S',if_pos hid];exact h1,h2,jV hext2.noSh h3,hOwn B h5⟩
   | dead s=>trivial
  ·have hb':(Hp++rest)[id]?=some b:=by
    rw [List.getElem?_append_right (by omega)] at hb ⊢
    rw [← hlen];exact hb
   refine (hw.blk id b hb').keep hext (fun _=>by simp only [S',if_neg hid]) (fun B c hl hB _ ho=>?_)
   have hd:=hrest (by omega) hb' hl hB
   refine ⟨hkeep B hd,ho.1,fun o=>?_⟩
   cases hv:S'.φ B o with
   | none=>rfl
   | some v =>
    rcases q1.fnw B o v hv with h1 | h1
    ·have h1:S.φ B o=some v:=h1
     rw [ho.2 o] at h1;cases h1
    ·exact absurd hd h1
 ·have back:∀ {id b},(Hp'++rest)[id]?=some b→¬ id < Hp.length→(Hp++rest)[id]?=some b:=fun {id b} hb hid=>by
   rw [List.getElem?_append_right (by omega)] at hb ⊢
   rw [← hlen];exact hb
  have front:∀ {id b},(Hp'++rest)[id]?=some b→id < Hp.length→Hp'[id]?=some b:=fun {id b} hb hid=>by
   rwa [List.getElem?_append_left (by omega)] at hb
  by_cases h1:i < Hp.length <;> by_cases h2:j < Hp.length
  ·simp only [S',if_pos h1] at hBi
   simp only [S',if_pos h2] at hBj
   exact q2.inj i j b b' B c c' (front hi h1) (front hj h2) li lj hBi hBj
  ·simp only [S',if_pos h1] at hBi
   simp only [S',if_neg h2] at hBj
   have hd:=hrest (by omega) (back hj h2) lj hBj
   exact absurd (by rw [hD2];exact hd) (q2.dh (front hi h1) li hBi).2.1
  ·simp only [S',if_neg h1] at hBi
   simp only [S',if_pos h2] at hBj
   have hd:=hrest (by omega) (back hi h1) li hBi
   exact absurd (by rw [hD2];exact hd) (q2.dh (front hj h2) lj hBj).2.1
  ·simp only [S',if_neg h1] at hBi
   simp only [S',if_neg h2] at hBj
   exact hw.inj i j b b' B c c' (back hi h1) (back hj h2) li lj hBi hBj
theorem aC.pure {Q:AV→Prop} (h:aC P f args [] (fun r H=>Q r∧H=[])) (ha:gm args=true) (H:List aj):aC P f args H (fun r H'=>Q r∧H'=H):=by
 have:=h.frame (fun r H' h=>by rw [h.2]) (iO _ _ ha) (by simp) H
 simp only [List.nil_append] at this
 refine this.mono fun r H' ⟨Hp',⟨h1,h2⟩,h3⟩=>⟨h1,by rw [h3,h2,List.nil_append]⟩
end
end Go.Ab

namespace Go.Ab
open Go
set_option linter.unusedVariables false
set_option linter.unusedSimpArgs false
def aV (ts:List Nat):Nat→List AV→List AV
 | _,[]=>[]
 | k,x::l=>(if ts.contains k then x else .bn)::aV ts (k + 1) l
theorem iH (ts:List Nat):∀ (l:List AV) (k i:Nat),(aV ts k l)[i]?=(l[i]?).map fun x=>if ts.contains (k + i) then x else .bn
 | [],k,i=>by simp [aV]
 | x::l,k,0=>by simp [aV]
 | x::l,k,i + 1=>by
  simp only [aV,List.getElem?_cons_succ]
  rw [iH ts l (k + 1) i,show k + 1 + i=k + (i + 1) by omega]
theorem Nb (ts:List Nat) (l:List AV) (d:Nat) (v:AV) (h:d ∉ ts):aV ts 0 (l.set d v)=aV ts 0 l:=by
 apply List.ext_getElem?
 intro i
 rw [iH,iH,List.getElem?_set]
 by_cases hd:d=i
 ·subst hd
  by_cases hlt:d < l.length
  ·simp [hlt,h]
  ·simp [hlt]
 ·rw [if_neg hd]
theorem wM (ts:List Nat) (l:List AV) (d:Option Nat) (v:AV) (h:∀ x,d=some x→x ∉ ts):aV ts 0 (bG l d v)=aV ts 0 l:=by
 cases d with
 | none=>rfl
 | some d=>simp only [bG,bg];exact Nb ts l d v (h d rfl)
theorem Hw {S:RS} {T:Sh} (ts:List Nat) {l:List AV} {vs:List Value} (h:aG S l T vs):aG S (aV ts 0 l) T vs:=by
 refine dX ?_ fun i c hi=>?_
 ·have:=bu h
  have hl:∀ (l:List AV) k,(aV ts k l).length=l.length:=by
   intro l
   induction l with
   | nil=>intro k;rfl
   | cons x l ih=>intro k;simp [aV,ih]
  rw [hl,this]
 ·rw [iH] at hi
  obtain ⟨x,hx,rfl⟩:=Option.map_eq_some_iff.1 hi
  obtain ⟨v,h1,h2⟩:=bJ h hx
  refine ⟨v,h1,?_⟩
  split
  ·exact h2
  ·simp [rel]
theorem MQ (l:List AV) (d e:Option Nat) (v u:AV) (h:∀ x,d=some x→e≠some x):bG (bG l d v) e u=bG (bG l e u) d v:=by
 cases d with
 | none=>rfl
 | some d =>
  cases e with
  | none=>rfl
  | some e =>
   have hne:d≠e:=fun he=>h d rfl (he ▸ rfl)
   simp only [bG,bg]
   exact List.set_comm _ _ hne
section
variable {P:Program} {ops:Array Oper}
def StepT (P:Program) (ops:Array Oper) (o:Oper) (fr:List AV) (H:List aj) (K:AV→List aj→Prop):Prop :=
 ∀ S a w,aG S fr (shape H) a.tmps.toList→aK S H w →
  (Region.wanted o (yielded ops a.tmps)=true→aT P o a w (Done S H K))∧(Region.wanted o (yielded ops a.tmps)=false→K (.tup []) H)
theorem Done.mono {S:RS} {H:List aj} {K K':AV→List aj→Prop} {u:Value} {w:World} (hm:∀ v H',K v H'→K' v H') (h:Done S H K u w):Done S H K' u w:=by
 obtain ⟨S',v,H',h1,h2,h3,h4⟩:=h
 exact ⟨S',v,H',h1,h2,h3,hm _ _ h4⟩
theorem aT.mono {o:Oper} {a:Act} {w:World} {G G':Value→World→Prop} (hm:∀ v w,G v w→G' v w) (h:aT P o a w G):aT P o a w G':=by
 unfold aT at *
 split
 ·rename_i hr;rw [hr] at h;exact hm _ _ h
 ·rename_i hr;rw [hr] at h;exact hm _ _ h
 ·rename_i hr;rw [hr] at h;exact Calls.mono h fun e w' ⟨u,h1,h2⟩=>⟨u,h1,hm _ _ h2⟩
 ·rename_i h1 h2 h3
  split at h
  ·rename_i hr;exact absurd hr (h1 _ _)
  ·rename_i hr;exact absurd hr (h2 _)
  ·rename_i hr;exact absurd hr (h3 _ _ _)
  ·exact h
theorem StepT.mono {o:Oper} {fr:List AV} {H:List aj} {K K':AV→List aj→Prop} (hm:∀ v H',K v H'→K' v H') (h:StepT P ops o fr H K):StepT P ops o fr H K' :=
 fun S a w hf hw=>⟨fun hg=>((h S a w hf hw).1 hg).mono fun v w' hd=>hd.mono hm,fun hg=>hm _ _ ((h S a w hf hw).2 hg)⟩
def bz:List Bool→List aj→List aj→Prop
 | [],_,_=>True
 | true::bs,x::H,y::H'=>x=y∧bz bs H H'
 | false::bs,_::H,_::H'=>bz bs H H'
 | _,_,_=>False
theorem bz.trans:∀ {bs:List Bool} {H H' H'':List aj},bz bs H H'→bz bs H' H''→bz bs H H''
 | [],_,_,_,_,_=>trivial
 | true::bs,x::H,y::H',z::H'',h,k=>⟨h.1.trans k.1,bz.trans h.2 k.2⟩
 | false::bs,x::H,y::H',z::H'',h,k=>bz.trans (bs:=bs) h k
 | true::bs,[],_,_,h,_=>h.elim
 | true::bs,_::_,[],_,h,_=>h.elim
 | true::bs,_::_,_::_,[],_,h=>h.elim
 | false::bs,[],_,_,h,_=>h.elim
 | false::bs,_::_,[],_,h,_=>h.elim
 | false::bs,_::_,_::_,[],_,h=>h.elim
def Dcl (ops:Array Oper) (listed:Array Bool):Prop:=∀ (k:Nat) ok,ops[k]?=some ok→listed.getD k false=true→∀ e∈ok.after,Region.binds .any e=true→listed.getD e.on false=true
def Aft (ops:Array Oper) (i j:Nat):Prop:=∀ listed:Array Bool,Dcl ops listed→j∈Region.ready .any ops listed→listed.getD i false=true
theorem Dcl.set {ops:Array Oper} {listed:Array Bool} (h:Dcl ops listed) {i:Nat} (hi:i∈Region.ready .any ops listed):Dcl ops (listed.setIfInBounds i true):=by
 intro k ok hk hl e he hb
 have mono:∀ x,listed.getD x false=true→(listed.setIfInBounds i true).getD x false=true:=fun x hx=>by
  by_cases hxi:i=x
  ·subst hxi
   have:i < listed.size:=by
    rcases Nat.lt_or_ge i listed.size with h' | h'
    ·exact h'
    ·simp [Array.getElem?_eq_none h'] at hx
   simp [this]
  ·rw [getD_set_ne false hxi];exact hx
 by_cases hki:i=k
 ·subst hki
  obtain ⟨_,o',ho',hall⟩:=mem_ready.1 hi
  rw [hk] at ho'
  injection ho' with ho'
  subst ho'
  exact mono _ (hall e he hb)
 ·rw [getD_set_ne false hki] at hl
  exact mono _ (h k ok hk hl e he hb)
def sV (P:Program) (ops:Array Oper) (bs:List Bool) (Fr:Nat→Prop) (Fin:List AV→List aj→Prop):Nat→Array Bool→List AV→List aj→Prop
 | 0,listed,fr,H=>Region.ready .any ops listed=[]∧Fin fr H
 | n + 1,listed,fr,H=>(Region.ready .any ops listed=[]→Fin fr H) ∧
  ∀ i∈Region.ready .any ops listed,∀ o,ops[i]?=some o→StepT P ops o (aV (o.looksAt ops) 0 fr) H fun v H'=>((Fr i∧bz bs H' H')∨bz bs H H')∧sV P ops bs Fr Fin n (listed.setIfInBounds i true) (bG fr o.dst v) H'
def Mv (P:Program) (ops:Array Oper) (bs:List Bool) (o:Oper) (v:AV) (fr:List AV) (H:List aj):Prop :=
 ∀ H2,bz bs H H2→StepT P ops o (aV (o.looksAt ops) 0 fr) H2 fun r H'=>r=v∧H'=H2
def MvA (P:Program) (ops:Array Oper) (o:Oper) (v:AV) (fr:List AV):Prop :=
 ∀ H2,StepT P ops o (aV (o.looksAt ops) 0 fr) H2 fun r H'=>r=v∧H'=H2
theorem sV.first {bs:List Bool} {Fr:Nat→Prop} {Fin:List AV→List aj→Prop} {i:Nat} {oi:Oper} {v:AV} (hi:ops[i]?=some oi) :
  ∀ (fuel:Nat) (listed:Array Bool) (fr:List AV) (H:List aj),Dcl ops listed →
   (∀ j oj,ops[j]?=some oj→j≠i→listed.getD j true=false→(∀ e∈oj.after,Region.binds .any e=true→e.on≠i)→oi.apart ops oj=true) →
   i∈Region.ready .any ops listed→(MvA P ops oi v fr∨((∀ j,j≠i→Fr j→Aft ops i j∨Aft ops j i)∧bz bs H H∧Mv P ops bs oi v fr H))→bz bs H H →
   sV P ops bs Fr Fin fuel (listed.setIfInBounds i true) (bG fr oi.dst v) H→sV P ops bs Fr Fin (fuel + 1) listed fr H:=by
 intro fuel
 have notL:∀ {listed:Array Bool} {x:Nat},x∈Region.ready .any ops listed→listed.getD x false=true→False:=fun {listed x} hr this=>by
  have h0:=(mem_ready.1 hr).1
  rcases Nat.lt_or_ge x listed.size with h' | h'
  ·simp [h'] at h0 this;rw [h0] at this;cases this
  ·simp [Array.getElem?_eq_none h'] at this
 have atH:∀ {fr:List AV} {H:List aj},(MvA P ops oi v fr∨((∀ j,j≠i→Fr j→Aft ops i j∨Aft ops j i)∧bz bs H H∧Mv P ops bs oi v fr H))→StepT P ops oi (aV (oi.looksAt ops) 0 fr) H fun r H'=>r=v∧H'=H:=fun {fr H} hy=>by
  rcases hy with hy | ⟨_,hk,hy⟩
  ·exact hy H
  ·exact hy H hk
 induction fuel with
 | zero =>
  intro listed fr H _ _ hr hy hk HA
  refine ⟨fun h=>(by rw [h] at hr;cases hr),fun j hj o ho=>?_⟩
  by_cases hji:j=i
  ·subst hji
   rw [hi] at ho
   injection ho with ho
   subst ho
   exact (atH hy).mono fun r H' ⟨h1,h2⟩=>by subst h1 h2;exact ⟨.inr hk,HA⟩
  ·have:=ready_mono hj hji
   rw [HA.1] at this
   cases this
 | succ fuel ih =>
  intro listed fr H hdc hfree hr hy hk HA
  refine ⟨fun h=>(by rw [h] at hr;cases hr),fun j hj oj hoj=>?_⟩
  by_cases hji:j=i
  ·subst hji
   rw [hi] at hoj
   injection hoj with hoj
   subst hoj
   exact (atH hy).mono fun r H' ⟨h1,h2⟩=>by subst h1 h2;exact ⟨.inr hk,HA⟩
  ·have h1:=HA.2 j (ready_mono hj hji) oj hoj
   obtain ⟨hjun,oj',hoj',hall⟩:=mem_ready.1 hj
   rw [hoj] at hoj'
   injection hoj' with hoj'
   subst hoj'
   have hnot:∀ e∈oj.after,Region.binds .any e=true→e.on≠i:=fun e he hb heq=>by
    have h1:=hall e he hb
    rw [heq] at h1
    exact notL hr h1
   have hap:=hfree j oj hoj hji hjun hnot
   obtain ⟨a1,a2,a3⟩:=Oper.apart_spec hap
   have hfree':∀ k ok,ops[k]?=some ok→k≠i→(listed.setIfInBounds j true).getD k true=false →
     (∀ e∈ok.after,Region.binds .any e=true→e.on≠i)→oi.apart ops ok=true:=fun k ok hk hki hun hno=>by
    refine hfree k ok hk hki ?_ hno
    by_cases hjk:j=k
    ·subst hjk;exact hjun
    ·rw [getD_set_ne true hjk] at hun;exact hun
   rw [wM _ _ _ _ a1] at h1
   have key:∀ {bs:List Bool} {A B:List aj},bz bs A B→bz bs B B:=by
    intro bs
    induction bs with
    | nil=>intro A B _;trivial
    | cons x bs ih =>
     intro A B h
     cases x <;> cases A <;> cases B <;> first | exact h.elim | skip
     ·exact ih (A:=_) h
     ·exact ⟨rfl,ih h.2⟩
   have rest:∀ r H',bz bs H' H'→(MvA P ops oi v (bG fr oj.dst r)∨((∀ j,j≠i→Fr j→Aft ops i j∨Aft ops j i)∧bz bs H' H'∧Mv P ops bs oi v (bG fr oj.dst r) H'))→sV P ops bs Fr Fin fuel ((listed.setIfInBounds i true).setIfInBounds j true) (bG (bG fr oi.dst v) oj.dst r) H'→sV P ops bs Fr Fin (fuel + 1) (listed.setIfInBounds j true) (bG fr oj.dst r) H':=fun r H' hk' hy' h3=>by
    refine ih (listed.setIfInBounds j true) (bG fr oj.dst r) H' (hdc.set hj) hfree' (ready_mono hr (Ne.symm hji)) hy' hk' ?_
    rw [Array.setIfInBounds_comm _ _ hji,MQ _ _ _ _ _ (fun x hx hy=>a2 x hy (by rw [hx]))]
    exact h3
   rcases hy with hy | ⟨hF,_,hy⟩
   ·refine h1.mono fun r H' ⟨h2,h3⟩=>⟨h2,rest r H' ?_ (.inl ?_) h3⟩
    ·rcases h2 with h2 | h2
     ·exact h2.2
     ·exact key h2
    ·intro H2
     rw [wM _ _ _ _ a3]
     exact hy H2
   ·refine h1.mono fun r H' ⟨h2,h3⟩=>?_
    have h2:bz bs H H':=by
     rcases h2 with h2 | h2
     ·rcases hF j hji h2.1 with h | h
      ·exact (notL hr (h listed hdc hj)).elim
      ·exact (notL hj (h listed hdc hr)).elim
     ·exact h2
    refine ⟨.inr h2,rest r H' (key h2) (.inr ⟨hF,key h2,fun H2 hk2=>?_⟩) h3⟩
    rw [wM _ _ _ _ a3]
    exact hy H2 (h2.trans hk2)
theorem HY {S:RS} {T:Sh} {ts:List Nat} {fr:List AV} {vs:List Value} {t:Nat} {b:Bool} (hb:fr[t]?=some (.sb b)) (h:aG S (aV ts 0 fr) T vs):aG S (aV ts 0 (fr.set t (.bool b))) T vs:=by
 refine dX ?_ fun i c hi=>?_
 ·have hl:∀ (l:List AV) k,(aV ts k l).length=l.length:=by
   intro l
   induction l with
   | nil=>intro k;rfl
   | cons x l ih=>intro k;simp [aV,ih]
  have:=bu h
  rw [hl] at this
  rw [hl,List.length_set,this]
 ·rw [iH,List.getElem?_set] at hi
  by_cases ht:t=i
  ·subst ht
   have hlt:=(List.getElem?_eq_some_iff.1 hb).1
   simp only [if_true,hlt,Option.map_some,Option.some.injEq] at hi
   subst hi
   obtain ⟨v,h1,h2⟩:=bJ h (i:=t) (c:=if ts.contains (0 + t) then .sb b else .bn) (by rw [iH,hb];rfl)
   refine ⟨v,h1,?_⟩
   split
   ·rename_i hc;rw [if_pos hc] at h2;simpa only [rel] using h2
   ·simp [rel]
  ·rw [if_neg ht,← iH] at hi
   exact bJ h hi
theorem StepT.known {o:Oper} {ts:List Nat} {fr:List AV} {H:List aj} {K:AV→List aj→Prop} {t:Nat} {b:Bool} (hb:fr[t]?=some (.sb b)) (h:StepT P ops o (aV ts 0 (fr.set t (.bool b))) H K):StepT P ops o (aV ts 0 fr) H K :=
 fun S a w hf hw=>h S a w (HY hb hf) hw
theorem sV.known {bs:List Bool} {Fr:Nat→Prop} {Fin:List AV→List aj→Prop} (hFin:∀ fr H t b,fr[t]?=some (.sb b)→Fin (fr.set t (.bool b)) H→Fin fr H) :
  ∀ (fuel:Nat) (listed:Array Bool) (fr:List AV) (H:List aj) (t:Nat) (b:Bool),fr[t]?=some (.sb b)→sV P ops bs Fr Fin fuel listed (fr.set t (.bool b)) H→sV P ops bs Fr Fin fuel listed fr H:=by
 intro fuel
 induction fuel with
 | zero=>intro listed fr H t b hb h;exact ⟨h.1,hFin _ _ _ _ hb h.2⟩
 | succ fuel ih =>
  intro listed fr H t b hb h
  refine ⟨fun h0=>hFin _ _ _ _ hb (h.1 h0),fun i hi o ho=>?_⟩
  refine (StepT.known hb (h.2 i hi o ho)).mono fun v H' ⟨h1,h2⟩=>⟨h1,?_⟩
  cases hd:o.dst with
  | none=>rw [hd] at h2;exact ih _ _ _ t b hb h2
  | some d =>
   rw [hd] at h2
   simp only [bG,bg] at h2 ⊢
   by_cases htd:t=d
   ·subst htd
    rw [List.set_set] at h2
    exact h2
   ·refine ih _ _ _ t b (by rw [List.getElem?_set_ne (fun e=>htd e.symm)];exact hb) ?_
    rw [List.set_comm _ _ (fun e=>htd e.symm)]
    exact h2
theorem sV.steps {bs:List Bool} {Fr:Nat→Prop} {Fin:List AV→List aj→Prop} {b:Frame} {k:List Go.Item} {cs:List Frame}:∀ (fuel t:Nat) (listed:Array Bool) (fr:List AV) (H:List aj) (S:RS) (a:Act) (w:World),
  sV P ops bs Fr Fin fuel listed fr H→aG S fr (shape H) a.tmps.toList→aK S H w →
  ∃ a' w' S' fr' H',Steps P (lone (b.atR a (.inRegion ops (Region.linearise.go .any ops fuel t listed [])::k)) cs w) (lone (b.atR a' (.inRegion ops []::k)) cs w')∧a'.defers=a.defers∧Ext S (shape H) S' (shape H') ∧
   aG S' fr' (shape H') a'.tmps.toList∧aK S' H' w'∧Fin fr' H':=by
 intro fuel
 induction fuel with
 | zero=>intro t listed fr H S a w h hf hw;exact ⟨a,w,S,fr,H,Steps.refl _ _,rfl,Ext.refl _ _,hf,hw,h.2⟩
 | succ fuel ih =>
  intro t listed fr H S a w h hf hw
  obtain ⟨h₀,h₁⟩:=h
  simp only [Region.linearise.go]
  change ∃ a' w' S' fr' H',Steps P (lone (b.atR a (.inRegion ops (match (Region.ready .any ops listed)[t % (Region.ready .any ops listed).length]? with
   | some i=>Region.linearise.go .any ops fuel (t / (Region.ready .any ops listed).length) (listed.setIfInBounds i true) [i]
   | none=>[].reverse)::k)) cs w) _∧_
  cases hi:(Region.ready .any ops listed)[t % (Region.ready .any ops listed).length]? with
  | none =>
   have hnil:Region.ready .any ops listed=[]:=by
    cases hr:Region.ready .any ops listed with
    | nil=>rfl
    | cons x xs =>
     rw [hr] at hi
     have hlt:t % (x::xs).length < (x::xs).length:=Nat.mod_lt _ (by simp)
     simp at hi
     simp at hlt
     omega
   simp only [List.reverse_nil]
   exact ⟨a,w,S,fr,H,Steps.refl _ _,rfl,Ext.refl _ _,hf,hw,h₀ hnil⟩
  | some i =>
   simp only []
   rw [linearise_go_acc,List.reverse_singleton,List.singleton_append]
   have hmem:=List.mem_of_getElem? hi
   obtain ⟨_,o,ho,_⟩:=mem_ready.1 hmem
   have hst:=h₁ i hmem o ho S a w (Hw _ hf) hw
   cases hg:Region.wanted o (yielded ops a.tmps) with
   | true =>
    obtain ⟨u,w',hG,hs⟩:=qF (b:=b) (k:=k) (cs:=cs) (rest:=Region.linearise.go .any ops fuel (t / (Region.ready .any ops listed).length) (listed.setIfInBounds i true) []) ho hg (hst.1 hg)
    obtain ⟨S',v,H',e1,e2,e3,_,e4⟩:=hG
    obtain ⟨a',w'',S'',fr',H'',q1,q2,q3,q4,q5,q6⟩:=ih (t / (Region.ready .any ops listed).length) _ _ _ S' (a.put o.dst u) w' e4 (qw (eP _ _ _ _ e1 hf) _ e3) e2
    exact ⟨a',w'',S'',fr',H'',hs.trans q1,q2.trans (put_defers a _ _),e1.trans q3,q4,q5,q6⟩
   | false =>
    obtain ⟨_,e4⟩:=hst.2 hg
    have hstep:=stepR_op_skip (P:=P) (b:=b) (a:=a) (k:=k) (cs:=cs) (w:=w) (ops:=ops) (i:=i) (rest:=Region.linearise.go .any ops fuel (t / (Region.ready .any ops listed).length) (listed.setIfInBounds i true) []) (by simp [ho,hg])
    simp only [ho,Option.bind_some] at hstep
    obtain ⟨a',w'',S'',fr',H'',q1,q2,q3,q4,q5,q6⟩:=ih (t / (Region.ready .any ops listed).length) _ _ _ S (a.put o.dst undef) w e4 (qw hf _ (by simp [rel,aG,undef])) hw
    exact ⟨a',w'',S'',fr',H'',.head hstep q1,q2.trans (put_defers a _ _),q3,q4,q5,q6⟩
end
section
variable {P:Program} {fn:Func} {tab:List Node} {H0:List aj} {R:AV→List aj→Prop} {K:List bf} {fr:List AV} {H:List aj}
def sQ (n:Nat):List Nat→Bool
 | []=>false
 | m::ms=>Nat.beq n m || sQ n ms
def rdK:AO→Bool
 | .ld .. | .idx .. | .len .. | .slc .. | .inv .. | .mget ..=>true
 | _=>false
def NU (l:List AOp):Nat→List Nat→List Nat
 | 0,need=>need
 | k + 1,need=>match sQ k need,aX l k with
  | true,some o=>NU l k (dQ o.after need)
  | _,_=>NU l k need
def ups (l:List AOp) (j:Nat):List Nat :=
 match aX l j with
 | some o=>NU l j o.after
 | none=>[]
def frGo (l:List AOp) (j:Nat) (u:List Nat):Nat→List AOp→Bool
 | _,[]=>true
 | i,o::os=>(Nat.beq i j || !(rdK o.op) || sQ i u || sQ j (ups l i)) && frGo l j u (i + 1) os
def frB (l:List AOp) (j:Nat):Bool:=frGo l j (ups l j) 0 l
def aZ (P:Program) (l:List AOp) (bs:List Bool) (Fin:List AV→List aj→Prop) (n:Nat) (listed:List Bool) (fr:List AV) (H:List aj):Prop :=
 ∀ ops:Array Oper,l=ops.toList.map (bH P ops true)→Dcl ops listed.toArray→sV P ops bs (fun j=>frB l j=true) Fin n listed.toArray fr H
theorem Run.draw {n:Nat} {l:List AOp} (hm:P.follows .mixedOrders=true) (ht:tab[n]?=some (.region l true)) (bs:List Bool)
  (h:aZ P l bs (Run P fn tab H0 R K) l.length (List.replicate l.length false) fr H):Run P fn tab H0 R (.c n::K) fr H:=by
 intro S0 S w a b k cs he hd hf hw hk
 cases hk with
 | cons h1 hk =>
  rename_i it k
  cases it <;> first | exact h1.elim | skip
  obtain ⟨id,ops,rfl,hl⟩:=At.lq h1 ht
  have hsz:l.length=ops.size:=by rw [hl];simp
  have h2:=h ops hl (fun k ok hk hl=>by
   exfalso
   simp only [Array.getD_eq_getD_getElem?,List.getElem?_toArray,List.getElem?_replicate] at hl
   split at hl <;> simp at hl)
  rw [hsz] at h2
  obtain ⟨a',w',S',fr',H',q1,q2,q3,q4,q5,q6⟩:=sV.steps (b:=b) (k:=k) (cs:=cs) ops.size (w.tape w.drawn (.order b.fn id)) _ _ _ S a w.drew h2 hf hw.drew
  obtain ⟨a2,w2,todo,v,r1,r2,r3,r4⟩:=q6 S0 S' w' a' b k cs (he.trans q3) hd q4 q5 hk
  refine ⟨a2,w2,todo,v,.head stepR_region_draw ?_,r2.trans q2,r3,r4⟩
  simp only [Region.schedule,hm,Bool.true_or,if_true,Region.linearise]
  rw [show (Array.replicate ops.size false)=(List.replicate ops.size false).toArray by simp]
  exact q1.trans (.head stepR_region_end r1)
end
end Go.Ab

namespace Go.Ab
open Go
set_option linter.unusedVariables false
set_option linter.unusedSimpArgs false
variable {σr:dG}
def gK:List Bool→List aj→List aj
 | true::bs,x::H=>x::gK bs H
 | false::bs,_::H=>.dead .mp::gK bs H
 | _,_=>[]
def SubH (HB H:List aj):Prop:=∀ (id:Nat) (b:aj),aX HB id=some b→b.live=true→aX H id=some b
theorem wR:∀ {bs:List Bool} {H H2:List aj},bz bs H H2→SubH (gK bs H) H2
 | [],_,_,_,id,b,h,_=>by simp [gK,aX] at h
 | true::bs,[],_,h,_,_,_,_=>h.elim
 | true::bs,_::_,[],h,_,_,_,_=>h.elim
 | false::bs,[],_,h,_,_,_,_=>h.elim
 | false::bs,_::_,[],h,_,_,_,_=>h.elim
 | true::bs,x::H,y::H2,h,0,b,hb,_=>by simp only [gK,aX] at hb ⊢;rw [← h.1];exact hb
 | true::bs,x::H,y::H2,h,id + 1,b,hb,hl=>by simp only [gK,aX] at hb ⊢;exact wR h.2 id b hb hl
 | false::bs,x::H,y::H2,h,0,b,hb,hl=>by simp only [gK,aX,Option.some.injEq] at hb;subst hb;cases hl
 | false::bs,x::H,y::H2,h,id + 1,b,hb,hl=>by simp only [gK,aX] at hb ⊢;exact wR (bs:=bs) h id b hb hl
def mvK:AO→Bool
 | .alloc .. | .box .. | .st .. | .mks .. | .app .. | .lit .. | .mkm | .mset .. | .clr .. | .nilS .. | .bad=>false
 | _=>true
def mvS (A:Ar) (C:FuncId→List AV→List aj→(AV→List aj→Prop)→Prop):Out→AV→Prop
 | .ok v' _,v=>v'=v
 | .need p o,v=>A.nd p∧mvS A C o v
 | .ask p k,v=>∃ r,p r∧mvS A C (k r) v
 | .br b k,v=>mvS A C (k b) v
 | .nilq ..,_=>False
 | .call f args,v=>gm (fF args)=true∧C f (fF args) [] fun r H'=>sym r=v∧H'=[]
 | .bad,_=>False
section
variable {P:Program} {HB H2:List aj} {v:AV}
theorem wF {n:Option Nat} {cs:List AV} {k k2:AV→Out} {K:AV→List aj→Prop} (hk:∀ u,mvS arS (aC P) (k u) v→sat arS P H2 (k2 u) K)
  (h:mvS arS (aC P) (match jg n cs with | some u=>k u | none=>.bad) v):sat arS P H2 (match jg n cs with | some u=>k2 u | none=>.bad) K:=by
 cases hp:jg n cs with
 | none=>rw [hp] at h;exact h.elim
 | some u=>rw [hp] at h;exact hk u h
theorem Jk (hs:SubH HB H2) {n:Option Nat} {x:AV} {k k2:AV→Out} {K:AV→List aj→Prop} (hk:∀ u,mvS arS (aC P) (k u) v→sat arS P H2 (k2 u) K)
  (h:mvS arS (aC P) (ldA arS σr n x HB k) v):sat arS P H2 (ldA arS σr n x H2 k2) K:=by
 unfold ldA at h ⊢
 cases x <;> first | exact False.elim h | skip
 case ptr id t r o =>
  simp only at h ⊢
  cases hg:aX HB id with
  | none=>rw [hg] at h;exact h.elim
  | some b =>
   rw [hg] at h
   cases b with
   | box=>exact h.elim
   | dead=>exact h.elim
   | mpb=>exact h.elim
   | arr e sz rows =>
    rw [hs id _ hg rfl]
    exact ⟨h.1,wF hk h.2⟩
 case aA id o =>
  simp only at h ⊢
  cases hg:aX HB id with
  | none=>rw [hg] at h;exact h.elim
  | some b =>
   rw [hg] at h
   cases b with
   | arr=>exact h.elim
   | dead=>exact h.elim
   | mpb=>exact h.elim
   | box e cs =>
    rw [hs id _ hg rfl]
    exact wF hk h
 case iptr cs=>exact wF hk h
theorem vM {f:FuncId} {args:List AV} (h:mvS arS (aC P) (.call f args) v):sat arS P H2 (.call f args) (fun r H'=>r=v∧H'=H2):=by
 obtain ⟨h1,h2⟩:=h
 exact aC.pure (Q:=fun r=>sym r=v) h2 h1 H2
theorem He {u:AV} {H':List aj} (h:mvS arS (aC P) (.ok u H') v):sat arS P H2 (.ok u H2) (fun r H'=>r=v∧H'=H2):=⟨h,rfl⟩
theorem CP {u:Option AV} (h:mvS arS (aC P) (okO u HB) v):sat arS P H2 (okO u H2) (fun r H'=>r=v∧H'=H2):=by
 cases u with
 | none=>exact h.elim
 | some u=>exact ⟨h,rfl⟩
theorem ET {x y:AV} {k k2:Bool→Out} {K:AV→List aj→Prop} (hk:∀ u,mvS arS (aC P) (k u) v→sat arS P H2 (k2 u) K)
  (h:mvS arS (aC P) (zY x y HB k) v):sat arS P H2 (zY x y H2 k2) K:=by
 unfold zY at h ⊢
 have hq:∀ x,mvS arS (aC P) (Hl x HB k) v→sat arS P H2 (Hl x H2 k2) K:=by
  intro x h
  unfold Hl at h ⊢
  cases x <;> first | exact False.elim h | exact hk _ h
 split at h <;> first | exact hq _ h | exact h.elim
theorem Gm {op:BinOp} {x y:AV} (h:mvS arS (aC P) (uw arS op x y HB) v):sat arS P H2 (uw arS op x y H2) (fun r H'=>r=v∧H'=H2):=by
  unfold uw at h ⊢
  cases x <;> cases y <;> first | exact False.elim h | skip
  · cases op <;> simp only at h ⊢ <;> first
      | exact ⟨h.1,h.2,rfl⟩
      | (split at h
         · rename_i hk;rw [if_pos hk];first | exact ⟨h.1,h.2,rfl⟩ | exact ⟨h,rfl⟩ | exact h.elim
         · exact h.elim)
  · cases op <;> simp only at h ⊢ <;> first
      | exact ⟨h.1,h.2,rfl⟩
      | exact ⟨h,rfl⟩
      | exact h.elim
theorem PS {op:BinOp} {tk:TK} {x y:AV} (h:mvS arS (aC P) (Gl arS op tk x y HB) v):sat arS P H2 (Gl arS op tk x y H2) (fun r H'=>r=v∧H'=H2):=by
 unfold Gl at h ⊢
 split at h
 ·exact Gm h
 ·exact Gm h
 ·split at h
  ·split at h
   ·exact ⟨h,rfl⟩
   ·exact h.elim
  ·split at h
   ·exact ⟨h,rfl⟩
   ·exact h.elim
  ·exact h.elim
 ·split at h
  ·split at h
   ·exact ⟨h,rfl⟩
   ·exact h.elim
  ·split at h
   ·exact ⟨h,rfl⟩
   ·exact h.elim
  ·exact ET (k:=fun b=>.ok (.bool b) HB) (fun u hu=>⟨hu,rfl⟩) h
  ·exact ET (k:=fun b=>.ok (.bool (!b)) HB) (fun u hu=>⟨hu,rfl⟩) h
  ·exact h.elim
theorem Ob (hs:SubH HB H2) {k:Option Nat} {x:AV} {lo hi:Option Int} (h:mvS arS (aC P) (MJ arS k x lo hi HB) v):sat arS P H2 (MJ arS k x lo hi H2) (fun r H'=>r=v∧H'=H2):=by
 unfold MJ at h ⊢
 split at h
 ·split at h
  ·rename_i hz
   simp only [if_pos hz]
   split at h <;> first | exact ⟨h.1,h.2,rfl⟩ | exact ⟨h,rfl⟩
  ·exact h.elim
 ·rename_i z id t o n
  cases hg:aX HB id with
  | none=>rw [hg] at h;exact h.elim
  | some b =>
   rw [hg] at h
   cases b with
   | box=>exact h.elim
   | dead=>exact h.elim
   | mpb=>exact h.elim
   | arr e sz rows =>
    rw [hs id _ hg rfl]
    simp only at h ⊢
    split at h
    ·rename_i hz
     simp only [if_pos hz]
     split at h <;> exact ⟨h.1,h.2,rfl⟩
    ·exact h.elim
 ·exact ⟨h.1,h.2,rfl⟩
 ·split at h <;> first | exact ⟨h.1,h.2,rfl⟩ | exact ⟨h,rfl⟩
 ·exact h.elim
theorem Hq (hs:SubH HB H2) {fr:List AV} {ao:AO} (hk:mvK ao=true) (h:mvS arS (aC P) (aH arS σr fr HB ao) v):sat arS P H2 (aH arS σr fr H2 ao) (fun r H'=>r=v∧H'=H2):=by
 cases ao <;> first | exact (Bool.noConfusion hk:False).elim | skip
 case mv=>exact He h
 case pick c a b =>
  simp only [aH] at h ⊢
  split at h <;> first | exact ⟨h,rfl⟩ | exact h.elim
 case build z ps =>
  simp only [aH] at h ⊢
  split at h
  ·rename_i hz;rw [if_pos hz];exact CP h
  ·exact h.elim
 case ld n x=>exact Jk hs (k:=fun v=>.ok v HB) (fun u hu=>⟨hu,rfl⟩) h
 case nilc mt x =>
  simp only [aH] at h ⊢
  split at h <;> first | exact ⟨h,rfl⟩ | exact h.elim | (split at h <;> first | (rename_i hz;rw [if_pos hz];exact ⟨h,rfl⟩) | exact h.elim)
 case bin op k x y=>exact PS h
 case un op x =>
  simp only [aH] at h ⊢
  split at h <;> first | exact ⟨h,rfl⟩ | exact h.elim
 case cvt k x =>
  simp only [aH] at h ⊢
  split at h <;> first | exact ⟨h,rfl⟩ | exact h.elim
 case mki=>exact He h
 case mkf=>exact He h
 case slc k x lo hi =>
  simp only [aH] at h ⊢
  split at h
  ·exact Ob hs h
  ·exact h.elim
 case fad off x =>
  simp only [aH] at h ⊢
  split at h <;> first | exact ⟨h,rfl⟩ | exact h.elim
 case fld off n x =>
  simp only [aH] at h ⊢
  split at h
  ·exact CP h
  ·exact h.elim
 case idx e0 sz x i =>
  simp only [aH] at h ⊢
  split at h
  ·split at h
   ·rename_i hz
    rw [if_pos hz]
    exact ⟨h.1,h.2,rfl⟩
   ·exact h.elim
  ·rename_i id t o len k n _ _
   cases hg:aX HB id with
   | none=>rw [hg] at h;exact h.elim
   | some b =>
    rw [hg] at h
    cases b with
    | box=>exact h.elim
    | dead=>exact h.elim
    | mpb=>exact h.elim
    | arr e sz' rows =>
     rw [hs id _ hg rfl]
     simp only at h ⊢
     split at h
     ·rename_i hz
      rw [if_pos hz]
      exact ⟨h.1,h.2,rfl⟩
     ·exact h.elim
  ·exact h.elim
 case idxs x i =>
  simp only [aH] at h ⊢
  split at h <;> first | exact ⟨h.1,h.2,rfl⟩ | exact h.elim
 case ext x i =>
  simp only [aH] at h ⊢
  split at h
  ·exact CP h
  ·exact h.elim
 case asrt t z ag ok x =>
  simp only [aH] at h ⊢
  split at h
  ·split at h
   ·rename_i hz;rw [if_pos hz];exact ⟨h,rfl⟩
   ·exact h.elim
  ·exact h.elim
 case call f args=>exact vM h
 case callv x args =>
  simp only [aH] at h ⊢
  split at h
  ·exact vM h
  ·exact h.elim
 case inv tab x args =>
  simp only [aH] at h ⊢
  split at h
  ·split at h
   ·exact vM h
   ·exact Jk hs (k:=fun u=>.call _ (u::evs fr args)) (fun u hu=>vM hu) h
   ·exact h.elim
  ·exact h.elim
 case len str x =>
  simp only [aH] at h ⊢
  split at h
  ·exact ⟨h,rfl⟩
  ·exact ⟨h,rfl⟩
  ·rename_i id t _ n _
   cases hg:aX HB id with
   | none=>rw [hg] at h;exact h.elim
   | some b =>
    rw [hg] at h
    cases b with
    | box=>exact h.elim
    | dead=>exact h.elim
    | mpb=>exact h.elim
    | arr e sz' rows =>
     rw [hs id _ hg rfl]
     exact ⟨h.1,h.2,rfl⟩
  ·exact ⟨h,rfl⟩
  ·exact h.elim
 case mget z x i =>
  simp only [aH] at h ⊢
  split at h
  ·exact ⟨h,rfl⟩
  ·rename_i id k n _ _
   cases hg:aX HB id with
   | none=>rw [hg] at h;exact h.elim
   | some b =>
    rw [hg] at h
    cases b with
    | box=>exact h.elim
    | dead=>exact h.elim
    | arr=>exact h.elim
    | mpb rows =>
     rw [hs id _ hg rfl]
     simp only at h ⊢
     split at h
     ·exact ⟨h.1,h.2,rfl⟩
     ·exact ⟨h.1,h.2,rfl⟩
     ·exact h.elim
  ·exact h.elim
 case mnmx mx x y =>
  simp only [aH] at h ⊢
  split at h
  ·split at h
   ·rename_i hz;rw [if_pos hz];exact ⟨h,rfl⟩
   ·exact h.elim
  ·exact h.elim
 case addc x y z =>
  simp only [aH] at h ⊢
  split at h
  ·exact ⟨h,rfl⟩
  ·exact h.elim
 case mx4 x y z u =>
  simp only [aH] at h ⊢
  split at h
  ·exact ⟨h,rfl⟩
  ·exact h.elim
end
end Go.Ab

namespace Go.Ab
open Go
set_option linter.unusedVariables false
set_option linter.unusedSimpArgs false
variable {σr:dG}
def lst (listed:List Bool) (i:Nat) (d:Bool):Bool:=(aX listed i).getD d
def allIn (listed:List Bool):List Nat→Bool
 | []=>true
 | j::js=>lst listed j false && allIn listed js
def kF (listed:List Bool):Nat→List AOp→List Nat
 | _,[]=>[]
 | k,o::os=>if (!(lst listed k true) && allIn listed o.after)=true then k::kF listed (k + 1) os else kF listed (k + 1) os
def Dy (x y:AOp):Bool :=
 (match x.dst with
   | some d=>!(sQ d y.looks) && (match y.dst with | some e=>!(Nat.beq e d) | none=>true)
   | none=>true) &&
 (match y.dst with
   | some d=>!(sQ d x.looks)
   | none=>true)
def lV (oi:AOp) (i:Nat) (listed:List Bool):Nat→List AOp→Bool
 | _,[]=>true
 | j,oj::os=>(Nat.beq j i || lst listed j true || sQ i oj.after || Dy oi oj) && lV oi i listed (j + 1) os
theorem aai:∀ (n:Nat) (l:List Nat),sQ n l=l.contains n
 | n,[]=>rfl
 | n,m::l=>by
  rw [List.contains_cons,sQ,aai n l]
  cases h:Nat.beq n m
  ·have:n≠m:=fun e=>by subst e;simp at h
   simp [this]
  ·have:=Nat.eq_of_beq_eq_true h
   simp [this]
theorem CV (listed:List Bool) (i:Nat) (d:Bool):lst listed i d=listed.toArray.getD i d:=by
 simp [lst,aI,Array.getD_eq_getD_getElem?]
theorem Gp (listed:List Bool):∀ l:List Nat,allIn listed l=l.all fun j=>listed.toArray.getD j false
 | []=>rfl
 | j::js=>by rw [allIn,Gp listed js,CV];rfl
theorem Em {listed:List Bool}:∀ {l:List AOp} {k i:Nat},i∈kF listed k l↔k≤i∧∃ o,l[i - k]?=some o∧lst listed i true=false∧allIn listed o.after=true
 | [],k,i=>by simp [kF]
 | o::os,k,i=>by
  have ih:=Em (listed:=listed) (l:=os) (k:=k + 1) (i:=i)
  have step:∀ {Q:Prop},(k + 1≤i∧∃ o',os[i - (k + 1)]?=some o'∧lst listed i true=false∧allIn listed o'.after=true)→k≤i∧∃ o',(o::os)[i - k]?=some o'∧lst listed i true=false∧allIn listed o'.after=true:=by
   rintro _ ⟨h1,o',h2,h3⟩
   refine ⟨by omega,o',?_,h3⟩
   rw [show i - k=(i - (k + 1)) + 1 by omega,List.getElem?_cons_succ]
   exact h2
  simp only [kF]
  split
  ·rename_i hc
   simp only [Bool.and_eq_true,Bool.not_eq_true'] at hc
   rw [List.mem_cons,ih]
   constructor
   ·rintro (rfl | h)
    ·exact ⟨Nat.le_refl _,o,by simp,hc.1,hc.2⟩
    ·exact step (Q:=True) h
   ·rintro ⟨h1,o',h2,h3,h4⟩
    rcases Nat.eq_or_lt_of_le h1 with he | hlt
    ·exact .inl he.symm
    ·refine .inr ⟨hlt,o',?_,h3,h4⟩
     rw [show i - k=(i - (k + 1)) + 1 by omega,List.getElem?_cons_succ] at h2
     exact h2
  ·rename_i hc
   rw [ih]
   constructor
   ·exact step (Q:=True)
   ·rintro ⟨h1,o',h2,h3,h4⟩
    rcases Nat.eq_or_lt_of_le h1 with he | hlt
    ·subst he
     simp at h2
     subst h2
     exact absurd (by simp [h3,h4]) hc
    ·refine ⟨hlt,o',?_,h3,h4⟩
     rw [show i - k=(i - (k + 1)) + 1 by omega,List.getElem?_cons_succ] at h2
     exact h2
section
variable {P:Program} {ops:Array Oper} {l:List AOp} {listed:List Bool}
theorem EE {i:Nat} {o:AOp} (hl:l=ops.toList.map (bH P ops true)) (h:l[i]?=some o):∃ o',ops[i]?=some o'∧bH P ops true o'=o:=by
 rw [hl,List.getElem?_map] at h
 obtain ⟨o',h1,h2⟩:=Option.map_eq_some_iff.1 h
 exact ⟨o',by rw [← Array.getElem?_toList];exact h1,h2⟩
theorem OE {i:Nat} {o':Oper} (hl:l=ops.toList.map (bH P ops true)) (h:ops[i]?=some o'):l[i]?=some (bH P ops true o'):=by
 rw [hl,List.getElem?_map,Array.getElem?_toList,h]
 rfl
theorem Gs (o':Oper):allIn listed (bH P ops true o').after=true↔∀ e∈o'.after,Region.binds .any e=true→listed.toArray.getD e.on false=true:=by
  rw [Gp]
  simp only [bH,if_true,List.all_eq_true,List.mem_map,List.mem_filter,Array.mem_toList_iff]
  constructor
  · intro h e he hb
    exact h e.on ⟨e,⟨he,hb⟩,rfl⟩
  · rintro h x ⟨e,⟨he,hb⟩,rfl⟩
    exact h e he hb
theorem jr (hl:l=ops.toList.map (bH P ops true)) {i:Nat}:i∈Region.ready .any ops listed.toArray↔i∈kF listed 0 l:=by
 rw [mem_ready,Em]
 constructor
 ·rintro ⟨h1,o',h2,h3⟩
  exact ⟨Nat.zero_le _,_,OE hl h2,by rw [CV];exact h1,(Gs o').2 h3⟩
 ·rintro ⟨_,o,h2,h3,h4⟩
  obtain ⟨o',g1,rfl⟩:=EE hl h2
  exact ⟨by rw [← CV];exact h3,o',g1,(Gs o').1 h4⟩
theorem ready_nil (hl:l=ops.toList.map (bH P ops true)):Region.ready .any ops listed.toArray=[]↔kF listed 0 l=[]:=by
 constructor
 ·intro h
  cases hr:kF listed 0 l with
  | nil=>rfl
  | cons x xs =>
   have:x∈Region.ready .any ops listed.toArray:=(jr hl).2 (by rw [hr];simp)
   rw [h] at this
   cases this
 ·intro h
  cases hr:Region.ready .any ops listed.toArray with
  | nil=>rfl
  | cons x xs =>
   have:x∈kF listed 0 l:=(jr hl).1 (by rw [hr];simp)
   rw [h] at this
   cases this
theorem PX {x y:Oper} (h:Dy (bH P ops true x) (bH P ops true y)=true):x.apart ops y=true:=by
  simp only [Dy,bH,if_true,Bool.and_eq_true,aai] at h
  simp only [Oper.apart,Bool.and_eq_true]
  obtain ⟨h1,h2⟩:=h
  refine ⟨?_,h2⟩
  cases hx:x.dst with
  | none=>rfl
  | some d =>
    rw [hx] at h1
    simp only [Bool.and_eq_true] at h1 ⊢
    refine ⟨h1.1,?_⟩
    cases hy:y.dst with
    | none=>rfl
    | some e =>
      rw [hy] at h1
      have h3:=h1.2
      simp only [Bool.not_eq_true'] at h3
      have:e≠d:=fun he=>by subst he;simp at h3
      simp [this]
theorem Bo {oi:AOp} {i:Nat}:∀ {l:List AOp} {k:Nat},lV oi i listed k l=true→∀ j oj,l[j]?=some oj→k + j=i∨lst listed (k + j) true=true∨sQ i oj.after=true∨Dy oi oj=true
 | [],k,_,j,oj,h=>by simp at h
 | o::os,k,hf,j,oj,h=>by
  simp only [lV,Bool.and_eq_true,Bool.or_eq_true] at hf
  cases j with
  | zero =>
   simp at h
   subst h
   rcases hf.1 with ((h1 | h1) | h1) | h1
   ·exact .inl (Nat.eq_of_beq_eq_true h1)
   ·exact .inr (.inl h1)
   ·exact .inr (.inr (.inl h1))
   ·exact .inr (.inr (.inr h1))
  | succ j =>
   have:=Bo hf.2 j oj (by simpa using h)
   rwa [show k + 1 + j=k + (j + 1) by omega] at this
theorem JA (hl:l=ops.toList.map (bH P ops true)) {i:Nat} {oi:Oper} (hf:lV (bH P ops true oi) i listed 0 l=true):∀ j oj,ops[j]?=some oj→j≠i→listed.toArray.getD j true=false →
    (∀ e∈oj.after,Region.binds .any e=true→e.on≠i)→oi.apart ops oj=true:=by
  intro j oj hj hne hun hno
  rcases Bo hf j _ (OE hl hj) with h | h | h | h
  · omega
  · rw [CV,Nat.zero_add,hun] at h;cases h
  · rw [aai] at h
    simp only [bH,if_true,List.contains_eq_mem,decide_eq_true_eq,List.mem_map,List.mem_filter,Array.mem_toList_iff] at h
    obtain ⟨e,⟨he,hb⟩,heq⟩:=h
    exact absurd heq (hno e he hb)
  · exact PX h
theorem pX {fr:List AV} {H:List aj} {o':Oper} {K:AV→List aj→Prop}
  (h:(gOk fr (bH P ops true o').guard true∧sat arS P H (aH arS σr fr H (bH P ops true o').op) K)∨(gOk fr (bH P ops true o').guard false∧K (.tup []) H)):StepT P ops o' fr H K:=by
 intro S a w hf hw
 rcases h with ⟨hg,hs⟩ | ⟨hg,hk⟩
 ·have:=lS hf hg
  rw [this]
  exact ⟨fun _=>yQ hf hw hs,fun h=>Bool.noConfusion h⟩
 ·have:=lS hf hg
  rw [this]
  exact ⟨fun h=>Bool.noConfusion h,fun _=>hk⟩
variable {bs:List Bool} {Fin:List AV→List aj→Prop} {n:Nat} {fr:List AV} {H:List aj}
theorem tJ (hl:l=ops.toList.map (bH P ops true)) {li:Array Bool} (hd:Dcl ops li):∀ {k:Nat} {need:List Nat},(∀ x∈need,li.getD x false=true)→∀ x∈NU l k need,li.getD x false=true
  | 0,_,hn,x,hx=>hn x hx
  | k + 1,need,hn,x,hx=>by
    simp only [NU,aI] at hx
    split at hx
    · rename_i o hm ho
      rw [aai,List.contains_iff_mem] at hm
      have hk:=hn k hm
      refine tJ hl hd (fun y hy=>?_) x hx
      rw [bC,List.mem_append] at hy
      rcases hy with hy | hy
      · obtain ⟨o',ho',rfl⟩:=EE hl ho
        simp only [bH,if_true,List.mem_map,List.mem_filter,Array.mem_toList_iff] at hy
        obtain ⟨e,⟨he,hb⟩,rfl⟩:=hy
        exact hd k o' ho' hk e he hb
      · exact hn y hy
    · exact tJ hl hd hn x hx
theorem Ad (hl:l=ops.toList.map (bH P ops true)) {i j:Nat} (h:sQ i (ups l j)=true):Aft ops i j:=by
  intro li hd hr
  rw [aai,List.contains_iff_mem] at h
  unfold ups at h
  rw [aI] at h
  split at h
  · rename_i o ho
    obtain ⟨o',ho',rfl⟩:=EE hl ho
    refine tJ hl hd (fun x hx=>?_) i h
    simp only [bH,if_true,List.mem_map,List.mem_filter,Array.mem_toList_iff] at hx
    obtain ⟨e,⟨he,hb⟩,rfl⟩:=hx
    obtain ⟨_,o2,ho2,hall⟩:=mem_ready.1 hr
    rw [ho'] at ho2
    injection ho2 with ho2
    subst ho2
    exact hall e he hb
  · cases h
theorem zo (hl:l=ops.toList.map (bH P ops true)) {j:Nat} {u:List Nat} (hu:u=ups l j):∀ {k:Nat} {os:List AOp},frGo l j u k os=true→∀ (i:Nat) (o:AOp),os[i]?=some o→rdK o.op=true→k + i≠j→Aft ops (k + i) j∨Aft ops j (k + i)
 | _,[],_,i,o,ho,_,_=>by simp at ho
 | k,o1::os,h,i,o,ho,hr,hne=>by
  simp only [frGo,Bool.and_eq_true,Bool.or_eq_true] at h
  cases i with
  | zero =>
   simp at ho
   subst ho
   rcases h.1 with ((h1 | h1) | h1) | h1
   ·exact absurd (Nat.eq_of_beq_eq_true h1) hne
   ·rw [hr] at h1;cases h1
   ·rw [hu] at h1;exact .inl (Ad hl h1)
   ·exact .inr (Ad hl h1)
  | succ i =>
   have:=zo hl hu h.2 i o (by simpa using ho) hr (by omega)
   rwa [show k + 1 + i=k + (i + 1) by omega] at this
theorem Nr (hl:l=ops.toList.map (bH P ops true)) {i j:Nat} {o:AOp} (hi:l[i]?=some o) (hr:rdK o.op=true) (hne:j≠i) (h:frB l j=true):Aft ops i j∨Aft ops j i:=by
 have:=zo hl rfl h i o hi hr (by omega)
 rwa [Nat.zero_add] at this
theorem CQ {u:Option AV} {H H2:List aj} {v:AV} (h:mvS arS (aC P) (okO u H) v):mvS arS (aC P) (okO u H2) v:=by
 cases u with
 | none=>exact h
 | some u=>exact h
theorem EW {x y:AV} {H H2:List aj} {b:Bool} {v:AV} (h:mvS arS (aC P) (zY x y H fun c=>.ok (.bool (b == c)) H) v):mvS arS (aC P) (zY x y H2 fun c=>.ok (.bool (b == c)) H2) v:=by
 unfold zY Hl at h ⊢
 cases x <;> cases y <;> exact h
theorem Gn {op:BinOp} {x y:AV} {H H2:List aj} {v:AV} (h:mvS arS (aC P) (uw arS op x y H) v):mvS arS (aC P) (uw arS op x y H2) v:=by
  unfold uw at h ⊢
  cases x <;> cases y <;> first | exact False.elim h | skip
  · cases op <;> simp only at h ⊢ <;> first
      | exact h
      | (split at h
         · rename_i hk;rw [if_pos hk];exact h
         · exact h.elim)
  · cases op <;> exact h
theorem PT {op:BinOp} {tk:TK} {x y:AV} {H H2:List aj} {v:AV} (h:mvS arS (aC P) (Gl arS op tk x y H) v):mvS arS (aC P) (Gl arS op tk x y H2) v:=by
 unfold Gl at h ⊢
 split at h
 ·exact Gn h
 ·exact Gn h
 ·split at h
  ·cases he:eqF arS _ _ _ with
   | none=>rw [he] at h;exact h.elim
   | some b=>rw [he] at h;exact h
  ·cases he:eqF arS _ _ _ with
   | none=>rw [he] at h;exact h.elim
   | some b=>rw [he] at h;exact h
  ·exact h.elim
 ·rename_i h1 h2 h3
  split at h
  ·split at h
   ·first
     | exact h
     | (rename_i a b ea eb;simp only [ea,eb];exact h)
   ·exact h.elim
  ·split at h
   ·first
     | exact h
     | (rename_i a b ea eb;simp only [ea,eb];exact h)
   ·exact h.elim
  ·have e:(fun b=>Out.ok (AV.bool b) H)=fun c=>Out.ok (.bool (true == c)) H:=by funext c;cases c <;> rfl
   have e2:(fun b=>Out.ok (AV.bool b) H2)=fun c=>Out.ok (.bool (true == c)) H2:=by funext c;cases c <;> rfl
   rw [e] at h
   try simp only
   rw [e2]
   exact EW h
  ·have e:(fun b=>Out.ok (AV.bool !b) H)=fun c=>Out.ok (.bool (false == c)) H:=by funext c;cases c <;> rfl
   have e2:(fun b=>Out.ok (AV.bool !b) H2)=fun c=>Out.ok (.bool (false == c)) H2:=by funext c;cases c <;> rfl
   rw [e] at h
   try simp only
   rw [e2]
   exact EW h
  ·exact h.elim
theorem mvS_any {o:AO} {fr:List AV} {H H2:List aj} {v:AV} (hr:rdK o=false) (hm:mvK o=true) (h:mvS arS (aC P) (aH arS σr fr H o) v):mvS arS (aC P) (aH arS σr fr H2 o) v:=by
 cases o <;> first | (cases hr;done) | (cases hm;done) | skip
 case mv x=>exact h
 case pick c a b =>
  simp only [aH] at h ⊢
  cases hc:ev fr c <;> rw [hc] at h <;> first | exact False.elim h | skip
  ·rename_i b;cases b <;> exact h
  ·exact h
 case build z ps =>
  simp only [aH] at h ⊢
  split at h
  ·rename_i hz;rw [if_pos hz];exact CQ h
  ·exact h.elim
 case nilc mt x =>
  simp only [aH] at h ⊢
  cases hc:ev fr x <;> rw [hc] at h <;> first | exact h | exact False.elim h | skip
  rename_i f a b
  cases f <;> first | exact h | skip
  rename_i n
  simp only at h ⊢
  split at h
  ·rename_i hz;rw [if_pos hz];exact h
  ·exact h.elim
 case bin op k x y=>exact PT h
 case un op x =>
  simp only [aH] at h ⊢
  cases op <;> cases hc:ev fr x <;> rw [hc] at h <;> first | exact h | exact False.elim h
 case cvt k x =>
  simp only [aH] at h ⊢
  cases hc:ev fr x <;> rw [hc] at h <;> first | exact h | exact False.elim h
 case mki t x=>exact h
 case mkf f a b=>exact h
 case fad off x =>
  simp only [aH] at h ⊢
  cases hc:ev fr x <;> rw [hc] at h <;> first | exact h | exact False.elim h
 case fld off n x =>
  simp only [aH] at h ⊢
  cases hc:ev fr x <;> rw [hc] at h <;> first | exact CQ h | exact False.elim h
 case idxs x i =>
  simp only [aH] at h ⊢
  cases hc:ev fr x <;> rw [hc] at h <;> first | exact False.elim h | skip
  cases hd:ev fr i <;> rw [hd] at h <;> first | exact h | exact False.elim h
 case ext x i =>
  simp only [aH] at h ⊢
  cases hc:ev fr x <;> rw [hc] at h <;> first | exact CQ h | exact False.elim h
 case asrt t z ag ok x =>
  simp only [aH] at h ⊢
  cases hc:ev fr x <;> rw [hc] at h <;> first | exact False.elim h | skip
  rename_i t' u
  by_cases ht:t'=t
  ·simp only [if_pos ht] at h ⊢;exact h
  ·simp only [if_neg ht] at h;exact h.elim
 case call f args=>exact h
 case callv x args =>
  simp only [aH] at h ⊢
  cases hc:ev fr x <;> rw [hc] at h <;> first | exact False.elim h | skip
  rename_i f a b
  cases f <;> first | exact h | exact False.elim h
 case mnmx mx x y =>
  simp only [aH] at h ⊢
  cases hc:ev fr x <;> rw [hc] at h <;> first | exact False.elim h | skip
  cases hd:ev fr y <;> rw [hd] at h <;> first | exact False.elim h | skip
  rename_i k a k' b
  by_cases ht:k=k'
  ·simp only [if_pos ht] at h ⊢;exact h
  ·simp only [if_neg ht] at h;exact h.elim
 case addc x y z =>
  simp only [aH] at h ⊢
  split at h
  ·first
    | exact h
    | (rename_i e1 e2 e3;rw [e1,e2,e3];exact h)
  ·exact h.elim
 case mx4 x y z u =>
  simp only [aH] at h ⊢
  split at h
  ·first
    | exact h
    | (rename_i e1 e2 e3 e4;rw [e1,e2,e3,e4];exact h)
  ·exact h.elim
theorem aZ.done (hr:kF listed 0 l=[]) (h:Fin fr H):aZ P l bs Fin n listed fr H:=fun ops hl hdc=>by
 have:=(ready_nil hl).2 hr
 cases n with
 | zero=>exact ⟨this,h⟩
 | succ n=>exact ⟨fun _=>h,fun i hi=>by rw [this] at hi;cases hi⟩
theorem aZ.known (hFin:∀ fr H t b,fr[t]?=some (.sb b)→Fin (fr.set t (.bool b)) H→Fin fr H) {t:Nat} {b:Bool} (hb:fr[t]?=some (.sb b)) (h:aZ P l bs Fin n listed (fr.set t (.bool b)) H):aZ P l bs Fin n listed fr H :=
 fun ops hl hdc=>sV.known hFin _ _ _ _ t b hb (h ops hl hdc)
theorem aZ.mv {i:Nat} {o:AOp} {v:AV} (hi:l[i]?=some o) (hr:i∈kF listed 0 l) (hf:lV o i listed 0 l=true) (hk:bz bs H H)
    (h:(gOk (aV o.looks 0 fr) o.guard true∧mvK o.op=true∧mvS arS (aC P) (aH arS σr (aV o.looks 0 fr) (gK bs H) o.op) v)∨(gOk (aV o.looks 0 fr) o.guard false∧v=.tup []))
    (hn:aZ P l bs Fin n (listed.set i true) (bG fr o.dst v) H):aZ P l bs Fin (n + 1) listed fr H:=fun ops hl hdc=>by
  obtain ⟨o',ho',rfl⟩:=EE hl hi
  have hcase:MvA P ops o' v fr∨rdK (bH P ops true o').op=true:=by
    rcases h with ⟨h1,h2,h3⟩ | ⟨h1,h2⟩
    · cases hrd:rdK (bH P ops true o').op with
      | true=>exact .inr rfl
      | false=>exact .inl fun H2=>pX (σr:=σr) (.inl ⟨h1,Hq (HB:=[]) (fun id b hb _=>by simp [aX] at hb) h2 (mvS_any hrd h2 h3)⟩)
    · exact .inl fun H2=>pX (σr:=σr) (.inr ⟨h1,h2.symm,rfl⟩)
  refine sV.first ho' n _ fr H hdc (JA hl hf) ((jr hl).2 hr) (hcase.imp id fun hrd=>⟨fun j hji hj=>Nr hl hi hrd hji hj,hk,fun H2 hk2=>?_⟩) hk (v:=v) ?_
  · refine pX (σr:=σr) ?_
    rcases h with ⟨h1,h2,h3⟩ | ⟨h1,h2⟩
    · exact .inl ⟨h1,Hq (wR hk2) h2 h3⟩
    · exact .inr ⟨h1,h2.symm,rfl⟩
  · have:=hn ops hl (by have:=hdc.set ((jr hl).2 hr);rwa [List.setIfInBounds_toArray] at this)
    rw [List.setIfInBounds_toArray]
    exact this
theorem aZ.allL (hne:kF listed 0 l≠[])
    (h:∀ i∈kF listed 0 l,∀ o,l[i]?=some o→(gOk (aV o.looks 0 fr) o.guard true∧sat arS P H (aH arS σr (aV o.looks 0 fr) H o.op) fun v H'=>((frB l i=true∧bz bs H' H')∨bz bs H H')∧aZ P l bs Fin n (listed.set i true) (bG fr o.dst v) H') ∨
      (gOk (aV o.looks 0 fr) o.guard false∧bz bs H H∧aZ P l bs Fin n (listed.set i true) (bG fr o.dst (.tup [])) H)):aZ P l bs Fin (n + 1) listed fr H:=fun ops hl hdc=>by
  refine ⟨fun h0=>absurd ((ready_nil hl).1 h0) hne,fun i hi o' ho'=>?_⟩
  have h1:=h i ((jr hl).1 hi) _ (OE hl ho')
  have h2:StepT P ops o' (aV (bH P ops true o').looks 0 fr) H fun v H'=>((frB l i=true∧bz bs H' H')∨bz bs H H')∧aZ P l bs Fin n (listed.set i true) (bG fr o'.dst v) H':=pX (σr:=σr) (h1.imp id fun ⟨a,b,c⟩=>⟨a,.inr b,c⟩)
  exact h2.mono fun v H' ⟨g1,g2⟩=>⟨g1,by have:=g2 ops hl (by have:=hdc.set hi;rwa [List.setIfInBounds_toArray] at this);simpa using this⟩
theorem sat.mono' {K K':AV→List aj→Prop} (hm:∀ v H',K v H'→K' v H'):∀ {o:Out},sat arS P H o K→sat arS P H o K'
 | .ok _ _,h=>hm _ _ h
 | .need _ _,h=>⟨h.1,sat.mono' hm h.2⟩
 | .ask _ _,h=>h.elim fun r hr=>⟨r,hr.1,sat.mono' hm hr.2⟩
 | .br _ _,h=>by simp only [sat] at h ⊢;exact sat.mono' hm h
 | .nilq _ _ _,h=>⟨fun hb=>hm _ _ (h.1 hb),hm _ _ h.2⟩
 | .call _ _,h=>aC.mono h fun r H' hr=>hm _ _ hr
 | .bad,h=>h
theorem aZ.all (hne:kF listed 0 l≠[])
  (h:∀ i∈kF listed 0 l,∀ o,l[i]?=some o→(gOk (aV o.looks 0 fr) o.guard true∧sat arS P H (aH arS σr (aV o.looks 0 fr) H o.op) fun v H'=>bz bs H H'∧aZ P l bs Fin n (listed.set i true) (bG fr o.dst v) H') ∨
   (gOk (aV o.looks 0 fr) o.guard false∧bz bs H H∧aZ P l bs Fin n (listed.set i true) (bG fr o.dst (.tup [])) H)):aZ P l bs Fin (n + 1) listed fr H :=
 aZ.allL (σr:=σr) hne fun i hi o ho=>(h i hi o ho).imp (fun ⟨a,b⟩=>⟨a,sat.mono' (fun v H' ⟨c,d⟩=>⟨.inr c,d⟩) b⟩) id
end
section
variable (A:Ar) (σr:dG) (C:FuncId→List AV→List aj→(AV→List aj→Prop)→Prop) (Fin:List AV→List aj→Prop) (Dr:Nat→List Bool→List AV→List aj→Prop) (l:List AOp) (bs:List Bool)
def Ak (fr:List AV):List Nat→Option (Nat × Bool)
 | []=>none
 | i::is=>match aX l i with
  | some o=>match gst fr o.guard with
   | .sym t b _=>some (t,b)
   | _=>Ak fr is
  | none=>Ak fr is
def gZ (listed:List Bool) (fr:List AV) (HB:List aj):List Nat→Option (Nat × AOp × Option Out)
 | []=>none
 | i::is=>match aX l i with
  | some o=>if lV o i listed 0 l=true then
    match gst (aV o.looks 0 fr) o.guard with
    | .no=>some (i,o,none)
    | .yes=>if mvK o.op=true then
      match aH A σr (aV o.looks 0 fr) HB o.op with
      | .bad=>gZ listed fr HB is
      | out=>some (i,o,some out)
     else gZ listed fr HB is
    | _=>gZ listed fr HB is
   else gZ listed fr HB is
  | none=>gZ listed fr HB is
def isCallO:AO→Bool
 | .call .. | .callv .. | .inv ..=>true
 | _=>false
def rW (l:List AOp):List Nat→List Nat
 | []=>[]
 | i::is=>match aX l i with
  | some o=>match isCallO o.op with
   | true=>rW l is
   | false=>i::rW l is
  | none=>rW l is
theorem mD (l:List AOp) {i:Nat}:∀ {rs:List Nat},i∈rW l rs→i∈rs
 | [],h=>h
 | j::rs,h=>by
  unfold rW at h
  split at h
  ·split at h
   ·exact List.mem_cons_of_mem _ (mD l h)
   ·rcases List.mem_cons.1 h with h | h
    ·rw [h];exact List.mem_cons_self ..
    ·exact List.mem_cons_of_mem _ (mD l h)
  ·exact List.mem_cons_of_mem _ (mD l h)
def iE (qf:List Nat) (l:List AOp):List Nat→List Nat
 | []=>[]
 | i::is=>match aX l i with
  | some o=>match o.op with
   | .call f _=>match sQ f qf with
    | true=>i::iE qf l is
    | false=>iE qf l is
   | _=>iE qf l is
  | none=>iE qf l is
theorem sZ (qf:List Nat) (l:List AOp) {i:Nat}:∀ {rs:List Nat},i∈iE qf l rs→i∈rs
 | [],h=>h
 | j::rs,h=>by
  have tail:i∈iE qf l rs→i∈j::rs:=fun h=>List.mem_cons_of_mem _ (sZ qf l h)
  unfold iE at h
  split at h
  ·split at h
   ·split at h
    ·rcases List.mem_cons.1 h with h | h
     ·rw [h];exact List.mem_cons_self ..
     ·exact tail h
    ·exact tail h
   ·exact tail h
  ·exact tail h
def GR (qf:List Nat) (l:List AOp) (listed:List Bool) (fr:List AV) (HB:List aj) (rs:List Nat):Option (Nat × AOp × Option Out) :=
 match gZ A σr l listed fr HB (rW l rs) with
 | some x=>some x
 | none=>match rs with
  | [_]=>none
  | _=>match gZ A σr l listed fr HB (iE qf l rs) with
   | some x=>some x
   | none=>match rs with
    | [_,_]=>none
    | _=>gZ A σr l listed fr HB rs
def mvG:Out→(AV→Prop)→(AV→Prop)→Prop
 | .ok v _,K,_=>K v
 | .need p (.ok v _),K,_=>A.nd p∧K v
 | .need p o,K,K'=>A.nd p∧mvG o K' K'
 | .ask p k,_,K'=>∃ r,p r∧mvG (k r) K' K'
 | .br b k,_,K'=>mvG (k b) K' K'
 | .nilq ..,_,_=>False
 | .call f args,_,K'=>∃ v,(gm (fF args)=true∧C f (fF args) [] fun r H'=>sym r=v∧H'=[])∧K' v
 | .bad,_,_=>False
def Io (fr:List AV) (H:List aj) (cont:Nat→AOp→AV→List aj→Prop) (stop:Nat→AOp→AV→List aj→Prop):List Nat→Prop
 | []=>True
 | i::is=>(match aX l i with
  | some o=>match gst (aV o.looks 0 fr) o.guard with
   | .no=>bz bs H H∧cont i o (.tup []) H
   | .yes=>match aH A σr (aV o.looks 0 fr) H o.op with
    | .ok v H'=>bz bs H H'∧cont i o v H'
    | .need p (.ok v H')=>A.nd p∧bz bs H H'∧cont i o v H'
    | out=>uH A C H out fun v H'=>bz bs H H'∧stop i o v H'
   | _=>False
  | none=>False)∧Io fr H cont stop is
def kM (qf:List Nat):Nat→List Bool→List AV→List aj→Prop
 | 0,listed,fr,H=>match kF listed 0 l with
  | []=>Fin fr H
  | _=>False
 | n + 1,listed,fr,H=>match kF listed 0 l with
  | []=>Fin fr H
  | rs=>match Ak l fr rs with
   | some (t,b)=>(b=true→Dr (n + 1) listed (bM fr t (.bool true)) H)∧(b=false→Dr (n + 1) listed (bM fr t (.bool false)) H)
   | none=>match GR A σr qf l listed fr (gK bs H) rs with
    | some (i,o,none)=>kM qf n (bM listed i true) (bG fr o.dst (.tup [])) H
    | some (i,o,some out)=>mvG A C out (fun v=>kM qf n (bM listed i true) (bG fr o.dst v) H) fun v=>Dr n (bM listed i true) (bG fr o.dst v) H
    | none=>Io A σr C l bs fr H (fun i o v H'=>kM qf n (bM listed i true) (bG fr o.dst v) H') (fun i o v H'=>Dr n (bM listed i true) (bG fr o.dst v) H') rs
end
section
variable {P:Program} {l:List AOp} {bs:List Bool} {Fin:List AV→List aj→Prop}
theorem MX {o:Out}:∀ {K K':AV→Prop},mvG arS (aC P) o K K'→∃ v,mvS arS (aC P) o v∧(K v∨K' v):=by
 induction o with
 | ok v H=>intro K K' h;exact ⟨v,rfl,.inl h⟩
 | need p o ih =>
  intro K K' h
  cases o with
  | ok v H=>exact ⟨v,⟨h.1,rfl⟩,.inl h.2⟩
  | need p' o'=>obtain ⟨v,h1,h2⟩:=ih h.2;exact ⟨v,⟨h.1,h1⟩,.inr (h2.elim id id)⟩
  | ask p' k'=>obtain ⟨v,h1,h2⟩:=ih h.2;exact ⟨v,⟨h.1,h1⟩,.inr (h2.elim id id)⟩
  | br b' k'=>obtain ⟨v,h1,h2⟩:=ih h.2;exact ⟨v,⟨h.1,h1⟩,.inr (h2.elim id id)⟩
  | nilq=>exact h.2.elim
  | call f args=>obtain ⟨v,h1,h2⟩:=ih h.2;exact ⟨v,⟨h.1,h1⟩,.inr (h2.elim id id)⟩
  | bad=>exact h.2.elim
 | ask p k ih =>
  intro K K' h
  obtain ⟨r,h1,h2⟩:=h
  obtain ⟨v,g1,g2⟩:=ih r h2
  exact ⟨v,⟨r,h1,g1⟩,.inr (g2.elim id id)⟩
 | br b k ih =>
  intro K K' h
  obtain ⟨v,g1,g2⟩:=ih b h
  exact ⟨v,g1,.inr (g2.elim id id)⟩
 | nilq=>intro K K' h;exact h.elim
 | call f args =>
  intro K K' h
  obtain ⟨v,h1,h2⟩:=h
  exact ⟨v,h1,.inr h2⟩
 | bad=>intro K K' h;exact h.elim
theorem jF {listed:List Bool} {fr:List AV} {HB:List aj}:∀ {rs:List Nat} {i:Nat} {o:AOp} {out:Option Out},gZ arS σr l listed fr HB rs=some (i,o,out) →
  i∈rs∧l[i]?=some o∧lV o i listed 0 l=true∧((out=none∧gOk (aV o.looks 0 fr) o.guard false)∨(gOk (aV o.looks 0 fr) o.guard true∧mvK o.op=true∧out=some (aH arS σr (aV o.looks 0 fr) HB o.op)))
 | [],i,o,out,h=>by simp [gZ] at h
 | j::is,i,o,out,h=>by
  have tail:gZ arS σr l listed fr HB is=some (i,o,out)→i∈j::is∧l[i]?=some o∧lV o i listed 0 l=true∧((out=none∧gOk (aV o.looks 0 fr) o.guard false)∨(gOk (aV o.looks 0 fr) o.guard true∧mvK o.op=true∧out=some (aH arS σr (aV o.looks 0 fr) HB o.op))) :=
   fun h=>by
    obtain ⟨h1,h2⟩:=jF h
    exact ⟨List.mem_cons_of_mem _ h1,h2⟩
  simp only [gZ] at h
  split at h
  ·rename_i o' ho'
   rw [aI] at ho'
   split at h
   ·rename_i hf
    split at h
    ·rename_i hg
     injection h with h
     injection h with h1 h
     injection h with h2 h3
     subst h1 h2 h3
     exact ⟨by simp,ho',hf,.inl ⟨rfl,mM hg⟩⟩
    ·rename_i hg
     split at h
     ·rename_i hk
      split at h
      ·exact tail h
      ·injection h with h
       injection h with h1 h
       injection h with h2 h3
       subst h1 h2 h3
       exact ⟨by simp,ho',hf,.inr ⟨je hg,hk,rfl⟩⟩
     ·exact tail h
    ·exact tail h
   ·exact tail h
  ·exact tail h
theorem uM {listed:List Bool} {fr:List AV} {HB:List aj} {rs:List Nat} {i:Nat} {o:AOp} {out:Option Out} {qf:List Nat} (h:GR arS σr qf l listed fr HB rs=some (i,o,out)) :
  i∈rs∧l[i]?=some o∧lV o i listed 0 l=true∧((out=none∧gOk (aV o.looks 0 fr) o.guard false)∨(gOk (aV o.looks 0 fr) o.guard true∧mvK o.op=true∧out=some (aH arS σr (aV o.looks 0 fr) HB o.op))):=by
 unfold GR at h
 split at h
 ·rename_i x hq
  rw [h] at hq
  obtain ⟨h1,h2⟩:=jF hq
  exact ⟨mD l h1,h2⟩
 ·split at h
  ·cases h
  ·split at h
   ·rename_i x hq
    rw [h] at hq
    obtain ⟨h1,h2⟩:=jF hq
    exact ⟨sZ qf l h1,h2⟩
   ·split at h
    ·cases h
    ·exact jF h
theorem pW {fr:List AV}:∀ {rs:List Nat} {t:Nat} {b:Bool},Ak l fr rs=some (t,b)→ev fr (.t t)=.sb b
 | [],t,b,h=>by simp [Ak] at h
 | j::is,t,b,h=>by
  simp only [Ak] at h
  split at h
  ·split at h
   ·rename_i hg
    injection h with h
    injection h with h1 h2
    subst h1 h2
    exact (Dc hg).1
   ·exact pW h
  ·exact pW h
theorem zL {fr:List AV} {H:List aj} {cont stop:Nat→AOp→AV→List aj→Prop}:∀ {rs:List Nat},Io arS σr (aC P) l bs fr H cont stop rs→∀ i∈rs,∀ o,l[i]?=some o →
  (gOk (aV o.looks 0 fr) o.guard true∧sat arS P H (aH arS σr (aV o.looks 0 fr) H o.op) fun v H'=>bz bs H H'∧(cont i o v H'∨stop i o v H')) ∨
   (gOk (aV o.looks 0 fr) o.guard false∧bz bs H H∧(cont i o (.tup []) H∨stop i o (.tup []) H))
 | [],_,i,hi,_,_=>by cases hi
 | j::is,h,i,hi,o,ho=>by
  simp only [Io] at h
  rcases List.mem_cons.1 hi with rfl | hi
  ·have h1:=h.1
   rw [aI,ho] at h1
   simp only at h1
   split at h1
   ·rename_i hg
    exact .inr ⟨mM hg,h1.1,.inl h1.2⟩
   ·rename_i hg
    refine .inl ⟨je hg,?_⟩
    split at h1
    ·rename_i v H' hx
     rw [hx]
     exact ⟨h1.1,.inl h1.2⟩
    ·rename_i p v H' hx
     rw [hx]
     exact ⟨h1.1,h1.2.1,.inl h1.2.2⟩
    ·have:∀ {o:Out} {K K':AV→List aj→Prop},(∀ v H',K v H'→K' v H')→sat arS P H o K→sat arS P H o K':=by
      intro o
      induction o with
      | ok v H=>intro K K' hm h;exact hm _ _ h
      | need p o ih=>intro K K' hm h;exact ⟨h.1,ih hm h.2⟩
      | ask p k ih=>intro K K' hm h;obtain ⟨r,h1,h2⟩:=h;exact ⟨r,h1,ih r hm h2⟩
      | br b k ih=>intro K K' hm h;exact ih b hm h
      | nilq neg n H=>intro K K' hm h;exact ⟨fun hb=>hm _ _ (h.1 hb),hm _ _ h.2⟩
      | call f args=>intro K K' hm h;exact aC.mono h fun r H'=>hm _ _
      | bad=>intro K K' hm h;exact h
     exact this (fun v H' ⟨g1,g2⟩=>⟨g1,.inr g2⟩) (iY h1)
   ·exact h1.elim
  ·exact zL h.2 i hi o ho
theorem iJ:∀ {bs:List Bool} {A B:List aj},bz bs A B→bz bs B B:=by
 intro bs
 induction bs with
 | nil=>intro A B _;trivial
 | cons x bs ih =>
  intro A B h
  cases x <;> cases A <;> cases B <;> first | exact h.elim | skip
  ·exact ih (A:=_) h
  ·exact ⟨rfl,ih h.2⟩
theorem mG {qf:List Nat} (hFin:∀ fr H t b,fr[t]?=some (.sb b)→Fin (fr.set t (.bool b)) H→Fin fr H):∀ (n:Nat) (listed:List Bool) (fr:List AV) (H:List aj),bz bs H H →
  kM arS σr (aC P) Fin (aZ P l bs Fin) l bs qf n listed fr H→aZ P l bs Fin n listed fr H:=by
 have evGet:∀ {fr:List AV} {t:Nat} {b:Bool},ev fr (.t t)=.sb b→fr[t]?=some (.sb b):=by
  intro fr t b h
  simp only [ev,aI] at h
  cases hx:fr[t]? with
  | none=>rw [hx] at h;simp at h
  | some c=>rw [hx] at h;simp at h;rw [h]
 intro n
 induction n with
 | zero =>
  intro listed fr H hk h
  simp only [kM] at h
  split at h
  ·rename_i hr;exact aZ.done hr h
  ·exact h.elim
 | succ n ih =>
  intro listed fr H hk h
  simp only [kM] at h
  split at h
  ·rename_i hr;exact aZ.done hr h
  ·rename_i hne
   have hne':kF listed 0 l≠[]:=fun e=>hne e
   split at h
   ·rename_i t b hs
    have hsy:=evGet (pW hs)
    rw [bg,bg] at h
    cases b
    ·exact aZ.known hFin hsy (h.2 rfl)
    ·exact aZ.known hFin hsy (h.1 rfl)
   ·split at h
    ·rename_i i o hq
     obtain ⟨q1,q2,q3,q4⟩:=uM hq
     rw [bg] at h
     refine aZ.mv (σr:=σr) q2 q1 q3 hk (v:=.tup []) ?_ (ih _ _ _ hk h)
     rcases q4 with ⟨_,q4⟩ | ⟨_,_,q4⟩
     ·exact .inr ⟨q4,rfl⟩
     ·cases q4
    ·rename_i i o out hq
     obtain ⟨q1,q2,q3,q4⟩:=uM hq
     rw [bg] at h
     obtain ⟨v,g1,g2⟩:=MX h
     refine aZ.mv (σr:=σr) q2 q1 q3 hk (v:=v) ?_ ?_
     ·rcases q4 with ⟨q4,_⟩ | ⟨q4,q5,q6⟩
      ·cases q4
      ·injection q6 with q6
       subst q6
       exact .inl ⟨q4,q5,g1⟩
     ·rcases g2 with g2 | g2
      ·exact ih _ _ _ hk g2
      ·exact g2
    ·refine aZ.all (σr:=σr) hne' fun i hi o ho=>?_
     rcases zL h i hi o ho with ⟨g1,g2⟩ | ⟨g1,g2,g3⟩
     ·refine .inl ⟨g1,?_⟩
      have:∀ {o:Out} {K K':AV→List aj→Prop},(∀ v H',K v H'→K' v H')→sat arS P H o K→sat arS P H o K':=by
       intro o
       induction o with
       | ok v H=>intro K K' hm h;exact hm _ _ h
       | need p o ih=>intro K K' hm h;exact ⟨h.1,ih hm h.2⟩
       | ask p k ih=>intro K K' hm h;obtain ⟨r,h1,h2⟩:=h;exact ⟨r,h1,ih r hm h2⟩
       | br b k ih=>intro K K' hm h;exact ih b hm h
       | nilq neg n H=>intro K K' hm h;exact ⟨fun hb=>hm _ _ (h.1 hb),hm _ _ h.2⟩
       | call f args=>intro K K' hm h;exact aC.mono h fun r H'=>hm _ _
       | bad=>intro K K' hm h;exact h
      refine this (fun v H' ⟨e1,e2⟩=>⟨e1,?_⟩) g2
      rw [bg] at e2
      rcases e2 with e2 | e2
      ·exact ih _ _ _ (iJ e1) e2
      ·exact e2
     ·refine .inr ⟨g1,g2,?_⟩
      rw [bg] at g3
      rcases g3 with g3 | g3
      ·exact ih _ _ _ hk g3
      ·exact g3
theorem dB:∀ (bs:List Bool) (H:List aj),bs.length≤H.length→bz bs H H
 | [],_,_=>trivial
 | true::bs,x::H,h=>⟨rfl,dB bs H (by simpa using h)⟩
 | false::bs,x::H,h=>dB bs H (by simpa using h)
 | true::bs,[],h=>by simp at h
 | false::bs,[],h=>by simp at h
end
section
variable {P:Program} {fn:Func} {tab:List Node} {H0:List aj} {R:AV→List aj→Prop} {K:List bf} {fr:List AV} {H:List aj}
theorem Run.jP {t:Nat} {b:Bool} (hb:fr[t]?=some (.sb b)) (h:Run P fn tab H0 R K (fr.set t (.bool b)) H):Run P fn tab H0 R K fr H:=by
 refine Run.known (t:=t) (b:=b) ?_ (by rw [bg];exact h)
 simp only [ev,aI,hb,Option.getD_some]
theorem aZ.go (σr:dG) {l:List AOp} {bs:List Bool} {n:Nat} {listed:List Bool} (hbs:bs.length≤H.length)
  (h:∀ A C Fin Dr,A=arS→C=aC P→Fin=Run P fn tab H0 R K→Dr=aZ P l bs (Run P fn tab H0 R K)→kM A σr C Fin Dr l bs [] n listed fr H):aZ P l bs (Run P fn tab H0 R K) n listed fr H :=
 mG (fun fr H t b=>Run.jP) _ _ _ _ (dB bs H hbs) (h _ _ _ _ rfl rfl rfl rfl)
end
end Go.Ab

namespace Go.Ab
open Go
set_option linter.unusedVariables false
set_option linter.unusedSimpArgs false
theorem oh (H:List aj) (n id:Nat) (h:id < n):shape (H.take n) id=shape H id:=by
 simp [shape,List.getElem?_take,h]
theorem aK.trim {S:RS} {H:List aj} {w:World} (h:aK S H w) (n:Nat) (hb:∀ b∈H.take n,b.blw n):aK S (H.take n) w:=by
 have hget:∀ {id b},(H.take n)[id]?=some b→id < n∧H[id]?=some b:=fun {id b} hi=>by
  rw [List.getElem?_take] at hi
  split at hi
  ·rename_i hlt;exact ⟨hlt,hi⟩
  ·cases hi
 refine ⟨h.os,h.tape,h.output,h.size,h.prot,h.fro,fun id b hi=>?_,fun i j b b' B c c' hi hj=>h.inj i j b b' B c c' (hget hi).2 (hget hj).2⟩
 refine (h.blk id b (hget hi).2).loc (n:=n) (fun id hid=>⟨oh _ _ _ hid,rfl⟩) (fun _ _ _ h=>h) (hb b (List.mem_of_getElem? hi)) (fun _=>rfl) (fun B c _ _ _ ho=>⟨rfl,ho⟩)
theorem Ext.trim {S0 S:RS} {H0 H:List aj} (e:Ext S0 (shape H0) S (shape H)) (n:Nat) (hn:H0.length≤n):Ext S0 (shape H0) S (shape (H.take n)):=by
 have key:∀ id s,shape H0 id=some s→shape (H.take n) id=shape H id:=fun id s hs=>oh _ _ _ (Nat.lt_of_lt_of_le (jH hs) hn)
 exact ⟨e.W0,e.D,e.fro,e.fnw,fun id n hn=>by rw [key id _ hn];exact e.box id n hn,fun id hn=>by rw [key id _ hn];exact e.mp id hn,fun id m sz hn=>by rw [key id _ hn];exact e.row id m sz hn⟩
def kJ.Gi (n:Nat):List (List AV)→Bool
 | []=>true
 | r::rs=>nV n r && kJ.Gi n rs
def kJ (n:Nat):List aj→Bool
 | []=>true
 | .box _ cs::H=>nV n cs && kJ n H
 | .arr _ _ rows::H=>kJ.Gi n rows && kJ n H
 | .mpb _::H=>kJ n H
 | .dead _::H=>kJ n H
theorem Gh {n:Nat}:∀ {rows:List (List AV)},kJ.Gi n rows=true→∀ r∈rows,nV n r=true
 | [],_,r,hr=>by cases hr
 | r0::rs,h,r,hr=>by
  simp only [kJ.Gi,Bool.and_eq_true] at h
  rcases List.mem_cons.1 hr with rfl | hr
  ·exact h.1
  ·exact Gh h.2 r hr
theorem Gf {n:Nat} {cs:List AV} (h:nV n cs=true):∀ c∈cs,blw n c=true:=fun c hc=>by
 obtain ⟨i,hi⟩:=List.getElem?_of_mem hc
 exact Gg h hi
theorem vO {n:Nat}:∀ {H:List aj},kJ n H=true→∀ b∈H,b.blw n
 | [],_,b,hb=>by cases hb
 | b0::H,h,b,hb=>by
  have h0:b0.blw n∧kJ n H=true:=by
   cases b0 with
   | box e cs=>simp only [kJ,Bool.and_eq_true] at h;exact ⟨Gf h.1,h.2⟩
   | arr e sz rows =>
    simp only [kJ,Bool.and_eq_true] at h
    refine ⟨fun c hc=>?_,h.2⟩
    obtain ⟨r,hr,hcr⟩:=List.mem_flatten.1 hc
    exact Gf (Gh h.1 r hr) c hcr
   | mpb s=>exact ⟨fun c hc=>(List.not_mem_nil hc).elim,h⟩
   | dead s=>exact ⟨fun c hc=>(List.not_mem_nil hc).elim,h⟩
  rcases List.mem_cons.1 hb with rfl | hb
  ·exact h0.1
  ·exact vO h0.2 b hb
theorem zH {n:Nat}:∀ {rows:List (List AV)},aB rows=true→kJ.Gi n rows=true
 | [],_=>rfl
 | r::rs,h=>by
  simp only [aB,Bool.and_eq_true] at h
  simp only [kJ.Gi,Bool.and_eq_true]
  exact ⟨iO n r h.1,zH h.2⟩
section
variable {P:Program} {fn:Func} {tab:List Node} {H0:List aj} {R:AV→List aj→Prop} {K:List bf} {fr:List AV} {H:List aj}
theorem Run.trim (n:Nat) (H':List aj) (hH:H.take n=H') (hn:H0.length≤n) (hf:nV n fr=true) (hb:kJ n H'=true) (h:Run P fn tab H0 R K fr H'):Run P fn tab H0 R K fr H:=by
 subst hH
 intro S0 S w a b k cs he hd hr hw hk
 exact h S0 S w a b k cs (he.trim n hn) hd (jJ (n:=n) (fun id hid=>⟨oh _ _ _ hid,rfl⟩) (fun _ _ _ h=>h) fr _ hf hr) (hw.trim n (vO hb)) hk
theorem aC.trim {f:FuncId} {args:List AV} {R':AV→List aj→Prop} (h:aC P f args H R) (hm:∀ r H',R r H'→blw H.length r=true∧kJ H.length (H'.take H.length)=true∧R' r (H'.take H.length)):aC P f args H R' :=
 ⟨h.1,fun S w vs hw hr=>(h.2 S w vs hw hr).mono fun e w' ⟨u,he,S',v,H',h1,h2,h3,h4⟩=>by
  obtain ⟨g1,g2,g3⟩:=hm v H' h4
  exact ⟨u,he,S',v,_,h1.trim _ (Nat.le_refl _),h2.trim _ (vO g2),rU (n:=H.length) (fun id hid=>⟨oh _ _ _ hid,rfl⟩) (fun _ _ _ h=>h) v _ g1 h3,g3⟩⟩
end
mutual
def fzV (id:Nat) (b:aj):AV→AV
 | .sl id' t o n=>match Nat.beq id' id,b with
  | true,.arr _ sz rows=>.inl sz ((rows.drop o).take n)
  | true,_=>.bn
  | false,_=>.sl id' t o n
 | .ptr id' t r o=>match Nat.beq id' id,b with
  | true,.arr _ _ rows=>match rows[r]? with
   | some row=>.iptr (row.drop o)
   | none=>.bn
  | true,_=>.bn
  | false,_=>.ptr id' t r o
 | .aA id' o=>match Nat.beq id' id,b with
  | true,.box _ cs=>.iptr (cs.drop o)
  | true,_=>.bn
  | false,_=>.aA id' o
 | .map id'=>match Nat.beq id' id with
  | true=>.bn
  | false=>.map id'
 | .fn f x y=>.fn f (lX id b x) (lX id b y)
 | .iface t x=>.iface t (fzV id b x)
 | .agg cs=>.agg (lX id b cs)
 | .tup cs=>.tup (lX id b cs)
 | c=>c
def lX (id:Nat) (b:aj):List AV→List AV
 | []=>[]
 | c::cs=>fzV id b c::lX id b cs
end
mutual
def fzO (id m:Nat):AV→Prop
 | .sl id' t _ _=>match Nat.beq id' id with
  | true=>t=m
  | false=>True
 | .ptr id' t _ _=>match Nat.beq id' id with
  | true=>t=m
  | false=>True
 | .fn _ x y=>aak id m x∧aak id m y
 | .iface _ x=>fzO id m x
 | .agg cs=>aak id m cs
 | .tup cs=>aak id m cs
 | _=>True
def aak (id m:Nat):List AV→Prop
 | []=>True
 | c::cs=>fzO id m c∧aak id m cs
end
def fzB (id:Nat) (b:aj):aj→aj
 | .box e cs=>.box e (lX id b cs)
 | .arr e sz rows=>.arr e sz (rows.map (lX id b))
 | .mpb rows=>.mpb rows
 | .dead s=>.dead s
def H9 (id m:Nat):aj→Prop
 | .box _ cs=>aak id m cs
 | .arr _ _ rows=>∀ r∈rows,aak id m r
 | .mpb _=>True
 | .dead _=>True
def jI:aj→Nat
 | .arr _ _ rows=>rows.length
 | _=>0
def aj.pure:aj→Bool
 | .box _ cs=>gm cs
 | .arr _ _ rows=>aB rows
 | .mpb _=>false
 | .dead _=>false
theorem vk (id:Nat) (b:aj):∀ cs:List AV,lX id b cs=cs.map (fzV id b)
 | []=>rfl
 | c::cs=>by rw [lX,vk id b cs];rfl
theorem FI {id m:Nat}:∀ {cs:List AV},aak id m cs→∀ c∈cs,fzO id m c
 | [],_,c,hc=>by cases hc
 | c0::cs,h,c,hc=>by
  rcases List.mem_cons.1 hc with rfl | hc
  ·exact h.1
  ·exact FI h.2 c hc
section
variable {S:RS} {H:List aj} {w:World} {id:Nat} {b:aj} {T':Sh}
mutual
theorem x8 (h:aK S H w) (hb:H[id]?=some b) (hp:b.pure=true) (hT:∀ j,j≠id→T' j=shape H j):∀ (c:AV) (v:Value),fzO id (jI b) c→rel S c (shape H) v→rel (S.frz w (Nat.beq · id) H) (fzV id b c) T' v
 | .int ..,_,_,h=>h
 | .bool ..,_,_,h=>h
 | .sb ..,_,_,h=>h
 | .str ..,_,_,h=>h
 | .nilp,_,_,h=>h
 | .nils,_,_,h=>h
 | .nilf,_,_,h=>h
 | .nili,_,_,h=>h
 | .nilm,_,_,h=>h
 | .bn,_,_,_=>trivial
 | .iptr cs,v,_,hr=>by
  simp only [fzV,rel] at hr ⊢
  obtain ⟨B,o,h1,h2⟩:=hr
  exact ⟨B,o,h1,Pg cs B o (kS h _) h2⟩
 | .inl sz rows,v,_,hr=>by
  simp only [fzV,rel] at hr ⊢
  obtain ⟨a,c,h1,h2,h3⟩:=hr
  refine ⟨a,c,h1,h2,?_⟩
  rcases h3 with h3 | ⟨B,o,h3,h4⟩
  ·exact .inl h3
  ·exact .inr ⟨B,o,h3,Jt rows B o sz (kS h _) h4⟩
 | .map id',v,_,hr=>by
  simp only [fzV]
  cases hid:Nat.beq id' id with
  | true=>simp [rel]
  | false =>
   have hne:id'≠id:=fun e=>by subst e;simp at hid
   simp only [rel] at hr ⊢
   rw [hT id' hne]
   exact hr
 | .aA id' o,v,_,hr=>by
  simp only [fzV]
  cases hid:Nat.beq id' id with
  | false =>
   have hne:id'≠id:=fun e=>by subst e;simp at hid
   simp only [rel] at hr ⊢
   rw [hT id' hne]
   exact hr
  | true =>
   have:=Nat.eq_of_beq_eq_true hid
   subst this
   cases b with
   | arr=>simp [rel]
   | dead=>simp [rel]
   | mpb=>simp [rel]
   | box e cs =>
    simp only [rel] at hr
    obtain ⟨n,B,c,h1,h2,h3⟩:=hr
    obtain ⟨B',c',arr,g1,g2,g3,g4,g5⟩:=h.blk id' _ hb
    rw [h2] at g1
    injection g1 with g1
    injection g1 with g1 g1'
    subst g1
    simp only [rel]
    refine ⟨B,o,h3,dO fun j c0 hj=>?_⟩
    rw [List.getElem?_drop] at hj
    obtain ⟨u,n1,n2⟩:=bJ g3 hj
    refine ⟨u,?_,lZ c0 _ _ u (kS h _) (oJ c0 u (qy hp hj) n2),g4 u (List.mem_of_getElem? n1)⟩
    rw [nP (F:=(Nat.beq · id')) (by simp) hb rfl h2]
    simp only [World.cell?,g2]
    simpa using n1
 | .ptr id' t r o,v,ho,hr=>by
  simp only [fzV]
  cases hid:Nat.beq id' id with
  | false =>
   have hne:id'≠id:=fun e=>by subst e;simp at hid
   simp only [rel] at hr ⊢
   rw [hT id' hne]
   exact hr
  | true =>
   simp only [fzO,hid] at ho
   have:=Nat.eq_of_beq_eq_true hid
   subst this
   cases b with
   | box=>simp [rel]
   | dead=>simp [rel]
   | mpb=>simp [rel]
   | arr e sz rows =>
    simp only
    cases hrow:rows[r]? with
    | none=>simp [rel]
    | some row =>
     simp only [jI] at ho
     simp only [rel] at hr
     obtain ⟨m,sz',B,o',h1,h2,g2,h3⟩:=hr
     rw [bD hb] at h1
     simp only [aj.shp,Option.some.injEq,Shp.row.injEq] at h1
     obtain ⟨rfl,rfl⟩:=h1
     obtain ⟨c,g1,rfl⟩:=h3 ho
     obtain ⟨_,hblk⟩:=h.blk id' _ hb
     rw [g1] at hblk
     obtain ⟨arr,k1,k2,k3,k4,k5⟩:=hblk
     obtain ⟨m1,m2⟩:=k4 r row hrow
     simp only [rel]
     refine ⟨B,_,g2,dO fun j c0 hj=>?_⟩
     rw [List.getElem?_drop] at hj
     obtain ⟨u,n1,n2,n3⟩:=m2 _ _ hj
     refine ⟨u,?_,lZ c0 _ _ u (kS h _) (oJ c0 u (qy (rV hp hrow) hj) n2),n3⟩
     rw [nP (F:=(Nat.beq · id')) (by simp) hb rfl g1]
     simp only [World.cell?,k1]
     simpa [Nat.add_assoc] using n1
 | .sl id' t o n,v,ho,hr=>by
  simp only [fzV]
  cases hid:Nat.beq id' id with
  | false =>
   have hne:id'≠id:=fun e=>by subst e;simp at hid
   simp only [rel] at hr ⊢
   rw [hT id' hne]
   exact hr
  | true =>
   simp only [fzO,hid] at ho
   have:=Nat.eq_of_beq_eq_true hid
   subst this
   cases b with
   | box=>simp [rel]
   | dead=>simp [rel]
   | mpb=>simp [rel]
   | arr e sz rows =>
    simp only [jI] at ho
    simp only [rel] at hr
    obtain ⟨m,sz',h1,h2,_,h3⟩:=hr
    rw [bD hb] at h1
    simp only [aj.shp,Option.some.injEq,Shp.row.injEq] at h1
    obtain ⟨rfl,rfl⟩:=h1
    obtain ⟨hon,h3⟩:=h3 ho
    obtain ⟨_,hblk⟩:=h.blk id' _ hb
    cases hρ:S.ρ id' with
    | none =>
     rw [hρ] at h3
     obtain ⟨rfl,a,rfl⟩:=h3
     simp only [rel]
     exact ⟨a,0,by simp,by simp,.inl (by simp)⟩
    | some p =>
     obtain ⟨B,c⟩:=p
     rw [hρ] at h3 hblk
     obtain ⟨a,h4,h5⟩:=h3
     obtain ⟨arr,k1,k2,k3,k4,k5⟩:=hblk
     have hlen:((rows.drop o).take n).length=n:=by simp;omega
     simp only [rel]
     refine ⟨a,c - o,by rw [hlen];exact h4,by rw [hlen];omega,?_⟩
     rcases Nat.eq_zero_or_pos n with hn | hn
     ·exact .inl (List.eq_nil_of_length_eq_zero (by rw [hlen];exact hn))
     ·refine .inr ⟨B,o * sz,h5 (by omega),iw fun i r hi=>?_⟩
      rw [List.getElem?_take] at hi
      split at hi
      ·rename_i hin
       rw [List.getElem?_drop] at hi
       obtain ⟨m1,m2⟩:=k4 _ _ hi
       refine ⟨m1,dO fun j c0 hj=>?_⟩
       obtain ⟨u,n1,n2,n3⟩:=m2 _ _ hj
       refine ⟨u,?_,lZ c0 _ _ u (kS h _) (oJ c0 u (qy (rV hp hi) hj) n2),n3⟩
       rw [nP (F:=(Nat.beq · id')) (by simp) hb rfl hρ]
       simp only [World.cell?,k1]
       rw [← n1,Nat.add_mul]
       simp
      ·cases hi
 | .fn f x y,v,ho,hr=>by
  simp only [fzV,rel] at hr ⊢
  simp only [fzO] at ho
  obtain ⟨a,b',h1,h2,h3⟩:=hr
  exact ⟨a,b',h1,jR h hb hp hT x _ ho.1 h2,jR h hb hp hT y _ ho.2 h3⟩
 | .iface t x,v,ho,hr=>by
  simp only [fzV,rel] at hr ⊢
  simp only [fzO] at ho
  obtain ⟨u,h1,h2⟩:=hr
  exact ⟨u,h1,x8 h hb hp hT x u ho h2⟩
 | .agg cs,v,ho,hr=>by
  simp only [fzV,rel] at hr ⊢
  simp only [fzO] at ho
  obtain ⟨us,h1,h2,h3⟩:=hr
  exact ⟨us,h1,jR h hb hp hT cs _ ho h2,h3⟩
 | .tup cs,v,ho,hr=>by
  simp only [fzV,rel] at hr ⊢
  simp only [fzO] at ho
  obtain ⟨us,h1,h2⟩:=hr
  exact ⟨us,h1,jR h hb hp hT cs _ ho h2⟩
theorem jR (h:aK S H w) (hb:H[id]?=some b) (hp:b.pure=true) (hT:∀ j,j≠id→T' j=shape H j):∀ (cs:List AV) (vs:List Value),aak id (jI b) cs→aG S cs (shape H) vs→aG (S.frz w (Nat.beq · id) H) (lX id b cs) T' vs
 | [],_,_,h=>h
 | c::cs,vs,ho,hr=>by
  simp only [lX,aG] at hr ⊢
  simp only [aak] at ho
  obtain ⟨v,vs',h1,h2,h3⟩:=hr
  exact ⟨v,vs',h1,x8 h hb hp hT c v ho.1 h2,jR h hb hp hT cs vs' ho.2 h3⟩
end
def fzH (id:Nat) (b:aj) (H:List aj):List aj:=(H.set id (.dead .mp)).map (fzB id b)
theorem fzB_shp (id:Nat) (b x:aj):(fzB id b x).shp=x.shp:=by
 cases x <;> simp [fzB,aj.shp,vk]
theorem Dj {j:Nat} {x:aj} (hj:(fzH id b H)[j]?=some x):(j=id∧x=.dead .mp)∨(j≠id∧∃ y,H[j]?=some y∧x=fzB id b y):=by
 unfold fzH at hj
 rw [List.getElem?_map] at hj
 obtain ⟨y,hy,rfl⟩:=Option.map_eq_some_iff.1 hj
 rcases mF hy with ⟨h1,h2⟩ | ⟨h1,h2⟩
 ·exact .inr ⟨h1,y,h2,rfl⟩
 ·subst h2;exact .inl ⟨h1,rfl⟩
theorem nO (j:Nat) (hj:j≠id):shape (fzH id b H) j=shape H j:=by
 unfold fzH shape
 rw [List.getElem?_map,List.getElem?_set_ne (fun e=>hj e.symm)]
 cases H[j]? with
 | none=>rfl
 | some x=>simp [fzB_shp]
theorem aK.fz (h:aK S H w) (hb:H[id]?=some b) (hp:b.pure=true) (hO:∀ x∈H,H9 id (jI b) x):aK (S.frz w (Nat.beq · id) H) (fzH id b H) w:=by
 have hl:b.live=true:=by cases b <;> first | rfl | cases hp
 have hT:∀ j,j≠id→shape (fzH id b H) j=shape H j:=fun j hj=>nO j hj
 have hOwn:∀ {j y B c},j≠id→H[j]?=some y→y.live=true→S.ρ j=some (B,c)→Own S B→Own (S.frz w (Nat.beq · id) H) B:=fun {j y B c} hj hy hyl hρ ho=>by
  refine ⟨ho.1,fun o=>?_⟩
  simp only [RS.frz]
  rw [if_neg ?_]
  ·exact ho.2 o
  ·rintro ⟨id',c',b',hF,hb',hl',hρ'⟩
   have:=Nat.eq_of_beq_eq_true hF
   subst this
   exact hj (h.inj j id' y b' B c c' hy hb' hyl hl' hρ hρ')
 refine ⟨h.os,h.tape,h.output,h.size,h.prot,fun B o v hv=>?_,fun j x hx=>?_,fun i j x y B c c' hi hj li lj hBi hBj=>?_⟩
 ·simp only [RS.frz] at hv
  split at hv
  ·exact hv
  ·exact h.fro B o v hv
 ·rcases Dj hx with ⟨rfl,rfl⟩ | ⟨hne,y,hy,rfl⟩
  ·trivial
  ·have hrel:=h.blk j y hy
   have hok:=hO y (List.mem_of_getElem? hy)
   cases y with
   | box e cs =>
    obtain ⟨B,c,arr,h1,h2,h3,h4,h5⟩:=hrel
    exact ⟨B,c,arr,h1,h2,jR h hb hp hT cs _ hok h3,h4,hOwn hne hy rfl h1 h5⟩
   | arr e sz rows =>
    obtain ⟨h0,hrel⟩:=hrel
    refine ⟨h0,?_⟩
    show match S.ρ j with
     | some (B,c)=>_
     | none=>_
    cases hρ:S.ρ j with
    | none=>rw [hρ] at hrel;simp only;rw [hrel];rfl
    | some p =>
     obtain ⟨B,c⟩:=p
     rw [hρ] at hrel
     obtain ⟨arr,h2,h3,h4,h5,h6⟩:=hrel
     refine ⟨arr,h2,h3,by simpa using h4,fun i r hi=>?_,hOwn hne hy rfl hρ h6⟩
     rw [List.getElem?_map] at hi
     obtain ⟨r0,hr0,rfl⟩:=Option.map_eq_some_iff.1 hi
     obtain ⟨g1,g2⟩:=h5 i r0 hr0
     have hokr:=hok r0 (List.mem_of_getElem? hr0)
     refine ⟨by rw [vk,List.length_map];exact g1,fun k c0 hk=>?_⟩
     rw [vk,List.getElem?_map] at hk
     obtain ⟨c1,hc1,rfl⟩:=Option.map_eq_some_iff.1 hk
     obtain ⟨u,m1,m2,m3⟩:=g2 k c1 hc1
     exact ⟨u,m1,x8 h hb hp hT c1 u (FI hokr c1 (List.mem_of_getElem? hc1)) m2,m3⟩
   | mpb rows =>
    obtain ⟨B,c,es,clock,h1,h2,h3,h5⟩:=hrel
    exact ⟨B,c,es,clock,h1,h2,jV (kS h _).zero h3,hOwn hne hy rfl h1 h5⟩
   | dead s=>trivial
 ·rcases Dj hi with ⟨_,rfl⟩ | ⟨_,x',hx',rfl⟩
  ·cases li
  ·rcases Dj hj with ⟨_,rfl⟩ | ⟨_,y',hy',rfl⟩
   ·cases lj
   ·exact h.inj i j x' y' B c c' hx' hy' (by cases x' <;> first | rfl | exact li) (by cases y' <;> first | rfl | exact lj) hBi hBj
theorem Ext.fz {S0:RS} {H0:List aj} (e:Ext S0 (shape H0) S (shape H)) (h:aK S H w) (hid:H0.length≤id):Ext S0 (shape H0) (S.frz w (Nat.beq · id) H) (shape (fzH id b H)):=by
 have key:∀ j s,shape H0 j=some s→shape (fzH id b H) j=shape H j:=fun j s hs=>nO j (by have:=jH hs;omega)
 refine ⟨e.W0,e.D,fun B o v hv=>Jw h _ B o v (e.fro B o v hv),fun B o v hv=>?_,fun j n hn=>by rw [key j _ hn];exact e.box j n hn,fun j hn=>by rw [key j _ hn];exact e.mp j hn,fun j m sz hn=>by rw [key j _ hn];exact e.row j m sz hn⟩
 rcases Jy h _ B o v hv with h1 | h1
 ·exact e.fnw B o v h1
 ·exact .inr (by rw [e.D] at h1;exact h1)
end
section
variable {P:Program} {fn:Func} {tab:List Node} {H0:List aj} {R:AV→List aj→Prop} {K:List bf} {fr:List AV} {H:List aj}
theorem Run.freeze (id:Nat) (b:aj) (fr':List AV) (H':List aj) (hb:H[id]?=some b) (hid:H0.length≤id) (hp:b.pure=true) (hf:aak id (jI b) fr) (hO:∀ x∈H,H9 id (jI b) x) (hfr:lX id b fr=fr') (hH:fzH id b H=H')
  (h:Run P fn tab H0 R K fr' H'):Run P fn tab H0 R K fr H:=by
 subst hfr hH
 intro S0 S w a bb k cs he hd hr hw hk
 exact h S0 _ w a bb k cs (he.fz hw hid) hd (jR hw hb hp (fun j hj=>nO j hj) fr _ hf hr) (hw.fz hb hp hO) hk
theorem aC.freeze {f:FuncId} {args:List AV} {R':AV→List aj→Prop} (h:aC P f args H R)
  (hm:∀ r H',R r H'→∃ id b,H'[id]?=some b∧H.length≤id∧b.pure=true∧fzO id (jI b) r∧(∀ x∈H',H9 id (jI b) x)∧R' (fzV id b r) (fzH id b H')):aC P f args H R' :=
 ⟨h.1,fun S w vs hw hr=>(h.2 S w vs hw hr).mono fun e w' ⟨u,he,S',v,H',h1,h2,h3,h4⟩=>by
  obtain ⟨id,b,g1,g2,g3,g4,g5,g6⟩:=hm v H' h4
  exact ⟨u,he,_,_,_,h1.fz h2 g2,h2.fz g1 g3 g5,x8 h2 g1 g3 (fun j hj=>nO j hj) v u g4 h3,g6⟩⟩
end
end Go.Ab

namespace Go.Ab
set_option linter.unusedVariables false
set_option linter.unusedSimpArgs false
open Go
section
variable {P:Program} {fn:Func} {tab:List Node} {H0:List aj} {R:AV→List aj→Prop} {K:List bf} {fr:List AV} {H:List aj} {rs:List RV}
end
section
variable {A:Ar}
theorem imI (hA:A=arS) {b c:Bool} {q:Prop} (h:b=c→q):A.im b c q:=by subst hA;exact h
theorem ndI (hA:A=arS) {p:Cnd} (h:p.holds):A.nd p:=by subst hA;exact h
end
section
variable {A:Ar}
end
theorem wrap_i64 {x:Int} (h1:-9223372036854775808≤x) (h2:x≤9223372036854775807):IntKind.i64.wrap x=x:=by
 simp only [IntKind.wrap]
 have hb:IntKind.i64.bits=64:=rfl
 simp [IntKind.signed,hb]
 omega
theorem Nv {α:Type} (l:List α) (f:α→List AV) (j k:Nat):cellS (l.map f) j k=((l[j]?).bind fun x=>(f x)[k]?).getD .bn:=by
 unfold cellS
 rw [List.getElem?_map]
 cases l[j]? <;> rfl
end Go.Ab
namespace Go.Ab
set_option linter.unusedVariables false
set_option linter.unusedSimpArgs false
open Go
def pJ (n:Nat):List AV→List AV→Prop
 | [],[]=>True
 | x::xs,y::ys=>(x=y∨y=.bn∨(x=.nils∧y=.sl n 0 0 0))∧pJ n xs ys
 | _,_=>False
def wH (n:Nat):List aj→List aj→Prop
 | [],[]=>True
 | x::xs,y::ys=>(x=y∨∃ e cs cs',x=.box e cs∧y=.box e cs'∧pJ n cs cs')∧wH n xs ys
 | _,_=>False
theorem kY {S:RS} {T:Sh} {n sz:Nat} (hT:T n=some (.row 0 sz)) (hρ:S.ρ n=none):∀ {xs ys:List AV} {vs:List Value},pJ n xs ys→aG S xs T vs→aG S ys T vs
 | [],[],vs,_,h=>h
 | x::xs,y::ys,vs,hs,h=>by
  simp only [pJ] at hs
  simp only [aG] at h ⊢
  obtain ⟨v,vs',h1,h2,h3⟩:=h
  refine ⟨v,vs',h1,?_,kY hT hρ hs.2 h3⟩
  rcases hs.1 with rfl | rfl | ⟨rfl,rfl⟩
  ·exact h2
  ·simp [rel]
  ·simp only [rel] at h2 ⊢
   obtain ⟨a,rfl⟩:=h2
   exact ⟨0,sz,hT,Nat.le_refl _,rfl,fun _=>⟨Nat.le_refl _,by rw [hρ];exact ⟨trivial,a,rfl⟩⟩⟩
 | [],_::_,_,h,_=>h.elim
 | _::_,[],_,h,_=>h.elim
theorem xx {n:Nat}:∀ {xs ys:List AV},pJ n xs ys→ys.length=xs.length
 | [],[],_=>rfl
 | x::xs,y::ys,h=>by simp [xx h.2]
 | [],_::_,h=>h.elim
 | _::_,[],h=>h.elim
theorem yN {n:Nat}:∀ {H H':List aj},wH n H H'→∀ (i:Nat) (y:aj),H'[i]?=some y→∃ x,H[i]?=some x∧(x=y∨∃ e cs cs',x=.box e cs∧y=.box e cs'∧pJ n cs cs')
 | [],[],_,i,y,h=>by simp at h
 | x::xs,y::ys,h,0,z,hz=>by simp at hz;subst hz;exact ⟨x,by simp,h.1⟩
 | x::xs,y::ys,h,i + 1,z,hz=>by
  obtain ⟨x',h1,h2⟩:=yN h.2 i z (by simpa using hz)
  exact ⟨x',by simpa using h1,h2⟩
 | [],_::_,h,_,_,_=>h.elim
 | _::_,[],h,_,_,_=>h.elim
theorem qB {n:Nat}:∀ {H H':List aj},wH n H H'→H'.length=H.length
 | [],[],_=>rfl
 | x::xs,y::ys,h=>by simp [qB h.2]
 | [],_::_,h=>h.elim
 | _::_,[],h=>h.elim
theorem tY {n:Nat}:∀ {H H':List aj},wH n H H'→∀ i:Nat,(H'[i]?).map aj.shp=(H[i]?).map aj.shp
 | [],[],_,i=>rfl
 | x::xs,y::ys,h,0=>by
  rcases h.1 with rfl | ⟨e,cs,cs',rfl,rfl,hl⟩
  ·rfl
  ·simp [aj.shp,xx hl]
 | x::xs,y::ys,h,i + 1=>by simpa using tY h.2 i
 | [],_::_,h,_=>h.elim
 | _::_,[],h,_=>h.elim
section
variable {P:Program} {fn:Func} {tab:List Node} {H0:List aj} {R:AV→List aj→Prop} {K:List bf} {fr:List AV} {H:List aj}
theorem aK.swap {S:RS} {H H':List aj} {w:World} (h:aK S H w) (hs:∀ i:Nat,(H'[i]?).map aj.shp=(H[i]?).map aj.shp)
  (hb:∀ (i:Nat) (y:aj),H'[i]?=some y→∃ x,H[i]?=some x∧(x=y∨∃ e cs cs',x=.box e cs∧y=.box e cs'∧∀ vs,aG S cs (shape H) vs→aG S cs' (shape H) vs)):aK S H' w:=by
 have hsh:shape H'=shape H:=funext fun i=>hs i
 refine ⟨h.os,h.tape,h.output,h.size,h.prot,h.fro,fun i y hy=>?_,fun i j b b' B c c' hi hj li lj=>?_⟩
 ·obtain ⟨x,hx,hxy⟩:=hb i y hy
  have:=h.blk i x hx
  rw [hsh]
  rcases hxy with rfl | ⟨e,cs,cs',rfl,rfl,hr⟩
  ·exact this
  ·obtain ⟨B,c,arr,h1,h2,h3,h4,h5⟩:=this
   exact ⟨B,c,arr,h1,h2,hr _ h3,h4,h5⟩
 ·obtain ⟨x,hx,hxy⟩:=hb i b hi
  obtain ⟨x',hx',hxy'⟩:=hb j b' hj
  refine h.inj i j x x' B c c' hx hx' ?_ ?_
  ·rcases hxy with rfl | ⟨e,cs,cs',rfl,rfl,hr⟩
   ·exact li
   ·rfl
  ·rcases hxy' with rfl | ⟨e,cs,cs',rfl,rfl,hr⟩
   ·exact lj
   ·rfl
theorem Run.own (e sz:Nat) (h0:0 < sz) {fr':List AV} {H':List aj} (hf:pJ H.length fr fr') (hH:wH H.length H H') (h:Run P fn tab H0 R K fr' (H'++[.arr e sz []])):Run P fn tab H0 R K fr H:=by
 intro S0 S w a b k cs he hd hr hw hk
 obtain ⟨w1,e1⟩:=hw.vT e sz h0
 have hT:shape (H++[aj.arr e sz []]) H.length=some (.row 0 sz):=by rw [dH];rfl
 have hρ:(S.put H.length none).ρ H.length=none:=fK _ _ _
 have hl:=qB hH
 have hs:∀ i:Nat,((H'++[aj.arr e sz []])[i]?).map aj.shp=((H++[aj.arr e sz []])[i]?).map aj.shp:=fun i=>by
  rcases Nat.lt_or_ge i H.length with hi | hi
  ·rw [List.getElem?_append_left (by omega),List.getElem?_append_left hi]
   exact tY hH i
  ·rw [List.getElem?_append_right (by omega),List.getElem?_append_right hi,hl]
 have hsh:shape (H'++[aj.arr e sz []])=shape (H++[aj.arr e sz []]):=funext hs
 refine h S0 (S.put H.length none) w a b k cs (by rw [hsh];exact he.trans e1) hd (by rw [hsh];exact kY hT hρ hf (eP _ _ _ _ e1 hr)) (w1.swap hs fun i y hy=>?_) hk
 rcases dD hy with ⟨hi,hy⟩ | ⟨hi,rfl⟩
 ·obtain ⟨x,hx,hxy⟩:=yN hH i y hy
  refine ⟨x,by rw [List.getElem?_append_left (by omega)];exact hx,?_⟩
  rcases hxy with rfl | ⟨e',cs,cs',rfl,rfl,hc⟩
  ·exact .inl rfl
  ·exact .inr ⟨e',cs,cs',rfl,rfl,fun vs hv=>kY hT hρ hc hv⟩
 ·exact ⟨_,by rw [hi,hl];simp,.inl rfl⟩
theorem Om {S:RS} {T:Sh} {v:Value} (sz:Nat) (h:rel S .nils T v):rel S (.inl sz []) T v:=by
 simp only [rel] at h ⊢
 obtain ⟨a,rfl⟩:=h
 exact ⟨a,0,rfl,Nat.le_refl _,Or.inl trivial⟩
end
end Go.Ab
namespace Go.Ab
set_option linter.unusedVariables false
set_option linter.unusedSimpArgs false
open Go
theorem nc (n:Nat):@NatCast.natCast Int instNatCastInt n=(n:Int):=rfl
theorem nc2 (n:Nat):Int.ofNat n=(n:Int):=rfl
section
variable {P:Program} {fn:Func} {tab:List Node} {H0:List aj} {R:AV→List aj→Prop} {K:List bf} {fr:List AV} {H:List aj}
theorem aC.beside {f:FuncId} {args:List AV} {Q:AV→Prop} {Hp H1:List aj} (h:aC P f args Hp (fun r H=>Q r∧H=H1)) (hl:H1.length=Hp.length) (ha:nV Hp.length args=true) (hH:kJ Hp.length Hp=true) (rest:List aj) :
  aC P f args (Hp++rest) (fun r H=>Q r∧H=H1++rest) :=
 (h.frame (fun r H' h=>by rw [h.2,hl]) ha (vO hH) rest).mono fun r H' ⟨Hp',⟨h1,h2⟩,h3⟩=>⟨h1,by rw [h3,h2]⟩
end
end Go.Ab
namespace Go.Ab
set_option linter.unusedVariables false
set_option linter.unusedSimpArgs false
open Go
mutual
theorem Ju (id m:Nat) (b:aj):∀ (c:AV),blw id c=true→fzV id b c=c∧fzO id m c
 | .int ..,_=>⟨rfl,trivial⟩
 | .bool ..,_=>⟨rfl,trivial⟩
 | .sb ..,_=>⟨rfl,trivial⟩
 | .str ..,_=>⟨rfl,trivial⟩
 | .nilp,_=>⟨rfl,trivial⟩
 | .nils,_=>⟨rfl,trivial⟩
 | .nilf,_=>⟨rfl,trivial⟩
 | .nili,_=>⟨rfl,trivial⟩
 | .nilm,_=>⟨rfl,trivial⟩
 | .bn,_=>⟨rfl,trivial⟩
 | .iptr _,_=>⟨rfl,trivial⟩
 | .inl ..,_=>⟨rfl,trivial⟩
 | .ptr id' ..,h=>by
  simp only [blw] at h
  have h1:id' < id:=Nat.blt_eq.mp h
  have h2:Nat.beq id' id=false:=by
   cases hb:Nat.beq id' id
   ·rfl
   ·have:=Nat.eq_of_beq_eq_true hb;omega
  simp [fzV,fzO,h2]
 | .aA id' ..,h=>by
  simp only [blw] at h
  have h1:id' < id:=Nat.blt_eq.mp h
  have h2:Nat.beq id' id=false:=by
   cases hb:Nat.beq id' id
   ·rfl
   ·have:=Nat.eq_of_beq_eq_true hb;omega
  simp [fzV,fzO,h2]
 | .sl id' ..,h=>by
  simp only [blw] at h
  have h1:id' < id:=Nat.blt_eq.mp h
  have h2:Nat.beq id' id=false:=by
   cases hb:Nat.beq id' id
   ·rfl
   ·have:=Nat.eq_of_beq_eq_true hb;omega
  simp [fzV,fzO,h2]
 | .map id',h=>by
  simp only [blw] at h
  have h1:id' < id:=Nat.blt_eq.mp h
  have h2:Nat.beq id' id=false:=by
   cases hb:Nat.beq id' id
   ·rfl
   ·have:=Nat.eq_of_beq_eq_true hb;omega
  simp [fzV,fzO,h2]
 | .fn f x y,h=>by
  simp only [blw,Bool.and_eq_true] at h
  obtain ⟨h1,h2⟩:=lT id m b x h.1
  obtain ⟨h3,h4⟩:=lT id m b y h.2
  exact ⟨by simp only [fzV,h1,h3],h2,h4⟩
 | .iface _ x,h=>by
  simp only [blw] at h
  obtain ⟨h1,h2⟩:=Ju id m b x h
  exact ⟨by simp only [fzV,h1],h2⟩
 | .agg cs,h=>by
  simp only [blw] at h
  obtain ⟨h1,h2⟩:=lT id m b cs h
  exact ⟨by simp only [fzV,h1],h2⟩
 | .tup cs,h=>by
  simp only [blw] at h
  obtain ⟨h1,h2⟩:=lT id m b cs h
  exact ⟨by simp only [fzV,h1],h2⟩
theorem lT (id m:Nat) (b:aj):∀ (cs:List AV),nV id cs=true→lX id b cs=cs∧aak id m cs
 | [],_=>⟨rfl,trivial⟩
 | c::cs,h=>by
  simp only [nV,Bool.and_eq_true] at h
  obtain ⟨h1,h2⟩:=Ju id m b c h.1
  obtain ⟨h3,h4⟩:=lT id m b cs h.2
  exact ⟨by simp only [lX,h1,h3],h2,h4⟩
end
theorem Di (id m:Nat) (b:aj):∀ (rows:List (List AV)),kJ.Gi id rows=true→rows.map (lX id b)=rows∧∀ r∈rows,aak id m r
 | [],_=>⟨rfl,fun r hr=>by cases hr⟩
 | r::rs,h=>by
  simp only [kJ.Gi,Bool.and_eq_true] at h
  obtain ⟨h1,h2⟩:=lT id m b r h.1
  obtain ⟨h3,h4⟩:=Di id m b rs h.2
  refine ⟨by simp only [List.map_cons,h1,h3],fun r' hr=>?_⟩
  rcases List.mem_cons.1 hr with rfl | hr
  ·exact h2
  ·exact h4 r' hr
theorem Jv (id m:Nat) (b:aj):∀ (H:List aj),kJ id H=true→H.map (fzB id b)=H∧∀ x∈H,H9 id m x
 | [],_=>⟨rfl,fun x hx=>by cases hx⟩
 | x::H,h=>by
  have key:(fzB id b x=x∧H9 id m x)∧kJ id H=true:=by
   cases x with
   | box e cs =>
    simp only [kJ,Bool.and_eq_true] at h
    obtain ⟨h1,h2⟩:=lT id m b cs h.1
    exact ⟨⟨by simp only [fzB,h1],h2⟩,h.2⟩
   | arr e sz rows =>
    simp only [kJ,Bool.and_eq_true] at h
    obtain ⟨h1,h2⟩:=Di id m b rows h.1
    exact ⟨⟨by simp only [fzB,h1],h2⟩,h.2⟩
   | mpb s=>exact ⟨⟨rfl,trivial⟩,h⟩
   | dead s=>exact ⟨⟨rfl,trivial⟩,h⟩
  obtain ⟨h3,h4⟩:=Jv id m b H key.2
  refine ⟨by simp only [List.map_cons,key.1.1,h3],fun y hy=>?_⟩
  rcases List.mem_cons.1 hy with rfl | hy
  ·exact key.1.2
  ·exact h4 y hy
section
variable {P:Program} {H:List aj}
theorem aC.out {f:FuncId} {args:List AV} {e sz:Nat} {L:List (List AV)} {H1:List aj} {Q:Prop} (h:aC P f args H (fun r H'=>(∃ m,r=.sl H1.length m 0 m∧m=L.length)∧H'=H1++[.arr e sz L]∧Q)) (hl:H1.length=H.length) (hp:aB L=true) (hb:kJ H1.length H1=true) :
  aC P f args H (fun r H'=>r=.inl sz L∧H'=H1∧Q):=by
 obtain ⟨g1,g2⟩:=Jv H1.length L.length (.arr e sz L) H1 hb
 have hf:aC P f args H (fun r H'=>r=.inl sz L∧H'=H1++[.dead .mp]∧Q):=by
  refine h.freeze fun r H' ⟨⟨m,hr,hm⟩,hH,hQ⟩=>⟨H1.length,.arr e sz L,?_⟩
  subst hr hH
  refine ⟨by simp,by omega,hp,?_,fun x hx=>?_,?_,?_,hQ⟩
  ·simp [fzO,jI,hm]
  ·rcases List.mem_append.1 hx with hx | hx
   ·exact g2 x hx
   ·simp only [List.mem_singleton] at hx
    subst hx
    exact (Di H1.length L.length (.arr e sz L) L (zH hp)).2
  ·simp [fzV,hm]
  ·simp only [fzH]
   rw [List.set_append_right _ _ (Nat.le_refl _)]
   simp [g1,fzB]
 refine hf.trim fun r H' ⟨hr,hH,hQ⟩=>?_
 subst hr hH
 rw [← hl,List.take_left]
 exact ⟨rfl,hb,rfl,rfl,hQ⟩
end
end Go.Ab

namespace Go.Ab
set_option linter.unusedVariables false
set_option linter.unusedSimpArgs false
open Go Go.RowKit
def RS.start (w:World):RS:={ W0:=w,D:=fun k=>k < w.heap.size,ρ:=fun _=>none,φ:=fun B o=>w.cell? ⟨B,o,none⟩ }
theorem MK:shape []=noSh:=by funext id;simp [shape,noSh]
theorem MH (w:World):aK (RS.start w) [] w :=
 ⟨rfl,rfl,rfl,Nat.le_refl _,fun k hk=>⟨hk,rfl⟩,fun _ _ _ h=>h,fun id b h=>by simp at h,fun i j b b' B c c' hi=>by simp at hi⟩
theorem aC.law {P:Program} {f:FuncId} {args:List AV} {w:World} {vs:List Value} {b:Bool} (h:aC P f args [] (fun r _=>r=.bool b)) (hr:aG (RS.start w) args noSh vs) :
  Calls P f vs.toArray w fun e w'=>e=.returned (.bool b)∧Below w.heap.size w w' :=
 (h.2 (RS.start w) w vs (MH w) (by rw [MK];exact hr)).mono fun e w' ⟨u,he,S',v,H',h1,h2,h3,h4⟩=>by
  subst h4
  simp only [rel] at h3
  subst h3
  have hW:S'.W0=w:=h1.W0
  have hD:S'.D=fun k=>k < w.heap.size:=h1.D
  refine ⟨he,?_,?_,?_,?_,fun k hk=>?_⟩
  ·rw [h2.os,hW]
  ·rw [h2.tape,hW]
  ·rw [h2.output,hW]
  ·have:=h2.size;rw [hW] at this;exact this
  ·have:=(h2.prot k (by rw [hD];exact hk)).2
   rw [hW] at this
   exact this
end Go.Ab

namespace Go.Ab
open Go
set_option linter.unusedVariables false
set_option linter.unusedSimpArgs false
def lQ:List Nat→Nat→Nat→Option Nat
 | [],_,_=>none
 | x::xs,id,k=>match Nat.beq x id with
  | true=>some k
  | false=>lQ xs id (k + 1)
theorem qM:∀ {β:List Nat} {id k j:Nat},lQ β id k=some j→k≤j∧β[j - k]?=some id
 | [],_,_,_,h=>by simp [lQ] at h
 | x::xs,id,k,j,h=>by
  simp only [lQ] at h
  cases hb:Nat.beq x id with
  | true =>
   rw [hb] at h
   simp only [Option.some.injEq] at h
   subst h
   have:=Nat.eq_of_beq_eq_true hb
   subst this
   simp
  | false =>
   rw [hb] at h
   obtain ⟨h1,h2⟩:=qM h
   refine ⟨by omega,?_⟩
   rw [show j - k=(j - (k + 1)) + 1 by omega]
   simpa using h2
structure Cmp (τ:Nat→Option Nat) (S:RS) (T:Sh) (S':RS) (T':Sh):Prop where
 blk:∀ id j,τ id=some j→T' j=T id∧S'.ρ j=S.ρ id
 fro:∀ B o v,S.φ B o=some v→S'.φ B o=some v
theorem Cmp.noSh {τ:Nat→Option Nat} {S:RS} {T:Sh} {S':RS} {T':Sh} (h:Cmp τ S T S' T'):vX S Ab.noSh S' Ab.noSh :=
 ⟨h.fro,fun _ _ h=>(by cases h),fun _ h=>(by cases h),fun _ _ _ h=>(by cases h)⟩
def Imp (τ:Nat→Option Nat) (a a':AV):Prop:=∀ S T S' T' v,Cmp τ S T S' T'→rel S a T v→rel S' a' T' v
def eG (τ:Nat→Option Nat):List AV→List AV→Prop
 | [],[]=>True
 | x::xs,y::ys=>Imp τ x y∧eG τ xs ys
 | _,_=>False
theorem Imp.bn {τ:Nat→Option Nat} (a:AV):Imp τ a .bn:=fun _ _ _ _ _ _ _=>trivial
theorem eG.aG {τ:Nat→Option Nat} {S:RS} {T:Sh} {S':RS} {T':Sh} (hc:Cmp τ S T S' T'):∀ {xs ys:List AV} {vs:List Value},eG τ xs ys→aG S xs T vs→aG S' ys T' vs
 | [],[],vs,_,h=>h
 | x::xs,y::ys,vs,hi,h=>by
  simp only [Ab.aG] at h ⊢
  obtain ⟨v,vs',h1,h2,h3⟩:=h
  exact ⟨v,vs',h1,hi.1 _ _ _ _ _ hc h2,eG.aG hc hi.2 h3⟩
 | [],_::_,_,h,_=>h.elim
 | _::_,[],_,h,_=>h.elim
theorem eG.length {τ:Nat→Option Nat}:∀ {xs ys:List AV},eG τ xs ys→ys.length=xs.length
 | [],[],_=>rfl
 | x::xs,y::ys,h=>by simp [eG.length h.2]
 | [],_::_,h=>h.elim
 | _::_,[],h=>h.elim
mutual
def ren (τ:Nat→Option Nat):AV→AV
 | .ptr id t r o=>match τ id with
  | some j=>.ptr j t r o
  | none=>.bn
 | .aA id o=>match τ id with
  | some j=>.aA j o
  | none=>.bn
 | .sl id t o n=>match τ id with
  | some j=>.sl j t o n
  | none=>.bn
 | .map id=>match τ id with
  | some j=>.map j
  | none=>.bn
 | .fn f x y=>.fn f (sO τ x) (sO τ y)
 | .iface t x=>.iface t (ren τ x)
 | .agg cs=>.agg (sO τ cs)
 | .tup cs=>.tup (sO τ cs)
 | c=>c
def sO (τ:Nat→Option Nat):List AV→List AV
 | []=>[]
 | c::cs=>ren τ c::sO τ cs
end
mutual
theorem xW {τ:Nat→Option Nat} {S:RS} {T:Sh} {S':RS} {T':Sh} (hc:Cmp τ S T S' T'):∀ (c:AV) (v:Value),rel S c T v→rel S' (ren τ c) T' v
 | .int ..,_,h=>h
 | .bool ..,_,h=>h
 | .sb ..,_,h=>h
 | .str ..,_,h=>h
 | .nilp,_,h=>h
 | .nils,_,h=>h
 | .nilf,_,h=>h
 | .nili,_,h=>h
 | .nilm,_,h=>h
 | .bn,_,_=>trivial
 | .ptr id t r o,v,h=>by
  simp only [ren]
  cases hj:τ id with
  | none=>trivial
  | some j =>
   obtain ⟨h1,h2⟩:=hc.blk id j hj
   simp only [rel] at h ⊢
   rw [h1,h2];exact h
 | .aA id o,v,h=>by
  simp only [ren]
  cases hj:τ id with
  | none=>trivial
  | some j =>
   obtain ⟨h1,h2⟩:=hc.blk id j hj
   simp only [rel] at h ⊢
   rw [h1,h2];exact h
 | .sl id t o k,v,h=>by
  simp only [ren]
  cases hj:τ id with
  | none=>trivial
  | some j =>
   obtain ⟨h1,h2⟩:=hc.blk id j hj
   simp only [rel] at h ⊢
   rw [h1,h2];exact h
 | .map id,v,h=>by
  simp only [ren]
  cases hj:τ id with
  | none=>trivial
  | some j =>
   obtain ⟨h1,h2⟩:=hc.blk id j hj
   simp only [rel] at h ⊢
   rw [h1,h2];exact h
 | .iptr cs,v,h=>by
  simp only [ren,rel] at h ⊢
  obtain ⟨B,o,h1,h2⟩:=h
  exact ⟨B,o,h1,su cs B o hc.noSh h2⟩
 | .inl sz rows,v,h=>by
  simp only [ren,rel] at h ⊢
  obtain ⟨a,c,h1,h2,h3⟩:=h
  refine ⟨a,c,h1,h2,?_⟩
  rcases h3 with h3 | ⟨B,o,h3,h4⟩
  ·exact .inl h3
  ·exact .inr ⟨B,o,h3,qO rows B o sz hc.noSh h4⟩
 | .fn f fi ca,v,h=>by
  simp only [ren,rel] at h ⊢
  obtain ⟨a,b,h1,h2,h3⟩:=h
  exact ⟨a,b,h1,ny hc fi _ h2,ny hc ca _ h3⟩
 | .iface t x,v,h=>by
  simp only [ren,rel] at h ⊢
  obtain ⟨u,h1,h2⟩:=h
  exact ⟨u,h1,xW hc x u h2⟩
 | .agg cs,v,h=>by
  simp only [ren,rel] at h ⊢
  obtain ⟨us,h1,h2,h3⟩:=h
  exact ⟨us,h1,ny hc cs _ h2,h3⟩
 | .tup cs,v,h=>by
  simp only [ren,rel] at h ⊢
  obtain ⟨us,h1,h2⟩:=h
  exact ⟨us,h1,ny hc cs _ h2⟩
theorem ny {τ:Nat→Option Nat} {S:RS} {T:Sh} {S':RS} {T':Sh} (hc:Cmp τ S T S' T'):∀ (cs:List AV) (vs:List Value),aG S cs T vs→aG S' (sO τ cs) T' vs
 | [],_,h=>h
 | c::cs,vs,h=>by
  simp only [sO,Ab.aG] at h ⊢
  obtain ⟨v,vs',h1,h2,h3⟩:=h
  exact ⟨v,vs',h1,xW hc c v h2,ny hc cs vs' h3⟩
end
theorem Imp.ren {τ:Nat→Option Nat} (c:AV):Imp τ c (ren τ c):=fun _ _ _ _ v hc h=>xW hc c v h
theorem xu (τ:Nat→Option Nat):∀ cs:List AV,(sO τ cs).length=cs.length
 | []=>rfl
 | c::cs=>by simp [sO,xu τ cs]
theorem eG.sO {τ:Nat→Option Nat}:∀ (cs:List AV),eG τ cs (sO τ cs)
 | []=>trivial
 | c::cs=>⟨Imp.ren c,eG.sO cs⟩
theorem Oq {S:RS} {T:Sh} {c:AV} {v:Value} (hp:pur c=true) (h:rel S c T v):rel S c noSh v :=
 rU (n:=0) (T':=noSh) (fun _ h=>absurd h (Nat.not_lt_zero _)) (fun _ _ _ h=>h) c v (Dv 0 c hp) h
theorem Imp.pure {τ:Nat→Option Nat} {c:AV} (hp:pur c=true):Imp τ c c:=fun S T S' T' v hc h =>
 uK (dM c noSh noSh v hc.noSh (Oq hp h))
theorem yJ:∀ {cs:List AV},gm cs=true→∀ c∈cs,pur c=true
 | [],_,c,hc=>by cases hc
 | c0::cs,h,c,hc=>by
  simp only [gm,Bool.and_eq_true] at h
  rcases List.mem_cons.1 hc with rfl | hc
  ·exact h.1
  ·exact yJ h.2 c hc
theorem nC:∀ {rows:List (List AV)},aB rows=true→∀ r∈rows,gm r=true
 | [],_,r,hr=>by cases hr
 | r0::rs,h,r,hr=>by
  simp only [aB,Bool.and_eq_true] at h
  rcases List.mem_cons.1 hr with rfl | hr
  ·exact h.1
  ·exact nC h.2 r hr
def kW (τ:Nat→Option Nat):aj→aj→Prop
 | .box e cs,.box e' cs'=>e=e'∧eG τ cs cs'
 | .arr e sz rows,.arr e' sz' rows'=>e=e'∧sz=sz'∧rows=rows'∧aB rows=true
 | .dead s,.dead s'=>s=s'
 | .mpb rows,.mpb rows'=>rows=rows'
 | _,_=>False
theorem kW.shp {τ:Nat→Option Nat} {b b':aj} (h:kW τ b b'):b'.shp=b.shp:=by
 cases b <;> cases b' <;> simp only [kW] at h <;> try exact h.elim
 ·simp [aj.shp,h.2.length]
 ·obtain ⟨_,rfl,rfl,_⟩:=h;rfl
 ·rfl
 ·subst h;rfl
theorem kW.live {τ:Nat→Option Nat} {b b':aj} (h:kW τ b b'):b'.live=b.live:=by
 cases b <;> cases b' <;> simp only [kW] at h <;> first | exact h.elim | rfl
theorem kW.blk {τ:Nat→Option Nat} {S:RS} {T:Sh} {S':RS} {T':Sh} (hc:Cmp τ S T S' T') {b b':aj} (h:kW τ b b') {id j:Nat} {w:World} (hρ:S'.ρ j=S.ρ id) (ho:∀ B,Own S B→Own S' B) (hr:fV S T b id w):fV S' T' b' j w:=by
 cases b <;> cases b' <;> simp only [kW] at h <;> try exact h.elim
 ·obtain ⟨rfl,hi⟩:=h
  obtain ⟨B,c,arr,h1,h2,h3,h4,h5⟩:=hr
  exact ⟨B,c,arr,hρ.trans h1,h2,hi.aG hc h3,h4,ho B h5⟩
 ·obtain ⟨rfl,rfl,rfl,hp⟩:=h
  obtain ⟨h0,hr⟩:=hr
  refine ⟨h0,?_⟩
  rw [hρ]
  rename_i e sz rows
  cases hs:S.ρ id with
  | none=>rw [hs] at hr;exact hr
  | some p =>
   obtain ⟨B,c⟩:=p
   rw [hs] at hr
   obtain ⟨arr,h2,h3,h4,h5,h6⟩:=hr
   refine ⟨arr,h2,h3,h4,fun i r hi=>?_,ho B h6⟩
   obtain ⟨g1,g2⟩:=h5 i r hi
   refine ⟨g1,fun k c hk=>?_⟩
   obtain ⟨u,m1,m2,m3⟩:=g2 k c hk
   exact ⟨u,m1,Imp.pure (yJ (nC hp r (List.mem_of_getElem? hi)) c (List.mem_of_getElem? hk)) _ _ _ _ _ hc m2,m3⟩
 ·subst h
  obtain ⟨B,c,es,clock,h1,h2,h3,h5⟩:=hr
  exact ⟨B,c,es,clock,hρ.trans h1,h2,jV hc.noSh h3,ho B h5⟩
 ·trivial
def Vw (S0:RS) (H0:List aj) (w:World) (xs:List AV) (H:List aj) (vs:List Value):Prop :=
 ∃ S,Ext S0 (shape H0) S (shape H)∧aG S xs (shape H) vs∧aK S H w
def Ent (n:Nat) (xs:List AV) (H:List aj) (xs':List AV) (H':List aj):Prop :=
 ∀ S0 H0 w vs,H0.length=n→Vw S0 H0 w xs H vs→Vw S0 H0 w xs' H' vs
theorem Ent.refl (n:Nat) (xs:List AV) (H:List aj):Ent n xs H xs H:=fun _ _ _ _ _ h=>h
theorem Ent.trans {n:Nat} {xs xs' xs'':List AV} {H H' H'':List aj} (h:Ent n xs H xs' H') (k:Ent n xs' H' xs'' H''):Ent n xs H xs'' H'' :=
 fun S0 H0 w vs hn hv=>k S0 H0 w vs hn (h S0 H0 w vs hn hv)
theorem Run.ent {P:Program} {fn:Func} {tab:List Node} {H0:List aj} {R:AV→List aj→Prop} {K:List bf} {fr fr':List AV} {H H':List aj}
  (he:Ent H0.length fr H fr' H') (h:Run P fn tab H0 R K fr' H'):Run P fn tab H0 R K fr H:=by
 intro S0 S w a b k cs he' hd hr hw hk
 obtain ⟨S',g1,g2,g3⟩:=he S0 H0 w _ rfl ⟨S,he',hr,hw⟩
 exact h S0 S' w a b k cs g1 hd g2 g3 hk
theorem aC.ent {P:Program} {f:FuncId} {args:List AV} {H:List aj} {R:AV→List aj→Prop}
  (h:aC P f args H fun r H'=>∃ r' H'',Ent H.length [r] H' [r'] H''∧R r' H''):aC P f args H R :=
 ⟨h.1,fun S w vs hw hr=>(h.2 S w vs hw hr).mono fun e w' ⟨u,he,S',v,H',h1,h2,h3,r',H'',h4,h5⟩=>by
  obtain ⟨S'',g1,g2,g3⟩:=h4 S H w' [u] rfl ⟨S',h1,by simp only [aG];exact ⟨u,[],rfl,h3,rfl⟩,h2⟩
  simp only [aG] at g2
  obtain ⟨_,_,e1,g2,rfl⟩:=g2
  simp only [List.cons.injEq] at e1
  obtain ⟨rfl,_⟩:=e1
  exact ⟨u,he,S'',r',H'',g1,g3,g2,h5⟩⟩
theorem Ent.sub {n:Nat} {xs xs':List AV} {H:List aj} (h:eG some xs xs'):Ent n xs H xs' H :=
 fun S0 H0 w vs _ ⟨S,h1,h2,h3⟩=>⟨S,h1,h.aG ⟨fun id j hj=>by injection hj with hj;subst hj;exact ⟨rfl,rfl⟩,fun _ _ _ h=>h⟩ h2,h3⟩
theorem Ent.ren {n:Nat} {xs xs':List AV} {H H':List aj} (β:List Nat) (h0:n≤β.length) (hid:∀ j:Nat,j < n→β[j]?=some j) (hnd:∀ i j k:Nat,β[i]?=some k→β[j]?=some k→i=j)
  (hl:H'.length=β.length) (hb:∀ j id:Nat,β[j]?=some id→∃ b b',H[id]?=some b∧H'[j]?=some b'∧kW (fun i=>lQ β i 0) b b') (hx:eG (fun i=>lQ β i 0) xs xs'):Ent n xs H xs' H':=by
 intro S0 H0 w vs hn ⟨S,he,hr,hw⟩
 subst hn
 let S':RS:={ S with ρ:=fun j=>(β[j]?).bind S.ρ }
 have hβ:∀ {j id},β[j]?=some id→shape H' j=shape H id∧S'.ρ j=S.ρ id:=fun {j id} hj=>by
  obtain ⟨b,b',h1,h2,h3⟩:=hb j id hj
  refine ⟨?_,by simp [S',hj]⟩
  rw [bD h1,bD h2,h3.shp]
 have hc:Cmp (fun i=>lQ β i 0) S (shape H) S' (shape H'):=⟨fun id j hj=>by
  obtain ⟨_,h2⟩:=qM hj
  exact hβ (by simpa using h2),fun _ _ _ h=>h⟩
 have h0s:∀ {id s},shape H0 id=some s→shape H' id=shape H id∧S'.ρ id=S.ρ id:=fun {id s} hs=>hβ (hid id (jH hs))
 refine ⟨S',⟨he.W0,he.D,he.fro,he.fnw,fun id n hn=>?_,fun id hn=>?_,fun id m sz hn=>?_⟩,hx.aG hc hr,?_⟩
 ·obtain ⟨a,b⟩:=h0s hn
  obtain ⟨c,d⟩:=he.box id n hn
  exact ⟨a.trans c,b.trans d⟩
 ·obtain ⟨a,b⟩:=h0s hn
  obtain ⟨c,d⟩:=he.mp id hn
  exact ⟨a.trans c,b.trans d⟩
 ·obtain ⟨a,b⟩:=h0s hn
  obtain ⟨m',c,d,e⟩:=he.row id m sz hn
  exact ⟨m',a.trans c,d,fun hm=>b.trans (e hm)⟩
 ·have hget:∀ {j b'},H'[j]?=some b'→∃ id b,β[j]?=some id∧H[id]?=some b∧kW (fun i=>lQ β i 0) b b':=fun {j b'} hj=>by
   have hjl:j < β.length:=by rw [← hl];exact iq hj
   obtain ⟨b,b2,h1,h2,h3⟩:=hb j β[j] (List.getElem?_eq_getElem hjl)
   rw [hj] at h2
   injection h2 with h2
   subst h2
   exact ⟨β[j],b,List.getElem?_eq_getElem hjl,h1,h3⟩
  refine ⟨hw.os,hw.tape,hw.output,hw.size,hw.prot,hw.fro,fun j b' hj=>?_,fun i j b1 b2 B c c' hi hj li lj hBi hBj=>?_⟩
  ·obtain ⟨id,b,h1,h2,h3⟩:=hget hj
   exact h3.blk hc (hβ h1).2 (fun _ h=>h) (hw.blk id b h2)
  ·obtain ⟨id1,x1,p1,p2,p3⟩:=hget hi
   obtain ⟨id2,x2,q1,q2,q3⟩:=hget hj
   rw [(hβ p1).2] at hBi
   rw [(hβ q1).2] at hBj
   have:=hw.inj id1 id2 x1 x2 B c c' p2 q2 (p3.live ▸ li) (q3.live ▸ lj) hBi hBj
   subst this
   exact hnd i j id1 p1 q1
theorem Ent.own {n e sz:Nat} {xs:List AV} {H:List aj} (hn:n≤H.length) (h0:0 < sz) {xs':List AV} (hf:pJ H.length xs xs'):Ent n xs H xs' (H++[.arr e sz []]):=by
 intro S0 H0 w vs hl ⟨S,he,hr,hw⟩
 obtain ⟨w1,e1⟩:=hw.vT e sz h0
 have hT:shape (H++[aj.arr e sz []]) H.length=some (.row 0 sz):=by rw [dH];rfl
 have hρ:(S.put H.length none).ρ H.length=none:=fK _ _ _
 exact ⟨S.put H.length none,he.trans e1,kY hT hρ hf (eP _ _ _ _ e1 hr),w1⟩
theorem Ent.fz {n:Nat} {xs:List AV} {H:List aj} (id:Nat) (b:aj) (hb:H[id]?=some b) (hid:n≤id) (hp:b.pure=true) (hf:aak id (jI b) xs) (hO:∀ x∈H,H9 id (jI b) x):Ent n xs H (lX id b xs) (fzH id b H):=by
 intro S0 H0 w vs hl ⟨S,he,hr,hw⟩
 exact ⟨_,he.fz hw (by omega),jR hw hb hp (fun j hj=>nO j hj) xs _ hf hr,hw.fz hb hp hO⟩
end Go.Ab
