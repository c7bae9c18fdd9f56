import Derived.Test.YtlakbkdhdgicfaaGreatLayD
import Derived.ChangeArms
import Derived.ChangeSlices
import Derived.WideShapes
import Derived.SizedLaws
namespace Go.Ab
open Go
set_option linter.unusedVariables false
set_option linter.unusedSimpArgs false
end Go.Ab

namespace Go.Ab
open Go
set_option linter.unusedVariables false
set_option linter.unusedSimpArgs false
section
variable (call:FuncId→List AV→List aj→Option (AV × List aj)) (nt:Nat)
end
section
variable {P:Program} {call:FuncId→List AV→List aj→Option (AV × List aj)}
end
end Go.Ab

namespace Go.Ab
open Go Go.RowKit
set_option linter.unusedVariables false
set_option linter.unusedSimpArgs false
inductive DT where
 | int (k:IntKind)
 | bool
 | str
 | rows (ds:List DT)
def Pj (P:Program) (go:TypeId→Option (List DT)):Nat→List Field→Option (List DT)
 | _,[]=>some []
 | off,f::fs=>if f.offset=off then (match go f.type with
  | some ds=>if P.cellsOf f.type=ds.length then (match Pj P go (off + ds.length) fs with
   | some ds'=>some (ds++ds')
   | none=>none) else none
  | none=>none) else none
def tyC (P:Program):Nat→TypeId→Option (List DT)
 | 0,_=>none
 | n + 1,t=>match P.underlying t with
  | some (.int k)=>some [.int k]
  | some .bool=>some [.bool]
  | some .string=>some [.str]
  | some (.slice e)=>match tyC P n e with
   | some ds=>if P.cellsOf e=ds.length∧0 < ds.length then some [.rows ds] else none
   | none=>none
  | some (.struct fs)=>match Pj P (tyC P n) 0 fs.toList with
   | some ds=>if P.cellsOf t=ds.length then some ds else none
   | none=>none
  | _=>none
mutual
def GdC:DT→AV→Prop
 | .int k,v=>∃ n,v=.int k n∧(Lit.int k n).wf=true
 | .bool,v=>∃ b,v=.bool b
 | .str,v=>∃ s:ByteArray,v=.str s∧s.size≤maxLen
 | .rows ds,v=>∃ rows:List (List AV),v=.inl ds.length rows∧rows.length≤maxLen∧∀ r∈rows,GdL ds r
def GdL:List DT→List AV→Prop
 | [],xs=>xs=[]
 | d::ds,xs=>∃ x xs',xs=x::xs'∧GdC d x∧GdL ds xs'
end
theorem GdL.length:∀ {ds:List DT} {xs:List AV},GdL ds xs→xs.length=ds.length
 | [],xs,h=>by simp only [GdL] at h;subst h;rfl
 | d::ds,xs,h=>by
  simp only [GdL] at h
  obtain ⟨x,xs',rfl,_,h2⟩:=h
  simp [GdL.length h2]
theorem GdL.append:∀ {ds ds':List DT} {xs xs':List AV},GdL ds xs→GdL ds' xs'→GdL (ds++ds') (xs++xs')
 | [],ds',xs,xs',h,k=>by simp only [GdL] at h;subst h;exact k
 | d::ds,ds',xs,xs',h,k=>by
  simp only [GdL] at h
  obtain ⟨x,ys,rfl,h1,h2⟩:=h
  simp only [List.cons_append,GdL]
  exact ⟨x,_,rfl,h1,GdL.append h2 k⟩
theorem GdC.one {d:DT} {x:AV} (h:GdC d x):one x=true:=by
 cases d <;> simp only [GdC] at h
 ·obtain ⟨n,rfl,_⟩:=h;rfl
 ·obtain ⟨b,rfl⟩:=h;rfl
 ·obtain ⟨s,rfl,_⟩:=h;rfl
 ·obtain ⟨rows,rfl,_⟩:=h;rfl
theorem GdL.cZ:∀ {ds:List DT} {xs:List AV},GdL ds xs→cZ xs=true
 | [],xs,h=>by simp only [GdL] at h;subst h;rfl
 | d::ds,xs,h=>by
  simp only [GdL] at h
  obtain ⟨x,ys,rfl,h1,h2⟩:=h
  simp [Ab.cZ,h1.one,h2.cZ]
theorem listOf {α:Type} {p:Nat→α→Prop}:∀ (n:Nat),(∀ i,i < n→∃ a,p i a)→∃ l:List α,l.length=n∧∀ (i:Nat) (a:α),l[i]?=some a→p i a
 | 0,_=>⟨[],rfl,fun i a h=>by simp at h⟩
 | n + 1,h=>by
  obtain ⟨l,h1,h2⟩:=listOf n fun i hi=>h i (by omega)
  obtain ⟨a,ha⟩:=h n (by omega)
  refine ⟨l++[a],by simp [h1],fun i b hi=>?_⟩
  rcases Nat.lt_trichotomy i n with hl | rfl | hl
  ·rw [List.getElem?_append_left (by omega)] at hi
   exact h2 i b hi
  ·rw [List.getElem?_append_right (by omega)] at hi
   simp [h1] at hi
   subst hi
   exact ha
  ·rw [List.getElem?_eq_none (by simp;omega)] at hi
   cases hi
section
variable {H:Type} {enc:TypeId × Value→H} {P:Program} {w:World} {spare:Nat→Bool} {held:Bool}
theorem BF {a:Addr} {n:Nat} {cs:List Value} (h:w.cells? 0 a n=some cs):cs.length=n∧∀ (j:Nat) (v:Value),cs[j]?=some v→w.cell? (a.add j)=some v:=by
 unfold World.cells? at h
 simp only [Nat.zero_le,if_true] at h
 have hl:=mapM_some_length h
 refine ⟨by simpa using hl,fun j v hj=>?_⟩
 have hjl:j < n:=by
  have:=(List.getElem?_eq_some_iff.1 hj).1
  simp at hl
  omega
 have:=mapM_some_get h j j (by simp [hjl])
 rw [this,hj]
theorem xB {n:Nat} {cs:List Value} {go:TypeId→Option (List DT)} (hgo:∀ t cs x ds,DataW.trod enc P w 0 spare held n t cs=some x→go t=some ds→∃ as,aG (RS.start w) as noSh cs∧GdL ds as) :
  ∀ (fs:List Field) (off:Nat) (ds:List DT),Pj P go off fs=some ds→(∀ f∈fs,∃ y,DataW.trod enc P w 0 spare held n f.type ((cs.drop f.offset).take (P.cellsOf f.type))=some y) →
   ∃ as,aG (RS.start w) as noSh ((cs.drop off).take ds.length)∧GdL ds as
 | [],off,ds,h,_=>by
  simp only [Pj,Option.some.injEq] at h
  subst h
  exact ⟨[],by simp [aG],by simp [GdL]⟩
 | f::fs,off,ds,h,hf=>by
  simp only [Pj] at h
  split at h
  ·rename_i ho
   split at h
   ·rename_i ds1 h1
    split at h
    ·rename_i hc
     split at h
     ·rename_i ds2 h2
      simp only [Option.some.injEq] at h
      subst h
      obtain ⟨y,hy⟩:=hf f (by simp)
      rw [ho,hc] at hy
      obtain ⟨as1,q1,q2⟩:=hgo _ _ _ _ hy h1
      obtain ⟨as2,q3,q4⟩:=xB hgo fs _ ds2 h2 fun g hg=>hf g (by simp [hg])
      refine ⟨as1++as2,?_,q2.append q4⟩
      rw [List.length_append,List.take_add,List.drop_drop]
      exact dF q1 q3
     ·cases h
    ·cases h
   ·cases h
  ·cases h
theorem Ae:∀ (fuel:Nat) (t:TypeId) (cs:List Value) (x:DataW H × List MemPlace) (n:Nat) (ds:List DT),DataW.trod enc P w 0 spare held fuel t cs=some x→tyC P n t=some ds→∃ as,aG (RS.start w) as noSh cs∧GdL ds as:=by
 intro fuel
 induction fuel with
 | zero=>intro t cs x n ds h;simp [DataW.trod] at h
 | succ m ih =>
  intro t cs x n ds h ht
  cases n with
  | zero=>simp [tyC] at ht
  | succ n =>
   simp only [tyC] at ht
   split at ht
   ·rename_i k hu
    simp only [Option.some.injEq] at ht
    subst ht
    obtain ⟨z,rfl,_,hw⟩:=DataW.trod_int hu h
    exact ⟨[.int k z],by simp [aG,rel],by simp only [GdL,GdC];exact ⟨_,_,rfl,⟨z,rfl,hw⟩,rfl⟩⟩
   ·rename_i hu
    simp only [Option.some.injEq] at ht
    subst ht
    obtain ⟨b,rfl,_⟩:=DataW.trod_bool hu h
    exact ⟨[.bool b],by simp [aG,rel],by simp only [GdL,GdC];exact ⟨_,_,rfl,⟨b,rfl⟩,rfl⟩⟩
   ·rename_i hu
    simp only [Option.some.injEq] at ht
    subst ht
    obtain ⟨s,rfl,_,hs⟩:=DataW.trod_string hu h
    exact ⟨[.str s],by simp [aG,rel],by simp only [GdL,GdC];exact ⟨_,_,rfl,⟨s,rfl,hs⟩,rfl⟩⟩
   ·rename_i e hu
    split at ht
    ·rename_i de he
     split at ht
     ·rename_i hc
      simp only [Option.some.injEq] at ht
      subst ht
      rcases DataW.trod_slice hu h with ⟨rfl,_⟩ | ⟨a,len,cap,elems,rest,m',hm,rfl,_,hb,hl,hcap,hlen,hel,_,_⟩
      ·refine ⟨[.inl de.length []],?_,?_⟩
       ·simp only [aG,rel]
        exact ⟨_,[],rfl,⟨none,0,rfl,Nat.le_refl _,.inl trivial⟩,rfl⟩
       ·simp only [GdL,GdC]
        exact ⟨_,_,rfl,⟨[],rfl,Nat.zero_le _,fun r hr=>by cases hr⟩,rfl⟩
      ·obtain rfl:m=m':=by omega
       have each:∀ i,i < len→∃ r:List AV,∃ cs':List Value,w.cells? 0 (a.add (i * P.cellsOf e)) (P.cellsOf e)=some cs'∧aG (RS.start w) r noSh cs'∧GdL de r:=fun i hi=>by
        have h1:=hel i hi
        rw [List.getElem?_eq_getElem (by omega),Option.bind_eq_some_iff] at h1
        obtain ⟨cs',g1,g2⟩:=h1
        obtain ⟨r,g3,g4⟩:=ih e cs' _ n de g2 he
        exact ⟨r,cs',g1,g3,g4⟩
       obtain ⟨rows,hr1,hr2⟩:=listOf len each
       refine ⟨[.inl de.length rows],?_,?_⟩
       ·simp only [aG,rel]
        refine ⟨_,[],rfl,⟨some a,cap,by rw [hr1],by omega,?_⟩,rfl⟩
        rcases Nat.eq_zero_or_pos len with h0 | h0
        ·exact .inl (List.eq_nil_of_length_eq_zero (by omega))
        ·refine .inr ?_
         obtain ⟨B,o,spot⟩:=a
         have hspot:spot=none:=by
          obtain ⟨r0,cs0,c1,c2,c3⟩:=each 0 h0
          obtain ⟨d1,d2⟩:=BF c1
          have:0 < cs0.length:=by omega
          have:=d2 0 cs0[0] (List.getElem?_eq_getElem this)
          simpa [Addr.add] using World.cell?_spot this
         subst hspot
         refine ⟨B,o,rfl,iw fun i r hi=>?_⟩
         obtain ⟨cs',c1,c2,c3⟩:=hr2 i r hi
         obtain ⟨d1,d2⟩:=BF c1
         refine ⟨c3.length,dO fun j c hj=>?_⟩
         obtain ⟨v,e1,e2⟩:=bJ c2 hj
         refine ⟨v,?_,e2,?_⟩
         ·have:=d2 j v e1
          rw [hc.1,Addr.add_lit,Addr.add_lit] at this
          exact this
         ·refine ja c2 c3.cZ v (List.mem_of_getElem? e1)
       ·simp only [GdL,GdC]
        refine ⟨_,_,rfl,⟨rows,rfl,by omega,fun r hr=>?_⟩,rfl⟩
        obtain ⟨i,hi⟩:=List.getElem?_of_mem hr
        obtain ⟨_,_,_,c3⟩:=hr2 i r hi
        exact c3
     ·cases ht
    ·cases ht
   ·rename_i fs hu
    split at ht
    ·rename_i de hde
     split at ht
     ·rename_i hc
      simp only [Option.some.injEq] at ht
      subst ht
      obtain ⟨xs,m',hm,_,hl,hxs,hfs⟩:=DataW.trod_struct hu h
      obtain rfl:m=m':=by omega
      obtain ⟨as,q1,q2⟩:=xB (cs:=cs) (n:=m) (fun t cs x ds h1 h2=>ih t cs x n ds h1 h2) fs.toList 0 de hde fun f hf=>by
       obtain ⟨i,hi⟩:=List.getElem?_of_mem hf
       have hi':fs[i]?=some f:=by simpa using hi
       have h1:=hfs i f hi'
       have:i < xs.length:=by
        rw [hxs]
        exact (Array.getElem?_eq_some_iff.1 hi').1
       rw [List.getElem?_eq_getElem this] at h1
       exact ⟨_,h1⟩
      refine ⟨as,?_,q2⟩
      rw [List.drop_zero,List.take_of_length_le (by omega)] at q1
      exact q1
     ·cases ht
    ·cases ht
   ·cases ht
theorem jG {t:TypeId} {v:Value} {d:DataW H} {ps:List MemPlace} {n:Nat} {dt:DT} (ht:tyC P n t=some [dt]) (hcell:v.cells=#[v]) (hd:DataW.Trod enc P w 0 spare held t v d ps) :
  ∃ a,rel (RS.start w) a noSh v∧GdC dt a:=by
 obtain ⟨fuel,hf⟩:=hd
 rw [hcell] at hf
 obtain ⟨as,q1,q2⟩:=Ae fuel t _ _ n _ hf ht
 simp only [GdL] at q2
 obtain ⟨x,_,rfl,q2,rfl⟩:=q2
 simp only [aG] at q1
 obtain ⟨v',_,h1,q1,rfl⟩:=q1
 simp only [List.cons.injEq,and_true] at h1
 subst h1
 exact ⟨x,q1,q2⟩
theorem oW {t:TypeId} {cs:Array Value} {d:DataW H} {ps:List MemPlace} {n:Nat} {ds:List DT} (ht:tyC P n t=some ds) (hd:DataW.Trod enc P w 0 spare held t (.agg cs) d ps) :
  ∃ as,rel (RS.start w) (.agg as) noSh (.agg cs)∧GdL ds as:=by
 obtain ⟨fuel,hf⟩:=hd
 obtain ⟨as,q1,q2⟩:=Ae fuel t _ _ n _ hf ht
 refine ⟨as,?_,q2⟩
 simp only [rel]
 exact ⟨cs,rfl,q1,ja q1 q2.cZ⟩
end
end Go.Ab

namespace Go.Ab
open Go
section
variable {H:Type} {enc:TypeId × Value→H} {P:Program} {w:World} {spare:Nat→Bool} {held:Bool}
end
end Go.Ab

namespace Go.Ab
open Go
set_option linter.unusedVariables false
set_option linter.unusedSimpArgs false
abbrev RW:=List (List AV)
abbrev EP:=Nat→Rs→List Lf→Prop
theorem An {a b:Prop} (h:a) (k:b):a∧b:=⟨h,k⟩
abbrev r3 (R:List (List AV)) (i:Nat):List AV:=[.int .i64 (cIS R i 0),.int .i64 (cIS R i 1),.int .i64 (cIS R i 2)]
abbrev r7 (R:List (List AV)) (i:Nat):List AV:=[.int .i64 (cIS R i 0),.int .i64 (cIS R i 1),.int .i64 (cIS R i 2),.int .i64 (cIS R i 3),.int .i64 (cIS R i 4),.int .i64 (cIS R i 5),.inl 3 (cRS R i 6)]
theorem Wk.q {P:Program} {fn:Func} {I:ak} {sigs:List Sig} {Q EV RR:EP} {A:Ar} {σr:dG} {CE:Nat→Rs→List Lf→(Nat→Rs→List Lf→Prop)→Prop} {CK:Nat→Rs→List Lf→Cont→Prop} {Dn:Nat→List Bool→List bf→Nat→List Bool→List AV→List aj→Prop}
  (h:Wk P fn I sigs Q A σr CE CK Dn EV RR) {n:Nat} {rs:Rs} {vs:List Lf} (hq:Q n rs vs):RR n rs vs:=by rw [h.rr];exact hq
theorem Wk.cl {P:Program} {fn:Func} {I:ak} {sigs:List Sig} {Q EV RR:EP} {A:Ar} {σr:dG} {CE:Nat→Rs→List Lf→(Nat→Rs→List Lf→Prop)→Prop} {CK:Nat→Rs→List Lf→Cont→Prop} {Dn:Nat→List Bool→List bf→Nat→List Bool→List AV→List aj→Prop}
  (h:Wk P fn I sigs Q A σr CE CK Dn EV RR) {i:Nat} {g:Sig} {rs rs0:Rs} {vs vs0:List Lf} {c:Cont} {Q1:Nat→Rs→List Lf→Prop} (he:EC P g rs0 vs0 Q1)
  (hs:∀ x rs' vs',eU rs'→Q1 x rs' vs'→rq A g.exits c (fun K fr H=>kC A σr sigs CE CK Dn EV RR I.F.tab I.F.res I.stops I.anns I.drw I.sig.exits (aS I.sig.hp) I.F.nt 80 true K fr H) x rs' vs')
  (hg:aX sigs i=some g:=by rfl) (hr:rs=rs0:=by subst_vars;rfl) (hv:vs=vs0:=by subst_vars;rfl):CK i rs vs c:=h.call 80 hg he hr hv hs
theorem Wk.cd {P:Program} {fn:Func} {I:ak} {sigs:List Sig} {Q EV RR:EP} {A:Ar} {σr:dG} {CE:Nat→Rs→List Lf→(Nat→Rs→List Lf→Prop)→Prop} {CK:Nat→Rs→List Lf→Cont→Prop} {Dn:Nat→List Bool→List bf→Nat→List Bool→List AV→List aj→Prop}
  (h:Wk P fn I sigs Q A σr CE CK Dn EV RR) {i:Nat} {g:Sig} {rs rs0:Rs} {vs vs0:List Lf} {Q0 Q1:Nat→Rs→List Lf→Prop} (he:EC P g rs0 vs0 Q1)
  (hs:∀ x rs' vs',eU rs'→Q1 x rs' vs'→Q0 x rs' vs') (hg:aX sigs i=some g:=by rfl) (hr:rs=rs0:=by subst_vars;rfl) (hv:vs=vs0:=by subst_vars;rfl):CE i rs vs Q0:=h.callD hg he hr hv hs
theorem vnot {a b:Bool} (h:(!a)=b):a=!b:=by cases a <;> cases b <;> simp_all
theorem notE {A:Ar} (hA:A=arS) {a b:Bool} (h:A.not a=b):a=!b:=by subst hA;exact vnot h
theorem aQ {r:List (List AV)} (h:aB r=true:=by rfl):aB r=true:=h
theorem nG {rows:List (List AV)}:aB rows=true↔∀ r∈rows,gm r=true:=by
 induction rows with
 | nil=>simp [aB]
 | cons r rs ih=>simp [aB,ih]
theorem dU {rows:List (List AV)} {i:Nat} {r:List AV} (h:aB rows=true) (hr:gm r=true):aB (rows.set i r)=true:=by
 rw [nG] at *
 intro x hx
 rcases List.mem_or_eq_of_mem_set hx with h1 | rfl
 ·exact h x h1
 ·exact hr
theorem dw {rows:List (List AV)} {i:Nat} (h:aB rows=true):aB (rows.take i)=true:=by
 rw [nG] at *
 exact fun x hx=>h x (List.mem_of_mem_take hx)
theorem dA {rows:List (List AV)} {i:Nat} (h:aB rows=true):aB (rows.drop i)=true:=by
 rw [nG] at *
 exact fun x hx=>h x (List.mem_of_mem_drop hx)
theorem fA {rows new:List (List AV)} {i:Nat} (h:aB rows=true) (hn:aB new=true):aB (aP rows i new)=true:=by
 rw [nG] at *
 intro x hx
 unfold aP at hx
 rcases List.mem_append.1 hx with h1 | h1
 ·rcases List.mem_append.1 h1 with h2 | h2
  ·exact h x (List.mem_of_mem_take h2)
  ·exact hn x h2
 ·exact h x (List.mem_of_mem_drop h1)
theorem Gy {n:Nat} {r:List AV} (h:gm r=true):aB (List.replicate n r)=true:=by
 rw [nG]
 intro x hx
 rw [List.eq_of_mem_replicate hx];exact h
theorem yU {k:IntKind} {n:Int} {v:AV} (hv:pur v=true):∀ {rows rows':List (List AV)},jh k n v rows=some rows'→aB rows=true→aB rows'=true
 | [],rows',h,_=>by
  simp only [jh,Option.some.injEq] at h
  subst h
  simp [aB,gm,pur,hv]
 | r::rows,rows',h,hp=>by
  simp only [aB,Bool.and_eq_true] at hp
  unfold jh at h
  split at h
  ·rename_i e;cases e
  ·rename_i k' m u rs e
   simp only [List.cons.injEq] at e
   obtain ⟨rfl,rfl⟩:=e
   split at h
   ·split at h
    ·simp only [Option.some.injEq] at h
     subst h
     simp [aB,gm,pur,hv,hp.2]
    ·obtain ⟨rs',h1,rfl⟩:=Option.map_eq_some_iff.1 h
     simp only [aB,Bool.and_eq_true]
     exact ⟨hp.1,yU hv h1 hp.2⟩
   ·cases h
  ·cases h
theorem vmset {k:IntKind} {n:Int} {v:AV} {rows:List (List AV)} (h:aB rows=true) (hv:pur v=true):aB (mSS rows k n v)=true:=by
 unfold mSS
 cases hm:jh k n v rows with
 | none=>exact h
 | some r=>exact yU hv hm h
theorem wrap64 {x:Int} (h0:-9223372036854775808≤x) (h1:x < 9223372036854775808):IntKind.wrap .i64 x=x:=wrap_i64 h0 (by omega)
theorem mxS (x y:Int):arS.mx x y=max x y:=by
 show (if y > x then y else x)=_
 split <;> omega
theorem mnS (x y:Int):arS.mn x y=min x y:=by
 show (if y < x then y else x)=_
 split <;> omega
structure VN (EV Q:EP):Prop where
 none:True
@[reducible] def cL (a b c d:Int) (e:RW) (f:Int) (g h i j:RW) (t:List Lf):List Lf:=.i a::.i b::.i c::.i d::.r e::.i f::.r g::.r h::.r i::.r j::t
end Go.Ab
