import Derived.Test.YtlakbkdhdgicfaaGreatLayE
import Derived.Shelf.Sort.Plain
import Derived.Shelf.Slices.In.SortNone
namespace Go.Ab
open Go Go.Proofs Go.Sort
set_option linter.unusedVariables false
set_option linter.unusedSimpArgs false
def fJ (L:List Int):List Int:=L.mergeSort fun x y=>decide (x≤y)
def lN (L:List Int):List (List AV):=L.map fun x=>[.int .i64 x]
def P9 (P:Program) (f:FuncId):Prop :=
 rJ P f∧(∀ p cap w,Calls P f #[.slice p 0 cap] w fun e w'=>e=.returned (.tuple #[])∧w'=w) ∧
 ∀ blk off cap (zs:List Int) w,Holds (Value.int .i64) w blk off zs.toArray→blk < w.heap.size→zs.length < 4611686018427387904→Calls P f #[.slice (some ⟨blk,off,none⟩) zs.length cap] w fun e w'=>e=.returned (.tuple #[])∧∃ n os,w'=grow (putRow (Value.int .i64) (Sort.ahead w n) blk off (zs.mergeSort fun x y=>decide (x≤y)).toArray) os
theorem sort_A {P:Program} {f:FuncId} (hc:P9 P f) {e:TypeId} (L:List Int) (hL:L.length < 4611686018427387904) :
  aC P f [.sl 0 L.length 0 L.length] [.arr e 1 (lN L)] fun r H=>r=.tup []∧H=[.arr e 1 (lN (fJ L))]:=by
 refine ⟨hc.1,fun S w vs hw hr=>?_⟩
 simp only [aG] at hr
 obtain ⟨v,_,rfl,hv,rfl⟩:=hr
 have hb:([.arr e 1 (lN L)]:List aj)[0]?=some (.arr e 1 (lN L)):=rfl
 obtain ⟨v1,v2⟩:=iV hv hb (by simp [lN])
 obtain ⟨_,hblk⟩:=hw.blk 0 _ hb
 have hlen:(fJ L).length=L.length:=List.length_mergeSort L
 rcases Nat.eq_zero_or_pos L.length with hn | hn
 ·obtain ⟨a,c,rfl⟩:=yz hv hb (by simp [lN])
  obtain rfl:=List.eq_nil_of_length_eq_zero hn
  refine (hc.2.1 a c w).mono ?_
  rintro _ _ ⟨rfl,rfl⟩
  exact ⟨_,rfl,S,.tup [],_,Ext.refl _ _,hw,by simp [rel,aG],rfl,by simp [fJ]⟩
 ·cases hr:S.ρ 0 with
  | none=>rw [hr] at v2;omega
  | some p =>
   obtain ⟨B,c⟩:=p
   rw [hr] at v2 hblk
   obtain ⟨aa,q1,q2⟩:=v2
   obtain ⟨arr,m1,m2,m3,m4,m5⟩:=hblk
   have hcl:L.length≤c:=by simpa [lN] using m3
   obtain rfl:=q2 (by omega)
   subst q1
   have hcell:∀ (j:Nat) (h:j < L.length),arr[j]?=some (.int .i64 L[j]):=fun j h=>by
    obtain ⟨_,g⟩:=m4 j [.int .i64 L[j]] (by simp [lN,h])
    obtain ⟨u,g1,g2,_⟩:=g 0 (.int .i64 L[j]) rfl
    simp only [rel] at g2
    rw [← g2,← g1];simp
   have hH:Holds (Value.int .i64) w B (0 * 1) L.toArray:=fun j hj=>by
    have hj':j < L.length:=by simpa using hj
    refine ⟨?_,?_⟩
    ·simp only [World.cell?,m1]
     rw [show 0 * 1 + j=j by omega,hcell j hj',getElem!_pos L.toArray j hj]
     simp
    ·simp [World.frozen?,m1]
   have hBw:B < w.heap.size:=block_lt m1
   refine (hc.2.2 B (0 * 1) (c - 0) L w hH hBw hL).mono ?_
   rintro _ _ ⟨rfl,n,os,rfl⟩
   have hheap:∀ k:Nat,k < w.heap.size→(grow (putRow (Value.int .i64) (Sort.ahead w n) B (0 * 1) (L.mergeSort fun x y=>decide (x≤y)).toArray) os).heap[k]?=if k=B then (w.heap[k]?).map (onCells (putCells (Value.int .i64) (0 * 1) (L.mergeSort fun x y=>decide (x≤y)).toArray)) else w.heap[k]?:=fun k hk=>by
    simp only [grow,putRow,mapBlock,Sort.ahead]
    rw [Array.getElem?_append_left (by simpa using hk),Array.getElem?_modify]
    by_cases hkb:B=k
    ·rw [if_pos hkb,if_pos hkb.symm]
    ·rw [if_neg hkb,if_neg (fun h=>hkb h.symm)]
   obtain ⟨w1,w2⟩:=hw.vS hb hr (w':=grow (putRow (Value.int .i64) (Sort.ahead w n) B (0 * 1) (L.mergeSort fun x y=>decide (x≤y)).toArray) os) ⟨rfl,rfl,rfl,by simp [grow,putRow,mapBlock,Sort.ahead],fun k hk hne=>by rw [hheap k hk,if_neg hne]⟩
    (by rw [hheap B hBw,if_pos rfl,m1];rfl) (rows':=lN (fJ L)) (by simp [putCells,m2]) (by simp [lN,hlen]) (by simpa [lN,hlen] using hcl)
    (fun i r hi=>by
     have hir:i < L.length:=by
      have:=(List.getElem?_eq_some_iff.1 hi).1
      simpa [lN,hlen] using this
     have hi2:i < (fJ L).length:=by rw [hlen];exact hir
     have er:r=[.int .i64 (fJ L)[i]]:=by simp [lN,hi2] at hi;exact hi.symm
     subst er
     refine ⟨rfl,fun j c' hj=>?_⟩
     cases j with
     | succ j=>simp at hj
     | zero =>
      simp only [List.getElem?_cons_zero,Option.some.injEq] at hj
      subst hj
      refine ⟨.int .i64 (fJ L)[i],?_,rfl,rfl⟩
      simp only [putCells,Array.getElem?_mapIdx]
      rw [show i * 1 + 0=i by omega,hcell i hir]
      simp only [Option.map_some,Option.some.injEq]
      rw [if_pos ⟨by omega,by simp only [List.size_toArray,List.length_mergeSort];omega⟩]
      congr 1
      rw [show i - 0 * 1=i by omega,getElem!_pos _ i (by simpa using hir)]
      simp [fJ])
   exact ⟨_,rfl,S,.tup [],_,w2,w1,by simp [rel,aG],rfl,rfl⟩
theorem sort_E {P:Program} {f:FuncId} (hc:P9 P f) {e:TypeId} (L:List Int) (hL:L.length < 4611686018427387904) :
  EC P ⟨f,[.sl 0],[.arr e 1],[⟨true,⟨[],[.arr e 1]⟩⟩]⟩ [lN L] [] fun x rs vs=>x=0∧rs=[lN (fJ L)]∧vs=[]:=by
 have hp:∀ L,aB (lN L)=true:=fun L=>by
  induction L with
  | nil=>rfl
  | cons x L ih=>exact ih
 intro _
 have h:=sort_A hc (e:=e) L hL
 have e1:eu arS [.sl 0] [.arr e 1] [lN L] []=([.sl 0 L.length 0 L.length],[.arr e 1 (lN L)]):=by
  show ([AV.sl 0 (lN L).length 0 (lN L).length],_)=_
  simp [lN];rfl
 rw [e1]
 refine h.mono ?_
 rintro _ _ ⟨rfl,rfl⟩
 exact ⟨0,_,[lN (fJ L)],[],rfl,⟨hp _,trivial⟩,⟨rfl,rfl,rfl⟩,rfl,Nat.le_refl _,iP (A:=arS) (nt:=0) (st:=⟨[],[.arr e 1]⟩) (rs:=[lN (fJ L)]) (vs:=[]) ⟨hp _,trivial⟩⟩
end Go.Ab
