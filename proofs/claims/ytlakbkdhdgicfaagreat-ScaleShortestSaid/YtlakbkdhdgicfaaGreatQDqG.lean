import Derived.Test.YtlakbkdhdgicfaaGreatQPtC
import Derived.Lib.Mul64
namespace Go.Ab.Mu
open Go Go.Proofs Go.Ab
set_option linter.unusedVariables false
set_option linter.unusedSimpArgs false
set_option maxRecDepth 100000
set_option maxHeartbeats 1000000
abbrev UM:Int:=18446744073709551615
def U64 (x:Int):Prop:=0≤x∧x≤18446744073709551615
def gG (a b:Int):Int:=min (a + b) UM
def dV (a b:Int):Int:=min (a * b) UM
theorem Hr {a b:Int} (ha:U64 a) (hb:U64 b):U64 (dV a b):=by
 have:=Int.mul_nonneg ha.1 hb.1
 unfold U64 dV UM at *;omega
theorem fE {x:Int} (h:U64 x):IntKind.wrap .u64 x=x:=by
 unfold U64 at h
 have:IntKind.wrap .u64 x=x % 18446744073709551616:=rfl
 rw [this,Int.emod_eq_of_lt h.1 (by omega)]
theorem DD {a b:Int} (ha:U64 a) (hb:U64 b):EC Tryz.prog G25 [] [.i a,.i b] fun x rs vs=>x=0∧rs=[]∧vs=[.i (gG a b)]:=by
 unfold U64 at ha hb
 refine E25 fun EV V=>?_
 rw [fE (x:=18446744073709551615 - b) (by unfold U64;omega)]
 refine ⟨fun h=>⟨rfl,rfl,?_⟩,fun h=>⟨rfl,rfl,?_⟩⟩
 ·congr 2;unfold gG UM;omega
 ·rw [fE (by unfold U64;omega)];congr 2;unfold gG UM;omega
theorem Iy {a:Int} (ha:U64 a):∀ (n:Nat) (b:Int),b.toNat=n→U64 b→EC Tryz.prog G26 [] [.i a,.i b] fun x rs vs=>x=0∧rs=[]∧vs=[.i (dV a b)]:=by
 intro n
 induction n using Nat.strongRecOn with
 | ind n ih =>
  intro b hn hb
  have hb':=hb
  have ha':=ha
  unfold U64 at hb' ha'
  refine E26 fun EV V=>⟨fun h0=>⟨fun h1=>⟨rfl,rfl,?_⟩,fun h1=>⟨fun h2=>?_,fun h2=>?_⟩⟩,fun h0=>⟨rfl,rfl,?_⟩⟩
  ·subst h1;rw [show dV a 0=0 by simp [dV,UM];omega]
  ·rw [Int.tmod_eq_emod_of_nonneg hb'.1] at h2
   rw [Int.tdiv_eq_ediv_of_nonneg hb'.1,fE (by unfold U64;omega)]
   refine (ih (b / 2).toNat (by omega) (b / 2) rfl (by unfold U64;omega)).mono ?_
   rintro _ _ _ ⟨rfl,rfl,rfl⟩
   have hm:U64 (dV a (b / 2)):=Hr ha (by unfold U64;omega)
   refine ⟨rfl,_,rfl,rfl,(DD hm hm).mono ?_⟩
   rintro _ _ _ ⟨rfl,rfl,rfl⟩
   refine ⟨rfl,_,rfl,rfl,rfl,rfl,?_⟩
   have e:a * b=2 * (a * (b / 2)):=by rw [Int.mul_left_comm,show 2 * (b / 2)=b by omega]
   have q0:0≤a * (b / 2):=Int.mul_nonneg ha'.1 (by omega)
   congr 2
   unfold gG dV UM
   rw [e];omega
  ·rw [Int.tmod_eq_emod_of_nonneg hb'.1] at h2
   rw [fE (x:=b - 1) (by unfold U64;omega)]
   refine (ih (b - 1).toNat (by omega) (b - 1) rfl (by unfold U64;omega)).mono ?_
   rintro _ _ _ ⟨rfl,rfl,rfl⟩
   have hm:U64 (dV a (b - 1)):=Hr ha (by unfold U64;omega)
   refine ⟨rfl,_,rfl,rfl,(DD ha hm).mono ?_⟩
   rintro _ _ _ ⟨rfl,rfl,rfl⟩
   refine ⟨rfl,_,rfl,rfl,rfl,rfl,?_⟩
   have e:a * b=a * (b - 1) + a:=by rw [Int.mul_sub,Int.mul_one];omega
   have q0:0≤a * (b - 1):=Int.mul_nonneg ha'.1 (by omega)
   congr 2
   unfold gG dV UM
   rw [e];omega
  ·subst h0;rw [show dV 0 b=0 by simp [dV,UM];omega]
theorem Mul64_E {a b:Int} (ha:U64 a) (hb:U64 b):EC Tryz.prog G99 [] [.i a,.i b] fun x rs vs=>x=0∧rs=[]∧vs=[.i (a * b / 18446744073709551616),.i (a * b % 18446744073709551616)]:=by
 obtain ⟨m,rfl⟩:=Int.eq_ofNat_of_zero_le ha.1
 obtain ⟨n,rfl⟩:=Int.eq_ofNat_of_zero_le hb.1
 unfold U64 at ha hb
 have hm:m < 18446744073709551616:=by omega
 have hn:n < 18446744073709551616:=by omega
 obtain ⟨l1,l2,l3,l4⟩:=Go.Lib.mul64_hi m n hm hn
 have W:∀ k:Nat,k < 18446744073709551616→IntKind.wrap .u64 ((k:Nat):Int)=((k:Nat):Int):=fun k hk=>fE (by unfold U64;omega)
 have SH:∀ k:Nat,cO .shr .u64 ((k:Nat):Int) 32=((k / 4294967296:Nat):Int):=fun k=>by
  show Int.fdiv (k:Int) 4294967296=_
  rw [Int.fdiv_eq_ediv_of_nonneg _ (by omega)];omega
 have AN:∀ k:Nat,k < 18446744073709551616→cO .and .u64 ((k:Nat):Int) 4294967295=((k % 4294967296:Nat):Int):=fun k hk=>by
  show IntKind.wrap .u64 (((BitVec.ofInt 64 (k:Int) &&& BitVec.ofInt 64 4294967295).toNat:Nat):Int)=_
  have h1:(BitVec.ofInt 64 (k:Int)).toNat=k:=by rw [BitVec.toNat_ofInt];omega
  have h2:(BitVec.ofInt 64 4294967295).toNat=4294967295:=by decide
  rw [BitVec.toNat_and,h1,h2,show k &&& 4294967295=k % 4294967296 from Nat.and_two_pow_sub_one_eq_mod k 32]
  exact W _ (by omega)
 have hx1:m / 4294967296≤4294967295:=by omega
 have hy1:n / 4294967296≤4294967295:=by omega
 have hx0:m % 4294967296≤4294967295:=by omega
 have hy0:n % 4294967296≤4294967295:=by omega
 have b11:=Go.Lib.half_mul_le hx1 hy1
 have b10:=Go.Lib.half_mul_le hx1 hy0
 have b01:=Go.Lib.half_mul_le hx0 hy1
 have b00:=Go.Lib.half_mul_le hx0 hy0
 refine E99 fun EV V=>⟨by omega,rfl,rfl,?_⟩
 rw [SH m,SH n,AN m hm,AN n hn]
 have hmn:m * n / 18446744073709551616 < 18446744073709551616:=Nat.div_lt_of_lt_mul (Nat.mul_lt_mul_of_lt_of_lt hm hn)
 have lo:IntKind.wrap .u64 ((m:Int) * (n:Int))=(m:Int) * (n:Int) % 18446744073709551616:=rfl
 rw [lo]
 generalize m / 4294967296=x1 at *
 generalize m % 4294967296=x0 at *
 generalize n / 4294967296=y1 at *
 generalize n % 4294967296=y0 at *
 rw [← Int.natCast_mul x1 y1,← Int.natCast_mul x1 y0,← Int.natCast_mul x0 y0,← Int.natCast_mul x0 y1,W (x1 * y1) (by omega),W (x1 * y0) (by omega),W (x0 * y0) (by omega),W (x0 * y1) (by omega),SH (x0 * y0),← Int.natCast_add,W (x1 * y0 + x0 * y0 / 4294967296) (by omega)]
 generalize x1 * y0 + x0 * y0 / 4294967296=t at *
 rw [SH t,AN t (by omega),← Int.natCast_add,W (x1 * y1 + t / 4294967296) (by omega),← Int.natCast_add,W (t % 4294967296 + x0 * y1) (by omega),SH (t % 4294967296 + x0 * y1),← Int.natCast_add,W _ (by omega),l4]
 rfl
theorem zW {a b:Int} (ha:U64 a) (hb:U64 b):EC Tryz.prog G60 [] [.i a,.i b] fun x rs vs=>x=0∧rs=[]∧vs=[.i (gG a b)]:=by
 unfold U64 at ha hb
 have ec:arS.c0 a b=(a + b) / 18446744073709551616:=by show ((a.toNat + b.toNat:Nat):Int) / 18446744073709551616=_;omega
 have es:arS.s0 a b=(a + b) % 18446744073709551616:=by show ((a.toNat + b.toNat:Nat):Int) % 18446744073709551616=_;omega
 refine E60 fun EV V=>?_
 rw [ec,es]
 refine ⟨fun h=>⟨rfl,rfl,?_⟩,fun h=>⟨rfl,rfl,?_⟩⟩ <;> (congr 2;unfold gG UM;omega)
theorem zS {a b:Int} (ha:U64 a) (hb:U64 b):EC Tryz.prog G61 [] [.i a,.i b] fun x rs vs=>x=0∧rs=[]∧vs=[.i (dV a b)]:=by
 refine E61 fun EV V=>(Mul64_E ha hb).mono ?_
 rintro _ _ _ ⟨rfl,rfl,rfl⟩
 have q:=Int.mul_nonneg ha.1 hb.1
 refine ⟨rfl,_,_,rfl,rfl,fun h=>⟨rfl,rfl,?_⟩,fun h=>⟨rfl,rfl,?_⟩⟩ <;> (congr 2;unfold dV UM;omega)
end Go.Ab.Mu
namespace Go.Ab
open Go Go.Proofs
set_option linter.unusedVariables false
set_option linter.unusedSimpArgs false
set_option maxRecDepth 100000
set_option maxHeartbeats 1000000
def dV (a b:Int):Int:=min (a * b) cu
theorem kH {a b:Int} (ha:U a) (hb:U b):U (dV a b):=Mu.Hr ha hb
theorem zS {a b:Int} (ha:U a) (hb:U b):EC Tryz.prog G61 [] [.i a,.i b] fun x rs vs=>x=0∧rs=[]∧vs=[.i (dV a b)]:=Mu.zS ha hb
theorem Iy {a b:Int} (ha:U a) (hb:U b):EC Tryz.prog G26 [] [.i a,.i b] fun x rs vs=>x=0∧rs=[]∧vs=[.i (dV a b)]:=Mu.Iy ha b.toNat b rfl hb
def qW (p:Int × Int):List AV:=[.int .u64 p.1,.int .u64 p.2]
theorem uu0 (B:List (Int × Int)) (i:Nat):cIS (B.map qW) i 0=(B.getD i (0,0)).1:=by
 unfold cIS cellS
 rw [List.getElem?_map,List.getD_eq_getElem?_getD]
 cases B[i]? <;> rfl
theorem uu1 (B:List (Int × Int)) (i:Nat):cIS (B.map qW) i 1=(B.getD i (0,0)).2:=by
 unfold cIS cellS
 rw [List.getElem?_map,List.getD_eq_getElem?_getD]
 cases B[i]? <;> rfl
theorem uu_get {B:List (Int × Int)} {i:Nat} (h:i < B.length):(B.map qW)[i]?=some [.int .u64 (cIS (B.map qW) i 0),.int .u64 (cIS (B.map qW) i 1)]:=by
 rw [uu0,uu1,List.getElem?_map,List.getElem?_eq_getElem h,List.getD_eq_getElem?_getD,List.getElem?_eq_getElem h]
 rfl
theorem getDp {B:List (Int × Int)} {i:Nat} (h:i < B.length):B.getD i (0,0)=B[i]:=by
 rw [List.getD_eq_getElem?_getD,List.getElem?_eq_getElem h];rfl
def iR (x:Int):List (Int × Int)→Int→Int
 | [],n=>n
 | p::L,n=>iR x L (gG n (dV p.1 (bW x p.2)))
def LU (L:List (Int × Int)):Prop:=∀ p∈L,U p.1∧U p.2
theorem PD {x:Int} (hx:U x):∀ {L:List (Int × Int)} {n:Int},LU L→U n→U (iR x L n)
 | [],n,_,hn=>hn
 | p::L,n,hL,hn=>PD hx (L:=L) (fun q hq=>hL q (List.mem_cons_of_mem _ hq)) (rG hn (kH (hL p (List.mem_cons_self ..)).1 (dL hx (hL p (List.mem_cons_self ..)).2)))
theorem SE {L:List (Int × Int)} (hL:LU L) (hl:L.length≤1000) {n x:Int} (hn:U n) (hx:U x):EC Tryz.prog G159 [L.map qW] [.i n,.i x] fun y rs vs=>y=0∧rs=[L.map qW]∧vs=[.i (iR x L n)]:=by
 refine E159 fun _ EV V=>?_
 rw [List.length_map]
 have loop:∀ (d m:Nat) (k:Int),m + d=L.length→U k→iR x (L.drop m) k=iR x L n→EV 9 [L.map qW] [.i x,.i k,.i (L.length:Int),.i (m:Int)]:=by
  intro d
  induction d with
  | zero =>
   intro m k hm hk he
   rw [List.drop_of_length_le (by omega),iR] at he
   exact V.p9 fun _=>⟨fun h=>by omega,fun _=>⟨rfl,rfl,by rw [he]⟩⟩
  | succ d ih =>
   intro m k hm hk he
   have hml:m < L.length:=by omega
   have hu:=hL _ (List.getElem_mem hml)
   rw [List.drop_eq_getElem_cons hml,iR] at he
   refine V.p9 fun _=>⟨fun _=>⟨by omega,by rw [List.length_map];omega,uu_get hml,?_⟩,fun h=>by omega⟩
   rw [Int.toNat_natCast,uu0,uu1,getDp hml]
   refine (SK hx hu.2).mono ?_
   rintro _ _ _ ⟨rfl,rfl,rfl⟩
   refine ⟨rfl,_,rfl,rfl,(zS hu.1 (dL hx hu.2)).mono ?_⟩
   rintro _ _ _ ⟨rfl,rfl,rfl⟩
   refine ⟨rfl,_,rfl,rfl,(zW hk (kH hu.1 (dL hx hu.2))).mono ?_⟩
   rintro _ _ _ ⟨rfl,rfl,rfl⟩
   refine ⟨rfl,_,rfl,rfl,?_⟩
   rw [wrap64 (by omega) (by omega),show (m:Int) + 1=((m + 1:Nat):Int) by omega]
   exact ih (m + 1) _ (by omega) (rG hk (kH hu.1 (dL hx hu.2))) he
 exact loop L.length 0 n (by omega) hn rfl
theorem Pz {L:List (Int × Int)} (hL:LU L) (hl:L.length≤1000) {n x:Int} (hn:U n) (hx:U x):EC Tryz.prog G133 [L.map qW] [.i n,.i x] fun y rs vs=>y=0∧rs=[L.map qW]∧vs=[.i (iR x L n)]:=by
 refine E133 fun _ _ _=>(SE hL hl hn hx).mono ?_
 rintro _ _ _ ⟨rfl,rfl,rfl⟩
 exact ⟨rfl,_,_,rfl,rfl,rfl,rfl,rfl⟩
theorem Ii {x y p:Int} (hx:U x) (hy:U y) (hp:U p) (h:x≤y):bW x p≤bW y p:=by
 have hc:=dL hy hp
 unfold U at hx hy hp
 have ht:cu=18446744073709551615:=rfl
 by_cases hx0:x=0
 ·have e:bW x p=0:=by unfold bW;rw [if_pos hx0]
  rw [e];exact hc.1
 ·have hy0:¬ y=0:=by omega
  unfold bW
  rw [if_neg hx0,if_neg hy0]
  by_cases hp0:p=0
  ·rw [if_pos (show p=0∨x=cu from .inl hp0),if_pos (show p=0∨y=cu from .inl hp0)];exact Int.le_refl _
  ·by_cases hyt:y=cu
   ·rw [if_pos (show p=0∨y=cu from .inr hyt)]
    by_cases hxt:x=cu
    ·rw [if_pos (show p=0∨x=cu from .inr hxt)];exact Int.le_refl _
    ·rw [if_neg (show ¬ (p=0∨x=cu) by omega)]
     have h1:(x - 1) / p≤x - 1:=Int.ediv_le_self _ (by omega)
     omega
   ·rw [if_neg (show ¬ (p=0∨x=cu) by omega),if_neg (show ¬ (p=0∨y=cu) by omega)]
    have:(x - 1) / p≤(y - 1) / p:=Int.ediv_le_ediv (by omega) (by omega)
    omega
theorem BL {a b c d:Int} (h:a≤c) (k:b≤d):gG a b≤gG c d:=by
 unfold gG cu;split <;> split <;> omega
theorem MZ {a b c:Int} (ha:U a) (h:b≤c):dV a b≤dV a c:=by
 have:=Int.mul_le_mul_of_nonneg_left h ha.1
 unfold dV cu;omega
theorem BA {x y:Int} (hx:U x) (hy:U y) (h:x≤y):∀ {L:List (Int × Int)} {n m:Int},LU L→n≤m→iR x L n≤iR y L m
 | [],n,m,_,hn=>hn
 | p::L,n,m,hL,hn=>BA hx hy h (L:=L) (fun q hq=>hL q (List.mem_cons_of_mem _ hq)) (BL hn (MZ (hL p (List.mem_cons_self ..)).1 (Ii hx hy (hL p (List.mem_cons_self ..)).2 h)))
def NoW (L:List (Int × Int)) (n:Int) (x:Int):Prop:=∀ y,1≤y→y < x→¬ iR y L n≤y
def vW (L:List (Int × Int)) (n most:Int) (w:Int) (ok:Bool):Prop :=
 (ok=true→1≤w∧w≤most∧iR w L n≤w∧NoW L n w)∧(ok=false→w=cu∧NoW L n (min most 1048576 + 1))
theorem Least_E {L:List (Int × Int)} (hL:LU L) (hl:L.length≤1000) {n most:Int} (hn:U n) (hm:0≤most∧most≤16777216):EC Tryz.prog G132 [L.map qW] [.i n,.i 1,.i most] fun y rs vs=>y=0∧rs=[L.map qW]∧∃ w ok,vs=[.i w,.b ok]∧vW L n most w ok:=by
 refine E132 fun _ EV V=>?_
 have loop:∀ (d m:Nat) (x:Int),m + d=1048576→(m:Int) + 1≤x→U x→NoW L n x→EV 9 [L.map qW] [.i n,.i most,.i x,.i (m:Int)]:=by
  intro d
  induction d with
  | zero =>
   intro m x hd hx hu hw
   refine V.p9 fun _=>⟨fun h=>by omega,fun _=>⟨rfl,rfl,_,_,rfl,(fun h=>by cases h),fun _=>⟨rfl,fun y h1 h2=>hw y h1 (by omega)⟩⟩⟩
  | succ d ih =>
   intro m x hd hx hu hw
   refine V.p9 fun _=>⟨fun _=>⟨fun h=>⟨rfl,rfl,_,_,rfl,(fun h=>by cases h),fun _=>⟨rfl,fun y h1 h2=>hw y h1 (by omega)⟩⟩,fun hle=>(Pz hL hl hn hu).mono ?_⟩,fun h=>by omega⟩
   rintro _ _ _ ⟨rfl,rfl,rfl⟩
   refine ⟨rfl,_,_,rfl,rfl,fun h=>⟨rfl,rfl,_,_,rfl,fun _=>⟨by omega,hle,h,hw⟩,fun h=>by cases h⟩,fun h=>⟨rfl,?_⟩⟩
   rw [wrap64 (by omega) (by omega),show (m:Int) + 1=((m + 1:Nat):Int) by omega]
   have hdu:=PD hu hL hn
   refine ih (m + 1) _ (by omega) (by omega) hdu fun y h1 h2 h3=>?_
   rcases Int.lt_or_le y x with h4 | h4
   ·exact hw y h1 h4 h3
   ·have hyu:U y:=by unfold U at *;omega
    have:=BA hu hyu h4 hL (Int.le_refl n)
    omega
 exact loop 1048576 0 1 (by omega) (by omega) (by unfold U;omega) fun y h1 h2=>by omega
theorem PZ {L:List (Int × Int)} (hL:LU L) (hl:L.length≤1000) {n:Int} (hn:U n):EC Tryz.prog G95 [L.map qW] [.i n,.i 16777216] fun y rs vs=>y=0∧rs=[L.map qW]∧∃ w ok,vs=[.i w,.b ok]∧vW L n 16777216 w ok:=by
 refine E95 fun _ _ _=>?_
 rw [show arS.mn 16777216 16777216=16777216 from rfl]
 refine (Least_E hL hl hn (by omega)).mono ?_
 rintro _ _ _ ⟨rfl,rfl,w,ok,rfl,h⟩
 exact ⟨rfl,_,_,_,rfl,rfl,rfl,rfl,w,ok,rfl,h⟩
def us (l:List Int):List (List AV):=l.map fun n=>[.int .u64 n]
theorem yj (l:List Int):(us l).length=l.length:=by simp [us]
theorem NT (l:List Int) (i:Nat):cIS (us l) i 0=l.getD i 0:=by
 unfold cIS cellS us
 rw [List.getElem?_map,List.getD_eq_getElem?_getD]
 cases l[i]? <;> rfl
theorem NS {l:List Int} {i:Nat} (h:i < l.length):(us l)[i]?=some [.int .u64 (cIS (us l) i 0)]:=by
 rw [NT,us,List.getElem?_map,List.getElem?_eq_getElem h,List.getD_eq_getElem?_getD,List.getElem?_eq_getElem h]
 rfl
theorem Jr {l:List Int} {i:Nat} (h:i < l.length):l.getD i 0=l[i]:=by
 rw [List.getD_eq_getElem?_getD,List.getElem?_eq_getElem h];rfl
theorem NH {L:List (Int × Int)} (hL:LU L) (hl:L.length≤1000) {n x:Int} (hn:U n) (hx:U x):EC Tryz.prog G138 [] [.i n,.r (us (L.map Prod.fst)),.r (us (L.map Prod.snd)),.i x] fun y rs vs=>y=0∧rs=[]∧vs=[.i (iR x L n)]:=by
 refine E138 fun EV V=>?_
 rw [yj,List.length_map]
 have loop:∀ (d m:Nat) (k:Int),m + d=L.length→U k→iR x (L.drop m) k=iR x L n→EV 9 [] [.r (us (L.map Prod.fst)),.r (us (L.map Prod.snd)),.i x,.i k,.i (L.length:Int),.i (m:Int)]:=by
  intro d
  induction d with
  | zero =>
   intro m k hm hk he
   rw [List.drop_of_length_le (by omega),iR] at he
   exact V.p9 ⟨fun h=>by omega,fun _=>⟨rfl,rfl,by rw [he]⟩⟩
  | succ d ih =>
   intro m k hm hk he
   have hml:m < L.length:=by omega
   have hu:=hL _ (List.getElem_mem hml)
   rw [List.drop_eq_getElem_cons hml,iR] at he
   refine V.p9 ⟨fun _=>⟨by omega,NS (by simp;omega),NS (by simp;omega),?_⟩,fun h=>by omega⟩
   rw [Int.toNat_natCast,NT,NT,Jr (by simp;omega),Jr (by simp;omega),List.getElem_map,List.getElem_map]
   refine (RCeil_E hx hu.2).mono ?_
   rintro _ _ _ ⟨rfl,rfl,rfl⟩
   refine ⟨rfl,_,rfl,rfl,(Iy hu.1 (dL hx hu.2)).mono ?_⟩
   rintro _ _ _ ⟨rfl,rfl,rfl⟩
   refine ⟨rfl,_,rfl,rfl,(DD hk (kH hu.1 (dL hx hu.2))).mono ?_⟩
   rintro _ _ _ ⟨rfl,rfl,rfl⟩
   refine ⟨rfl,_,rfl,rfl,?_⟩
   rw [wrap64 (by omega) (by omega),show (m:Int) + 1=((m + 1:Nat):Int) by omega]
   exact ih (m + 1) _ (by omega) (rG hk (kH hu.1 (dL hx hu.2))) he
 exact loop L.length 0 n (by omega) hn rfl
def P5 (L:List (Int × Int)) (n most w:Int):Prop:=(w=0∧NoW L n (most + 1))∨(1≤w∧w≤most∧iR w L n≤w∧NoW L n w)
theorem NF {L:List (Int × Int)} (hL:LU L) (hl:L.length≤1000) {n most:Int} (hn:U n) (hm:0≤most∧most≤16777216):EC Tryz.prog G101 [] [.i n,.r (us (L.map Prod.fst)),.r (us (L.map Prod.snd)),.i most] fun y rs vs=>y=0∧rs=[]∧∃ w,vs=[.i w]∧P5 L n most w:=by
 refine E101 fun EV V=>?_
 have loop:∀ (d:Nat) (x:Int),(d:Int) + x=most + 1→1≤x→NoW L n x→EV 7 [] [.i n,.r (us (L.map Prod.fst)),.r (us (L.map Prod.snd)),.i most,.i x]:=by
  intro d
  induction d with
  | zero =>
   intro x hd hx hw
   exact V.p7 ⟨fun h=>by omega,fun _=>⟨rfl,rfl,_,rfl,.inl ⟨rfl,fun y h1 h2=>hw y h1 (by omega)⟩⟩⟩
  | succ d ih =>
   intro x hd hx hw
   have hu:U x:=by unfold U;omega
   refine V.p7 ⟨fun hle=>(NH hL hl hn hu).mono ?_,fun h=>by omega⟩
   rintro _ _ _ ⟨rfl,rfl,rfl⟩
   refine ⟨rfl,_,rfl,rfl,fun h=>⟨rfl,rfl,_,rfl,.inr ⟨hx,hle,h,hw⟩⟩,fun h=>?_⟩
   rw [fE (by omega) (by omega)]
   refine ih _ (by omega) (by omega) fun y h1 h2 h3=>?_
   rcases Int.lt_or_le y x with h4 | h4
   ·exact hw y h1 h4 h3
   ·obtain rfl:y=x:=by omega
    omega
 exact loop most.toNat 1 (by omega) (by omega) fun y h1 h2=>by omega
end Go.Ab
