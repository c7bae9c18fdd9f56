import Derived.Test.YtlakbkdhdgicfaaGreatQDqI
namespace Go.Ab
open Go Go.Proofs
set_option linter.unusedVariables false
set_option linter.unusedSimpArgs false
set_option maxRecDepth 100000
set_option maxHeartbeats 1000000
theorem Ac (l:List Int) (n:Int):us l++[[.int .u64 n]]=us (l++[n]):=by simp [us]
def hiN (T:List Tk) (a:Int) (n:Nat):List Int:=nN (fun t=>decide (t.p≥(tk T a.toNat).p)) T n
def ldN (c2 c3:Int) (T:List Tk) (a:Int) (n:Nat):List (Int × Int):=(hiN T a n).map fun i=>ldP c2 c3 (tk T i.toNat)
section
variable {c0 c1 c2 c3 c5:Int} {c4 c6 c9:List (List AV)} {M K C L:List Int} {T:List Tk}
theorem Qd (hF:Fits C T) (a:Int) (ha:0≤a∧a < T.length):EC Tryz.prog G27 [] [.i c0,.i c1,.i c2,.i c3,.r c4,.i c5,.r c6,.r (ints C),.r (T.map aF),.r c9,.i a] fun x rs vs=>x=0∧rs=[]∧vs=[.i (ldP c2 c3 (tk T a.toNat)).1]:=by
 have hat:a.toNat < T.length:=by omega
 have h1:=hF.at hat
 have h2:=lG c2 c3 false (tk T a.toNat).pg
 refine E27 fun _ _=>⟨ha.1,aW hat,?_⟩
 rw [tk6]
 refine (Qa _ (by omega) c0 c1 c2 c3 false).mono ?_
 rintro _ _ _ ⟨rfl,rfl,rfl⟩
 refine ⟨rfl,_,rfl,rfl,rfl,rfl,?_⟩
 rw [fE (by omega) (by omega)]
 have e:(ldP c2 c3 (tk T a.toNat)).1=ig c2 c3 false (tk T a.toNat).pg:=by
  show max _ _=_
  omega
 rw [e]
theorem Iu (hF:Fits C T) (hpe:∀ t∈T,0≤t.pe) (a:Int) (ha:0≤a∧a < T.length) {n most:Int} (hn:U n) (hm:0≤most∧most≤16777216):EC Tryz.prog G65 [] [.i c0,.i c1,.i c2,.i c3,.r c4,.i c5,.r c6,.r (ints C),.r (T.map aF),.r c9,.i a,.i n,.i most] fun x rs vs=>x=0∧rs=[]∧∃ w,vs=[.i w]∧P5 (ldL c2 c3 T a) n most w:=by
 refine E65 fun EV V=>?_
 rw [List.length_map]
 have hT:=hF.t
 have loop:∀ d m:Nat,m + d=T.length→EV 9 [us ((ldN c2 c3 T a m).map Prod.fst),us ((ldN c2 c3 T a m).map Prod.snd)] [.i a,.i n,.i most,.r (T.map aF),.i (T.length:Int),.i (m:Int),.i c0,.i c1,.i c2,.i c3,.r c4,.i c5,.r c6,.r (ints C),.r (T.map aF),.r c9]:=by
  intro d
  induction d with
  | zero =>
   intro m hmm
   obtain rfl:m=T.length:=by omega
   refine V.p9 fun _ _=>⟨fun h=>by omega,fun _=>?_⟩
   rw [List.drop_zero,List.drop_zero,List.take_length,List.take_length]
   have hl:=Jj hF (c2:=c2) (c3:=c3) a
   refine (NF (L:=ldL c2 c3 T a) (O3 hF a) (by omega) hn hm).mono ?_
   rintro _ _ _ ⟨rfl,rfl,w,rfl,hw⟩
   exact ⟨rfl,_,rfl,rfl,rfl,rfl,w,rfl,hw⟩
  | succ d ih =>
   intro m hmm
   have hlt:m < T.length:=by omega
   have h3:=ih (m + 1) (by omega)
   have hle:(hiN T a m).length≤m:=jd _ T m
   have hp:=hF.at hlt
   have hpm:0≤(tk T m).pe:=by rw [bP hlt];exact hpe _ (List.getElem_mem hlt)
   refine V.p9 fun _ _=>⟨fun _=>⟨by omega,aW hlt,ha.1,aW (by omega),fun hc=>⟨_,Qd hF (m:Int) (by omega),by simp [yj,ldN];omega,by simp [yj,ldN];omega,by simp [yj,ldN];omega,by simp [yj,ldN];omega,?_⟩,fun hc=>?_⟩,fun h=>by omega⟩
   ·rw [tk0,tk0,Int.toNat_natCast] at hc
    rw [Int.toNat_natCast,tk2,fE (by omega) (by omega),wrap64 (by omega) (by omega),show (m:Int) + 1=((m + 1:Nat):Int) by omega]
    have e:ldN c2 c3 T a (m + 1)=ldN c2 c3 T a m++[ldP c2 c3 (tk T m)]:=by
     rw [ldN,hiN,iL,if_pos (decide_eq_true hc),List.map_append]
     rfl
    rw [e,List.map_append,List.map_append] at h3
    show EV 9 [us _++[[.int .u64 _]],us _++[[.int .u64 _]]] _
    rw [Ac,Ac]
    have e2:max (tk T m).pe 0=(tk T m).pe:=by omega
    have h4:[ldP c2 c3 (tk T m)].map Prod.snd=[(tk T m).pe]:=by
     show [max (tk T m).pe 0]=_
     rw [e2]
    rw [h4] at h3
    exact h3
   ·rw [tk0,tk0,Int.toNat_natCast] at hc
    rw [wrap64 (by omega) (by omega),show (m:Int) + 1=((m + 1:Nat):Int) by omega]
    have e:ldN c2 c3 T a (m + 1)=ldN c2 c3 T a m:=by
     rw [ldN,hiN,iL,if_neg (by simp;omega),List.append_nil]
     rfl
    rw [e] at h3
    exact h3
 exact loop T.length 0 (by omega)
theorem rH (hc:Cf c0 c1 c2 c3 M c5 K C T L):EC Tryz.prog G21 [] [.i c0,.i c1,.i c2,.i c3,.r (ints M),.i c5,.r (ints K),.r (ints C),.r (T.map aF),.r (ints L)] fun x rs vs=>x=0∧rs=[]∧vs=[.b (gQ c2 c3 C T T.length)]:=by
 have hF:=hc.fits
 have ht8:=hc.t8
 refine E21 fun EV V=>?_
 rw [List.length_map]
 have no:∀ m,m < T.length→jc c2 c3 C T m=false→gQ c2 c3 C T T.length=false:=by
  intro m hm h
  cases ha:gQ c2 c3 C T T.length with
  | false=>rfl
  | true =>
   simp only [gQ,List.all_eq_true,List.mem_range] at ha
   have:=ha m hm
   rw [this] at h;cases h
 have loop:∀ d m:Nat,m + d=T.length→gQ c2 c3 C T m=true→EV 7 [] [.r (T.map aF),.i (T.length:Int),.i (m:Int),.i c0,.i c1,.i c2,.i c3,.r (ints M),.i c5,.r (ints K),.r (ints C),.r (T.map aF),.r (ints L)]:=by
  intro d
  induction d with
  | zero =>
   intro m hm hi
   obtain rfl:m=T.length:=by omega
   exact V.p7 ⟨fun h=>by omega,fun _=>⟨rfl,rfl,by rw [hi]⟩⟩
  | succ d ih =>
   intro m hm hi
   have hlt:m < T.length:=by omega
   have hn:=dm (hc.nums _ (List.getElem_mem hlt))
   rw [← bP hlt] at hn
   refine V.p7 ⟨fun _=>⟨by omega,aW hlt,(Qc hF (m:Int) (by omega)).mono ?_⟩,fun h=>by omega⟩
   rintro _ _ _ ⟨rfl,rfl,rfl⟩
   refine ⟨rfl,_,rfl,rfl,?_⟩
   rw [tk3,Int.toNat_natCast,fE (by omega) (by omega)]
   refine (Iu hF (fun t ht=>by have:=dm (hc.nums t ht);omega) (m:Int) (by omega) (PE hF _) (by omega)).mono ?_
   rintro _ _ _ ⟨rfl,rfl,w,rfl,hw⟩
   have hf:=win_fit hw
   have hf:w=0↔jc c2 c3 C T m=false:=hf
   refine ⟨rfl,_,rfl,rfl,V.p19 ⟨fun h=>⟨rfl,rfl,?_⟩,fun h=>?_⟩⟩
   ·rw [no m hlt (hf.1 (by simpa using h))]
   ·rw [wrap64 (by omega) (by omega),show (m:Int) + 1=((m + 1:Nat):Int) by omega]
    refine ih (m + 1) (by omega) ?_
    have:jc c2 c3 C T m=true:=by
     cases hb:jc c2 c3 C T m with
     | true=>rfl
     | false=>have:=hf.2 hb;simp [this] at h
    rw [uz,hi,this];rfl
 exact loop T.length 0 (by omega) (by simp [gQ])
end
end Go.Ab
