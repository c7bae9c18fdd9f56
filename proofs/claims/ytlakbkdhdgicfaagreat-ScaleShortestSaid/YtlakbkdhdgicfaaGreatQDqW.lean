import Derived.Test.YtlakbkdhdgicfaaGreatQDqV
import Derived.Test.YtlakbkdhdgicfaaGreatQVA
import Derived.Test.YtlakbkdhdgicfaaGreatQVB
import Derived.Test.YtlakbkdhdgicfaaGreatQVC
import Derived.Test.YtlakbkdhdgicfaaGreatQVD
import Derived.Test.YtlakbkdhdgicfaaGreatQVE
namespace Go.Ab
open Go Go.Proofs
set_option linter.unusedVariables false
set_option linter.unusedSimpArgs false
set_option maxRecDepth 100000
set_option maxHeartbeats 1000000
theorem wf16 {n:Int} (h:(Lit.int .u16 n).wf=true):0≤n∧n≤65535:=by
 simp only [Lit.wf,Bool.and_eq_true,decide_eq_true_eq] at h
 have e1:IntKind.min .u16=0:=rfl
 have e2:IntKind.max .u16=65535:=rfl
 rw [e1,e2] at h;exact h
theorem VX (l:List Int) (hl:l.length≤1000):EC Tryz.prog G82 [] [.r (ints l),.r (ints l)] fun x rs vs=>x=0∧rs=[]∧vs=[.b true]:=by
 refine E82 fun EV V=>⟨fun h=>absurd rfl h,fun _=>?_⟩
 rw [ints_length]
 have loop:∀ d m:Nat,m + d=l.length→EV 15 [] [.r (ints l),.r (ints l),.i (l.length:Int),.i (m:Int)]:=by
  intro d
  induction d with
  | zero=>intro m hm;exact V.p15 ⟨fun h=>by omega,fun _=>⟨rfl,rfl,rfl⟩⟩
  | succ d ih =>
   intro m hm
   refine V.p15 ⟨fun _=>⟨by omega,aJ (by omega),aJ (by omega),fun h=>absurd rfl h,fun _=>?_⟩,fun h=>by omega⟩
   rw [wrap64 (by omega) (by omega),show (m:Int) + 1=((m + 1:Nat):Int) by omega]
   exact ih (m + 1) (by omega)
 exact loop l.length 0 (by omega)
section
variable {c0 c1 c2 c3 c5:Int} {M K C L:List Int} {T:List Tk}
theorem Wi (hM:M.length≤1000) (hK:K.length≤1000) (hC:C.length≤1000) (hL:L.length≤1000) (hT:T.length≤1000) (hpg:∀ t∈T,t.pg.length≤1000):EC Tryz.prog G46 [] [.i c0,.i c1,.i c2,.i c3,.r (ints M),.i c5,.r (ints K),.r (ints C),.r (T.map aF),.r (ints L),.i c0,.i c1,.i c2,.i c3,.r (ints M),.i c5,.r (ints K),.r (ints C),.r (T.map aF),.r (ints L)] fun x rs vs=>x=0∧rs=[]∧vs=[.b true]:=by
 refine E46 fun EV V=>⟨fun _=>⟨fun _=>(VX M hM).mono ?_,fun h=>absurd rfl h⟩,fun h=>by simp at h⟩
 rintro _ _ _ ⟨rfl,rfl,rfl⟩
 refine ⟨rfl,_,rfl,rfl,fun _=>(VX K hK).mono ?_,fun h=>by cases h⟩
 rintro _ _ _ ⟨rfl,rfl,rfl⟩
 refine ⟨rfl,_,rfl,rfl,fun _=>(VX C hC).mono ?_,fun h=>by cases h⟩
 rintro _ _ _ ⟨rfl,rfl,rfl⟩
 refine ⟨rfl,_,rfl,rfl,fun _=>(VX L hL).mono ?_,fun h=>by cases h⟩
 rintro _ _ _ ⟨rfl,rfl,rfl⟩
 rw [List.length_map]
 refine ⟨rfl,_,rfl,rfl,fun _=>⟨fun h=>absurd rfl h,fun _=>?_⟩,fun h=>by cases h⟩
 have ops:∀ (m:Nat) (hm:m < T.length),EV 15 [] [.i (T.length:Int),.i ((m + 1:Nat):Int),.i c0,.i c1,.i c2,.i c3,.r (ints M),.i c5,.r (ints K),.r (ints C),.r (T.map aF),.r (ints L),.i c0,.i c1,.i c2,.i c3,.r (ints M),.i c5,.r (ints K),.r (ints C),.r (T.map aF),.r (ints L)]→∀ d k:Nat,k + d=(tk T m).pg.length →
   EV 39 [] [.i (T.length:Int),.i (m:Int),.i ((tk T m).pg.length:Int),.i (k:Int),.i c0,.i c1,.i c2,.i c3,.r (ints M),.i c5,.r (ints K),.r (ints C),.r (T.map aF),.r (ints L),.i c0,.i c1,.i c2,.i c3,.r (ints M),.i c5,.r (ints K),.r (ints C),.r (T.map aF),.r (ints L),.i (tk T m).p,.i (tk T m).th,.i (tk T m).pe,.i (tk T m).de,.i (tk T m).fr,.i (tk T m).fl,.r ((tk T m).pg.map bY),.i (tk T m).p,.i (tk T m).th,.i (tk T m).pe,.i (tk T m).de,.i (tk T m).fr,.i (tk T m).fl,.r ((tk T m).pg.map bY)]:=by
  intro m hm next d
  have hpl:(tk T m).pg.length≤1000:=hpg _ (by rw [bP hm];exact List.getElem_mem hm)
  induction d with
  | zero =>
   intro k hk
   refine V.p39 ⟨fun h=>by omega,fun _=>?_⟩
   rw [wrap64 (by omega) (by omega),show (m:Int) + 1=((m + 1:Nat):Int) by omega]
   exact next
  | succ d ih =>
   intro k hk
   have hlt:k < (tk T m).pg.length:=by omega
   refine V.p39 ⟨fun _=>⟨by omega,gp hlt,gp hlt,fun h=>by simp at h,fun _=>?_⟩,fun h=>by omega⟩
   rw [wrap64 (by omega) (by omega),show (k:Int) + 1=((k + 1:Nat):Int) by omega]
   exact ih (k + 1) (by omega)
 have loop:∀ d m:Nat,m + d=T.length→EV 15 [] [.i (T.length:Int),.i (m:Int),.i c0,.i c1,.i c2,.i c3,.r (ints M),.i c5,.r (ints K),.r (ints C),.r (T.map aF),.r (ints L),.i c0,.i c1,.i c2,.i c3,.r (ints M),.i c5,.r (ints K),.r (ints C),.r (T.map aF),.r (ints L)]:=by
  intro d
  induction d with
  | zero=>intro m hm;exact V.p15 ⟨fun h=>by omega,fun _=>⟨rfl,rfl,rfl⟩⟩
  | succ d ih =>
   intro m hm
   have hlt:m < T.length:=by omega
   refine V.p15 ⟨fun _=>⟨by omega,aW hlt,aW hlt,?_⟩,fun h=>by omega⟩
   rw [Int.toNat_natCast,tk0,tk1,tk2,tk3,tk4,tk5,tk6]
   refine V.p27 ⟨fun _=>⟨fun _=>⟨fun _=>⟨fun _=>⟨fun _=>⟨fun _=>⟨fun h=>absurd rfl h,fun _=>?_⟩,fun h=>absurd rfl h⟩,fun h=>absurd rfl h⟩,fun h=>absurd rfl h⟩,fun h=>absurd rfl h⟩,fun h=>absurd rfl h⟩,fun h=>absurd rfl h⟩
   rw [List.length_map]
   exact ops m hlt (ih (m + 1) (by omega)) (tk T m).pg.length 0 (by omega)
 exact loop T.length 0 (by omega)
theorem few48 (hT:T.length≤maxLen):EC Tryz.prog G48 [] [.i c0,.i c1,.i c2,.i c3,.r (ints M),.i c5,.r (ints K),.r (ints C),.r (T.map aF),.r (ints L)] fun x rs vs=>x=0∧rs=[]∧∃ b,vs=[.b b]∧(b=true→M.length≤20∧K.length≤20∧C.length≤20∧T.length≤20∧L.length≤20∧∀ t∈T,t.pg.length≤80):=by
 have no:∀ {p:Prop},(0:Nat)=0∧([]:Rs)=[]∧∃ b,[Lf.b false]=[.b b]∧(b=true→p):=⟨rfl,rfl,false,rfl,fun h=>by cases h⟩
 refine E48 fun _ _=>(DK hT).mono ?_
 rintro _ _ _ ⟨rfl,rfl,b,rfl,hb⟩
 refine ⟨rfl,_,rfl,rfl,fun h=>⟨fun _=>⟨fun _=>(JU hT).mono ?_,fun _=>no⟩,fun _=>no⟩,fun _=>no⟩
 rintro _ _ _ ⟨rfl,rfl,d,rfl,_⟩
 exact ⟨rfl,_,rfl,rfl,rfl,rfl,_,rfl,fun _=>hb h⟩
theorem VD:EC Tryz.prog G50 [] [.i c0,.i c1,.i c2,.i c3,.r (ints M),.i c5,.r (ints K),.r (ints C),.r (T.map aF),.r (ints L)] fun x rs vs=>x=0∧rs=[]∧vs=[.b (eF c0 c1 c2 c3 M c5 K C T L)]:=by
 refine E50 fun _ _=>vV.mono ?_
 rintro _ _ _ ⟨rfl,rfl,rfl⟩
 refine ⟨rfl,_,rfl,rfl,fun h=>(rH (dP h)).mono ?_,fun h=>⟨rfl,rfl,?_⟩⟩
 ·rintro _ _ _ ⟨rfl,rfl,rfl⟩
  refine ⟨rfl,_,rfl,rfl,rfl,rfl,?_⟩
  unfold eF;simp [h]
 ·unfold eF;simp [h]
theorem doc_scl {n:Int} (hn:0≤n∧n≤1024) {a:Int} (ha:1≤a∧a≤1000):(a * n % 8 > 0→zX n a=min (max (a * n / 8 + 1) 1) 1000)∧(a * n % 8≤0→zX n a=min (max (a * n / 8) 1) 1000):=by
 have hb:=clog hn ha
 have h1:=Int.emod_nonneg (a * n) (show (8:Int)≠0 by omega)
 unfold zX
 rw [if_pos ha]
 generalize a * n=x at *
 constructor
 ·intro h;rw [show (x + 7) / 8=x / 8 + 1 by omega]
 ·intro h;rw [show (x + 7) / 8=x / 8 by omega]
theorem UI (hT:T.length≤1000) (hpg:∀ t∈T,t.pg.length≤1000) {n:Int} (hn:0≤n∧n≤1024):EC Tryz.prog G45 [] [.i c0,.i c1,.i c2,.i c3,.r (ints M),.i c5,.r (ints K),.r (ints C),.r (T.map aF),.r (ints L),.i n] fun x rs vs=>x=0∧rs=[]∧vs=[.i c0,.i c1,.i c2,.i c3,.r (ints M),.i c5,.r (ints K),.r (ints C),.r ((T.map (yC n)).map aF),.r (ints L)]:=by
 refine E45 fun EV V=>?_
 rw [List.length_map]
 refine ⟨by omega,by omega,IM T,?_⟩
 have inner:∀ (m:Nat) (hm:m < T.length),EV 11 [[],[],[],[],[],(pre (yC n) T (m + 1)).map aF] [.i n,.r (T.map aF),.i (T.length:Int),.i ((m + 1:Nat):Int),.i 0,.i 0,.i 0,.i 0,.i 0,.i c0,.i c1,.i c2,.i c3,.r (ints M),.i c5,.r (ints K),.r (ints C),.r (ints L)] →
   ∀ d k:Nat,k + d=(tk T m).pg.length→EV 28 [(pre (ou n) (tk T m).pg k).map bY,[],[],[],[],[],(pre (yC n) T m).map aF] [.i n,.i (m:Int),.r (T.map aF),.i (T.length:Int),.i (m:Int),.i ((tk T m).pg.length:Int),.i (k:Int),.i 0,.i 0,.i 0,.i 0,.i 0,.i c0,.i c1,.i c2,.i c3,.r (ints M),.i c5,.r (ints K),.r (ints C),.r (ints L)]:=by
  intro m hm next d
  have hpl:(tk T m).pg.length≤1000:=hpg _ (by rw [bP hm];exact List.getElem_mem hm)
  induction d with
  | zero =>
   intro k hk
   refine V.p28 fun _ _ _ _ _ _ _=>⟨fun h=>by omega,fun _=>⟨by omega,by rw [List.length_map,Um];omega,aW (by rw [Um];exact hm),?_⟩⟩
   rw [Int.toNat_natCast,lD,Vz _ _ (by omega:(tk T m).pg.length≤k),Wj hm,wrap64 (by omega) (by omega),show (m:Int) + 1=((m + 1:Nat):Int) by omega]
   exact next
  | succ d ih =>
   intro k hk
   have hlt:k < (tk T m).pg.length:=by omega
   have hl2:((pre (ou n) (tk T m).pg k).map bY).length=(tk T m).pg.length:=by rw [List.length_map,Um]
   have hg:((pre (ou n) (tk T m).pg k).map bY)[k]?=some (r3 ((pre (ou n) (tk T m).pg k).map bY) k):=gp (by rw [Um];exact hlt)
   have skip:pre (ou n) (tk T m).pg (k + 1)=pre (ou n) (tk T m).pg k→EV 28 [(pre (ou n) (tk T m).pg k).map bY,[],[],[],[],[],(pre (yC n) T m).map aF] [.i n,.i (m:Int),.r (T.map aF),.i (T.length:Int),.i (m:Int),.i ((tk T m).pg.length:Int),.i (IntKind.wrap .i64 ((k:Int) + 1)),.i 0,.i 0,.i 0,.i 0,.i 0,.i c0,.i c1,.i c2,.i c3,.r (ints M),.i c5,.r (ints K),.r (ints C),.r (ints L)]:=fun e=>by
    rw [← e,wrap64 (by omega) (by omega),show (k:Int) + 1=((k + 1:Nat):Int) by omega]
    exact ih (k + 1) (by omega)
   refine V.p28 fun _ _ _ _ _ _ _=>⟨fun _=>⟨by omega,by rw [hl2];omega,hg,fun h1=>?_,fun h1=>?_⟩,fun h=>by omega⟩
   ·rw [Int.toNat_natCast,uP,Vf _ _ hlt] at h1
    rw [Int.toNat_natCast,uO,Vf _ _ hlt]
    refine ⟨fun h2=>⟨fun h3=>skip (VH hlt (by omega)),fun h3=>?_⟩,fun h2=>skip (VH hlt (by omega))⟩
    have hb:=clog hn ⟨h2,h3⟩
    obtain ⟨d1,d2⟩:=doc_scl hn ⟨h2,h3⟩
    rw [wrap64 (x:=(op3 (tk T m).pg k).a * n) (by omega) (by omega),Int.tmod_eq_emod_of_nonneg (by omega),Int.tdiv_eq_ediv_of_nonneg (by omega),wrap64 (x:=(op3 (tk T m).pg k).a * n / 8) (by omega) (by omega),wrap64 (x:=(op3 (tk T m).pg k).a * n / 8 + 1) (by omega) (by omega),mxS,mnS,mxS,mnS]
    refine ⟨fun h4=>⟨by omega,by rw [hl2];omega,hg,?_⟩,fun h4=>⟨by omega,by rw [hl2];omega,hg,?_⟩⟩
    ·rw [← d1 h4,VB hlt h1,wrap64 (by omega) (by omega),show (k:Int) + 1=((k + 1:Nat):Int) by omega]
     exact ih (k + 1) (by omega)
    ·rw [← d2 h4,VB hlt h1,wrap64 (by omega) (by omega),show (k:Int) + 1=((k + 1:Nat):Int) by omega]
     exact ih (k + 1) (by omega)
   ·rw [Int.toNat_natCast,uP,Vf _ _ hlt] at h1
    exact skip (Wl hlt h1)
 have loop:∀ d m:Nat,m + d=T.length→EV 11 [[],[],[],[],[],(pre (yC n) T m).map aF] [.i n,.r (T.map aF),.i (T.length:Int),.i (m:Int),.i 0,.i 0,.i 0,.i 0,.i 0,.i c0,.i c1,.i c2,.i c3,.r (ints M),.i c5,.r (ints K),.r (ints C),.r (ints L)]:=by
  intro d
  induction d with
  | zero =>
   intro m hm
   refine V.p11 fun _ _ _ _ _ _=>⟨fun h=>by omega,fun _=>⟨rfl,rfl,?_⟩⟩
   rw [lD,Vz _ _ (by omega:T.length≤m)]
  | succ d ih =>
   intro m hm
   have hlt:m < T.length:=by omega
   have hpl:(tk T m).pg.length≤1000:=hpg _ (by rw [bP hlt];exact List.getElem_mem hlt)
   refine V.p11 fun _ _ _ _ _ _=>⟨fun _=>⟨by omega,aW hlt,?_⟩,fun h=>by omega⟩
   rw [Int.toNat_natCast,tk6,List.length_map]
   refine ⟨by omega,by omega,pursO _,?_⟩
   have h0:=inner m hlt (ih (m + 1) (by omega)) (tk T m).pg.length 0 (by omega)
   rw [WU] at h0
   exact h0
 have h0:=loop T.length 0 (by omega)
 rw [WU] at h0
 exact h0
end
end Go.Ab
