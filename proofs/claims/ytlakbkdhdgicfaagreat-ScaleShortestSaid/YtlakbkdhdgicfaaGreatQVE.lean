import Derived.Test.YtlakbkdhdgicfaaGreatQS
import Derived.Test.YtlakbkdhdgicfaaGreatLayE
/- PRINTED BY A PROGRAM (wip/tools/vc.py, AbVc.lean): what is to be shown of each function, from place to place, and that it is enough. -/
namespace Go.Ab
open Go Go.Proofs
set_option linter.unusedVariables false
set_option linter.unusedSimpArgs false
set_option maxRecDepth 100000
set_option maxHeartbeats 0
variable {Q EV RR:EP} {A:Ar} {CE:Nat→Rs→List Lf→EP→Prop} {CK:Nat→Rs→List Lf→Cont→Prop} {Dn:Nat→List Bool→List bf→Nat→List Bool→List AV→List aj→Prop}
theorem E81  (h:∀ EV,VN EV Q→Q 0 [[[(AV.int .i64 1),(AV.int .i64 1),(AV.int .i64 10),(AV.int .i64 10),(AV.int .i64 0),(AV.int .i64 0),(AV.inl 3 [[(AV.int .i64 1),(AV.int .i64 5),(AV.int .i64 0)]])]]] [.i 1,.i 1,.i 1,.i 5,.i 0]):EZ G81 [] [] Q:=by
 refine ak.en (I:=I81) (L:=L81) QA fun A hA CE CK Dn EV RR W hp=>?_
 have h:=h  EV ⟨trivial⟩
 cbv
 subst hA
 exact ⟨(An rfl (An rfl rfl)),⟨aQ,(W.q h)⟩⟩
theorem E83 {a0:RW} (h:∀ EV,VN EV Q→((a0.length:Int)=0→Q 0 [[]] [])∧(a0.length≤140737488355328)∧((a0.length * 24)≤140737488355328)∧(aB a0=true)∧(Q 0 [a0] [])):EZ G83 [] [.r a0] Q:=by
 refine ak.en (I:=I83) (L:=L83) Qy fun A hA CE CK Dn EV RR W hp=>?_
 have h:=h  EV ⟨trivial⟩
 cbv
 subst hA
 exact ⟨fun e0=>have j0:=h.1 ((ah (op:=.eql) rfl e0));⟨(An rfl (An rfl rfl)),⟨aQ,(W.q j0)⟩⟩,⟨(An h.2.1 h.2.2.1),⟨(An rfl (An rfl rfl)),⟨h.2.2.2.1,(W.q h.2.2.2.2)⟩⟩⟩⟩
theorem E84 {a0 a1:Int} (h:∀ EV,VN EV Q→(a0≥1→(a0 > 1000→Q 0 [] [.i a0])∧(a0≤1000→Q 0 [] [.i (arS.mn (arS.mx (IntKind.wrap .i64 (Int.tdiv (IntKind.wrap .i64 ((IntKind.wrap .i64 ((IntKind.wrap .i64 (a0 * a1)) + 8)) - 1)) 8)) 1) 1000)]))∧(a0 < 1→Q 0 [] [.i a0])):EZ G84 [] [.i a0,.i a1] Q:=by
 refine ak.en (I:=I84) (L:=L84) Qx fun A hA CE CK Dn EV RR W hp=>?_
 have h:=h  EV ⟨trivial⟩
 cbv
 subst hA
 exact ⟨fun e0=>have j0:=h.1 (ah (op:=.lss) rfl e0);⟨fun e1=>have j1:=j0.1 (ah (op:=.gtr) rfl e1);(W.q j1),fun e1=>have j1:=j0.2 (ah (op:=.gtr) rfl e1);⟨(show _≠_ by decide),(W.q j1)⟩⟩,fun e0=>have j0:=h.2 (ah (op:=.lss) rfl e0);(W.q j0)⟩
structure V47 (EV Q:EP):Prop where
  p11:∀ {R0 R1 R2 R3 R4 R5:RW} {t1 t18 t19 b0 b1 b2 b3:Int} {b4:RW} {b5:Int} {b6 b7 b8:RW} {d0 d1 d2 d3 d4:Int},(aB R0=true→aB R1=true→aB R2=true→aB R3=true→aB R4=true→aB R5=true→(t19 < t18→(0≤t19)∧(t19 < (R0.length:Int))∧(R0[t19.toNat]?=some (r7 R0 t19.toNat))∧(EZ G83 [] [.r (cRS R0 t19.toNat 6)] (fun x rs vs=>(x=0∧∃ Tc,rs=[Tc]∧vs=[]∧(EV 28 [Tc,R0,R1,R2,R3,R4,R5] [.i t1,.i t19,.i t18,.i t19,.i (Tc.length:Int),.i 0,.i b0,.i b1,.i b2,.i b3,.r b4,.i b5,.r b6,.r b7,.r b8,.i d0,.i d1,.i d2,.i d3,.i d4])))))∧(t19≥t18→Q 0 [] (cL b0 b1 b2 b3 b4 b5 b6 b7 (List.take R0.length (List.drop 0 R0)) b8 [])))→EV 11 [R0,R1,R2,R3,R4,R5] [.i t1,.i t18,.i t19,.i b0,.i b1,.i b2,.i b3,.r b4,.i b5,.r b6,.r b7,.r b8,.i d0,.i d1,.i d2,.i d3,.i d4]
  p28:∀ {R0 R1 R2 R3 R4 R5 R6:RW} {t1 t5 t18 t19 t30 t31 b0 b1 b2 b3:Int} {b4:RW} {b5:Int} {b6 b7 b8:RW} {d0 d1 d2 d3 d4:Int},(aB R0=true→aB R1=true→aB R2=true→aB R3=true→aB R4=true→aB R5=true→aB R6=true→(t31 < t30→(0≤t31)∧(t31 < (R0.length:Int))∧(R0[t31.toNat]?=some (r3 R0 t31.toNat))∧((cIS R0 t31.toNat 0)=1→EZ G84 [] [.i (cIS R0 t31.toNat 1),.i t1] (fun x rs vs=>(x=0∧∃ SY,rs=[]∧vs=[.i SY]∧((0≤t31)∧(t31 < (R0.length:Int))∧(R0[t31.toNat]?=some (r3 R0 t31.toNat))∧(EV 28 [(List.set R0 t31.toNat [.int .i64 (cIS R0 t31.toNat 0),.int .i64 SY,.int .i64 (cIS R0 t31.toNat 2)]),R1,R2,R3,R4,R5,R6] [.i t1,.i t5,.i t18,.i t19,.i t30,.i (IntKind.wrap .i64 (t31 + 1)),.i b0,.i b1,.i b2,.i b3,.r b4,.i b5,.r b6,.r b7,.r b8,.i d0,.i d1,.i d2,.i d3,.i d4])))))∧((cIS R0 t31.toNat 0)≠1→EV 28 [R0,R1,R2,R3,R4,R5,R6] [.i t1,.i t5,.i t18,.i t19,.i t30,.i (IntKind.wrap .i64 (t31 + 1)),.i b0,.i b1,.i b2,.i b3,.r b4,.i b5,.r b6,.r b7,.r b8,.i d0,.i d1,.i d2,.i d3,.i d4]))∧(t31≥t30→(0≤t5)∧(t5 < (R1.length:Int))∧(R1[t5.toNat]?=some (r7 R1 t5.toNat))∧(EV 11 [(List.set R1 t5.toNat [.int .i64 (cIS R1 t5.toNat 0),.int .i64 (cIS R1 t5.toNat 1),.int .i64 (cIS R1 t5.toNat 2),.int .i64 (cIS R1 t5.toNat 3),.int .i64 (cIS R1 t5.toNat 4),.int .i64 (cIS R1 t5.toNat 5),.inl 3 (List.take R0.length (List.drop 0 R0))]),R2,R3,R4,R5,R6] [.i t1,.i t18,.i (IntKind.wrap .i64 (t19 + 1)),.i b0,.i b1,.i b2,.i b3,.r b4,.i b5,.r b6,.r b7,.r b8,.i d0,.i d1,.i d2,.i d3,.i d4])))→EV 28 [R0,R1,R2,R3,R4,R5,R6] [.i t1,.i t5,.i t18,.i t19,.i t30,.i t31,.i b0,.i b1,.i b2,.i b3,.r b4,.i b5,.r b6,.r b7,.r b8,.i d0,.i d1,.i d2,.i d3,.i d4]
theorem V47.of (W:Wk Tryz.prog Tryz.f47 I47 L47 Q A sg CE CK Dn EV RR):V47 EV Q:=by
 have hA:=W.hA
 refine ⟨?_,?_⟩
 ·intro R0 R1 R2 R3 R4 R5 t1 t18 t19 b0 b1 b2 b3 b4 b5 b6 b7 b8 d0 d1 d2 d3 d4 h
  refine W.step 80 fun hp=>?_
  have h:=h hp.1 hp.2.1 hp.2.2.1 hp.2.2.2.1 hp.2.2.2.2.1 hp.2.2.2.2.2.1
  cbv
  refine ⟨imI hA fun e0=>have j0:=h.1 (ah (op:=.lss) hA e0);⟨ndI hA (An j0.1 (An (hA ▸ j0.2.1) rfl)),⟨ndI hA (An rfl (hA ▸ j0.2.2.1)),?_⟩⟩,imI hA fun e0=>have j0:=h.2 (ah (op:=.lss) hA e0);⟨ndI hA (An (An hp.1 (An hp.2.1 (An hp.2.2.1 (An hp.2.2.2.1 (An hp.2.2.2.2.1 (An hp.2.2.2.2.2.1 trivial)))))) (An (An rfl trivial) trivial)),⟨ndI hA (An (An rfl trivial) (An (An rfl trivial) trivial)),(W.q (hA ▸ j0))⟩⟩⟩
  refine W.cl j0.2.2.2 ?_
  rintro _ _ _ hp1 (⟨rfl,Tc,rfl,rfl,k1⟩)
  cbv
  subst hA
  exact ⟨rfl,⟨(An rfl (An rfl rfl)),⟨(An rfl (An rfl rfl)),⟨(An rfl (An rfl rfl)),⟨(An rfl (An rfl rfl)),⟨(An rfl (An rfl rfl)),⟨(An rfl (An rfl rfl)),⟨(An rfl (An rfl rfl)),⟨(An rfl (An rfl rfl)),⟨hp1.1,⟨hp.1,⟨hp.2.1,⟨hp.2.2.1,⟨hp.2.2.2.1,⟨hp.2.2.2.2.1,⟨hp.2.2.2.2.2.1,k1⟩⟩⟩⟩⟩⟩⟩⟩⟩⟩⟩⟩⟩⟩⟩⟩
 ·intro R0 R1 R2 R3 R4 R5 R6 t1 t5 t18 t19 t30 t31 b0 b1 b2 b3 b4 b5 b6 b7 b8 d0 d1 d2 d3 d4 h
  refine W.step 80 fun hp=>?_
  have h:=h hp.1 hp.2.1 hp.2.2.1 hp.2.2.2.1 hp.2.2.2.2.1 hp.2.2.2.2.2.1 hp.2.2.2.2.2.2.1
  cbv
  refine ⟨imI hA fun e0=>have j0:=h.1 (ah (op:=.lss) hA e0);⟨ndI hA (An j0.1 (An (hA ▸ j0.2.1) rfl)),⟨ndI hA (An rfl (hA ▸ j0.2.2.1)),⟨imI hA fun e1=>have j1:=j0.2.2.2.1 (by subst hA;exact (ah (op:=.eql) rfl e1));?_,imI hA fun e1=>have j1:=j0.2.2.2.2 (by subst hA;exact (ah (op:=.eql) rfl e1));⟨ndI hA (An rfl (An rfl rfl)),⟨ndI hA (An rfl (An rfl rfl)),⟨ndI hA (An rfl (An rfl rfl)),⟨ndI hA (An rfl (An rfl rfl)),⟨ndI hA (An rfl (An rfl rfl)),⟨ndI hA (An rfl (An rfl rfl)),⟨ndI hA (An rfl (An rfl rfl)),⟨ndI hA (An rfl (An rfl rfl)),⟨ndI hA hp.1,⟨ndI hA hp.2.1,⟨ndI hA hp.2.2.1,⟨ndI hA hp.2.2.2.1,⟨ndI hA hp.2.2.2.2.1,⟨ndI hA hp.2.2.2.2.2.1,⟨ndI hA hp.2.2.2.2.2.2.1,(hA ▸ j1)⟩⟩⟩⟩⟩⟩⟩⟩⟩⟩⟩⟩⟩⟩⟩⟩⟩⟩,imI hA fun e0=>have j0:=h.2 (ah (op:=.lss) hA e0);⟨ndI hA (An j0.1 (An (hA ▸ j0.2.1) rfl)),⟨ndI hA (An (An hp.1 (An hp.2.1 (An hp.2.2.1 (An hp.2.2.2.1 (An hp.2.2.2.2.1 (An hp.2.2.2.2.2.1 (An hp.2.2.2.2.2.2.1 trivial))))))) (An rfl trivial)),⟨ndI hA (An rfl (hA ▸ j0.2.2.1)),⟨ndI hA (An (by subst hA;show R1.length=(List.length (List.set R1 t5.toNat [.int .i64 (cIS R1 t5.toNat 0),.int .i64 (cIS R1 t5.toNat 1),.int .i64 (cIS R1 t5.toNat 2),.int .i64 (cIS R1 t5.toNat 3),.int .i64 (cIS R1 t5.toNat 4),.int .i64 (cIS R1 t5.toNat 5),.inl 3 (List.take R0.length (List.drop 0 R0))]));(first | rfl | simp [af] | (simp [af];omega))) (An rfl (by subst hA;show R1.length=(List.length (List.set R1 t5.toNat [.int .i64 (cIS R1 t5.toNat 0),.int .i64 (cIS R1 t5.toNat 1),.int .i64 (cIS R1 t5.toNat 2),.int .i64 (cIS R1 t5.toNat 3),.int .i64 (cIS R1 t5.toNat 4),.int .i64 (cIS R1 t5.toNat 5),.inl 3 (List.take R0.length (List.drop 0 R0))]));(first | rfl | simp [af] | (simp [af];omega))))),⟨ndI hA (An rfl (An rfl rfl)),⟨ndI hA (An rfl (An rfl rfl)),⟨ndI hA (An rfl (An rfl rfl)),⟨ndI hA (An rfl (An rfl rfl)),⟨ndI hA (An rfl (An rfl rfl)),⟨ndI hA (hA ▸ (dU hp.2.1 rfl)),⟨ndI hA hp.2.2.1,⟨ndI hA hp.2.2.2.1,⟨ndI hA hp.2.2.2.2.1,⟨ndI hA hp.2.2.2.2.2.1,⟨ndI hA hp.2.2.2.2.2.2.1,(hA ▸ j0.2.2.2)⟩⟩⟩⟩⟩⟩⟩⟩⟩⟩⟩⟩⟩⟩⟩⟩
  refine W.cl j1 ?_
  rintro _ _ _ hp2 (⟨rfl,SY,rfl,rfl,k2⟩)
  cbv
  subst hA
  exact ⟨(An k2.1 (An k2.2.1 rfl)),⟨(An rfl k2.2.2.1),⟨(An (by show R0.length=(List.length (List.set R0 t31.toNat [.int .i64 (cIS R0 t31.toNat 0),.int .i64 SY,.int .i64 (cIS R0 t31.toNat 2)]));(first | rfl | simp [af] | (simp [af];omega))) (An rfl (by show R0.length=(List.length (List.set R0 t31.toNat [.int .i64 (cIS R0 t31.toNat 0),.int .i64 SY,.int .i64 (cIS R0 t31.toNat 2)]));(first | rfl | simp [af] | (simp [af];omega))))),⟨(An (by show R0.length=(List.length (List.set R0 t31.toNat [.int .i64 (cIS R0 t31.toNat 0),.int .i64 SY,.int .i64 (cIS R0 t31.toNat 2)]));(first | rfl | simp [af] | (simp [af];omega))) (An rfl (by show R0.length=(List.length (List.set R0 t31.toNat [.int .i64 (cIS R0 t31.toNat 0),.int .i64 SY,.int .i64 (cIS R0 t31.toNat 2)]));(first | rfl | simp [af] | (simp [af];omega))))),⟨(An rfl (An rfl rfl)),⟨(An rfl (An rfl rfl)),⟨(An rfl (An rfl rfl)),⟨(An rfl (An rfl rfl)),⟨(An rfl (An rfl rfl)),⟨(An rfl (An rfl rfl)),⟨((dU hp.1 rfl)),⟨hp.2.1,⟨hp.2.2.1,⟨hp.2.2.2.1,⟨hp.2.2.2.2.1,⟨hp.2.2.2.2.2.1,⟨hp.2.2.2.2.2.2.1,k2.2.2.2⟩⟩⟩⟩⟩⟩⟩⟩⟩⟩⟩⟩⟩⟩⟩⟩⟩
theorem E47 {u0 u1 u2 u3:Int} {u4:RW} {u5:Int} {u6 u7 u8 u9:RW} {a1:Int} (h:∀ EV,V47 EV Q→EZ G78 [] [.r u8] (fun x rs vs=>(x=0∧∃ SV,rs=[SV]∧vs=[]∧(EV 11 [SV,[],[],[],[],[]] [.i (arS.mn (arS.mx a1 0) 1024),.i (SV.length:Int),.i 0,.i u0,.i u1,.i u2,.i u3,.r u4,.i u5,.r u6,.r u7,.r u9,.i 0,.i 0,.i 0,.i 0,.i 0])))):EZ G47 [] (cL u0 u1 u2 u3 u4 u5 u6 u7 u8 u9 [.i a1]) Q:=by
 refine ak.en (I:=I47) (L:=L47) Rf fun A hA CE CK Dn EV RR W hp=>?_
 have h:=h  EV (V47.of W)
 cbv
 refine W.cl h ?_
 rintro _ _ _ hp0 (⟨rfl,SV,rfl,rfl,k0⟩)
 cbv
 subst hA
 exact ⟨rfl,⟨(An rfl (An rfl rfl)),⟨(An rfl (An rfl rfl)),⟨(An rfl (An rfl rfl)),⟨(An rfl (An rfl rfl)),⟨(An rfl (An rfl rfl)),⟨(An rfl (An rfl rfl)),⟨hp0.1,⟨aQ,⟨aQ,⟨aQ,⟨aQ,⟨aQ,k0⟩⟩⟩⟩⟩⟩⟩⟩⟩⟩⟩⟩⟩
theorem E86 {a0 b0 b1 b2 b3:Int} {b4:RW} {b5:Int} {b6 b7 b8 b9:RW} (h:∀ EV,VN EV Q→EZ G47 [] (cL b0 b1 b2 b3 b4 b5 b6 b7 b8 b9 [.i (IntKind.wrap .i64 (a0 + 1))]) (fun x rs vs=>(x=0∧∃ y0a0 y0a1 y0a2 y0a3 y0a4 y0a5 y0a6 y0a7 y0a8 y0a9,rs=[]∧vs=(cL y0a0 y0a1 y0a2 y0a3 y0a4 y0a5 y0a6 y0a7 y0a8 y0a9 [])∧(EZ G19 [] (cL y0a0 y0a1 y0a2 y0a3 y0a4 y0a5 y0a6 y0a7 y0a8 y0a9 []) (fun x rs vs=>(x=0∧∃ SX,rs=[]∧vs=[.b SX]∧(Q 0 [] (.b (!SX)::cL b0 b1 b2 b3 b4 b5 b6 b7 b8 b9 [])))))))):EZ G86 [] (.i a0::cL b0 b1 b2 b3 b4 b5 b6 b7 b8 b9 []) Q:=by
 refine ak.en (I:=I86) (L:=L86) Qw fun A hA CE CK Dn EV RR W hp=>?_
 have h:=h  EV ⟨trivial⟩
 cbv
 refine W.cl h ?_
 rintro _ _ _ hp0 (⟨rfl,y0a0,y0a1,y0a2,y0a3,y0a4,y0a5,y0a6,y0a7,y0a8,y0a9,rfl,rfl,k0⟩)
 cbv
 refine W.cl k0 ?_
 rintro _ _ _ hp1 (⟨rfl,SX,rfl,rfl,k1⟩)
 cbv
 subst hA
 exact (W.q k1)
structure V85 (EV Q:EP):Prop where
  p7:∀ {t5 t6 b0 b1 b2 b3:Int} {b4:RW} {b5:Int} {b6 b7 b8 b9:RW},((t5 < t6→((0:Int)≤1)∧(EZ G86 [] (.i (IntKind.wrap .i64 (cO .shr .u64 (IntKind.wrap .u64 (IntKind.wrap .i64 (t5 + t6))) 1))::cL b0 b1 b2 b3 b4 b5 b6 b7 b8 b9 []) (fun x rs vs=>(x=0∧∃ SX Tj Ti Tu Tt Tq Tn Tm TA Tz Tv,rs=[]∧vs=(.b SX::cL Tj Ti Tu Tt Tq Tn Tm TA Tz Tv [])∧((SX=false→EV 7 [] (.i (IntKind.wrap .i64 ((IntKind.wrap .i64 (cO .shr .u64 (IntKind.wrap .u64 (IntKind.wrap .i64 (t5 + t6))) 1)) + 1))::.i t6::cL Tj Ti Tu Tt Tq Tn Tm TA Tz Tv []))∧(SX=true→EV 7 [] (.i t5::.i (IntKind.wrap .i64 (cO .shr .u64 (IntKind.wrap .u64 (IntKind.wrap .i64 (t5 + t6))) 1))::cL Tj Ti Tu Tt Tq Tn Tm TA Tz Tv [])))))))∧(t5≥t6→Q 0 [] (.i t5::cL b0 b1 b2 b3 b4 b5 b6 b7 b8 b9 [])))→EV 7 [] (.i t5::.i t6::cL b0 b1 b2 b3 b4 b5 b6 b7 b8 b9 [])
theorem V85.of (W:Wk Tryz.prog Tryz.f85 I85 L85 Q A sg CE CK Dn EV RR):V85 EV Q:=by
 have hA:=W.hA
 refine ⟨?_⟩
 intro t5 t6 b0 b1 b2 b3 b4 b5 b6 b7 b8 b9 h
 refine W.step 80 fun hp=>?_
 cbv
 refine ⟨imI hA fun e0=>have j0:=h.1 (ah (op:=.lss) hA e0);⟨ndI hA j0.1,?_⟩,imI hA fun e0=>have j0:=h.2 (ah (op:=.lss) hA e0);(W.q j0)⟩
 refine W.cl j0.2 ?_
 rintro _ _ _ hp1 (⟨rfl,SX,Tj,Ti,Tu,Tt,Tq,Tn,Tm,TA,Tz,Tv,rfl,rfl,k1⟩)
 cbv
 subst hA
 exact ⟨fun e2=>have j2:=k1.1 ((notE rfl e2));j2,fun e2=>have j2:=k1.2 ((notE rfl e2));j2⟩
theorem E85 {a0 b0 b1 b2 b3:Int} {b4:RW} {b5:Int} {b6 b7 b8 b9:RW} (h:∀ EV,V85 EV Q→EV 7 [] (.i 0::.i a0::cL b0 b1 b2 b3 b4 b5 b6 b7 b8 b9 [])):EZ G85 [] (.i a0::cL b0 b1 b2 b3 b4 b5 b6 b7 b8 b9 []) Q:=by
 refine ak.en (I:=I85) (L:=L85) IA fun A hA CE CK Dn EV RR W hp=>?_
 have h:=h  EV (V85.of W)
 cbv
 subst hA
 exact h
theorem E49 {u0 u1 u2 u3:Int} {u4:RW} {u5:Int} {u6 u7 u8 u9:RW} (h:∀ EV,VN EV Q→EZ G47 [] (cL u0 u1 u2 u3 u4 u5 u6 u7 u8 u9 [.i 0]) (fun x rs vs=>(x=0∧∃ y0a0 y0a1 y0a2 y0a3 y0a4 y0a5 y0a6 y0a7 y0a8 y0a9,rs=[]∧vs=(cL y0a0 y0a1 y0a2 y0a3 y0a4 y0a5 y0a6 y0a7 y0a8 y0a9 [])∧(EZ G19 [] (cL y0a0 y0a1 y0a2 y0a3 y0a4 y0a5 y0a6 y0a7 y0a8 y0a9 []) (fun x rs vs=>(x=0∧∃ SX,rs=[]∧vs=[.b SX]∧((SX=false→Q 0 [] [.i 0,.b false])∧(SX=true→EZ G85 [] (.i 1024::cL u0 u1 u2 u3 u4 u5 u6 u7 u8 u9 []) (fun x rs vs=>(x=0∧∃ S9 Uw Uu Ut Vm Vl Vk Vj WQ WO WN,rs=[]∧vs=(.i S9::cL Uw Uu Ut Vm Vl Vk Vj WQ WO WN [])∧(Q 0 [] [.i S9,.b true]))))))))))):EZ G49 [] (cL u0 u1 u2 u3 u4 u5 u6 u7 u8 u9 []) Q:=by
 refine ak.en (I:=I49) (L:=L49) Q8 fun A hA CE CK Dn EV RR W hp=>?_
 have h:=h  EV ⟨trivial⟩
 cbv
 refine W.cl h ?_
 rintro _ _ _ hp0 (⟨rfl,y0a0,y0a1,y0a2,y0a3,y0a4,y0a5,y0a6,y0a7,y0a8,y0a9,rfl,rfl,k0⟩)
 cbv
 refine W.cl k0 ?_
 rintro _ _ _ hp1 (⟨rfl,SX,rfl,rfl,k1⟩)
 cbv
 refine ⟨imI hA fun e2=>have j2:=k1.1 (by subst hA;exact (notE rfl e2));(W.q j2),imI hA fun e2=>have j2:=k1.2 (by subst hA;exact (notE rfl e2));?_⟩
 refine W.cl j2 ?_
 rintro _ _ _ hp3 (⟨rfl,S9,Uw,Uu,Ut,Vm,Vl,Vk,Vj,WQ,WO,WN,rfl,rfl,k3⟩)
 cbv
 subst hA
 exact (W.q k3)
structure V52 (EV Q:EP):Prop where
  p12:∀ {R0 R1 R2 R3 R4:RW} {b0 b1 b2 b3:Int} {b4:RW} {b5:Int} {b6 b7 b8 b9:RW} {d0 d1 d2 d3 d4:Int},(aB R0=true→aB R1=true→aB R2=true→aB R3=true→aB R4=true→EZ G19 [] (cL b0 b1 b2 b3 b4 b5 b6 b7 b8 b9 []) (fun x rs vs=>(x=0∧∃ SS,rs=[]∧vs=[.b SS]∧(Q 0 [] (cL b0 b1 b2 b3 b4 b5 b6 b7 b8 b9 [.b SS])))))→EV 12 [R0,R1,R2,R3,R4] (cL b0 b1 b2 b3 b4 b5 b6 b7 b8 b9 [.i d0,.i d1,.i d2,.i d3,.i d4])
theorem V52.of (W:Wk Tryz.prog Tryz.f52 I52 L52 Q A sg CE CK Dn EV RR):V52 EV Q:=by
 have hA:=W.hA
 refine ⟨?_⟩
 intro R0 R1 R2 R3 R4 b0 b1 b2 b3 b4 b5 b6 b7 b8 b9 d0 d1 d2 d3 d4 h
 refine W.step 80 fun hp=>?_
 have h:=h hp.1 hp.2.1 hp.2.2.1 hp.2.2.2.1 hp.2.2.2.2.1
 cbv
 refine ⟨?_,trivial⟩
 refine W.cd h ?_
 rintro _ _ _ hp0 (⟨rfl,SS,rfl,rfl,k0⟩)
 cbv
 refine W.draw 80 (by rfl) ?_
 cbv
 subst hA
 exact ⟨(W.q k0),trivial⟩
theorem E52 {u0 u1 u2 u3:Int} {u4:RW} {u5:Int} {u6 u7 u8 u9:RW} {a1 a2:Int} (h:∀ EV,V52 EV Q→EZ G78 [] [.r u8] (fun x rs vs=>(x=0∧∃ SV,rs=[SV]∧vs=[]∧((a1≥0→(a1 < (SV.length:Int)→(0≤a1)∧(a1 < (SV.length:Int))∧(SV[a1.toNat]?=some (r7 SV a1.toNat))∧((List.set SV a1.toNat [.int .i64 (cIS SV a1.toNat 0),.int .i64 (cIS SV a1.toNat 1),.int .i64 a2,.int .i64 (cIS SV a1.toNat 3),.int .i64 (cIS SV a1.toNat 4),.int .i64 (cIS SV a1.toNat 5),.inl 3 (cRS SV a1.toNat 6)])[a1.toNat]?=some (r7 (List.set SV a1.toNat [.int .i64 (cIS SV a1.toNat 0),.int .i64 (cIS SV a1.toNat 1),.int .i64 a2,.int .i64 (cIS SV a1.toNat 3),.int .i64 (cIS SV a1.toNat 4),.int .i64 (cIS SV a1.toNat 5),.inl 3 (cRS SV a1.toNat 6)]) a1.toNat))∧(EV 12 [[],[],[],[],[]] (cL u0 u1 u2 u3 u4 u5 u6 u7 (List.take SV.length (List.drop 0 (List.set (List.set SV a1.toNat [.int .i64 (cIS SV a1.toNat 0),.int .i64 (cIS SV a1.toNat 1),.int .i64 a2,.int .i64 (cIS SV a1.toNat 3),.int .i64 (cIS SV a1.toNat 4),.int .i64 (cIS SV a1.toNat 5),.inl 3 (cRS SV a1.toNat 6)]) a1.toNat [.int .i64 (cIS (List.set SV a1.toNat [.int .i64 (cIS SV a1.toNat 0),.int .i64 (cIS SV a1.toNat 1),.int .i64 a2,.int .i64 (cIS SV a1.toNat 3),.int .i64 (cIS SV a1.toNat 4),.int .i64 (cIS SV a1.toNat 5),.inl 3 (cRS SV a1.toNat 6)]) a1.toNat 0),.int .i64 (cIS (List.set SV a1.toNat [.int .i64 (cIS SV a1.toNat 0),.int .i64 (cIS SV a1.toNat 1),.int .i64 a2,.int .i64 (cIS SV a1.toNat 3),.int .i64 (cIS SV a1.toNat 4),.int .i64 (cIS SV a1.toNat 5),.inl 3 (cRS SV a1.toNat 6)]) a1.toNat 1),.int .i64 (cIS (List.set SV a1.toNat [.int .i64 (cIS SV a1.toNat 0),.int .i64 (cIS SV a1.toNat 1),.int .i64 a2,.int .i64 (cIS SV a1.toNat 3),.int .i64 (cIS SV a1.toNat 4),.int .i64 (cIS SV a1.toNat 5),.inl 3 (cRS SV a1.toNat 6)]) a1.toNat 2),.int .i64 (arS.mn (cIS SV a1.toNat 3) a2),.int .i64 (cIS (List.set SV a1.toNat [.int .i64 (cIS SV a1.toNat 0),.int .i64 (cIS SV a1.toNat 1),.int .i64 a2,.int .i64 (cIS SV a1.toNat 3),.int .i64 (cIS SV a1.toNat 4),.int .i64 (cIS SV a1.toNat 5),.inl 3 (cRS SV a1.toNat 6)]) a1.toNat 4),.int .i64 (cIS (List.set SV a1.toNat [.int .i64 (cIS SV a1.toNat 0),.int .i64 (cIS SV a1.toNat 1),.int .i64 a2,.int .i64 (cIS SV a1.toNat 3),.int .i64 (cIS SV a1.toNat 4),.int .i64 (cIS SV a1.toNat 5),.inl 3 (cRS SV a1.toNat 6)]) a1.toNat 5),.inl 3 (cRS (List.set SV a1.toNat [.int .i64 (cIS SV a1.toNat 0),.int .i64 (cIS SV a1.toNat 1),.int .i64 a2,.int .i64 (cIS SV a1.toNat 3),.int .i64 (cIS SV a1.toNat 4),.int .i64 (cIS SV a1.toNat 5),.inl 3 (cRS SV a1.toNat 6)]) a1.toNat 6)]))) u9 [.i 0,.i 0,.i 0,.i 0,.i 0])))∧(a1≥(SV.length:Int)→EV 12 [[],[],[],[],[]] (cL u0 u1 u2 u3 u4 u5 u6 u7 (List.take SV.length (List.drop 0 SV)) u9 [.i 0,.i 0,.i 0,.i 0,.i 0])))∧(a1 < 0→EV 12 [[],[],[],[],[]] (cL u0 u1 u2 u3 u4 u5 u6 u7 (List.take SV.length (List.drop 0 SV)) u9 [.i 0,.i 0,.i 0,.i 0,.i 0])))))):EZ G52 [] (cL u0 u1 u2 u3 u4 u5 u6 u7 u8 u9 [.i a1,.i a2]) Q:=by
 refine ak.en (I:=I52) (L:=L52) Q4 fun A hA CE CK Dn EV RR W hp=>?_
 have h:=h  EV (V52.of W)
 cbv
 refine W.cl h ?_
 rintro _ _ _ hp0 (⟨rfl,SV,rfl,rfl,k0⟩)
 cbv
 subst hA
 exact ⟨fun e1=>have j1:=k0.1 (ah (op:=.geq) rfl e1);⟨rfl,⟨fun e2=>have j2:=j1.1 ((ah (op:=.lss) rfl e2));⟨(An j2.1 (An j2.2.1 rfl)),⟨(An rfl j2.2.2.1),⟨(An rfl j2.2.2.1),⟨(An (by show SV.length=(List.length (List.set SV a1.toNat [.int .i64 (cIS SV a1.toNat 0),.int .i64 (cIS SV a1.toNat 1),.int .i64 a2,.int .i64 (cIS SV a1.toNat 3),.int .i64 (cIS SV a1.toNat 4),.int .i64 (cIS SV a1.toNat 5),.inl 3 (cRS SV a1.toNat 6)]));(first | rfl | simp [af] | (simp [af];omega))) j2.2.2.2.1),⟨(An (An ((dU (dU hp0.1 rfl) rfl)) (An aQ (An aQ (An aQ (An aQ (An aQ trivial)))))) trivial),⟨(An (An (by show SV.length=(List.length (List.set (List.set SV a1.toNat [.int .i64 (cIS SV a1.toNat 0),.int .i64 (cIS SV a1.toNat 1),.int .i64 a2,.int .i64 (cIS SV a1.toNat 3),.int .i64 (cIS SV a1.toNat 4),.int .i64 (cIS SV a1.toNat 5),.inl 3 (cRS SV a1.toNat 6)]) a1.toNat [.int .i64 (cIS (List.set SV a1.toNat [.int .i64 (cIS SV a1.toNat 0),.int .i64 (cIS SV a1.toNat 1),.int .i64 a2,.int .i64 (cIS SV a1.toNat 3),.int .i64 (cIS SV a1.toNat 4),.int .i64 (cIS SV a1.toNat 5),.inl 3 (cRS SV a1.toNat 6)]) a1.toNat 0),.int .i64 (cIS (List.set SV a1.toNat [.int .i64 (cIS SV a1.toNat 0),.int .i64 (cIS SV a1.toNat 1),.int .i64 a2,.int .i64 (cIS SV a1.toNat 3),.int .i64 (cIS SV a1.toNat 4),.int .i64 (cIS SV a1.toNat 5),.inl 3 (cRS SV a1.toNat 6)]) a1.toNat 1),.int .i64 (cIS (List.set SV a1.toNat [.int .i64 (cIS SV a1.toNat 0),.int .i64 (cIS SV a1.toNat 1),.int .i64 a2,.int .i64 (cIS SV a1.toNat 3),.int .i64 (cIS SV a1.toNat 4),.int .i64 (cIS SV a1.toNat 5),.inl 3 (cRS SV a1.toNat 6)]) a1.toNat 2),.int .i64 (arS.mn (cIS SV a1.toNat 3) a2),.int .i64 (cIS (List.set SV a1.toNat [.int .i64 (cIS SV a1.toNat 0),.int .i64 (cIS SV a1.toNat 1),.int .i64 a2,.int .i64 (cIS SV a1.toNat 3),.int .i64 (cIS SV a1.toNat 4),.int .i64 (cIS SV a1.toNat 5),.inl 3 (cRS SV a1.toNat 6)]) a1.toNat 4),.int .i64 (cIS (List.set SV a1.toNat [.int .i64 (cIS SV a1.toNat 0),.int .i64 (cIS SV a1.toNat 1),.int .i64 a2,.int .i64 (cIS SV a1.toNat 3),.int .i64 (cIS SV a1.toNat 4),.int .i64 (cIS SV a1.toNat 5),.inl 3 (cRS SV a1.toNat 6)]) a1.toNat 5),.inl 3 (cRS (List.set SV a1.toNat [.int .i64 (cIS SV a1.toNat 0),.int .i64 (cIS SV a1.toNat 1),.int .i64 a2,.int .i64 (cIS SV a1.toNat 3),.int .i64 (cIS SV a1.toNat 4),.int .i64 (cIS SV a1.toNat 5),.inl 3 (cRS SV a1.toNat 6)]) a1.toNat 6)]));(first | rfl | simp [af] | (simp [af];omega))) trivial) trivial),⟨(An rfl (An rfl rfl)),⟨(An rfl (An rfl rfl)),⟨(An rfl (An rfl rfl)),⟨(An rfl (An rfl rfl)),⟨(An rfl (An rfl rfl)),⟨aQ,⟨aQ,⟨aQ,⟨aQ,⟨aQ,j2.2.2.2.2⟩⟩⟩⟩⟩⟩⟩⟩⟩⟩⟩⟩⟩⟩⟩⟩,fun e2=>have j2:=j1.2 ((ah (op:=.lss) rfl e2));⟨(An (An hp0.1 (An aQ (An aQ (An aQ (An aQ (An aQ trivial)))))) trivial),⟨(An (An rfl trivial) trivial),⟨(An rfl (An rfl rfl)),⟨(An rfl (An rfl rfl)),⟨(An rfl (An rfl rfl)),⟨(An rfl (An rfl rfl)),⟨(An rfl (An rfl rfl)),⟨aQ,⟨aQ,⟨aQ,⟨aQ,⟨aQ,j2⟩⟩⟩⟩⟩⟩⟩⟩⟩⟩⟩⟩⟩⟩,fun e1=>have j1:=k0.2 (ah (op:=.geq) rfl e1);⟨(An (An hp0.1 (An aQ (An aQ (An aQ (An aQ (An aQ trivial)))))) trivial),⟨(An (An rfl trivial) trivial),⟨(An rfl (An rfl rfl)),⟨(An rfl (An rfl rfl)),⟨(An rfl (An rfl rfl)),⟨(An rfl (An rfl rfl)),⟨(An rfl (An rfl rfl)),⟨aQ,⟨aQ,⟨aQ,⟨aQ,⟨aQ,j1⟩⟩⟩⟩⟩⟩⟩⟩⟩⟩⟩⟩⟩
theorem E87 {a0 b0 b1 b2 b3:Int} {b4:RW} {b5:Int} {b6 b7 b8 b9:RW} {ab1:Int} (h:∀ EV,VN EV Q→EZ G52 [] (cL b0 b1 b2 b3 b4 b5 b6 b7 b8 b9 [.i ab1,.i (IntKind.wrap .i64 (a0 + 1))]) (fun x rs vs=>(x=0∧∃ y0a0 y0a1 y0a2 y0a3 y0a4 y0a5 y0a6 y0a7 y0a8 y0a9 Uj,rs=[]∧vs=(cL y0a0 y0a1 y0a2 y0a3 y0a4 y0a5 y0a6 y0a7 y0a8 y0a9 [.b Uj])∧(Q 0 [] (.b Uj::cL b0 b1 b2 b3 b4 b5 b6 b7 b8 b9 [.i ab1]))))):EZ G87 [] (.i a0::cL b0 b1 b2 b3 b4 b5 b6 b7 b8 b9 [.i ab1]) Q:=by
 refine ak.en (I:=I87) (L:=L87) Qv fun A hA CE CK Dn EV RR W hp=>?_
 have h:=h  EV ⟨trivial⟩
 cbv
 refine W.cl h ?_
 rintro _ _ _ hp0 (⟨rfl,y0a0,y0a1,y0a2,y0a3,y0a4,y0a5,y0a6,y0a7,y0a8,y0a9,Uj,rfl,rfl,k0⟩)
 cbv
 subst hA
 exact (W.q k0)
structure V85a (EV Q:EP):Prop where
  p7:∀ {t5 t6 b0 b1 b2 b3:Int} {b4:RW} {b5:Int} {b6 b7 b8 b9:RW} {tb1:Int},((t5 < t6→((0:Int)≤1)∧(EZ G87 [] (.i (IntKind.wrap .i64 (cO .shr .u64 (IntKind.wrap .u64 (IntKind.wrap .i64 (t5 + t6))) 1))::cL b0 b1 b2 b3 b4 b5 b6 b7 b8 b9 [.i tb1]) (fun x rs vs=>(x=0∧∃ SX Tj Ti Tu Tt Tq Tn Tm TA Tz Tv Uy,rs=[]∧vs=(.b SX::cL Tj Ti Tu Tt Tq Tn Tm TA Tz Tv [.i Uy])∧((SX=false→EV 7 [] (.i (IntKind.wrap .i64 ((IntKind.wrap .i64 (cO .shr .u64 (IntKind.wrap .u64 (IntKind.wrap .i64 (t5 + t6))) 1)) + 1))::.i t6::cL Tj Ti Tu Tt Tq Tn Tm TA Tz Tv [.i Uy]))∧(SX=true→EV 7 [] (.i t5::.i (IntKind.wrap .i64 (cO .shr .u64 (IntKind.wrap .u64 (IntKind.wrap .i64 (t5 + t6))) 1))::cL Tj Ti Tu Tt Tq Tn Tm TA Tz Tv [.i Uy])))))))∧(t5≥t6→Q 0 [] (.i t5::cL b0 b1 b2 b3 b4 b5 b6 b7 b8 b9 [.i tb1])))→EV 7 [] (.i t5::.i t6::cL b0 b1 b2 b3 b4 b5 b6 b7 b8 b9 [.i tb1])
theorem V85a.of (W:Wk Tryz.prog Tryz.f85 I85a L85a Q A sg CE CK Dn EV RR):V85a EV Q:=by
 have hA:=W.hA
 refine ⟨?_⟩
 intro t5 t6 b0 b1 b2 b3 b4 b5 b6 b7 b8 b9 tb1 h
 refine W.step 80 fun hp=>?_
 cbv
 refine ⟨imI hA fun e0=>have j0:=h.1 (ah (op:=.lss) hA e0);⟨ndI hA j0.1,?_⟩,imI hA fun e0=>have j0:=h.2 (ah (op:=.lss) hA e0);(W.q j0)⟩
 refine W.cl j0.2 ?_
 rintro _ _ _ hp1 (⟨rfl,SX,Tj,Ti,Tu,Tt,Tq,Tn,Tm,TA,Tz,Tv,Uy,rfl,rfl,k1⟩)
 cbv
 subst hA
 exact ⟨fun e2=>have j2:=k1.1 ((notE rfl e2));j2,fun e2=>have j2:=k1.2 ((notE rfl e2));j2⟩
theorem E85a {a0 b0 b1 b2 b3:Int} {b4:RW} {b5:Int} {b6 b7 b8 b9:RW} {ab1:Int} (h:∀ EV,V85a EV Q→EV 7 [] (.i 0::.i a0::cL b0 b1 b2 b3 b4 b5 b6 b7 b8 b9 [.i ab1])):EZ G85a [] (.i a0::cL b0 b1 b2 b3 b4 b5 b6 b7 b8 b9 [.i ab1]) Q:=by
 refine ak.en (I:=I85a) (L:=L85a) IA fun A hA CE CK Dn EV RR W hp=>?_
 have h:=h  EV (V85a.of W)
 cbv
 subst hA
 exact h
theorem E51 {u0 u1 u2 u3:Int} {u4:RW} {u5:Int} {u6 u7 u8 u9:RW} {a1:Int} (h:∀ EV,VN EV Q→(a1≥0→(a1 < (u8.length:Int)→EZ G19 [] (cL u0 u1 u2 u3 u4 u5 u6 u7 u8 u9 []) (fun x rs vs=>(x=0∧∃ SY,rs=[]∧vs=[.b SY]∧((SY=false→Q 0 [] [.i 0,.b false])∧(SY=true→(0≤a1)∧(u8[a1.toNat]?=some (r7 u8 a1.toNat))∧(EZ G85a [] (.i (IntKind.wrap .i64 ((cIS u8 a1.toNat 2) - 1))::cL u0 u1 u2 u3 u4 u5 u6 u7 u8 u9 [.i a1]) (fun x rs vs=>(x=0∧∃ Td WM WL WJ WI WH WG WE WC WA Wy y4_b1,rs=[]∧vs=(.i Td::cL WM WL WJ WI WH WG WE WC WA Wy [.i y4_b1])∧(Q 0 [] [.i (IntKind.wrap .i64 (1 + Td)),.b true])))))))))∧(a1≥(u8.length:Int)→Q 0 [] [.i 0,.b false]))∧(a1 < 0→Q 0 [] [.i 0,.b false])):EZ G51 [] (cL u0 u1 u2 u3 u4 u5 u6 u7 u8 u9 [.i a1]) Q:=by
 refine ak.en (I:=I51) (L:=L51) Q5 fun A hA CE CK Dn EV RR W hp=>?_
 have h:=h  EV ⟨trivial⟩
 cbv
 refine ⟨imI hA fun e0=>have j0:=h.1 (ah (op:=.lss) hA e0);⟨imI hA fun e1=>have j1:=j0.1 (by subst hA;exact (ah (op:=.geq) rfl e1));?_,imI hA fun e1=>have j1:=j0.2 (by subst hA;exact (ah (op:=.geq) rfl e1));(W.q j1)⟩,imI hA fun e0=>have j0:=h.2 (ah (op:=.lss) hA e0);(W.q j0)⟩
 refine W.cl j1 ?_
 rintro _ _ _ hp2 (⟨rfl,SY,rfl,rfl,k2⟩)
 cbv
 refine ⟨imI hA fun e3=>have j3:=k2.1 (by subst hA;exact (notE rfl e3));(W.q j3),imI hA fun e3=>have j3:=k2.2 (by subst hA;exact (notE rfl e3));⟨ndI hA (An j3.1 (hA ▸ j3.2.1)),?_⟩⟩
 refine W.cl j3.2.2 ?_
 rintro _ _ _ hp4 (⟨rfl,Td,WM,WL,WJ,WI,WH,WG,WE,WC,WA,Wy,y4_b1,rfl,rfl,k4⟩)
 cbv
 subst hA
 exact (W.q k4)
structure V82 (EV Q:EP):Prop where
  p15:∀ {t0 t1:RW} {t12 t13:Int},((t13 < t12→(0≤t13)∧(t0[t13.toNat]?=some [.int .i64 (cIS t0 t13.toNat 0)])∧(t1[t13.toNat]?=some [.int .i64 (cIS t1 t13.toNat 0)])∧((cIS t0 t13.toNat 0)≠(cIS t1 t13.toNat 0)→Q 0 [] [.b false])∧((cIS t0 t13.toNat 0)=(cIS t1 t13.toNat 0)→EV 15 [] [.r t0,.r t1,.i t12,.i (IntKind.wrap .i64 (t13 + 1))]))∧(t13≥t12→Q 0 [] [.b true]))→EV 15 [] [.r t0,.r t1,.i t12,.i t13]
theorem V82.of (W:Wk Tryz.prog Tryz.f82 I82 L82 Q A sg CE CK Dn EV RR):V82 EV Q:=by
 have hA:=W.hA
 refine ⟨?_⟩
 intro t0 t1 t12 t13 h
 refine W.step 80 fun hp=>?_
 cbv
 subst hA
 exact ⟨fun e0=>have j0:=h.1 (ah (op:=.lss) rfl e0);⟨(An j0.1 j0.2.1),⟨(An j0.1 j0.2.2.1),⟨fun e1=>have j1:=j0.2.2.2.1 ((ah (op:=.neq) rfl e1));(W.q j1),fun e1=>have j1:=j0.2.2.2.2 ((ah (op:=.neq) rfl e1));j1⟩⟩⟩,fun e0=>have j0:=h.2 (ah (op:=.lss) rfl e0);(W.q j0)⟩
theorem E82 {a0 a1:RW} (h:∀ EV,V82 EV Q→((a0.length:Int)≠(a1.length:Int)→Q 0 [] [.b false])∧((a0.length:Int)=(a1.length:Int)→EV 15 [] [.r a0,.r a1,.i (a0.length:Int),.i 0])):EZ G82 [] [.r a0,.r a1] Q:=by
 refine ak.en (I:=I82) (L:=L82) Qz fun A hA CE CK Dn EV RR W hp=>?_
 have h:=h  EV (V82.of W)
 cbv
 subst hA
 exact ⟨fun e0=>have j0:=h.1 ((ah (op:=.neq) rfl e0));(W.q j0),fun e0=>have j0:=h.2 ((ah (op:=.neq) rfl e0));j0⟩
structure V46 (EV Q:EP):Prop where
  p15:∀ {t64 t65 b0 b1 b2 b3:Int} {b4:RW} {b5:Int} {b6 b7 b8 b9:RW} {d0 d1 d2 d3:Int} {d4:RW} {d5:Int} {d6 d7 d8 d9:RW},((t65 < t64→(0≤t65)∧(b8[t65.toNat]?=some (r7 b8 t65.toNat))∧(d8[t65.toNat]?=some (r7 d8 t65.toNat))∧(EV 27 [] (.i t64::.i t65::cL b0 b1 b2 b3 b4 b5 b6 b7 b8 b9 (cL d0 d1 d2 d3 d4 d5 d6 d7 d8 d9 [.i (cIS b8 t65.toNat 0),.i (cIS b8 t65.toNat 1),.i (cIS b8 t65.toNat 2),.i (cIS b8 t65.toNat 3),.i (cIS b8 t65.toNat 4),.i (cIS b8 t65.toNat 5),.r (cRS b8 t65.toNat 6),.i (cIS d8 t65.toNat 0),.i (cIS d8 t65.toNat 1),.i (cIS d8 t65.toNat 2),.i (cIS d8 t65.toNat 3),.i (cIS d8 t65.toNat 4),.i (cIS d8 t65.toNat 5),.r (cRS d8 t65.toNat 6)]))))∧(t65≥t64→Q 0 [] [.b true]))→EV 15 [] (.i t64::.i t65::cL b0 b1 b2 b3 b4 b5 b6 b7 b8 b9 (cL d0 d1 d2 d3 d4 d5 d6 d7 d8 d9 []))
  p27:∀ {t64 t65 b0 b1 b2 b3:Int} {b4:RW} {b5:Int} {b6 b7 b8 b9:RW} {d0 d1 d2 d3:Int} {d4:RW} {d5:Int} {d6 d7 d8 d9:RW} {f0 f1 f2 f3 f4 f5:Int} {f6:RW} {g0 g1 g2 g3 g4 g5:Int} {g6:RW},((f0=g0→(f1=g1→(f2=g2→(f3=g3→(f4=g4→(f5=g5→((f6.length:Int)≠(g6.length:Int)→Q 0 [] [.b false])∧((f6.length:Int)=(g6.length:Int)→EV 39 [] (.i t64::.i t65::.i (f6.length:Int)::.i 0::cL b0 b1 b2 b3 b4 b5 b6 b7 b8 b9 (cL d0 d1 d2 d3 d4 d5 d6 d7 d8 d9 [.i f0,.i f1,.i f2,.i f3,.i f4,.i f5,.r f6,.i g0,.i g1,.i g2,.i g3,.i g4,.i g5,.r g6]))))∧(f5≠g5→Q 0 [] [.b false]))∧(f4≠g4→Q 0 [] [.b false]))∧(f3≠g3→Q 0 [] [.b false]))∧(f2≠g2→Q 0 [] [.b false]))∧(f1≠g1→Q 0 [] [.b false]))∧(f0≠g0→Q 0 [] [.b false]))→EV 27 [] (.i t64::.i t65::cL b0 b1 b2 b3 b4 b5 b6 b7 b8 b9 (cL d0 d1 d2 d3 d4 d5 d6 d7 d8 d9 [.i f0,.i f1,.i f2,.i f3,.i f4,.i f5,.r f6,.i g0,.i g1,.i g2,.i g3,.i g4,.i g5,.r g6]))
  p39:∀ {t64 t65 t129 t130 b0 b1 b2 b3:Int} {b4:RW} {b5:Int} {b6 b7 b8 b9:RW} {d0 d1 d2 d3:Int} {d4:RW} {d5:Int} {d6 d7 d8 d9:RW} {f0 f1 f2 f3 f4 f5:Int} {f6:RW} {g0 g1 g2 g3 g4 g5:Int} {g6:RW},((t130 < t129→(0≤t130)∧(f6[t130.toNat]?=some (r3 f6 t130.toNat))∧(g6[t130.toNat]?=some (r3 g6 t130.toNat))∧((((cIS f6 t130.toNat 0) == (cIS g6 t130.toNat 0)) && (((cIS f6 t130.toNat 1) == (cIS g6 t130.toNat 1)) && (((cIS f6 t130.toNat 2) == (cIS g6 t130.toNat 2)) && true)))=false→Q 0 [] [.b false])∧((((cIS f6 t130.toNat 0) == (cIS g6 t130.toNat 0)) && (((cIS f6 t130.toNat 1) == (cIS g6 t130.toNat 1)) && (((cIS f6 t130.toNat 2) == (cIS g6 t130.toNat 2)) && true)))=true→EV 39 [] (.i t64::.i t65::.i t129::.i (IntKind.wrap .i64 (t130 + 1))::cL b0 b1 b2 b3 b4 b5 b6 b7 b8 b9 (cL d0 d1 d2 d3 d4 d5 d6 d7 d8 d9 [.i f0,.i f1,.i f2,.i f3,.i f4,.i f5,.r f6,.i g0,.i g1,.i g2,.i g3,.i g4,.i g5,.r g6]))))∧(t130≥t129→EV 15 [] (.i t64::.i (IntKind.wrap .i64 (t65 + 1))::cL b0 b1 b2 b3 b4 b5 b6 b7 b8 b9 (cL d0 d1 d2 d3 d4 d5 d6 d7 d8 d9 []))))→EV 39 [] (.i t64::.i t65::.i t129::.i t130::cL b0 b1 b2 b3 b4 b5 b6 b7 b8 b9 (cL d0 d1 d2 d3 d4 d5 d6 d7 d8 d9 [.i f0,.i f1,.i f2,.i f3,.i f4,.i f5,.r f6,.i g0,.i g1,.i g2,.i g3,.i g4,.i g5,.r g6]))
theorem V46.of (W:Wk Tryz.prog Tryz.f46 I46 L46 Q A sg CE CK Dn EV RR):V46 EV Q:=by
 have hA:=W.hA
 refine ⟨?_,?_,?_⟩
 ·intro t64 t65 b0 b1 b2 b3 b4 b5 b6 b7 b8 b9 d0 d1 d2 d3 d4 d5 d6 d7 d8 d9 h
  refine W.step 80 fun hp=>?_
  cbv
  subst hA
  exact ⟨fun e0=>have j0:=h.1 (ah (op:=.lss) rfl e0);⟨(An j0.1 j0.2.1),⟨(An j0.1 j0.2.2.1),⟨⟨⟨⟨j0.2.2.2,trivial⟩,trivial⟩,trivial⟩,⟨⟨⟨⟨j0.2.2.2,trivial⟩,trivial⟩,trivial⟩,trivial⟩⟩⟩⟩,fun e0=>have j0:=h.2 (ah (op:=.lss) rfl e0);(W.q j0)⟩
 ·intro t64 t65 b0 b1 b2 b3 b4 b5 b6 b7 b8 b9 d0 d1 d2 d3 d4 d5 d6 d7 d8 d9 f0 f1 f2 f3 f4 f5 f6 g0 g1 g2 g3 g4 g5 g6 h
  refine W.step 80 fun hp=>?_
  cbv
  refine ⟨imI hA fun e0=>have j0:=h.1 (ah (op:=.neq) hA e0);?_,imI hA fun e0=>have j0:=h.2 (ah (op:=.neq) hA e0);?_⟩
  ·refine W.draw 80 (by rfl) ?_
   cbv
   refine ⟨imI hA fun e1=>have j1:=j0.1 (ah (op:=.neq) hA e1);?_,imI hA fun e1=>have j1:=j0.2 (ah (op:=.neq) hA e1);?_⟩
   ·refine W.draw 80 (by rfl) ?_
    cbv
    refine ⟨imI hA fun e2=>have j2:=j1.1 (ah (op:=.neq) hA e2);?_,imI hA fun e2=>have j2:=j1.2 (ah (op:=.neq) hA e2);?_⟩
    ·refine W.draw 80 (by rfl) ?_
     cbv
     refine ⟨imI hA fun e3=>have j3:=j2.1 (ah (op:=.neq) hA e3);?_,imI hA fun e3=>have j3:=j2.2 (ah (op:=.neq) hA e3);?_⟩
     ·refine W.draw 80 (by rfl) ?_
      cbv
      refine ⟨imI hA fun e4=>have j4:=j3.1 (ah (op:=.neq) hA e4);?_,imI hA fun e4=>have j4:=j3.2 (ah (op:=.neq) hA e4);?_⟩
      ·refine W.draw 80 (by rfl) ?_
       cbv
       subst hA
       exact ⟨fun e5=>have j5:=j4.1 (ah (op:=.neq) rfl e5);⟨fun e6=>have j6:=j5.1 ((ah (op:=.neq) rfl e6));(W.q j6),fun e6=>have j6:=j5.2 ((ah (op:=.neq) rfl e6));j6⟩,fun e5=>have j5:=j4.2 (ah (op:=.neq) rfl e5);(W.q j5)⟩
      ·refine W.draw 80 (by rfl) ?_
       cbv
       subst hA
       exact (W.q j4)
     ·refine W.draw 80 (by rfl) ?_
      cbv
      refine W.draw 80 (by rfl) ?_
      cbv
      subst hA
      exact (W.q j3)
    ·refine W.draw 80 (by rfl) ?_
     cbv
     refine W.draw 80 (by rfl) ?_
     cbv
     refine W.draw 80 (by rfl) ?_
     cbv
     subst hA
     exact (W.q j2)
   ·refine W.draw 80 (by rfl) ?_
    cbv
    refine W.draw 80 (by rfl) ?_
    cbv
    refine W.draw 80 (by rfl) ?_
    cbv
    refine W.draw 80 (by rfl) ?_
    cbv
    subst hA
    exact (W.q j1)
  ·refine W.draw 80 (by rfl) ?_
   cbv
   refine W.draw 80 (by rfl) ?_
   cbv
   refine W.draw 80 (by rfl) ?_
   cbv
   refine W.draw 80 (by rfl) ?_
   cbv
   refine W.draw 80 (by rfl) ?_
   cbv
   subst hA
   exact (W.q j0)
 ·intro t64 t65 t129 t130 b0 b1 b2 b3 b4 b5 b6 b7 b8 b9 d0 d1 d2 d3 d4 d5 d6 d7 d8 d9 f0 f1 f2 f3 f4 f5 f6 g0 g1 g2 g3 g4 g5 g6 h
  refine W.step 80 fun hp=>?_
  cbv
  subst hA
  exact ⟨fun e0=>have j0:=h.1 (ah (op:=.lss) rfl e0);⟨(An j0.1 j0.2.1),⟨(An j0.1 j0.2.2.1),⟨fun e1=>have j1:=j0.2.2.2.1 ((notE rfl e1));(W.q j1),fun e1=>have j1:=j0.2.2.2.2 ((notE rfl e1));j1⟩⟩⟩,fun e0=>have j0:=h.2 (ah (op:=.lss) rfl e0);j0⟩
theorem E46 {u0 u1 u2 u3:Int} {u4:RW} {u5:Int} {u6 u7 u8 u9:RW} {v0 v1 v2 v3:Int} {v4:RW} {v5:Int} {v6 v7 v8 v9:RW} (h:∀ EV,V46 EV Q→(((u0 == v0) && ((u1 == v1) && ((u2 == v2) && ((u3 == v3) && true))))=true→(u5=v5→EZ G82 [] [.r u4,.r v4] (fun x rs vs=>(x=0∧∃ SY,rs=[]∧vs=[.b SY]∧((SY=true→EZ G82 [] [.r u6,.r v6] (fun x rs vs=>(x=0∧∃ Td,rs=[]∧vs=[.b Td]∧((Td=true→EZ G82 [] [.r u7,.r v7] (fun x rs vs=>(x=0∧∃ TY,rs=[]∧vs=[.b TY]∧((TY=true→EZ G82 [] [.r u9,.r v9] (fun x rs vs=>(x=0∧∃ Ul,rs=[]∧vs=[.b Ul]∧((Ul=true→((u8.length:Int)≠(v8.length:Int)→Q 0 [] [.b false])∧((u8.length:Int)=(v8.length:Int)→EV 15 [] (.i (u8.length:Int)::.i 0::cL u0 u1 u2 u3 u4 u5 u6 u7 u8 u9 (cL v0 v1 v2 v3 v4 v5 v6 v7 v8 v9 []))))∧(Ul=false→Q 0 [] [.b false])))))∧(TY=false→Q 0 [] [.b false])))))∧(Td=false→Q 0 [] [.b false])))))∧(SY=false→Q 0 [] [.b false])))))∧(u5≠v5→Q 0 [] [.b false]))∧(((u0 == v0) && ((u1 == v1) && ((u2 == v2) && ((u3 == v3) && true))))=false→Q 0 [] [.b false])):EZ G46 [] (cL u0 u1 u2 u3 u4 u5 u6 u7 u8 u9 (cL v0 v1 v2 v3 v4 v5 v6 v7 v8 v9 [])) Q:=by
 refine ak.en (I:=I46) (L:=L46) Rh fun A hA CE CK Dn EV RR W hp=>?_
 have h:=h  EV (V46.of W)
 cbv
 refine ⟨imI hA fun e0=>have j0:=h.1 (by subst hA;exact (notE rfl e0));⟨imI hA fun e1=>have j1:=j0.1 (ah (op:=.neq) hA e1);?_,imI hA fun e1=>have j1:=j0.2 (ah (op:=.neq) hA e1);(W.q j1)⟩,imI hA fun e0=>have j0:=h.2 (by subst hA;exact (notE rfl e0));(W.q j0)⟩
 refine W.cl j1 ?_
 rintro _ _ _ hp2 (⟨rfl,SY,rfl,rfl,k2⟩)
 cbv
 refine ⟨imI hA fun e3=>have j3:=k2.1 (by subst hA;exact (notE rfl e3));?_,imI hA fun e3=>have j3:=k2.2 (by subst hA;exact (notE rfl e3));(W.q j3)⟩
 refine W.cl j3 ?_
 rintro _ _ _ hp4 (⟨rfl,Td,rfl,rfl,k4⟩)
 cbv
 refine ⟨imI hA fun e5=>have j5:=k4.1 (by subst hA;exact (notE rfl e5));?_,imI hA fun e5=>have j5:=k4.2 (by subst hA;exact (notE rfl e5));(W.q j5)⟩
 refine W.cl j5 ?_
 rintro _ _ _ hp6 (⟨rfl,TY,rfl,rfl,k6⟩)
 cbv
 refine ⟨imI hA fun e7=>have j7:=k6.1 (by subst hA;exact (notE rfl e7));?_,imI hA fun e7=>have j7:=k6.2 (by subst hA;exact (notE rfl e7));(W.q j7)⟩
 refine W.cl j7 ?_
 rintro _ _ _ hp8 (⟨rfl,Ul,rfl,rfl,k8⟩)
 cbv
 subst hA
 exact ⟨fun e9=>have j9:=k8.1 ((notE rfl e9));⟨fun e10=>have j10:=j9.1 ((ah (op:=.neq) rfl e10));(W.q j10),fun e10=>have j10:=j9.2 ((ah (op:=.neq) rfl e10));j10⟩,fun e9=>have j9:=k8.2 ((notE rfl e9));(W.q j9)⟩
theorem E44  (h:∀ EV,VN EV Q→EZ G81 [] [] (fun x rs vs=>(x=0∧∃ SV y0a0 y0a1 y0a2 y0a3 y0a4,rs=[SV]∧vs=[.i y0a0,.i y0a1,.i y0a2,.i y0a3,.i y0a4]∧(EZ G49 [] (cL y0a0 y0a1 y0a2 y0a3 ([]) y0a4 ([]) ([]) (List.take SV.length (List.drop 0 SV)) ([]) []) (fun x rs vs=>(x=0∧∃ SX Ue,rs=[]∧vs=[.i SX,.b Ue]∧(EZ G81 [] [] (fun x rs vs=>(x=0∧∃ Tf y2a0 y2a1 y2a2 y2a3 y2a4,rs=[Tf]∧vs=[.i y2a0,.i y2a1,.i y2a2,.i y2a3,.i y2a4]∧(EZ G51 [] (cL y2a0 y2a1 y2a2 y2a3 ([]) y2a4 ([]) ([]) (List.take Tf.length (List.drop 0 Tf)) ([]) [.i 0]) (fun x rs vs=>(x=0∧∃ S9 Ux,rs=[]∧vs=[.i S9,.b Ux]∧(EZ G81 [] [] (fun x rs vs=>(x=0∧∃ Ve y4a0 y4a1 y4a2 y4a3 y4a4,rs=[Ve]∧vs=[.i y4a0,.i y4a1,.i y4a2,.i y4a3,.i y4a4]∧(EZ G51 [] (cL y4a0 y4a1 y4a2 y4a3 ([]) y4a4 ([]) ([]) (List.take Ve.length (List.drop 0 Ve)) ([]) [.i 1]) (fun x rs vs=>(x=0∧∃ Uc Un,rs=[]∧vs=[.i Uc,.b Un]∧(EZ G81 [] [] (fun x rs vs=>(x=0∧∃ Y6_0 y6a0 y6a1 y6a2 y6a3 y6a4,rs=[Y6_0]∧vs=[.i y6a0,.i y6a1,.i y6a2,.i y6a3,.i y6a4]∧(EZ G47 [] (cL y6a0 y6a1 y6a2 y6a3 ([]) y6a4 ([]) ([]) (List.take Y6_0.length (List.drop 0 Y6_0)) ([]) [.i 9]) (fun x rs vs=>(x=0∧∃ y7a0 y7a1 y7a2 y7a3 y7a4 y7a5 y7a6 y7a7 y7a8 y7a9,rs=[]∧vs=(cL y7a0 y7a1 y7a2 y7a3 y7a4 y7a5 y7a6 y7a7 y7a8 y7a9 [])∧((Ue=true→(SX=16→(Ux=true→(S9=5→(Un=false→(y7a8[(Int.toNat 0)]?=some (r7 y7a8 (Int.toNat 0)))∧((cRS y7a8 (Int.toNat 0) 6)[(Int.toNat 0)]?=some (r3 (cRS y7a8 (Int.toNat 0) 6) (Int.toNat 0)))∧((cIS (cRS y7a8 (Int.toNat 0) 6) (Int.toNat 0) 1)=6→EZ G81 [] [] (fun x rs vs=>(x=0∧∃ Vq y14a0 y14a1 y14a2 y14a3 y14a4,rs=[Vq]∧vs=[.i y14a0,.i y14a1,.i y14a2,.i y14a3,.i y14a4]∧(EZ G47 [] (cL y14a0 y14a1 y14a2 y14a3 ([]) y14a4 ([]) ([]) (List.take Vq.length (List.drop 0 Vq)) ([]) [.i 8]) (fun x rs vs=>(x=0∧∃ y15a0 y15a1 y15a2 y15a3 y15a4 y15a5 y15a6 y15a7 y15a8 y15a9,rs=[]∧vs=(cL y15a0 y15a1 y15a2 y15a3 y15a4 y15a5 y15a6 y15a7 y15a8 y15a9 [])∧(EZ G81 [] [] (fun x rs vs=>(x=0∧∃ Vp y16a0 y16a1 y16a2 y16a3 y16a4,rs=[Vp]∧vs=[.i y16a0,.i y16a1,.i y16a2,.i y16a3,.i y16a4]∧(EZ G46 [] (cL y15a0 y15a1 y15a2 y15a3 y15a4 y15a5 y15a6 y15a7 y15a8 y15a9 (cL y16a0 y16a1 y16a2 y16a3 ([]) y16a4 ([]) ([]) (List.take Vp.length (List.drop 0 Vp)) ([]) [])) (fun x rs vs=>(x=0∧∃ VA,rs=[]∧vs=[.b VA]∧(Q 0 [] [.b VA])))))))))))))∧((cIS (cRS y7a8 (Int.toNat 0) 6) (Int.toNat 0) 1)≠6→Q 0 [] [.b false]))∧(Un=true→Q 0 [] [.b false]))∧(S9≠5→Q 0 [] [.b false]))∧(Ux=false→Q 0 [] [.b false]))∧(SX≠16→Q 0 [] [.b false]))∧(Ue=false→Q 0 [] [.b false])))))))))))))))))))))))))):EZ G44 [] [] Q:=by
 refine ak.en (I:=I44) (L:=L44) Rj fun A hA CE CK Dn EV RR W hp=>?_
 have h:=h  EV ⟨trivial⟩
 cbv
 refine W.cl h ?_
 rintro _ _ _ hp0 (⟨rfl,SV,y0a0,y0a1,y0a2,y0a3,y0a4,rfl,rfl,k0⟩)
 cbv
 refine ⟨ndI hA (An (An hp0.1 trivial) (An (An rfl trivial) trivial)),?_⟩
 refine W.cl k0 ?_
 rintro _ _ _ hp1 (⟨rfl,SX,Ue,rfl,rfl,k1⟩)
 cbv
 refine W.cl k1 ?_
 rintro _ _ _ hp2 (⟨rfl,Tf,y2a0,y2a1,y2a2,y2a3,y2a4,rfl,rfl,k2⟩)
 cbv
 refine ⟨ndI hA (An (An hp2.1 trivial) (An (An rfl trivial) trivial)),?_⟩
 refine W.cl k2 ?_
 rintro _ _ _ hp3 (⟨rfl,S9,Ux,rfl,rfl,k3⟩)
 cbv
 refine W.cl k3 ?_
 rintro _ _ _ hp4 (⟨rfl,Ve,y4a0,y4a1,y4a2,y4a3,y4a4,rfl,rfl,k4⟩)
 cbv
 refine ⟨ndI hA (An (An hp4.1 trivial) (An (An rfl trivial) trivial)),?_⟩
 refine W.cl k4 ?_
 rintro _ _ _ hp5 (⟨rfl,Uc,Un,rfl,rfl,k5⟩)
 cbv
 refine W.cl k5 ?_
 rintro _ _ _ hp6 (⟨rfl,Y6_0,y6a0,y6a1,y6a2,y6a3,y6a4,rfl,rfl,k6⟩)
 cbv
 refine ⟨ndI hA (An (An hp6.1 trivial) (An (An rfl trivial) trivial)),?_⟩
 refine W.cl k6 ?_
 rintro _ _ _ hp7 (⟨rfl,y7a0,y7a1,y7a2,y7a3,y7a4,y7a5,y7a6,y7a7,y7a8,y7a9,rfl,rfl,k7⟩)
 cbv
 refine ⟨imI hA fun e8=>have j8:=k7.1 e8;⟨imI hA fun e9=>have j9:=j8.1 (ah (op:=.eql) hA e9);⟨imI hA fun e10=>have j10:=j9.1 e10;⟨imI hA fun e11=>have j11:=j10.1 (ah (op:=.eql) hA e11);⟨imI hA fun e12=>have j12:=j11.1 (by subst hA;exact (notE rfl e12));⟨ndI hA (An (Int.le_refl _) (hA ▸ j12.1)),⟨ndI hA (An (Int.le_refl _) (hA ▸ j12.2.1)),⟨imI hA fun e13=>have j13:=j12.2.2.1 (by subst hA;exact (ah (op:=.eql) rfl e13));?_,imI hA fun e13=>have j13:=j12.2.2.2 (by subst hA;exact (ah (op:=.eql) rfl e13));(W.q j13)⟩⟩⟩,imI hA fun e12=>have j12:=j11.2 (by subst hA;exact (notE rfl e12));(W.q j12)⟩,imI hA fun e11=>have j11:=j10.2 (ah (op:=.eql) hA e11);(W.q j11)⟩,imI hA fun e10=>have j10:=j9.2 e10;(W.q j10)⟩,imI hA fun e9=>have j9:=j8.2 (ah (op:=.eql) hA e9);(W.q j9)⟩,imI hA fun e8=>have j8:=k7.2 e8;(W.q j8)⟩
 refine W.cl j13 ?_
 rintro _ _ _ hp14 (⟨rfl,Vq,y14a0,y14a1,y14a2,y14a3,y14a4,rfl,rfl,k14⟩)
 cbv
 refine ⟨ndI hA (An (An hp14.1 trivial) (An (An rfl trivial) trivial)),?_⟩
 refine W.cl k14 ?_
 rintro _ _ _ hp15 (⟨rfl,y15a0,y15a1,y15a2,y15a3,y15a4,y15a5,y15a6,y15a7,y15a8,y15a9,rfl,rfl,k15⟩)
 cbv
 refine W.cl k15 ?_
 rintro _ _ _ hp16 (⟨rfl,Vp,y16a0,y16a1,y16a2,y16a3,y16a4,rfl,rfl,k16⟩)
 cbv
 refine ⟨ndI hA (An (An hp16.1 trivial) (An (An rfl trivial) trivial)),?_⟩
 refine W.cl k16 ?_
 rintro _ _ _ hp17 (⟨rfl,VA,rfl,rfl,k17⟩)
 cbv
 subst hA
 exact (W.q k17)
structure V45 (EV Q:EP):Prop where
  p11:∀ {R0 R1 R2 R3 R4 R5:RW} {t1:Int} {t19:RW} {t20 t21 b0 b1 b2 b3 b4 d0 d1 d2 d3:Int} {d4:RW} {d5:Int} {d6 d7 d8:RW},(aB R0=true→aB R1=true→aB R2=true→aB R3=true→aB R4=true→aB R5=true→(t21 < t20→(0≤t21)∧(t19[t21.toNat]?=some (r7 t19 t21.toNat))∧((List.length (cRS t19 t21.toNat 6))≤140737488355328)∧(((List.length (cRS t19 t21.toNat 6)) * 24)≤140737488355328)∧(aB (cRS t19 t21.toNat 6)=true)∧(EV 28 [(cRS t19 t21.toNat 6),R0,R1,R2,R3,R4,R5] [.i t1,.i t21,.r t19,.i t20,.i t21,.i ((List.length (cRS t19 t21.toNat 6)):Int),.i 0,.i b0,.i b1,.i b2,.i b3,.i b4,.i d0,.i d1,.i d2,.i d3,.r d4,.i d5,.r d6,.r d7,.r d8]))∧(t21≥t20→Q 0 [] (cL d0 d1 d2 d3 d4 d5 d6 d7 (List.take R5.length (List.drop 0 R5)) d8 [])))→EV 11 [R0,R1,R2,R3,R4,R5] [.i t1,.r t19,.i t20,.i t21,.i b0,.i b1,.i b2,.i b3,.i b4,.i d0,.i d1,.i d2,.i d3,.r d4,.i d5,.r d6,.r d7,.r d8]
  p28:∀ {R0 R1 R2 R3 R4 R5 R6:RW} {t1 t6:Int} {t19:RW} {t20 t21 t31 t32 b0 b1 b2 b3 b4 d0 d1 d2 d3:Int} {d4:RW} {d5:Int} {d6 d7 d8:RW},(aB R0=true→aB R1=true→aB R2=true→aB R3=true→aB R4=true→aB R5=true→aB R6=true→(t32 < t31→(0≤t32)∧(t32 < (R0.length:Int))∧(R0[t32.toNat]?=some (r3 R0 t32.toNat))∧((cIS R0 t32.toNat 0)=1→((cIS R0 t32.toNat 1)≥1→((cIS R0 t32.toNat 1) > 1000→EV 28 [R0,R1,R2,R3,R4,R5,R6] [.i t1,.i t6,.r t19,.i t20,.i t21,.i t31,.i (IntKind.wrap .i64 (t32 + 1)),.i b0,.i b1,.i b2,.i b3,.i b4,.i d0,.i d1,.i d2,.i d3,.r d4,.i d5,.r d6,.r d7,.r d8])∧((cIS R0 t32.toNat 1)≤1000→((Int.tmod (IntKind.wrap .i64 ((cIS R0 t32.toNat 1) * t1)) 8) > 0→(0≤t32)∧(t32 < (R0.length:Int))∧(R0[t32.toNat]?=some (r3 R0 t32.toNat))∧(EV 28 [(List.set R0 t32.toNat [.int .i64 (cIS R0 t32.toNat 0),.int .i64 (arS.mn (arS.mx (IntKind.wrap .i64 ((IntKind.wrap .i64 (Int.tdiv (IntKind.wrap .i64 ((cIS R0 t32.toNat 1) * t1)) 8)) + 1)) 1) 1000),.int .i64 (cIS R0 t32.toNat 2)]),R1,R2,R3,R4,R5,R6] [.i t1,.i t6,.r t19,.i t20,.i t21,.i t31,.i (IntKind.wrap .i64 (t32 + 1)),.i b0,.i b1,.i b2,.i b3,.i b4,.i d0,.i d1,.i d2,.i d3,.r d4,.i d5,.r d6,.r d7,.r d8]))∧((Int.tmod (IntKind.wrap .i64 ((cIS R0 t32.toNat 1) * t1)) 8)≤0→(0≤t32)∧(t32 < (R0.length:Int))∧(R0[t32.toNat]?=some (r3 R0 t32.toNat))∧(EV 28 [(List.set R0 t32.toNat [.int .i64 (cIS R0 t32.toNat 0),.int .i64 (arS.mn (arS.mx (IntKind.wrap .i64 (Int.tdiv (IntKind.wrap .i64 ((cIS R0 t32.toNat 1) * t1)) 8)) 1) 1000),.int .i64 (cIS R0 t32.toNat 2)]),R1,R2,R3,R4,R5,R6] [.i t1,.i t6,.r t19,.i t20,.i t21,.i t31,.i (IntKind.wrap .i64 (t32 + 1)),.i b0,.i b1,.i b2,.i b3,.i b4,.i d0,.i d1,.i d2,.i d3,.r d4,.i d5,.r d6,.r d7,.r d8]))))∧((cIS R0 t32.toNat 1) < 1→EV 28 [R0,R1,R2,R3,R4,R5,R6] [.i t1,.i t6,.r t19,.i t20,.i t21,.i t31,.i (IntKind.wrap .i64 (t32 + 1)),.i b0,.i b1,.i b2,.i b3,.i b4,.i d0,.i d1,.i d2,.i d3,.r d4,.i d5,.r d6,.r d7,.r d8]))∧((cIS R0 t32.toNat 0)≠1→EV 28 [R0,R1,R2,R3,R4,R5,R6] [.i t1,.i t6,.r t19,.i t20,.i t21,.i t31,.i (IntKind.wrap .i64 (t32 + 1)),.i b0,.i b1,.i b2,.i b3,.i b4,.i d0,.i d1,.i d2,.i d3,.r d4,.i d5,.r d6,.r d7,.r d8]))∧(t32≥t31→(0≤t6)∧(t6 < (R6.length:Int))∧(R6[t6.toNat]?=some (r7 R6 t6.toNat))∧(EV 11 [R1,R2,R3,R4,R5,(List.set R6 t6.toNat [.int .i64 (cIS R6 t6.toNat 0),.int .i64 (cIS R6 t6.toNat 1),.int .i64 (cIS R6 t6.toNat 2),.int .i64 (cIS R6 t6.toNat 3),.int .i64 (cIS R6 t6.toNat 4),.int .i64 (cIS R6 t6.toNat 5),.inl 3 (List.take R0.length (List.drop 0 R0))])] [.i t1,.r t19,.i t20,.i (IntKind.wrap .i64 (t21 + 1)),.i b0,.i b1,.i b2,.i b3,.i b4,.i d0,.i d1,.i d2,.i d3,.r d4,.i d5,.r d6,.r d7,.r d8])))→EV 28 [R0,R1,R2,R3,R4,R5,R6] [.i t1,.i t6,.r t19,.i t20,.i t21,.i t31,.i t32,.i b0,.i b1,.i b2,.i b3,.i b4,.i d0,.i d1,.i d2,.i d3,.r d4,.i d5,.r d6,.r d7,.r d8]
theorem V45.of (W:Wk Tryz.prog Tryz.f45 I45 L45 Q A sg CE CK Dn EV RR):V45 EV Q:=by
 have hA:=W.hA
 refine ⟨?_,?_⟩
 ·intro R0 R1 R2 R3 R4 R5 t1 t19 t20 t21 b0 b1 b2 b3 b4 d0 d1 d2 d3 d4 d5 d6 d7 d8 h
  refine W.step 80 fun hp=>?_
  have h:=h hp.1 hp.2.1 hp.2.2.1 hp.2.2.2.1 hp.2.2.2.2.1 hp.2.2.2.2.2.1
  cbv
  subst hA
  exact ⟨fun e0=>have j0:=h.1 (ah (op:=.lss) rfl e0);⟨(An j0.1 j0.2.1),⟨(An j0.2.2.1 j0.2.2.2.1),⟨rfl,⟨(An rfl (An rfl rfl)),⟨(An rfl (An rfl rfl)),⟨(An rfl (An rfl rfl)),⟨(An rfl (An rfl rfl)),⟨(An rfl (An rfl rfl)),⟨(An rfl (An rfl rfl)),⟨(An rfl (An rfl rfl)),⟨(An rfl (An rfl rfl)),⟨j0.2.2.2.2.1,⟨hp.1,⟨hp.2.1,⟨hp.2.2.1,⟨hp.2.2.2.1,⟨hp.2.2.2.2.1,⟨hp.2.2.2.2.2.1,j0.2.2.2.2.2⟩⟩⟩⟩⟩⟩⟩⟩⟩⟩⟩⟩⟩⟩⟩⟩⟩⟩,fun e0=>have j0:=h.2 (ah (op:=.lss) rfl e0);⟨(An (An hp.1 (An hp.2.1 (An hp.2.2.1 (An hp.2.2.2.1 (An hp.2.2.2.2.1 (An hp.2.2.2.2.2.1 trivial)))))) (An (An rfl trivial) trivial)),⟨(An (An rfl trivial) (An (An rfl trivial) trivial)),(W.q j0)⟩⟩⟩
 ·intro R0 R1 R2 R3 R4 R5 R6 t1 t6 t19 t20 t21 t31 t32 b0 b1 b2 b3 b4 d0 d1 d2 d3 d4 d5 d6 d7 d8 h
  refine W.step 80 fun hp=>?_
  have h:=h hp.1 hp.2.1 hp.2.2.1 hp.2.2.2.1 hp.2.2.2.2.1 hp.2.2.2.2.2.1 hp.2.2.2.2.2.2.1
  cbv
  subst hA
  exact ⟨fun e0=>have j0:=h.1 (ah (op:=.lss) rfl e0);⟨(An j0.1 (An j0.2.1 rfl)),⟨(An rfl j0.2.2.1),⟨fun e1=>have j1:=j0.2.2.2.1 ((ah (op:=.neq) rfl e1));⟨fun e2=>have j2:=j1.1 ((ah (op:=.lss) rfl e2));⟨fun e3=>have j3:=j2.1 ((ah (op:=.gtr) rfl e3));⟨(An rfl (An rfl rfl)),⟨(An rfl (An rfl rfl)),⟨(An rfl (An rfl rfl)),⟨(An rfl (An rfl rfl)),⟨(An rfl (An rfl rfl)),⟨(An rfl (An rfl rfl)),⟨(An rfl (An rfl rfl)),⟨(An rfl (An rfl rfl)),⟨hp.1,⟨hp.2.1,⟨hp.2.2.1,⟨hp.2.2.2.1,⟨hp.2.2.2.2.1,⟨hp.2.2.2.2.2.1,⟨hp.2.2.2.2.2.2.1,j3⟩⟩⟩⟩⟩⟩⟩⟩⟩⟩⟩⟩⟩⟩⟩,fun e3=>have j3:=j2.2 ((ah (op:=.gtr) rfl e3));⟨(show _≠_ by decide),⟨(show _≠_ by decide),⟨fun e4=>have j4:=j3.1 ((ah (op:=.gtr) rfl e4));⟨(An j4.1 (An j4.2.1 rfl)),⟨(An rfl j4.2.2.1),⟨(An (by show R0.length=(List.length (List.set R0 t32.toNat [.int .i64 (cIS R0 t32.toNat 0),.int .i64 (arS.mn (arS.mx (IntKind.wrap .i64 ((IntKind.wrap .i64 (Int.tdiv (IntKind.wrap .i64 ((cIS R0 t32.toNat 1) * t1)) 8)) + 1)) 1) 1000),.int .i64 (cIS R0 t32.toNat 2)]));(first | rfl | simp [af] | (simp [af];omega))) (An rfl (by show R0.length=(List.length (List.set R0 t32.toNat [.int .i64 (cIS R0 t32.toNat 0),.int .i64 (arS.mn (arS.mx (IntKind.wrap .i64 ((IntKind.wrap .i64 (Int.tdiv (IntKind.wrap .i64 ((cIS R0 t32.toNat 1) * t1)) 8)) + 1)) 1) 1000),.int .i64 (cIS R0 t32.toNat 2)]));(first | rfl | simp [af] | (simp [af];omega))))),⟨(An (by show R0.length=(List.length (List.set R0 t32.toNat [.int .i64 (cIS R0 t32.toNat 0),.int .i64 (arS.mn (arS.mx (IntKind.wrap .i64 ((IntKind.wrap .i64 (Int.tdiv (IntKind.wrap .i64 ((cIS R0 t32.toNat 1) * t1)) 8)) + 1)) 1) 1000),.int .i64 (cIS R0 t32.toNat 2)]));(first | rfl | simp [af] | (simp [af];omega))) (An rfl (by show R0.length=(List.length (List.set R0 t32.toNat [.int .i64 (cIS R0 t32.toNat 0),.int .i64 (arS.mn (arS.mx (IntKind.wrap .i64 ((IntKind.wrap .i64 (Int.tdiv (IntKind.wrap .i64 ((cIS R0 t32.toNat 1) * t1)) 8)) + 1)) 1) 1000),.int .i64 (cIS R0 t32.toNat 2)]));(first | rfl | simp [af] | (simp [af];omega))))),⟨(An rfl (An rfl rfl)),⟨(An rfl (An rfl rfl)),⟨(An rfl (An rfl rfl)),⟨(An rfl (An rfl rfl)),⟨(An rfl (An rfl rfl)),⟨(An rfl (An rfl rfl)),⟨((dU hp.1 rfl)),⟨hp.2.1,⟨hp.2.2.1,⟨hp.2.2.2.1,⟨hp.2.2.2.2.1,⟨hp.2.2.2.2.2.1,⟨hp.2.2.2.2.2.2.1,j4.2.2.2⟩⟩⟩⟩⟩⟩⟩⟩⟩⟩⟩⟩⟩⟩⟩⟩⟩,fun e4=>have j4:=j3.2 ((ah (op:=.gtr) rfl e4));⟨(An j4.1 (An j4.2.1 rfl)),⟨(An rfl j4.2.2.1),⟨(An (by show R0.length=(List.length (List.set R0 t32.toNat [.int .i64 (cIS R0 t32.toNat 0),.int .i64 (arS.mn (arS.mx (IntKind.wrap .i64 (Int.tdiv (IntKind.wrap .i64 ((cIS R0 t32.toNat 1) * t1)) 8)) 1) 1000),.int .i64 (cIS R0 t32.toNat 2)]));(first | rfl | simp [af] | (simp [af];omega))) (An rfl (by show R0.length=(List.length (List.set R0 t32.toNat [.int .i64 (cIS R0 t32.toNat 0),.int .i64 (arS.mn (arS.mx (IntKind.wrap .i64 (Int.tdiv (IntKind.wrap .i64 ((cIS R0 t32.toNat 1) * t1)) 8)) 1) 1000),.int .i64 (cIS R0 t32.toNat 2)]));(first | rfl | simp [af] | (simp [af];omega))))),⟨(An (by show R0.length=(List.length (List.set R0 t32.toNat [.int .i64 (cIS R0 t32.toNat 0),.int .i64 (arS.mn (arS.mx (IntKind.wrap .i64 (Int.tdiv (IntKind.wrap .i64 ((cIS R0 t32.toNat 1) * t1)) 8)) 1) 1000),.int .i64 (cIS R0 t32.toNat 2)]));(first | rfl | simp [af] | (simp [af];omega))) (An rfl (by show R0.length=(List.length (List.set R0 t32.toNat [.int .i64 (cIS R0 t32.toNat 0),.int .i64 (arS.mn (arS.mx (IntKind.wrap .i64 (Int.tdiv (IntKind.wrap .i64 ((cIS R0 t32.toNat 1) * t1)) 8)) 1) 1000),.int .i64 (cIS R0 t32.toNat 2)]));(first | rfl | simp [af] | (simp [af];omega))))),⟨(An rfl (An rfl rfl)),⟨(An rfl (An rfl rfl)),⟨(An rfl (An rfl rfl)),⟨(An rfl (An rfl rfl)),⟨(An rfl (An rfl rfl)),⟨(An rfl (An rfl rfl)),⟨((dU hp.1 rfl)),⟨hp.2.1,⟨hp.2.2.1,⟨hp.2.2.2.1,⟨hp.2.2.2.2.1,⟨hp.2.2.2.2.2.1,⟨hp.2.2.2.2.2.2.1,j4.2.2.2⟩⟩⟩⟩⟩⟩⟩⟩⟩⟩⟩⟩⟩⟩⟩⟩⟩⟩⟩⟩⟩,fun e2=>have j2:=j1.2 ((ah (op:=.lss) rfl e2));⟨(An rfl (An rfl rfl)),⟨(An rfl (An rfl rfl)),⟨(An rfl (An rfl rfl)),⟨(An rfl (An rfl rfl)),⟨(An rfl (An rfl rfl)),⟨(An rfl (An rfl rfl)),⟨(An rfl (An rfl rfl)),⟨(An rfl (An rfl rfl)),⟨hp.1,⟨hp.2.1,⟨hp.2.2.1,⟨hp.2.2.2.1,⟨hp.2.2.2.2.1,⟨hp.2.2.2.2.2.1,⟨hp.2.2.2.2.2.2.1,j2⟩⟩⟩⟩⟩⟩⟩⟩⟩⟩⟩⟩⟩⟩⟩⟩,fun e1=>have j1:=j0.2.2.2.2 ((ah (op:=.neq) rfl e1));⟨(An rfl (An rfl rfl)),⟨(An rfl (An rfl rfl)),⟨(An rfl (An rfl rfl)),⟨(An rfl (An rfl rfl)),⟨(An rfl (An rfl rfl)),⟨(An rfl (An rfl rfl)),⟨(An rfl (An rfl rfl)),⟨(An rfl (An rfl rfl)),⟨hp.1,⟨hp.2.1,⟨hp.2.2.1,⟨hp.2.2.2.1,⟨hp.2.2.2.2.1,⟨hp.2.2.2.2.2.1,⟨hp.2.2.2.2.2.2.1,j1⟩⟩⟩⟩⟩⟩⟩⟩⟩⟩⟩⟩⟩⟩⟩⟩⟩⟩,fun e0=>have j0:=h.2 (ah (op:=.lss) rfl e0);⟨(An j0.1 (An j0.2.1 rfl)),⟨(An (An hp.1 (An hp.2.1 (An hp.2.2.1 (An hp.2.2.2.1 (An hp.2.2.2.2.1 (An hp.2.2.2.2.2.1 (An hp.2.2.2.2.2.2.1 trivial))))))) (An rfl trivial)),⟨(An rfl j0.2.2.1),⟨(An rfl (An rfl rfl)),⟨(An rfl (An rfl rfl)),⟨(An rfl (An rfl rfl)),⟨(An rfl (An rfl rfl)),⟨(An rfl (An rfl rfl)),⟨(An (by show R6.length=(List.length (List.set R6 t6.toNat [.int .i64 (cIS R6 t6.toNat 0),.int .i64 (cIS R6 t6.toNat 1),.int .i64 (cIS R6 t6.toNat 2),.int .i64 (cIS R6 t6.toNat 3),.int .i64 (cIS R6 t6.toNat 4),.int .i64 (cIS R6 t6.toNat 5),.inl 3 (List.take R0.length (List.drop 0 R0))]));(first | rfl | simp [af] | (simp [af];omega))) (An rfl (by show R6.length=(List.length (List.set R6 t6.toNat [.int .i64 (cIS R6 t6.toNat 0),.int .i64 (cIS R6 t6.toNat 1),.int .i64 (cIS R6 t6.toNat 2),.int .i64 (cIS R6 t6.toNat 3),.int .i64 (cIS R6 t6.toNat 4),.int .i64 (cIS R6 t6.toNat 5),.inl 3 (List.take R0.length (List.drop 0 R0))]));(first | rfl | simp [af] | (simp [af];omega))))),⟨hp.2.1,⟨hp.2.2.1,⟨hp.2.2.2.1,⟨hp.2.2.2.2.1,⟨hp.2.2.2.2.2.1,⟨((dU hp.2.2.2.2.2.2.1 rfl)),j0.2.2.2⟩⟩⟩⟩⟩⟩⟩⟩⟩⟩⟩⟩⟩⟩⟩⟩
theorem E45 {u0 u1 u2 u3:Int} {u4:RW} {u5:Int} {u6 u7 u8 u9:RW} {a1:Int} (h:∀ EV,V45 EV Q→(u8.length≤140737488355328)∧((u8.length * 72)≤140737488355328)∧(aB u8=true)∧(EV 11 [[],[],[],[],[],u8] [.i a1,.r u8,.i (u8.length:Int),.i 0,.i 0,.i 0,.i 0,.i 0,.i 0,.i u0,.i u1,.i u2,.i u3,.r u4,.i u5,.r u6,.r u7,.r u9])):EZ G45 [] (cL u0 u1 u2 u3 u4 u5 u6 u7 u8 u9 [.i a1]) Q:=by
 refine ak.en (I:=I45) (L:=L45) Ri fun A hA CE CK Dn EV RR W hp=>?_
 have h:=h  EV (V45.of W)
 cbv
 subst hA
 exact ⟨(An h.1 h.2.1),⟨(An rfl (An rfl rfl)),⟨(An rfl (An rfl rfl)),⟨(An rfl (An rfl rfl)),⟨(An rfl (An rfl rfl)),⟨(An rfl (An rfl rfl)),⟨(An rfl (An rfl rfl)),⟨aQ,⟨aQ,⟨aQ,⟨aQ,⟨aQ,⟨h.2.2.1,h.2.2.2⟩⟩⟩⟩⟩⟩⟩⟩⟩⟩⟩⟩⟩
theorem E11 {u0 u1 u2 u3:Int} {u4:RW} {u5:Int} {u6 u7 u8 u9:RW} {a1:Int} (h:∀ EV,VN EV Q→EZ G44 [] [] (fun x rs vs=>(x=0∧∃ SS,rs=[]∧vs=[.b SS]∧((SS=false→Q 0 [] [.b false])∧(SS=true→EZ G15 [] (cL u0 u1 u2 u3 u4 u5 u6 u7 u8 u9 []) (fun x rs vs=>(x=0∧∃ SY,rs=[]∧vs=[.b SY]∧((SY=false→Q 0 [] [.b true])∧(SY=true→EZ G45 [] (cL u0 u1 u2 u3 u4 u5 u6 u7 u8 u9 [.i 8]) (fun x rs vs=>(x=0∧∃ y4a0 y4a1 y4a2 y4a3 y4a4 y4a5 y4a6 y4a7 y4a8 y4a9,rs=[]∧vs=(cL y4a0 y4a1 y4a2 y4a3 y4a4 y4a5 y4a6 y4a7 y4a8 y4a9 [])∧(EZ G47 [] (cL u0 u1 u2 u3 u4 u5 u6 u7 u8 u9 [.i a1]) (fun x rs vs=>(x=0∧∃ y5a0 y5a1 y5a2 y5a3 y5a4 y5a5 y5a6 y5a7 y5a8 y5a9,rs=[]∧vs=(cL y5a0 y5a1 y5a2 y5a3 y5a4 y5a5 y5a6 y5a7 y5a8 y5a9 [])∧(EZ G45 [] (cL u0 u1 u2 u3 u4 u5 u6 u7 u8 u9 [.i (arS.mn (arS.mx a1 0) 1024)]) (fun x rs vs=>(x=0∧∃ y6a0 y6a1 y6a2 y6a3 y6a4 y6a5 y6a6 y6a7 y6a8 y6a9,rs=[]∧vs=(cL y6a0 y6a1 y6a2 y6a3 y6a4 y6a5 y6a6 y6a7 y6a8 y6a9 [])∧(EZ G46 [] (cL y5a0 y5a1 y5a2 y5a3 y5a4 y5a5 y5a6 y5a7 y5a8 y5a9 (cL y6a0 y6a1 y6a2 y6a3 y6a4 y6a5 y6a6 y6a7 y6a8 y6a9 [])) (fun x rs vs=>(x=0∧∃ Ud,rs=[]∧vs=[.b Ud]∧((Ud=true→EZ G46 [] (cL u0 u1 u2 u3 u4 u5 u6 u7 u8 u9 (cL y4a0 y4a1 y4a2 y4a3 y4a4 y4a5 y4a6 y4a7 y4a8 y4a9 [])) (fun x rs vs=>(x=0∧∃ Ur,rs=[]∧vs=[.b Ur]∧(Q 0 [] [.b Ur]))))∧(Ud=false→Q 0 [] [.b false])))))))))))))))))))))):EZ G11 [] (cL u0 u1 u2 u3 u4 u5 u6 u7 u8 u9 [.i a1]) Q:=by
 refine ak.en (I:=I11) (L:=L11) SA fun A hA CE CK Dn EV RR W hp=>?_
 have h:=h  EV ⟨trivial⟩
 cbv
 refine W.cl h ?_
 rintro _ _ _ hp0 (⟨rfl,SS,rfl,rfl,k0⟩)
 cbv
 refine ⟨imI hA fun e1=>have j1:=k0.1 (by subst hA;exact (notE rfl e1));(W.q j1),imI hA fun e1=>have j1:=k0.2 (by subst hA;exact (notE rfl e1));?_⟩
 refine W.cl j1 ?_
 rintro _ _ _ hp2 (⟨rfl,SY,rfl,rfl,k2⟩)
 cbv
 refine ⟨imI hA fun e3=>have j3:=k2.1 (by subst hA;exact (notE rfl e3));(W.q j3),imI hA fun e3=>have j3:=k2.2 (by subst hA;exact (notE rfl e3));?_⟩
 refine W.cl j3 ?_
 rintro _ _ _ hp4 (⟨rfl,y4a0,y4a1,y4a2,y4a3,y4a4,y4a5,y4a6,y4a7,y4a8,y4a9,rfl,rfl,k4⟩)
 cbv
 refine ⟨?_,trivial⟩
 refine W.cd k4 ?_
 rintro _ _ _ hp5 (⟨rfl,y5a0,y5a1,y5a2,y5a3,y5a4,y5a5,y5a6,y5a7,y5a8,y5a9,rfl,rfl,k5⟩)
 cbv
 refine W.draw 80 (by rfl) ?_
 cbv
 refine ⟨?_,trivial⟩
 refine W.cd k5 ?_
 rintro _ _ _ hp6 (⟨rfl,y6a0,y6a1,y6a2,y6a3,y6a4,y6a5,y6a6,y6a7,y6a8,y6a9,rfl,rfl,k6⟩)
 cbv
 refine W.draw 80 (by rfl) ?_
 cbv
 refine ⟨?_,trivial⟩
 refine W.cd k6 ?_
 rintro _ _ _ hp7 (⟨rfl,Ud,rfl,rfl,k7⟩)
 cbv
 refine W.draw 80 (by rfl) ?_
 cbv
 refine ⟨fun e8=>have c8:Ud=true:=(by have q:=e8;subst hA;exact q);?_,fun e8=>have c8:Ud=false:=(by have q:=e8;subst hA;exact q);?_⟩
 ·refine W.draw 80 (by rfl) ?_
  cbv
  refine ⟨?_,trivial⟩
  refine W.cd (k7.1 c8) ?_
  rintro _ _ _ hp9 (⟨rfl,Ur,rfl,rfl,k9⟩)
  cbv
  refine W.draw 80 (by rfl) ?_
  cbv
  subst hA
  exact (W.q k9)
 ·refine W.draw 80 (by rfl) ?_
  cbv
  subst hA
  exact ⟨(W.q (k7.2 c8)),trivial⟩
theorem E48 {u0 u1 u2 u3:Int} {u4:RW} {u5:Int} {u6 u7 u8 u9:RW} (h:∀ EV,VN EV Q→EZ G15 [] (cL u0 u1 u2 u3 u4 u5 u6 u7 u8 u9 []) (fun x rs vs=>(x=0∧∃ SS,rs=[]∧vs=[.b SS]∧((SS=true→(u5 < 1000→(u5 > (-1000)→EZ G20 [] (cL u0 u1 u2 u3 u4 u5 u6 u7 u8 u9 []) (fun x rs vs=>(x=0∧∃ Td,rs=[]∧vs=[.b Td]∧(Q 0 [] [.b Td]))))∧(u5≤(-1000)→Q 0 [] [.b false]))∧(u5≥1000→Q 0 [] [.b false]))∧(SS=false→Q 0 [] [.b false]))))):EZ G48 [] (cL u0 u1 u2 u3 u4 u5 u6 u7 u8 u9 []) Q:=by
 refine ak.en (I:=I48) (L:=L48) Q9 fun A hA CE CK Dn EV RR W hp=>?_
 have h:=h  EV ⟨trivial⟩
 cbv
 refine W.cl h ?_
 rintro _ _ _ hp0 (⟨rfl,SS,rfl,rfl,k0⟩)
 cbv
 refine ⟨imI hA fun e1=>have j1:=k0.1 e1;⟨imI hA fun e2=>have j2:=j1.1 (ah (op:=.lss) hA e2);⟨imI hA fun e3=>have j3:=j2.1 (ah (op:=.gtr) hA e3);?_,imI hA fun e3=>have j3:=j2.2 (ah (op:=.gtr) hA e3);(W.q j3)⟩,imI hA fun e2=>have j2:=j1.2 (ah (op:=.lss) hA e2);(W.q j2)⟩,imI hA fun e1=>have j1:=k0.2 e1;(W.q j1)⟩
 refine W.cl j3 ?_
 rintro _ _ _ hp4 (⟨rfl,Td,rfl,rfl,k4⟩)
 cbv
 subst hA
 exact (W.q k4)
theorem E50 {u0 u1 u2 u3:Int} {u4:RW} {u5:Int} {u6 u7 u8 u9:RW} (h:∀ EV,VN EV Q→EZ G18 [] (cL u0 u1 u2 u3 u4 u5 u6 u7 u8 u9 []) (fun x rs vs=>(x=0∧∃ SS,rs=[]∧vs=[.i SS]∧((SS=0→EZ G21 [] (cL u0 u1 u2 u3 u4 u5 u6 u7 u8 u9 []) (fun x rs vs=>(x=0∧∃ SY,rs=[]∧vs=[.b SY]∧(Q 0 [] [.b SY]))))∧(SS≠0→Q 0 [] [.b false]))))):EZ G50 [] (cL u0 u1 u2 u3 u4 u5 u6 u7 u8 u9 []) Q:=by
 refine ak.en (I:=I50) (L:=L50) Q7 fun A hA CE CK Dn EV RR W hp=>?_
 have h:=h  EV ⟨trivial⟩
 cbv
 refine W.cl h ?_
 rintro _ _ _ hp0 (⟨rfl,SS,rfl,rfl,k0⟩)
 cbv
 refine ⟨imI hA fun e1=>have j1:=k0.1 (ah (op:=.eql) hA e1);?_,imI hA fun e1=>have j1:=k0.2 (ah (op:=.eql) hA e1);(W.q j1)⟩
 refine W.cl j1 ?_
 rintro _ _ _ hp2 (⟨rfl,SY,rfl,rfl,k2⟩)
 cbv
 subst hA
 exact (W.q k2)
theorem E12 {u0 u1 u2 u3:Int} {u4:RW} {u5:Int} {u6 u7 u8 u9:RW} {a1:Int} (h:∀ EV,VN EV Q→EZ G44 [] [] (fun x rs vs=>(x=0∧∃ SS,rs=[]∧vs=[.b SS]∧((SS=false→Q 0 [] [.b false])∧(SS=true→EZ G48 [] (cL u0 u1 u2 u3 u4 u5 u6 u7 u8 u9 []) (fun x rs vs=>(x=0∧∃ SY,rs=[]∧vs=[.b SY]∧((SY=false→Q 0 [] [.b true])∧(SY=true→EZ G49 [] (cL u0 u1 u2 u3 u4 u5 u6 u7 u8 u9 []) (fun x rs vs=>(x=0∧∃ Td Us,rs=[]∧vs=[.i Td,.b Us]∧((Us=false→(Td=0→EZ G45 [] (cL u0 u1 u2 u3 u4 u5 u6 u7 u8 u9 [.i 0]) (fun x rs vs=>(x=0∧∃ y7a0 y7a1 y7a2 y7a3 y7a4 y7a5 y7a6 y7a7 y7a8 y7a9,rs=[]∧vs=(cL y7a0 y7a1 y7a2 y7a3 y7a4 y7a5 y7a6 y7a7 y7a8 y7a9 [])∧(EZ G50 [] (cL y7a0 y7a1 y7a2 y7a3 y7a4 y7a5 y7a6 y7a7 y7a8 y7a9 []) (fun x rs vs=>(x=0∧∃ Ul,rs=[]∧vs=[.b Ul]∧(Q 0 [] [.b (!Ul)])))))))∧(Td≠0→Q 0 [] [.b false]))∧(Us=true→(Td≥0→(Td≤1024→EZ G45 [] (cL u0 u1 u2 u3 u4 u5 u6 u7 u8 u9 [.i Td]) (fun x rs vs=>(x=0∧∃ y8a0 y8a1 y8a2 y8a3 y8a4 y8a5 y8a6 y8a7 y8a8 y8a9,rs=[]∧vs=(cL y8a0 y8a1 y8a2 y8a3 y8a4 y8a5 y8a6 y8a7 y8a8 y8a9 [])∧(EZ G50 [] (cL y8a0 y8a1 y8a2 y8a3 y8a4 y8a5 y8a6 y8a7 y8a8 y8a9 []) (fun x rs vs=>(x=0∧∃ Ur,rs=[]∧vs=[.b Ur]∧((Ur=true→(Td < 1024→EZ G45 [] (cL u0 u1 u2 u3 u4 u5 u6 u7 u8 u9 [.i (IntKind.wrap .i64 (Td + 1))]) (fun x rs vs=>(x=0∧∃ y12a0 y12a1 y12a2 y12a3 y12a4 y12a5 y12a6 y12a7 y12a8 y12a9,rs=[]∧vs=(cL y12a0 y12a1 y12a2 y12a3 y12a4 y12a5 y12a6 y12a7 y12a8 y12a9 [])∧(EZ G50 [] (cL y12a0 y12a1 y12a2 y12a3 y12a4 y12a5 y12a6 y12a7 y12a8 y12a9 []) (fun x rs vs=>(x=0∧∃ Ui,rs=[]∧vs=[.b Ui]∧((Ui=true→Q 0 [] [.b false])∧(Ui=false→((IntKind.wrap .i64 (Td + 1))≠0)∧(EZ G45 [] (cL u0 u1 u2 u3 u4 u5 u6 u7 u8 u9 [.i (Int.tmod (IntKind.wrap .i64 a1) (IntKind.wrap .i64 (Td + 1)))]) (fun x rs vs=>(x=0∧∃ y15a0 y15a1 y15a2 y15a3 y15a4 y15a5 y15a6 y15a7 y15a8 y15a9,rs=[]∧vs=(cL y15a0 y15a1 y15a2 y15a3 y15a4 y15a5 y15a6 y15a7 y15a8 y15a9 [])∧(EZ G50 [] (cL y15a0 y15a1 y15a2 y15a3 y15a4 y15a5 y15a6 y15a7 y15a8 y15a9 []) (fun x rs vs=>(x=0∧∃ Vs,rs=[]∧vs=[.b Vs]∧(Q 0 [] [.b Vs])))))))))))))))∧(Td≥1024→((IntKind.wrap .i64 (Td + 1))≠0)∧(EZ G45 [] (cL u0 u1 u2 u3 u4 u5 u6 u7 u8 u9 [.i (Int.tmod (IntKind.wrap .i64 a1) (IntKind.wrap .i64 (Td + 1)))]) (fun x rs vs=>(x=0∧∃ y12a0 y12a1 y12a2 y12a3 y12a4 y12a5 y12a6 y12a7 y12a8 y12a9,rs=[]∧vs=(cL y12a0 y12a1 y12a2 y12a3 y12a4 y12a5 y12a6 y12a7 y12a8 y12a9 [])∧(EZ G50 [] (cL y12a0 y12a1 y12a2 y12a3 y12a4 y12a5 y12a6 y12a7 y12a8 y12a9 []) (fun x rs vs=>(x=0∧∃ Ui,rs=[]∧vs=[.b Ui]∧(Q 0 [] [.b Ui])))))))))∧(Ur=false→Q 0 [] [.b false]))))))))∧(Td > 1024→Q 0 [] [.b false]))∧(Td < 0→Q 0 [] [.b false])))))))))))))):EZ G12 [] (cL u0 u1 u2 u3 u4 u5 u6 u7 u8 u9 [.i a1]) Q:=by
 refine ak.en (I:=I12) (L:=L12) Sz fun A hA CE CK Dn EV RR W hp=>?_
 have h:=h  EV ⟨trivial⟩
 cbv
 refine W.cl h ?_
 rintro _ _ _ hp0 (⟨rfl,SS,rfl,rfl,k0⟩)
 cbv
 refine ⟨imI hA fun e1=>have j1:=k0.1 (by subst hA;exact (notE rfl e1));(W.q j1),imI hA fun e1=>have j1:=k0.2 (by subst hA;exact (notE rfl e1));?_⟩
 refine W.cl j1 ?_
 rintro _ _ _ hp2 (⟨rfl,SY,rfl,rfl,k2⟩)
 cbv
 refine ⟨imI hA fun e3=>have j3:=k2.1 (by subst hA;exact (notE rfl e3));(W.q j3),imI hA fun e3=>have j3:=k2.2 (by subst hA;exact (notE rfl e3));?_⟩
 refine W.cl j3 ?_
 rintro _ _ _ hp4 (⟨rfl,Td,Us,rfl,rfl,k4⟩)
 cbv
 refine ⟨imI hA fun e5=>have j5:=k4.1 (by subst hA;exact (notE rfl e5));⟨imI hA fun e6=>have j6:=j5.1 (ah (op:=.eql) hA e6);?_,imI hA fun e6=>have j6:=j5.2 (ah (op:=.eql) hA e6);(W.q j6)⟩,imI hA fun e5=>have j5:=k4.2 (by subst hA;exact (notE rfl e5));⟨imI hA fun e6=>have j6:=j5.1 (ah (op:=.lss) hA e6);⟨imI hA fun e7=>have j7:=j6.1 (ah (op:=.gtr) hA e7);?_,imI hA fun e7=>have j7:=j6.2 (ah (op:=.gtr) hA e7);(W.q j7)⟩,imI hA fun e6=>have j6:=j5.2 (ah (op:=.lss) hA e6);(W.q j6)⟩⟩
 ·refine W.cl j6 ?_
  rintro _ _ _ hp7 (⟨rfl,y7a0,y7a1,y7a2,y7a3,y7a4,y7a5,y7a6,y7a7,y7a8,y7a9,rfl,rfl,k7⟩)
  cbv
  refine W.cl k7 ?_
  rintro _ _ _ hp8 (⟨rfl,Ul,rfl,rfl,k8⟩)
  cbv
  subst hA
  exact (W.q k8)
 ·refine W.cl j7 ?_
  rintro _ _ _ hp8 (⟨rfl,y8a0,y8a1,y8a2,y8a3,y8a4,y8a5,y8a6,y8a7,y8a8,y8a9,rfl,rfl,k8⟩)
  cbv
  refine W.cl k8 ?_
  rintro _ _ _ hp9 (⟨rfl,Ur,rfl,rfl,k9⟩)
  cbv
  refine ⟨imI hA fun e10=>have j10:=k9.1 (by subst hA;exact (notE rfl e10));⟨imI hA fun e11=>have j11:=j10.1 (ah (op:=.lss) hA e11);?_,imI hA fun e11=>have j11:=j10.2 (ah (op:=.lss) hA e11);⟨ndI hA (hA ▸ j11.1),⟨?_,trivial⟩⟩⟩,imI hA fun e10=>have j10:=k9.2 (by subst hA;exact (notE rfl e10));(W.q j10)⟩
  ·refine W.cl j11 ?_
   rintro _ _ _ hp12 (⟨rfl,y12a0,y12a1,y12a2,y12a3,y12a4,y12a5,y12a6,y12a7,y12a8,y12a9,rfl,rfl,k12⟩)
   cbv
   refine W.cl k12 ?_
   rintro _ _ _ hp13 (⟨rfl,Ui,rfl,rfl,k13⟩)
   cbv
   refine ⟨imI hA fun e14=>have j14:=k13.1 e14;(W.q j14),imI hA fun e14=>have j14:=k13.2 e14;⟨ndI hA (hA ▸ j14.1),⟨?_,trivial⟩⟩⟩
   refine W.cd j14.2 ?_
   rintro _ _ _ hp15 (⟨rfl,y15a0,y15a1,y15a2,y15a3,y15a4,y15a5,y15a6,y15a7,y15a8,y15a9,rfl,rfl,k15⟩)
   cbv
   refine W.draw 80 (by rfl) ?_
   cbv
   refine ⟨?_,trivial⟩
   refine W.cd k15 ?_
   rintro _ _ _ hp16 (⟨rfl,Vs,rfl,rfl,k16⟩)
   cbv
   refine W.draw 80 (by rfl) ?_
   cbv
   subst hA
   exact (W.q k16)
  ·refine W.cd j11.2 ?_
   rintro _ _ _ hp12 (⟨rfl,y12a0,y12a1,y12a2,y12a3,y12a4,y12a5,y12a6,y12a7,y12a8,y12a9,rfl,rfl,k12⟩)
   cbv
   refine W.draw 80 (by rfl) ?_
   cbv
   refine ⟨?_,trivial⟩
   refine W.cd k12 ?_
   rintro _ _ _ hp13 (⟨rfl,Ui,rfl,rfl,k13⟩)
   cbv
   refine W.draw 80 (by rfl) ?_
   cbv
   subst hA
   exact (W.q k13)
structure V13 (EV Q:EP):Prop where
  p43:∀ {t1 t7:Int} {t76:RW} {t77 t78 b0 b1 b2 b3:Int} {b4:RW} {b5:Int} {b6 b7 b8 b9:RW} {d0 d1 d2 d3 d4 d5:Int} {d6:RW},((t78 < t77→(0≤t78)∧(t76[t78.toNat]?=some [.int .i64 (cIS t76 t78.toNat 0)])∧(b8.length≤140737488355328)∧((b8.length * 72)≤140737488355328)∧(0≤t1)∧(t1 < (b8.length:Int))∧(b8[t1.toNat]?=some (r7 b8 t1.toNat))∧((List.set b8 t1.toNat [.int .i64 (cIS b8 t1.toNat 0),.int .i64 (cIS b8 t1.toNat 1),.int .i64 (cIS t76 t78.toNat 0),.int .i64 (cIS b8 t1.toNat 3),.int .i64 (cIS b8 t1.toNat 4),.int .i64 (cIS b8 t1.toNat 5),.inl 3 (cRS b8 t1.toNat 6)])[t1.toNat]?=some (r7 (List.set b8 t1.toNat [.int .i64 (cIS b8 t1.toNat 0),.int .i64 (cIS b8 t1.toNat 1),.int .i64 (cIS t76 t78.toNat 0),.int .i64 (cIS b8 t1.toNat 3),.int .i64 (cIS b8 t1.toNat 4),.int .i64 (cIS b8 t1.toNat 5),.inl 3 (cRS b8 t1.toNat 6)]) t1.toNat))∧(aB (List.set (List.set b8 t1.toNat [.int .i64 (cIS b8 t1.toNat 0),.int .i64 (cIS b8 t1.toNat 1),.int .i64 (cIS t76 t78.toNat 0),.int .i64 (cIS b8 t1.toNat 3),.int .i64 (cIS b8 t1.toNat 4),.int .i64 (cIS b8 t1.toNat 5),.inl 3 (cRS b8 t1.toNat 6)]) t1.toNat [.int .i64 (cIS (List.set b8 t1.toNat [.int .i64 (cIS b8 t1.toNat 0),.int .i64 (cIS b8 t1.toNat 1),.int .i64 (cIS t76 t78.toNat 0),.int .i64 (cIS b8 t1.toNat 3),.int .i64 (cIS b8 t1.toNat 4),.int .i64 (cIS b8 t1.toNat 5),.inl 3 (cRS b8 t1.toNat 6)]) t1.toNat 0),.int .i64 (cIS (List.set b8 t1.toNat [.int .i64 (cIS b8 t1.toNat 0),.int .i64 (cIS b8 t1.toNat 1),.int .i64 (cIS t76 t78.toNat 0),.int .i64 (cIS b8 t1.toNat 3),.int .i64 (cIS b8 t1.toNat 4),.int .i64 (cIS b8 t1.toNat 5),.inl 3 (cRS b8 t1.toNat 6)]) t1.toNat 1),.int .i64 (cIS (List.set b8 t1.toNat [.int .i64 (cIS b8 t1.toNat 0),.int .i64 (cIS b8 t1.toNat 1),.int .i64 (cIS t76 t78.toNat 0),.int .i64 (cIS b8 t1.toNat 3),.int .i64 (cIS b8 t1.toNat 4),.int .i64 (cIS b8 t1.toNat 5),.inl 3 (cRS b8 t1.toNat 6)]) t1.toNat 2),.int .i64 (arS.mn d3 (cIS t76 t78.toNat 0)),.int .i64 (cIS (List.set b8 t1.toNat [.int .i64 (cIS b8 t1.toNat 0),.int .i64 (cIS b8 t1.toNat 1),.int .i64 (cIS t76 t78.toNat 0),.int .i64 (cIS b8 t1.toNat 3),.int .i64 (cIS b8 t1.toNat 4),.int .i64 (cIS b8 t1.toNat 5),.inl 3 (cRS b8 t1.toNat 6)]) t1.toNat 4),.int .i64 (cIS (List.set b8 t1.toNat [.int .i64 (cIS b8 t1.toNat 0),.int .i64 (cIS b8 t1.toNat 1),.int .i64 (cIS t76 t78.toNat 0),.int .i64 (cIS b8 t1.toNat 3),.int .i64 (cIS b8 t1.toNat 4),.int .i64 (cIS b8 t1.toNat 5),.inl 3 (cRS b8 t1.toNat 6)]) t1.toNat 5),.inl 3 (cRS (List.set b8 t1.toNat [.int .i64 (cIS b8 t1.toNat 0),.int .i64 (cIS b8 t1.toNat 1),.int .i64 (cIS t76 t78.toNat 0),.int .i64 (cIS b8 t1.toNat 3),.int .i64 (cIS b8 t1.toNat 4),.int .i64 (cIS b8 t1.toNat 5),.inl 3 (cRS b8 t1.toNat 6)]) t1.toNat 6)])=true)∧(EV 59 [(List.set (List.set b8 t1.toNat [.int .i64 (cIS b8 t1.toNat 0),.int .i64 (cIS b8 t1.toNat 1),.int .i64 (cIS t76 t78.toNat 0),.int .i64 (cIS b8 t1.toNat 3),.int .i64 (cIS b8 t1.toNat 4),.int .i64 (cIS b8 t1.toNat 5),.inl 3 (cRS b8 t1.toNat 6)]) t1.toNat [.int .i64 (cIS (List.set b8 t1.toNat [.int .i64 (cIS b8 t1.toNat 0),.int .i64 (cIS b8 t1.toNat 1),.int .i64 (cIS t76 t78.toNat 0),.int .i64 (cIS b8 t1.toNat 3),.int .i64 (cIS b8 t1.toNat 4),.int .i64 (cIS b8 t1.toNat 5),.inl 3 (cRS b8 t1.toNat 6)]) t1.toNat 0),.int .i64 (cIS (List.set b8 t1.toNat [.int .i64 (cIS b8 t1.toNat 0),.int .i64 (cIS b8 t1.toNat 1),.int .i64 (cIS t76 t78.toNat 0),.int .i64 (cIS b8 t1.toNat 3),.int .i64 (cIS b8 t1.toNat 4),.int .i64 (cIS b8 t1.toNat 5),.inl 3 (cRS b8 t1.toNat 6)]) t1.toNat 1),.int .i64 (cIS (List.set b8 t1.toNat [.int .i64 (cIS b8 t1.toNat 0),.int .i64 (cIS b8 t1.toNat 1),.int .i64 (cIS t76 t78.toNat 0),.int .i64 (cIS b8 t1.toNat 3),.int .i64 (cIS b8 t1.toNat 4),.int .i64 (cIS b8 t1.toNat 5),.inl 3 (cRS b8 t1.toNat 6)]) t1.toNat 2),.int .i64 (arS.mn d3 (cIS t76 t78.toNat 0)),.int .i64 (cIS (List.set b8 t1.toNat [.int .i64 (cIS b8 t1.toNat 0),.int .i64 (cIS b8 t1.toNat 1),.int .i64 (cIS t76 t78.toNat 0),.int .i64 (cIS b8 t1.toNat 3),.int .i64 (cIS b8 t1.toNat 4),.int .i64 (cIS b8 t1.toNat 5),.inl 3 (cRS b8 t1.toNat 6)]) t1.toNat 4),.int .i64 (cIS (List.set b8 t1.toNat [.int .i64 (cIS b8 t1.toNat 0),.int .i64 (cIS b8 t1.toNat 1),.int .i64 (cIS t76 t78.toNat 0),.int .i64 (cIS b8 t1.toNat 3),.int .i64 (cIS b8 t1.toNat 4),.int .i64 (cIS b8 t1.toNat 5),.inl 3 (cRS b8 t1.toNat 6)]) t1.toNat 5),.inl 3 (cRS (List.set b8 t1.toNat [.int .i64 (cIS b8 t1.toNat 0),.int .i64 (cIS b8 t1.toNat 1),.int .i64 (cIS t76 t78.toNat 0),.int .i64 (cIS b8 t1.toNat 3),.int .i64 (cIS b8 t1.toNat 4),.int .i64 (cIS b8 t1.toNat 5),.inl 3 (cRS b8 t1.toNat 6)]) t1.toNat 6)])] (.i t1::.i t7::.i (cIS t76 t78.toNat 0)::.r t76::.i t77::.i t78::cL b0 b1 b2 b3 b4 b5 b6 b7 b8 b9 [.i d0,.i d1,.i d2,.i d3,.i d4,.i d5,.r d6,.i b0,.i b1,.i b2,.i b3,.r b4,.i b5,.r b6,.r b7,.r b9])))∧(t78≥t77→Q 0 [] [.b true]))→EV 43 [] (.i t1::.i t7::.r t76::.i t77::.i t78::cL b0 b1 b2 b3 b4 b5 b6 b7 b8 b9 [.i d0,.i d1,.i d2,.i d3,.i d4,.i d5,.r d6])
  p59:∀ {R0:RW} {t1 t7 t11:Int} {t76:RW} {t77 t78 b0 b1 b2 b3:Int} {b4:RW} {b5:Int} {b6 b7 b8 b9:RW} {d0 d1 d2 d3 d4 d5:Int} {d6:RW} {f0 f1 f2 f3:Int} {f4:RW} {f5:Int} {f6 f7 f8:RW},(aB R0=true→EZ G52 [] (cL b0 b1 b2 b3 b4 b5 b6 b7 b8 b9 [.i t1,.i t11]) (fun x rs vs=>(x=0∧∃ y0a0 y0a1 y0a2 y0a3 y0a4 y0a5 y0a6 y0a7 y0a8 y0a9 Uj,rs=[]∧vs=(cL y0a0 y0a1 y0a2 y0a3 y0a4 y0a5 y0a6 y0a7 y0a8 y0a9 [.b Uj])∧(EZ G50 [] (cL f0 f1 f2 f3 f4 f5 f6 f7 (List.take R0.length (List.drop 0 R0)) f8 []) (fun x rs vs=>(x=0∧∃ SX,rs=[]∧vs=[.b SX]∧(((Uj == SX)=true→((Uj == (decide (t11≥t7)))=true→EZ G46 [] (cL y0a0 y0a1 y0a2 y0a3 y0a4 y0a5 y0a6 y0a7 y0a8 y0a9 (cL f0 f1 f2 f3 f4 f5 f6 f7 (List.take R0.length (List.drop 0 R0)) f8 [])) (fun x rs vs=>(x=0∧∃ Td,rs=[]∧vs=[.b Td]∧((Td=false→Q 0 [] [.b false])∧(Td=true→EV 43 [] (.i t1::.i t7::.r t76::.i t77::.i (IntKind.wrap .i64 (t78 + 1))::cL b0 b1 b2 b3 b4 b5 b6 b7 b8 b9 [.i d0,.i d1,.i d2,.i d3,.i d4,.i d5,.r d6]))))))∧((Uj == (decide (t11≥t7)))=false→Q 0 [] [.b false]))∧((Uj == SX)=false→Q 0 [] [.b false]))))))))→EV 59 [R0] (.i t1::.i t7::.i t11::.r t76::.i t77::.i t78::cL b0 b1 b2 b3 b4 b5 b6 b7 b8 b9 [.i d0,.i d1,.i d2,.i d3,.i d4,.i d5,.r d6,.i f0,.i f1,.i f2,.i f3,.r f4,.i f5,.r f6,.r f7,.r f8])
theorem V13.of (W:Wk Tryz.prog Tryz.f13 I13 L13 Q A sg CE CK Dn EV RR):V13 EV Q:=by
 have hA:=W.hA
 refine ⟨?_,?_⟩
 ·intro t1 t7 t76 t77 t78 b0 b1 b2 b3 b4 b5 b6 b7 b8 b9 d0 d1 d2 d3 d4 d5 d6 h
  refine W.step 80 fun hp=>?_
  cbv
  subst hA
  exact ⟨fun e0=>have j0:=h.1 (ah (op:=.lss) rfl e0);⟨(An j0.1 j0.2.1),⟨(An j0.2.2.1 j0.2.2.2.1),⟨⟨(An j0.2.2.2.2.1 (An j0.2.2.2.2.2.1 rfl)),⟨⟨(An rfl j0.2.2.2.2.2.2.1),⟨⟨(An j0.2.2.2.2.1 (An j0.2.2.2.2.2.1 (by show b8.length=(List.length (List.set b8 t1.toNat [.int .i64 (cIS b8 t1.toNat 0),.int .i64 (cIS b8 t1.toNat 1),.int .i64 (cIS t76 t78.toNat 0),.int .i64 (cIS b8 t1.toNat 3),.int .i64 (cIS b8 t1.toNat 4),.int .i64 (cIS b8 t1.toNat 5),.inl 3 (cRS b8 t1.toNat 6)]));(first | rfl | simp [af] | (simp [af];omega))))),⟨⟨(An (by show b8.length=(List.length (List.set b8 t1.toNat [.int .i64 (cIS b8 t1.toNat 0),.int .i64 (cIS b8 t1.toNat 1),.int .i64 (cIS t76 t78.toNat 0),.int .i64 (cIS b8 t1.toNat 3),.int .i64 (cIS b8 t1.toNat 4),.int .i64 (cIS b8 t1.toNat 5),.inl 3 (cRS b8 t1.toNat 6)]));(first | rfl | simp [af] | (simp [af];omega))) j0.2.2.2.2.2.2.2.1),⟨(An (by show b8.length=(List.length (List.set (List.set b8 t1.toNat [.int .i64 (cIS b8 t1.toNat 0),.int .i64 (cIS b8 t1.toNat 1),.int .i64 (cIS t76 t78.toNat 0),.int .i64 (cIS b8 t1.toNat 3),.int .i64 (cIS b8 t1.toNat 4),.int .i64 (cIS b8 t1.toNat 5),.inl 3 (cRS b8 t1.toNat 6)]) t1.toNat [.int .i64 (cIS (List.set b8 t1.toNat [.int .i64 (cIS b8 t1.toNat 0),.int .i64 (cIS b8 t1.toNat 1),.int .i64 (cIS t76 t78.toNat 0),.int .i64 (cIS b8 t1.toNat 3),.int .i64 (cIS b8 t1.toNat 4),.int .i64 (cIS b8 t1.toNat 5),.inl 3 (cRS b8 t1.toNat 6)]) t1.toNat 0),.int .i64 (cIS (List.set b8 t1.toNat [.int .i64 (cIS b8 t1.toNat 0),.int .i64 (cIS b8 t1.toNat 1),.int .i64 (cIS t76 t78.toNat 0),.int .i64 (cIS b8 t1.toNat 3),.int .i64 (cIS b8 t1.toNat 4),.int .i64 (cIS b8 t1.toNat 5),.inl 3 (cRS b8 t1.toNat 6)]) t1.toNat 1),.int .i64 (cIS (List.set b8 t1.toNat [.int .i64 (cIS b8 t1.toNat 0),.int .i64 (cIS b8 t1.toNat 1),.int .i64 (cIS t76 t78.toNat 0),.int .i64 (cIS b8 t1.toNat 3),.int .i64 (cIS b8 t1.toNat 4),.int .i64 (cIS b8 t1.toNat 5),.inl 3 (cRS b8 t1.toNat 6)]) t1.toNat 2),.int .i64 (arS.mn d3 (cIS t76 t78.toNat 0)),.int .i64 (cIS (List.set b8 t1.toNat [.int .i64 (cIS b8 t1.toNat 0),.int .i64 (cIS b8 t1.toNat 1),.int .i64 (cIS t76 t78.toNat 0),.int .i64 (cIS b8 t1.toNat 3),.int .i64 (cIS b8 t1.toNat 4),.int .i64 (cIS b8 t1.toNat 5),.inl 3 (cRS b8 t1.toNat 6)]) t1.toNat 4),.int .i64 (cIS (List.set b8 t1.toNat [.int .i64 (cIS b8 t1.toNat 0),.int .i64 (cIS b8 t1.toNat 1),.int .i64 (cIS t76 t78.toNat 0),.int .i64 (cIS b8 t1.toNat 3),.int .i64 (cIS b8 t1.toNat 4),.int .i64 (cIS b8 t1.toNat 5),.inl 3 (cRS b8 t1.toNat 6)]) t1.toNat 5),.inl 3 (cRS (List.set b8 t1.toNat [.int .i64 (cIS b8 t1.toNat 0),.int .i64 (cIS b8 t1.toNat 1),.int .i64 (cIS t76 t78.toNat 0),.int .i64 (cIS b8 t1.toNat 3),.int .i64 (cIS b8 t1.toNat 4),.int .i64 (cIS b8 t1.toNat 5),.inl 3 (cRS b8 t1.toNat 6)]) t1.toNat 6)]));(first | rfl | simp [af] | (simp [af];omega))) (An rfl (by show b8.length=(List.length (List.set (List.set b8 t1.toNat [.int .i64 (cIS b8 t1.toNat 0),.int .i64 (cIS b8 t1.toNat 1),.int .i64 (cIS t76 t78.toNat 0),.int .i64 (cIS b8 t1.toNat 3),.int .i64 (cIS b8 t1.toNat 4),.int .i64 (cIS b8 t1.toNat 5),.inl 3 (cRS b8 t1.toNat 6)]) t1.toNat [.int .i64 (cIS (List.set b8 t1.toNat [.int .i64 (cIS b8 t1.toNat 0),.int .i64 (cIS b8 t1.toNat 1),.int .i64 (cIS t76 t78.toNat 0),.int .i64 (cIS b8 t1.toNat 3),.int .i64 (cIS b8 t1.toNat 4),.int .i64 (cIS b8 t1.toNat 5),.inl 3 (cRS b8 t1.toNat 6)]) t1.toNat 0),.int .i64 (cIS (List.set b8 t1.toNat [.int .i64 (cIS b8 t1.toNat 0),.int .i64 (cIS b8 t1.toNat 1),.int .i64 (cIS t76 t78.toNat 0),.int .i64 (cIS b8 t1.toNat 3),.int .i64 (cIS b8 t1.toNat 4),.int .i64 (cIS b8 t1.toNat 5),.inl 3 (cRS b8 t1.toNat 6)]) t1.toNat 1),.int .i64 (cIS (List.set b8 t1.toNat [.int .i64 (cIS b8 t1.toNat 0),.int .i64 (cIS b8 t1.toNat 1),.int .i64 (cIS t76 t78.toNat 0),.int .i64 (cIS b8 t1.toNat 3),.int .i64 (cIS b8 t1.toNat 4),.int .i64 (cIS b8 t1.toNat 5),.inl 3 (cRS b8 t1.toNat 6)]) t1.toNat 2),.int .i64 (arS.mn d3 (cIS t76 t78.toNat 0)),.int .i64 (cIS (List.set b8 t1.toNat [.int .i64 (cIS b8 t1.toNat 0),.int .i64 (cIS b8 t1.toNat 1),.int .i64 (cIS t76 t78.toNat 0),.int .i64 (cIS b8 t1.toNat 3),.int .i64 (cIS b8 t1.toNat 4),.int .i64 (cIS b8 t1.toNat 5),.inl 3 (cRS b8 t1.toNat 6)]) t1.toNat 4),.int .i64 (cIS (List.set b8 t1.toNat [.int .i64 (cIS b8 t1.toNat 0),.int .i64 (cIS b8 t1.toNat 1),.int .i64 (cIS t76 t78.toNat 0),.int .i64 (cIS b8 t1.toNat 3),.int .i64 (cIS b8 t1.toNat 4),.int .i64 (cIS b8 t1.toNat 5),.inl 3 (cRS b8 t1.toNat 6)]) t1.toNat 5),.inl 3 (cRS (List.set b8 t1.toNat [.int .i64 (cIS b8 t1.toNat 0),.int .i64 (cIS b8 t1.toNat 1),.int .i64 (cIS t76 t78.toNat 0),.int .i64 (cIS b8 t1.toNat 3),.int .i64 (cIS b8 t1.toNat 4),.int .i64 (cIS b8 t1.toNat 5),.inl 3 (cRS b8 t1.toNat 6)]) t1.toNat 6)]));(first | rfl | simp [af] | (simp [af];omega))))),⟨j0.2.2.2.2.2.2.2.2.1,j0.2.2.2.2.2.2.2.2.2⟩⟩⟩,trivial⟩⟩,trivial⟩⟩,trivial⟩⟩,trivial⟩⟩⟩,fun e0=>have j0:=h.2 (ah (op:=.lss) rfl e0);(W.q j0)⟩
 ·intro R0 t1 t7 t11 t76 t77 t78 b0 b1 b2 b3 b4 b5 b6 b7 b8 b9 d0 d1 d2 d3 d4 d5 d6 f0 f1 f2 f3 f4 f5 f6 f7 f8 h
  refine W.step 80 fun hp=>?_
  have h:=h hp.1
  cbv
  refine W.cl h ?_
  rintro _ _ _ hp0 (⟨rfl,y0a0,y0a1,y0a2,y0a3,y0a4,y0a5,y0a6,y0a7,y0a8,y0a9,Uj,rfl,rfl,k0⟩)
  cbv
  refine ⟨ndI hA (An (An hp.1 trivial) (An (An rfl trivial) trivial)),⟨ndI hA (An (An rfl trivial) trivial),?_⟩⟩
  refine W.cl k0 ?_
  rintro _ _ _ hp1 (⟨rfl,SX,rfl,rfl,k1⟩)
  cbv
  refine ⟨imI hA fun e2=>have j2:=k1.1 (by subst hA;exact (notE rfl e2));⟨imI hA fun e3=>have j3:=j2.1 (by subst hA;exact (notE rfl e3));?_,imI hA fun e3=>have j3:=j2.2 (by subst hA;exact (notE rfl e3));(W.q j3)⟩,imI hA fun e2=>have j2:=k1.2 (by subst hA;exact (notE rfl e2));(W.q j2)⟩
  refine W.cl j3 ?_
  rintro _ _ _ hp4 (⟨rfl,Td,rfl,rfl,k4⟩)
  cbv
  subst hA
  exact ⟨fun e5=>have j5:=k4.1 ((notE rfl e5));(W.q j5),fun e5=>have j5:=k4.2 ((notE rfl e5));j5⟩
theorem E13 {u0 u1 u2 u3:Int} {u4:RW} {u5:Int} {u6 u7 u8 u9:RW} {a1 a2:Int} (h:∀ EV,V13 EV Q→EZ G44 [] [] (fun x rs vs=>(x=0∧∃ SS,rs=[]∧vs=[.b SS]∧((SS=false→Q 0 [] [.b false])∧(SS=true→EZ G48 [] (cL u0 u1 u2 u3 u4 u5 u6 u7 u8 u9 []) (fun x rs vs=>(x=0∧∃ SY,rs=[]∧vs=[.b SY]∧((SY=false→Q 0 [] [.b true])∧(SY=true→EZ G51 [] (cL u0 u1 u2 u3 u4 u5 u6 u7 u8 u9 [.i a1]) (fun x rs vs=>(x=0∧∃ Td Us,rs=[]∧vs=[.i Td,.b Us]∧((a1≥0→(a1 < (u8.length:Int)→EZ G50 [] (cL u0 u1 u2 u3 u4 u5 u6 u7 u8 u9 []) (fun x rs vs=>(x=0∧∃ Ud,rs=[]∧vs=[.b Ud]∧((Ud=false→(Us=false→Q 0 [] [.b (Td == 0)])∧(Us=true→Q 0 [] [.b false]))∧(Ud=true→(0≤a1)∧(u8[a1.toNat]?=some (r7 u8 a1.toNat))∧(Us=true→(Td≥1→(Td > (cIS u8 a1.toNat 2)→Q 0 [] [.b false])∧(Td≤(cIS u8 a1.toNat 2)→((IntKind.wrap .i64 ((IntKind.wrap .i64 ((cIS u8 a1.toNat 2) - Td)) + 1))≠0)∧(EV 43 [] (.i a1::.i Td::.r [[(AV.int .i64 Td)],[(AV.int .i64 (IntKind.wrap .i64 (Td - 1)))],[(AV.int .i64 (IntKind.wrap .i64 (Td + (Int.tmod (IntKind.wrap .i64 a2) (IntKind.wrap .i64 ((IntKind.wrap .i64 ((cIS u8 a1.toNat 2) - Td)) + 1))))))]]::.i 3::.i 0::cL u0 u1 u2 u3 u4 u5 u6 u7 u8 u9 [.i (cIS u8 a1.toNat 0),.i (cIS u8 a1.toNat 1),.i (cIS u8 a1.toNat 2),.i (cIS u8 a1.toNat 3),.i (cIS u8 a1.toNat 4),.i (cIS u8 a1.toNat 5),.r (cRS u8 a1.toNat 6)]))))∧(Td < 1→Q 0 [] [.b false]))∧(Us=false→Q 0 [] [.b false]))))))∧(a1≥(u8.length:Int)→(Us=false→Q 0 [] [.b (Td == 0)])∧(Us=true→Q 0 [] [.b false])))∧(a1 < 0→(Us=false→Q 0 [] [.b (Td == 0)])∧(Us=true→Q 0 [] [.b false])))))))))))))):EZ G13 [] (cL u0 u1 u2 u3 u4 u5 u6 u7 u8 u9 [.i a1,.i a2]) Q:=by
 refine ak.en (I:=I13) (L:=L13) Sv fun A hA CE CK Dn EV RR W hp=>?_
 have h:=h  EV (V13.of W)
 cbv
 refine W.cl h ?_
 rintro _ _ _ hp0 (⟨rfl,SS,rfl,rfl,k0⟩)
 cbv
 refine ⟨imI hA fun e1=>have j1:=k0.1 (by subst hA;exact (notE rfl e1));(W.q j1),imI hA fun e1=>have j1:=k0.2 (by subst hA;exact (notE rfl e1));?_⟩
 refine W.cl j1 ?_
 rintro _ _ _ hp2 (⟨rfl,SY,rfl,rfl,k2⟩)
 cbv
 refine ⟨imI hA fun e3=>have j3:=k2.1 (by subst hA;exact (notE rfl e3));(W.q j3),imI hA fun e3=>have j3:=k2.2 (by subst hA;exact (notE rfl e3));?_⟩
 refine W.cl j3 ?_
 rintro _ _ _ hp4 (⟨rfl,Td,Us,rfl,rfl,k4⟩)
 cbv
 refine ⟨imI hA fun e5=>have j5:=k4.1 (ah (op:=.lss) hA e5);⟨imI hA fun e6=>have j6:=j5.1 (by subst hA;exact (ah (op:=.geq) rfl e6));?_,imI hA fun e6=>have j6:=j5.2 (by subst hA;exact (ah (op:=.geq) rfl e6));⟨imI hA fun e7=>have j7:=j6.1 (by subst hA;exact (notE rfl e7));(W.q (hA ▸ j7)),imI hA fun e7=>have j7:=j6.2 (by subst hA;exact (notE rfl e7));(W.q j7)⟩⟩,imI hA fun e5=>have j5:=k4.2 (ah (op:=.lss) hA e5);⟨imI hA fun e6=>have j6:=j5.1 (by subst hA;exact (notE rfl e6));(W.q (hA ▸ j6)),imI hA fun e6=>have j6:=j5.2 (by subst hA;exact (notE rfl e6));(W.q j6)⟩⟩
 refine W.cl j6 ?_
 rintro _ _ _ hp7 (⟨rfl,Ud,rfl,rfl,k7⟩)
 cbv
 subst hA
 exact ⟨fun e8=>have j8:=k7.1 ((notE rfl e8));⟨fun e9=>have j9:=j8.1 ((notE rfl e9));(W.q j9),fun e9=>have j9:=j8.2 ((notE rfl e9));(W.q j9)⟩,fun e8=>have j8:=k7.2 ((notE rfl e8));⟨(An j8.1 j8.2.1),⟨fun e9=>have j9:=j8.2.2.1 ((notE rfl e9));⟨fun e10=>have j10:=j9.1 (ah (op:=.lss) rfl e10);⟨fun e11=>have j11:=j10.1 ((ah (op:=.gtr) rfl e11));(W.q j11),fun e11=>have j11:=j10.2 ((ah (op:=.gtr) rfl e11));⟨j11.1,j11.2⟩⟩,fun e10=>have j10:=j9.2 (ah (op:=.lss) rfl e10);(W.q j10)⟩,fun e9=>have j9:=j8.2.2.2 ((notE rfl e9));(W.q j9)⟩⟩⟩
end Go.Ab
