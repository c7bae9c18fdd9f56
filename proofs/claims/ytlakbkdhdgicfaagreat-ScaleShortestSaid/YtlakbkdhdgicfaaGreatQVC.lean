import Derived.Test.YtlakbkdhdgicfaaGreatQS
import Derived.Test.YtlakbkdhdgicfaaGreatLayE
/- PRINTED BY A PROGRAM (wip/tools/vc.py, AbVc.lean): what is to be shown of each function, from place to place, and that it is enough. -/
namespace Go.Ab
open Go Go.Proofs
set_option linter.unusedVariables false
set_option linter.unusedSimpArgs false
set_option maxRecDepth 100000
set_option maxHeartbeats 0
variable {Q EV RR:EP} {A:Ar} {CE:Nat→Rs→List Lf→EP→Prop} {CK:Nat→Rs→List Lf→Cont→Prop} {Dn:Nat→List Bool→List bf→Nat→List Bool→List AV→List aj→Prop}
theorem E114 {u0 u1 u2 u3 u4 u5:Int} {u6:RW} {v0 v1 v2 v3 v4 v5:Int} {v6:RW} (h:∀ EV,VN EV Q→Q 0 [] [.b (decide (u0≥v0))]):EZ G114 [] [.i u0,.i u1,.i u2,.i u3,.i u4,.i u5,.r u6,.i v0,.i v1,.i v2,.i v3,.i v4,.i v5,.r v6] Q:=by
 refine ak.en (I:=I114) (L:=L114) LH fun A hA CE CK Dn EV RR W hp=>?_
 have h:=h  EV ⟨trivial⟩
 cbv
 subst hA
 exact (W.q h)
structure V113a (EV Q:EP):Prop where
  p17:∀ {R0:RW} {t1:Int} {t15:RW} {t16 t17 b0 b1 b2 b3:Int} {b4:RW} {b5:Int} {b6 b7 b8 b9:RW},(aB R0=true→(t17 < t16→(0≤t17)∧(t15[t17.toNat]?=some (r7 t15 t17.toNat))∧(0≤t1)∧(b8[t1.toNat]?=some (r7 b8 t1.toNat))∧(EZ G114 [] [.i (cIS t15 t17.toNat 0),.i (cIS t15 t17.toNat 1),.i (cIS t15 t17.toNat 2),.i (cIS t15 t17.toNat 3),.i (cIS t15 t17.toNat 4),.i (cIS t15 t17.toNat 5),.r (cRS t15 t17.toNat 6),.i (cIS b8 t1.toNat 0),.i (cIS b8 t1.toNat 1),.i (cIS b8 t1.toNat 2),.i (cIS b8 t1.toNat 3),.i (cIS b8 t1.toNat 4),.i (cIS b8 t1.toNat 5),.r (cRS b8 t1.toNat 6)] (fun x rs vs=>(x=0∧∃ SX,rs=[]∧vs=[.b SX]∧((SX=true→((R0.length + (List.length (List.take 1 (List.drop 0 [[(AV.int .i64 t17)]]))))≤140737488355328)∧(((R0.length + (List.length (List.take 1 (List.drop 0 [[(AV.int .i64 t17)]])))) * 8)≤140737488355328)∧(EV 17 [(R0++(List.take 1 (List.drop 0 [[(AV.int .i64 t17)]])))] (.i t1::.r t15::.i t16::.i (IntKind.wrap .i64 (t17 + 1))::cL b0 b1 b2 b3 b4 b5 b6 b7 b8 b9 [])))∧(SX=false→EV 17 [R0] (.i t1::.r t15::.i t16::.i (IntKind.wrap .i64 (t17 + 1))::cL b0 b1 b2 b3 b4 b5 b6 b7 b8 b9 [])))))))∧(t17≥t16→Q 0 [R0] []))→EV 17 [R0] (.i t1::.r t15::.i t16::.i t17::cL b0 b1 b2 b3 b4 b5 b6 b7 b8 b9 [])
theorem V113a.of (W:Wk Tryz.prog Tryz.f113 I113a L113a Q A sg CE CK Dn EV RR):V113a EV Q:=by
 have hA:=W.hA
 refine ⟨?_⟩
 intro R0 t1 t15 t16 t17 b0 b1 b2 b3 b4 b5 b6 b7 b8 b9 h
 refine W.step 80 fun hp=>?_
 have h:=h hp.1
 cbv
 refine ⟨imI hA fun e0=>have j0:=h.1 (ah (op:=.lss) hA e0);⟨ndI hA (An j0.1 (hA ▸ j0.2.1)),⟨ndI hA (An j0.2.2.1 (hA ▸ j0.2.2.2.1)),⟨?_,trivial⟩⟩⟩,imI hA fun e0=>have j0:=h.2 (ah (op:=.lss) hA e0);⟨ndI hA (An rfl (An rfl rfl)),⟨ndI hA hp.1,(W.q j0)⟩⟩⟩
 refine W.cd j0.2.2.2.2 ?_
 rintro _ _ _ hp1 (⟨rfl,SX,rfl,rfl,k1⟩)
 cbv
 refine W.draw 80 (by rfl) ?_
 cbv
 subst hA
 exact ⟨fun e2=>have j2:=k1.1 e2;⟨(An rfl (by show (0 + 1)≤1;(first | rfl | simp [af] | (simp [af];omega)))),⟨(An rfl (An (Nat.le_refl _) (An j2.1 j2.2.1))),⟨(An rfl (An rfl (by show (R0.length + (List.length (List.take 1 (List.drop 0 [[(AV.int .i64 t17)]]))))=(List.length (aP R0 R0.length (List.take 1 (List.drop 0 [[(AV.int .i64 t17)]]))));(first | rfl | simp [af] | (simp [af];omega))))),⟨((fA hp.1 (dw (dA aQ)))),(by show EV 17 [(aP R0 R0.length (List.take 1 (List.drop 0 [[(AV.int .i64 t17)]])))] (.i t1::.r t15::.i t16::.i (IntKind.wrap .i64 (t17 + 1))::cL b0 b1 b2 b3 b4 b5 b6 b7 b8 b9 []);(try simp only [af,Nat.zero_add,Int.toNat_natCast]);exact j2.2.2)⟩⟩⟩⟩,fun e2=>have j2:=k1.2 e2;⟨(An rfl (An rfl rfl)),⟨hp.1,j2⟩⟩⟩
theorem E113a {u0 u1 u2 u3:Int} {u4:RW} {u5:Int} {u6 u7 u8 u9:RW} {a1:Int} (h:∀ EV,V113a EV Q→EZ G145 [] (cL u0 u1 u2 u3 u4 u5 u6 u7 u8 u9 [.i a1]) (fun x rs vs=>(x=0∧∃ SS,rs=[]∧vs=[.b SS]∧((SS=false→Q 0 [[]] [])∧(SS=true→EV 17 [[]] (.i a1::.r u8::.i (u8.length:Int)::.i 0::cL u0 u1 u2 u3 u4 u5 u6 u7 u8 u9 [])))))):EZ G113a [] (cL u0 u1 u2 u3 u4 u5 u6 u7 u8 u9 [.i a1]) Q:=by
 refine ak.en (I:=I113a) (L:=L113a) D6 fun A hA CE CK Dn EV RR W hp=>?_
 have h:=h  EV (V113a.of W)
 cbv
 refine W.cl h ?_
 rintro _ _ _ hp0 (⟨rfl,SS,rfl,rfl,k0⟩)
 cbv
 subst hA
 exact ⟨fun e1=>have j1:=k0.1 ((notE rfl e1));⟨(An rfl (An rfl rfl)),⟨aQ,(W.q j1)⟩⟩,fun e1=>have j1:=k0.2 ((notE rfl e1));⟨(An rfl (An rfl rfl)),⟨aQ,j1⟩⟩⟩
theorem E88 {u0 u1 u2 u3:Int} {u4:RW} {u5:Int} {u6 u7 u8 u9:RW} {a1:Int} (h:∀ EV,VN EV Q→EZ G113a [] (cL u0 u1 u2 u3 u4 u5 u6 u7 u8 u9 [.i a1]) (fun x rs vs=>(x=0∧∃ SV,rs=[SV]∧vs=[]∧(Q 0 [SV] [])))):EZ G88 [] (cL u0 u1 u2 u3 u4 u5 u6 u7 u8 u9 [.i a1]) Q:=by
 refine ak.en (I:=I88) (L:=L88) Qu fun A hA CE CK Dn EV RR W hp=>?_
 have h:=h  EV ⟨trivial⟩
 cbv
 refine W.cl h ?_
 rintro _ _ _ hp0 (⟨rfl,SV,rfl,rfl,k0⟩)
 cbv
 subst hA
 exact ⟨(An rfl (An rfl rfl)),⟨hp0.1,(W.q k0)⟩⟩
structure V54 (EV Q:EP):Prop where
  p9:∀ {R0 R1:RW} {t11 t12 b0 b1 b2 b3:Int} {b4:RW} {b5:Int} {b6 b7 b8 b9:RW},(aB R0=true→aB R1=true→(t12 < t11→(0≤t12)∧(t12 < (R1.length:Int))∧(R1[t12.toNat]?=some [.int .i64 (cIS R1 t12.toNat 0)])∧(EZ G59 [] (cL b0 b1 b2 b3 b4 b5 b6 b7 b8 b9 [.i (cIS R1 t12.toNat 0)]) (fun x rs vs=>(x=0∧∃ y1a0 y1a1,rs=[]∧vs=[.i y1a0,.i y1a1]∧(((R0.length + 1)≤140737488355328)∧(((R0.length + 1) * 16)≤140737488355328)∧(EV 9 [(R0++[[(AV.int .u64 y1a0),(AV.int .u64 y1a1)]]),R1] (.i t11::.i (IntKind.wrap .i64 (t12 + 1))::cL b0 b1 b2 b3 b4 b5 b6 b7 b8 b9 [])))))))∧(t12≥t11→Q 0 [R0] []))→EV 9 [R0,R1] (.i t11::.i t12::cL b0 b1 b2 b3 b4 b5 b6 b7 b8 b9 [])
theorem V54.of (W:Wk Tryz.prog Tryz.f54 I54 L54 Q A sg CE CK Dn EV RR):V54 EV Q:=by
 have hA:=W.hA
 refine ⟨?_⟩
 intro R0 R1 t11 t12 b0 b1 b2 b3 b4 b5 b6 b7 b8 b9 h
 refine W.step 80 fun hp=>?_
 have h:=h hp.1 hp.2.1
 cbv
 refine ⟨imI hA fun e0=>have j0:=h.1 (ah (op:=.lss) hA e0);⟨ndI hA (An j0.1 (An (hA ▸ j0.2.1) rfl)),⟨ndI hA (An rfl (hA ▸ j0.2.2.1)),?_⟩⟩,imI hA fun e0=>have j0:=h.2 (ah (op:=.lss) hA e0);⟨ndI hA (An rfl (An rfl rfl)),⟨ndI hA hp.1,(W.q j0)⟩⟩⟩
 refine W.cl j0.2.2.2 ?_
 rintro _ _ _ hp1 (⟨rfl,y1a0,y1a1,rfl,rfl,k1⟩)
 cbv
 subst hA
 exact ⟨(An rfl (An (Nat.le_refl _) (An k1.1 k1.2.1))),⟨(An rfl (An rfl (by show (R0.length + 1)=(List.length (aP R0 R0.length [[(AV.int .u64 y1a0),(AV.int .u64 y1a1)]]));(first | rfl | simp [af] | (simp [af];omega))))),⟨(An rfl (An rfl rfl)),⟨((fA hp.1 aQ)),⟨hp.2.1,(by show EV 9 [(aP R0 R0.length [[(AV.int .u64 y1a0),(AV.int .u64 y1a1)]]),R1] (.i t11::.i (IntKind.wrap .i64 (t12 + 1))::cL b0 b1 b2 b3 b4 b5 b6 b7 b8 b9 []);(try simp only [af,Nat.zero_add,Int.toNat_natCast]);exact k1.2.2)⟩⟩⟩⟩⟩
theorem E54 {u0 u1 u2 u3:Int} {u4:RW} {u5:Int} {u6 u7 u8 u9:RW} {a1:Int} (h:∀ EV,V54 EV Q→EZ G88 [] (cL u0 u1 u2 u3 u4 u5 u6 u7 u8 u9 [.i a1]) (fun x rs vs=>(x=0∧∃ SV,rs=[SV]∧vs=[]∧(EV 9 [[],SV] (.i (SV.length:Int)::.i 0::cL u0 u1 u2 u3 u4 u5 u6 u7 u8 u9 []))))):EZ G54 [] (cL u0 u1 u2 u3 u4 u5 u6 u7 u8 u9 [.i a1]) Q:=by
 refine ak.en (I:=I54) (L:=L54) QZ fun A hA CE CK Dn EV RR W hp=>?_
 have h:=h  EV (V54.of W)
 cbv
 refine W.cl h ?_
 rintro _ _ _ hp0 (⟨rfl,SV,rfl,rfl,k0⟩)
 cbv
 subst hA
 exact ⟨rfl,⟨(An rfl (An rfl rfl)),⟨(An rfl (An rfl rfl)),⟨aQ,⟨hp0.1,k0⟩⟩⟩⟩⟩
theorem E134 {a0 a1:Int} (h:∀ EV,VN EV Q→(a0=0→Q 0 [] [.i 0])∧(a0≠0→(a1≠0→(a0=18446744073709551615→Q 0 [] [.i 18446744073709551615])∧(a0≠18446744073709551615→(a1≠0)∧(Q 0 [] [.i (IntKind.wrap .u64 ((IntKind.wrap .u64 (Int.tdiv (IntKind.wrap .u64 (a0 - 1)) a1)) + 1))])))∧(a1=0→Q 0 [] [.i 18446744073709551615]))):EZ G134 [] [.i a0,.i a1] Q:=by
 refine ak.en (I:=I134) (L:=L134) KX fun A hA CE CK Dn EV RR W hp=>?_
 have h:=h  EV ⟨trivial⟩
 cbv
 subst hA
 exact ⟨fun e0=>have j0:=h.1 (ah (op:=.eql) rfl e0);(W.q j0),fun e0=>have j0:=h.2 (ah (op:=.eql) rfl e0);⟨fun e1=>have j1:=j0.1 (ah (op:=.eql) rfl e1);⟨fun e2=>have j2:=j1.1 (ah (op:=.eql) rfl e2);(W.q j2),fun e2=>have j2:=j1.2 (ah (op:=.eql) rfl e2);⟨j2.1,(W.q j2.2)⟩⟩,fun e1=>have j1:=j0.2 (ah (op:=.eql) rfl e1);(W.q j1)⟩⟩
theorem E99 {a0 a1:Int} (h:∀ EV,VN EV Q→((0:Int)≤32)∧(Q 0 [] [.i (IntKind.wrap .u64 ((IntKind.wrap .u64 ((IntKind.wrap .u64 ((cO .shr .u64 a0 32) * (cO .shr .u64 a1 32))) + (cO .shr .u64 (IntKind.wrap .u64 ((IntKind.wrap .u64 ((cO .shr .u64 a0 32) * (cO .and .u64 a1 4294967295))) + (cO .shr .u64 (IntKind.wrap .u64 ((cO .and .u64 a0 4294967295) * (cO .and .u64 a1 4294967295))) 32))) 32))) + (cO .shr .u64 (IntKind.wrap .u64 ((cO .and .u64 (IntKind.wrap .u64 ((IntKind.wrap .u64 ((cO .shr .u64 a0 32) * (cO .and .u64 a1 4294967295))) + (cO .shr .u64 (IntKind.wrap .u64 ((cO .and .u64 a0 4294967295) * (cO .and .u64 a1 4294967295))) 32))) 4294967295) + (IntKind.wrap .u64 ((cO .and .u64 a0 4294967295) * (cO .shr .u64 a1 32))))) 32))),.i (IntKind.wrap .u64 (a0 * a1))])):EZ G99 [] [.i a0,.i a1] Q:=by
 refine ak.en (I:=I99) (L:=L99) Qj fun A hA CE CK Dn EV RR W hp=>?_
 have h:=h  EV ⟨trivial⟩
 cbv
 subst hA
 exact ⟨h.1,⟨h.1,⟨h.1,⟨h.1,⟨h.1,(W.q h.2)⟩⟩⟩⟩⟩
theorem E61 {a0 a1:Int} (h:∀ EV,VN EV Q→EZ G99 [] [.i a0,.i a1] (fun x rs vs=>(x=0∧∃ SS Uj,rs=[]∧vs=[.i SS,.i Uj]∧((SS > 0→Q 0 [] [.i 18446744073709551615])∧(SS≤0→Q 0 [] [.i Uj]))))):EZ G61 [] [.i a0,.i a1] Q:=by
 refine ak.en (I:=I61) (L:=L61) QS fun A hA CE CK Dn EV RR W hp=>?_
 have h:=h  EV ⟨trivial⟩
 cbv
 refine W.cl h ?_
 rintro _ _ _ hp0 (⟨rfl,SS,Uj,rfl,rfl,k0⟩)
 cbv
 subst hA
 exact ⟨fun e1=>have j1:=k0.1 (ah (op:=.gtr) rfl e1);(W.q j1),fun e1=>have j1:=k0.2 (ah (op:=.gtr) rfl e1);(W.q j1)⟩
structure V159 (EV Q:EP):Prop where
  p9:∀ {R0:RW} {t2 t7 t12 t13:Int},(aB R0=true→(t13 < t12→(0≤t13)∧(t13 < (R0.length:Int))∧(R0[t13.toNat]?=some [.int .u64 (cIS R0 t13.toNat 0),.int .u64 (cIS R0 t13.toNat 1)])∧(EZ G134 [] [.i t2,.i (cIS R0 t13.toNat 1)] (fun x rs vs=>(x=0∧∃ SX,rs=[]∧vs=[.i SX]∧(EZ G61 [] [.i (cIS R0 t13.toNat 0),.i SX] (fun x rs vs=>(x=0∧∃ SY,rs=[]∧vs=[.i SY]∧(EZ G60 [] [.i t7,.i SY] (fun x rs vs=>(x=0∧∃ S9,rs=[]∧vs=[.i S9]∧(EV 9 [R0] [.i t2,.i S9,.i t12,.i (IntKind.wrap .i64 (t13 + 1))])))))))))))∧(t13≥t12→Q 0 [R0] [.i t7]))→EV 9 [R0] [.i t2,.i t7,.i t12,.i t13]
theorem V159.of (W:Wk Tryz.prog Tryz.f159 I159 L159 Q A sg CE CK Dn EV RR):V159 EV Q:=by
 have hA:=W.hA
 refine ⟨?_⟩
 intro R0 t2 t7 t12 t13 h
 refine W.step 80 fun hp=>?_
 have h:=h hp.1
 cbv
 refine ⟨imI hA fun e0=>have j0:=h.1 (ah (op:=.lss) hA e0);⟨ndI hA (An j0.1 (An (hA ▸ j0.2.1) rfl)),⟨ndI hA (An rfl (hA ▸ j0.2.2.1)),⟨?_,trivial⟩⟩⟩,imI hA fun e0=>have j0:=h.2 (ah (op:=.lss) hA e0);⟨ndI hA hp.1,(W.q j0)⟩⟩
 refine W.cd j0.2.2.2 ?_
 rintro _ _ _ hp1 (⟨rfl,SX,rfl,rfl,k1⟩)
 cbv
 refine W.draw 80 (by rfl) ?_
 cbv
 refine ⟨?_,trivial⟩
 refine W.cd k1 ?_
 rintro _ _ _ hp2 (⟨rfl,SY,rfl,rfl,k2⟩)
 cbv
 refine W.draw 80 (by rfl) ?_
 cbv
 refine ⟨?_,trivial⟩
 refine W.cd k2 ?_
 rintro _ _ _ hp3 (⟨rfl,S9,rfl,rfl,k3⟩)
 cbv
 refine W.draw 80 (by rfl) ?_
 cbv
 subst hA
 exact ⟨(An rfl (An rfl rfl)),⟨hp.1,k3⟩⟩
theorem E159 {R0:RW} {a0 a2:Int} (h:aB R0=true→∀ EV,V159 EV Q→EV 9 [R0] [.i a2,.i a0,.i (R0.length:Int),.i 0]):EZ G159 [R0] [.i a0,.i a2] Q:=by
 refine ak.en (I:=I159) (L:=L159) Kw fun A hA CE CK Dn EV RR W hp=>?_
 have h:=h hp.1 EV (V159.of W)
 cbv
 subst hA
 exact ⟨rfl,⟨(An rfl (An rfl rfl)),⟨hp.1,h⟩⟩⟩
theorem E133 {R0:RW} {a0 a1:Int} (h:aB R0=true→∀ EV,VN EV Q→EZ G159 [R0] [.i a0,.i a1] (fun x rs vs=>(x=0∧∃ SV SS,rs=[SV]∧vs=[.i SS]∧(Q 0 [SV] [.i SS])))):EZ G133 [R0] [.i a0,.i a1] Q:=by
 refine ak.en (I:=I133) (L:=L133) KY fun A hA CE CK Dn EV RR W hp=>?_
 have h:=h hp.1 EV ⟨trivial⟩
 cbv
 refine ⟨ndI hA (An rfl (An rfl rfl)),⟨ndI hA hp.1,?_⟩⟩
 refine W.cl h ?_
 rintro _ _ _ hp0 (⟨rfl,SV,SS,rfl,rfl,k0⟩)
 cbv
 subst hA
 exact ⟨hp0.1,(W.q k0)⟩
structure V132 (EV Q:EP):Prop where
  p9:∀ {R0:RW} {t0 t2 t8 t11:Int},(aB R0=true→(t11 < 1048576→(t8 > t2→Q 0 [R0] [.i 18446744073709551615,.b false])∧(t8≤t2→EZ G133 [R0] [.i t0,.i t8] (fun x rs vs=>(x=0∧∃ Tf SY,rs=[Tf]∧vs=[.i SY]∧((SY≤t8→Q 0 [Tf] [.i t8,.b true])∧(SY > t8→(R0.length=Tf.length)∧(EV 9 [Tf] [.i t0,.i t2,.i SY,.i (IntKind.wrap .i64 (t11 + 1))])))))))∧(t11≥1048576→Q 0 [R0] [.i 18446744073709551615,.b false]))→EV 9 [R0] [.i t0,.i t2,.i t8,.i t11]
theorem V132.of (W:Wk Tryz.prog Tryz.f132 I132 L132 Q A sg CE CK Dn EV RR):V132 EV Q:=by
 have hA:=W.hA
 refine ⟨?_⟩
 intro R0 t0 t2 t8 t11 h
 refine W.step 80 fun hp=>?_
 have h:=h hp.1
 cbv
 refine ⟨imI hA fun e0=>have j0:=h.1 (ah (op:=.lss) hA e0);⟨imI hA fun e1=>have j1:=j0.1 (ah (op:=.gtr) hA e1);⟨ndI hA hp.1,(W.q j1)⟩,imI hA fun e1=>have j1:=j0.2 (ah (op:=.gtr) hA e1);⟨ndI hA (An rfl (An rfl rfl)),⟨ndI hA hp.1,?_⟩⟩⟩,imI hA fun e0=>have j0:=h.2 (ah (op:=.lss) hA e0);⟨ndI hA hp.1,(W.q j0)⟩⟩
 refine W.cl j1 ?_
 rintro _ _ _ hp2 (⟨rfl,Tf,SY,rfl,rfl,k2⟩)
 cbv
 subst hA
 exact ⟨fun e3=>have j3:=k2.1 (ah (op:=.leq) rfl e3);⟨hp2.1,(W.q j3)⟩,fun e3=>have j3:=k2.2 (ah (op:=.leq) rfl e3);⟨(An j3.1 (An rfl j3.1)),⟨hp2.1,j3.2⟩⟩⟩
theorem E132 {R0:RW} {a0 a1 a2:Int} (h:aB R0=true→∀ EV,V132 EV Q→EV 9 [R0] [.i a0,.i a2,.i a1,.i 0]):EZ G132 [R0] [.i a0,.i a1,.i a2] Q:=by
 refine ak.en (I:=I132) (L:=L132) KZ fun A hA CE CK Dn EV RR W hp=>?_
 have h:=h hp.1 EV (V132.of W)
 cbv
 subst hA
 exact ⟨(An rfl (An rfl rfl)),⟨hp.1,h⟩⟩
theorem E95 {R0:RW} {a0 a2:Int} (h:aB R0=true→∀ EV,VN EV Q→EZ G132 [R0] [.i a0,.i 1,.i (arS.mn a2 16777216)] (fun x rs vs=>(x=0∧∃ SV SS Uj,rs=[SV]∧vs=[.i SS,.b Uj]∧(Q 0 [SV] [.i SS,.b Uj])))):EZ G95 [R0] [.i a0,.i a2] Q:=by
 refine ak.en (I:=I95) (L:=L95) Qm fun A hA CE CK Dn EV RR W hp=>?_
 have h:=h hp.1 EV ⟨trivial⟩
 cbv
 refine ⟨ndI hA (An rfl (An rfl rfl)),⟨ndI hA hp.1,?_⟩⟩
 refine W.cl h ?_
 rintro _ _ _ hp0 (⟨rfl,SV,SS,Uj,rfl,rfl,k0⟩)
 cbv
 subst hA
 exact ⟨hp0.1,(W.q k0)⟩
structure V96 (EV Q:EP):Prop where
  p9:∀ {R0:RW} {t2 t7 t13 t14 b0 b1 b2 b3:Int} {b4:RW} {b5:Int} {b6 b7 b8 b9:RW},(aB R0=true→(t14 < t13→(0≤t14)∧(t14 < (R0.length:Int))∧(R0[t14.toNat]?=some [.int .i64 (cIS R0 t14.toNat 0)])∧(0≤(cIS R0 t14.toNat 0))∧(b8[(Int.toNat (cIS R0 t14.toNat 0))]?=some (r7 b8 (Int.toNat (cIS R0 t14.toNat 0))))∧(EZ G58 [] [.i (cIS b8 (Int.toNat (cIS R0 t14.toNat 0)) 2)] (fun x rs vs=>(x=0∧∃ SX,rs=[]∧vs=[.i SX]∧(EZ G134 [] [.i t2,.i SX] (fun x rs vs=>(x=0∧∃ SY,rs=[]∧vs=[.i SY]∧(EZ G60 [] [.i t7,.i SY] (fun x rs vs=>(x=0∧∃ S9,rs=[]∧vs=[.i S9]∧(EV 9 [R0] (.i t2::.i S9::.i t13::.i (IntKind.wrap .i64 (t14 + 1))::cL b0 b1 b2 b3 b4 b5 b6 b7 b8 b9 []))))))))))))∧(t14≥t13→Q 0 [] [.i t7]))→EV 9 [R0] (.i t2::.i t7::.i t13::.i t14::cL b0 b1 b2 b3 b4 b5 b6 b7 b8 b9 [])
theorem V96.of (W:Wk Tryz.prog Tryz.f96 I96 L96 Q A sg CE CK Dn EV RR):V96 EV Q:=by
 have hA:=W.hA
 refine ⟨?_⟩
 intro R0 t2 t7 t13 t14 b0 b1 b2 b3 b4 b5 b6 b7 b8 b9 h
 refine W.step 80 fun hp=>?_
 have h:=h hp.1
 cbv
 refine ⟨imI hA fun e0=>have j0:=h.1 (ah (op:=.lss) hA e0);⟨ndI hA (An j0.1 (An (hA ▸ j0.2.1) rfl)),⟨ndI hA (An rfl (hA ▸ j0.2.2.1)),⟨ndI hA (An (hA ▸ j0.2.2.2.1) (hA ▸ j0.2.2.2.2.1)),?_⟩⟩⟩,imI hA fun e0=>have j0:=h.2 (ah (op:=.lss) hA e0);(W.q j0)⟩
 refine W.cl j0.2.2.2.2.2 ?_
 rintro _ _ _ hp1 (⟨rfl,SX,rfl,rfl,k1⟩)
 cbv
 refine W.cl k1 ?_
 rintro _ _ _ hp2 (⟨rfl,SY,rfl,rfl,k2⟩)
 cbv
 refine W.cl k2 ?_
 rintro _ _ _ hp3 (⟨rfl,S9,rfl,rfl,k3⟩)
 cbv
 subst hA
 exact ⟨(An rfl (An rfl rfl)),⟨hp.1,k3⟩⟩
theorem E96 {u0 u1 u2 u3:Int} {u4:RW} {u5:Int} {u6 u7 u8 u9:RW} {a1 a2:Int} (h:∀ EV,V96 EV Q→EZ G131 [] (cL u0 u1 u2 u3 u4 u5 u6 u7 u8 u9 [.i a1]) (fun x rs vs=>(x=0∧∃ SV,rs=[SV]∧vs=[]∧(EV 9 [SV] (.i a2::.i 0::.i (SV.length:Int)::.i 0::cL u0 u1 u2 u3 u4 u5 u6 u7 u8 u9 []))))):EZ G96 [] (cL u0 u1 u2 u3 u4 u5 u6 u7 u8 u9 [.i a1,.i a2]) Q:=by
 refine ak.en (I:=I96) (L:=L96) Ql fun A hA CE CK Dn EV RR W hp=>?_
 have h:=h  EV (V96.of W)
 cbv
 refine W.cl h ?_
 rintro _ _ _ hp0 (⟨rfl,SV,rfl,rfl,k0⟩)
 cbv
 subst hA
 exact ⟨rfl,⟨(An rfl (An rfl rfl)),⟨hp0.1,k0⟩⟩⟩
structure V57 (EV Q:EP):Prop where
  p4:∀ {t1 b0 b1 b2 b3:Int} {b4:RW} {b5:Int} {b6 b7 b8 b9:RW} {d0 d1 d2 d3 d4 d5 f0 f1 f2 f3 f4 f5:Int},(EZ G54 [] (cL b0 b1 b2 b3 b4 b5 b6 b7 b8 b9 [.i t1]) (fun x rs vs=>(x=0∧∃ SV,rs=[SV]∧vs=[]∧(EZ G95 [SV] [.i f1,.i 16777216] (fun x rs vs=>(x=0∧∃ Tc SX Ue,rs=[Tc]∧vs=[.i SX,.b Ue]∧(EV 9 [] (.i t1::.b Ue::cL b0 b1 b2 b3 b4 b5 b6 b7 b8 b9 [.i d0,.i d1,.i d2,.i d3,.i d4,.i d5,.i f0,.i f1,.i SX,.i f3,.i f4,.i f5]))))))))→EV 4 [] (.i t1::cL b0 b1 b2 b3 b4 b5 b6 b7 b8 b9 [.i d0,.i d1,.i d2,.i d3,.i d4,.i d5,.i f0,.i f1,.i f2,.i f3,.i f4,.i f5])
  p9:∀ {t1:Int} {t6:Bool} {b0 b1 b2 b3:Int} {b4:RW} {b5:Int} {b6 b7 b8 b9:RW} {d0 d1 d2 d3 d4 d5 f0 f1 f2 f3 f4 f5:Int},((t6=true→EZ G96 [] (cL b0 b1 b2 b3 b4 b5 b6 b7 b8 b9 [.i t1,.i f2]) (fun x rs vs=>(x=0∧∃ SX,rs=[]∧vs=[.i SX]∧(EZ G61 [] [.i SX,.i f4] (fun x rs vs=>(x=0∧∃ SY,rs=[]∧vs=[.i SY]∧(Q 0 [] [.i f0,.i f1,.i f2,.i SX,.i f4,.i SY])))))))∧(t6=false→Q 0 [] [.i f0,.i f1,.i f2,.i f3,.i f4,.i f5]))→EV 9 [] (.i t1::.b t6::cL b0 b1 b2 b3 b4 b5 b6 b7 b8 b9 [.i d0,.i d1,.i d2,.i d3,.i d4,.i d5,.i f0,.i f1,.i f2,.i f3,.i f4,.i f5])
theorem V57.of (W:Wk Tryz.prog Tryz.f57 I57 L57 Q A sg CE CK Dn EV RR):V57 EV Q:=by
 have hA:=W.hA
 refine ⟨?_,?_⟩
 ·intro t1 b0 b1 b2 b3 b4 b5 b6 b7 b8 b9 d0 d1 d2 d3 d4 d5 f0 f1 f2 f3 f4 f5 h
  refine W.step 80 fun hp=>?_
  cbv
  refine ⟨⟨?_,trivial⟩,⟨?_,trivial⟩⟩
  ·refine W.cd h ?_
   rintro _ _ _ hp0 (⟨rfl,SV,rfl,rfl,k0⟩)
   cbv
   refine W.draw 80 (by rfl) ?_
   cbv
   refine ⟨⟨ndI hA (An rfl (An rfl rfl)),⟨ndI hA hp0.1,?_⟩⟩,trivial⟩
   refine W.cd k0 ?_
   rintro _ _ _ hp1 (⟨rfl,Tc,SX,Ue,rfl,rfl,k1⟩)
   cbv
   refine W.draw 80 (by rfl) ?_
   cbv
   subst hA
   exact ⟨k1,trivial⟩
  ·refine W.cd h ?_
   rintro _ _ _ hp0 (⟨rfl,SV,rfl,rfl,k0⟩)
   cbv
   refine W.draw 80 (by rfl) ?_
   cbv
   refine ⟨⟨⟨ndI hA (An rfl (An rfl rfl)),⟨ndI hA hp0.1,?_⟩⟩,trivial⟩,trivial⟩
   refine W.cd k0 ?_
   rintro _ _ _ hp1 (⟨rfl,Tc,SX,Ue,rfl,rfl,k1⟩)
   cbv
   refine W.draw 80 (by rfl) ?_
   cbv
   subst hA
   exact ⟨k1,trivial⟩
 ·intro t1 t6 b0 b1 b2 b3 b4 b5 b6 b7 b8 b9 d0 d1 d2 d3 d4 d5 f0 f1 f2 f3 f4 f5 h
  refine W.step 80 fun hp=>?_
  cbv
  refine ⟨imI hA fun e0=>have j0:=h.1 e0;?_,imI hA fun e0=>have j0:=h.2 e0;(W.q j0)⟩
  refine W.cl j0 ?_
  rintro _ _ _ hp1 (⟨rfl,SX,rfl,rfl,k1⟩)
  cbv
  refine W.cl k1 ?_
  rintro _ _ _ hp2 (⟨rfl,SY,rfl,rfl,k2⟩)
  cbv
  subst hA
  exact (W.q k2)
theorem E57 {u0 u1 u2 u3:Int} {u4:RW} {u5:Int} {u6 u7 u8 u9:RW} {a1:Int} (h:∀ EV,V57 EV Q→∃ y0a0 y0a1,EZ G59 [] (cL u0 u1 u2 u3 u4 u5 u6 u7 u8 u9 [.i a1]) (fun x rs vs=>x=0∧rs=[]∧vs=[.i y0a0,.i y0a1])∧(∃ SX,EZ G93 [] (cL u0 u1 u2 u3 u4 u5 u6 u7 u8 u9 [.i a1]) (fun x rs vs=>x=0∧rs=[]∧vs=[.i SX])∧(∃ SY,EZ G94 [] (cL u0 u1 u2 u3 u4 u5 u6 u7 u8 u9 [.i a1]) (fun x rs vs=>x=0∧rs=[]∧vs=[.i SY])∧(∃ S9,EZ G58 [] [.i SY] (fun x rs vs=>x=0∧rs=[]∧vs=[.i S9])∧(EV 4 [] (.i a1::cL u0 u1 u2 u3 u4 u5 u6 u7 u8 u9 [.i 0,.i 0,.i 0,.i 0,.i 0,.i 0,.i y0a0,.i SX,.i 0,.i 18446744073709551615,.i S9,.i 18446744073709551615])))))):EZ G57 [] (cL u0 u1 u2 u3 u4 u5 u6 u7 u8 u9 [.i a1]) Q:=by
 refine ak.en (I:=I57) (L:=L57) QW fun A hA CE CK Dn EV RR W hp=>?_
 have h:=h  EV (V57.of W)
 cbv
 obtain ⟨y0a0,y0a1,he0,hk0⟩:=h
 refine ⟨(AV.agg [.int .u64 y0a0,.int .u64 y0a1]),?_⟩
 cbv
 refine ⟨?_,?_⟩
 · refine W.cd he0 ?_
   rintro _ _ _ _ ⟨rfl,rfl,rfl⟩
   cbv
   try first | exact ⟨rfl,rfl⟩ | rfl
 refine W.draw 80 (by rfl) ?_
 cbv
 obtain ⟨SX,he1,hk1⟩:=hk0
 refine ⟨(AV.int .u64 SX),?_⟩
 cbv
 refine ⟨?_,?_⟩
 · refine W.cd he1 ?_
   rintro _ _ _ _ ⟨rfl,rfl,rfl⟩
   cbv
   try first | exact ⟨rfl,rfl⟩ | rfl
 refine W.draw 80 (by rfl) ?_
 cbv
 obtain ⟨SY,he2,hk2⟩:=hk1
 refine ⟨(AV.int .i64 SY),?_⟩
 cbv
 refine ⟨?_,?_⟩
 · refine W.cd he2 ?_
   rintro _ _ _ _ ⟨rfl,rfl,rfl⟩
   cbv
   try first | exact ⟨rfl,rfl⟩ | rfl
 refine W.draw 80 (by rfl) ?_
 cbv
 obtain ⟨S9,he3,hk3⟩:=hk2
 refine ⟨(AV.int .u64 S9),?_⟩
 cbv
 refine ⟨?_,?_⟩
 · refine W.cd he3 ?_
   rintro _ _ _ _ ⟨rfl,rfl,rfl⟩
   cbv
   try first | exact ⟨rfl,rfl⟩ | rfl
 refine W.draw 80 (by rfl) ?_
 cbv
 subst hA
 exact ⟨⟨hk3,trivial⟩,trivial⟩
structure V16 (EV Q:EP):Prop where
  p19:∀ {R0 R1:RW} {t6:Int} {t20:RW} {t21 t22 b0 b1 b2 b3:Int} {b4:RW} {b5:Int} {b6 b7 b8 b9:RW} {tb1 tb2:Int},(aB R0=true→aB R1=true→(t22 < t21→(0≤t22)∧(t20[t22.toNat]?=some (r7 t20 t22.toNat))∧(EZ G57 [] (cL b0 b1 b2 b3 b4 b5 b6 b7 b8 b9 [.i t22]) (fun x rs vs=>(x=0∧∃ y1a0 y1a1 y1a2 y1a3 y1a4 y1a5,rs=[]∧vs=[.i y1a0,.i y1a1,.i y1a2,.i y1a3,.i y1a4,.i y1a5]∧(EZ G58 [] [.i (cIS t20 t22.toNat 3)] (fun x rs vs=>(x=0∧∃ SY,rs=[]∧vs=[.i SY]∧((y1a2 > SY→((R1.length + 1)≤140737488355328)∧(((R1.length + 1) * 48)≤140737488355328)∧(EV 19 [R0,(R1++[[(AV.int .u64 y1a0),(AV.int .u64 y1a1),(AV.int .u64 y1a2),(AV.int .u64 y1a3),(AV.int .u64 y1a4),(AV.int .u64 y1a5)]])] (.i 12::.r t20::.i t21::.i (IntKind.wrap .i64 (t22 + 1))::cL b0 b1 b2 b3 b4 b5 b6 b7 b8 b9 [.i tb1,.i tb2])))∧(y1a2≤SY→((R1.length + 1)≤140737488355328)∧(((R1.length + 1) * 48)≤140737488355328)∧(EV 19 [R0,(R1++[[(AV.int .u64 y1a0),(AV.int .u64 y1a1),(AV.int .u64 y1a2),(AV.int .u64 y1a3),(AV.int .u64 y1a4),(AV.int .u64 y1a5)]])] (.i t6::.r t20::.i t21::.i (IntKind.wrap .i64 (t22 + 1))::cL b0 b1 b2 b3 b4 b5 b6 b7 b8 b9 [.i tb1,.i tb2])))))))))))∧(t22≥t21→Q 0 [] [.r (List.take R1.length (List.drop 0 R1)),.i tb2,.i t6]))→EV 19 [R0,R1] (.i t6::.r t20::.i t21::.i t22::cL b0 b1 b2 b3 b4 b5 b6 b7 b8 b9 [.i tb1,.i tb2])
theorem V16.of (W:Wk Tryz.prog Tryz.f16 I16 L16 Q A sg CE CK Dn EV RR):V16 EV Q:=by
 have hA:=W.hA
 refine ⟨?_⟩
 intro R0 R1 t6 t20 t21 t22 b0 b1 b2 b3 b4 b5 b6 b7 b8 b9 tb1 tb2 h
 refine W.step 80 fun hp=>?_
 have h:=h hp.1 hp.2.1
 cbv
 refine ⟨imI hA fun e0=>have j0:=h.1 (ah (op:=.lss) hA e0);⟨ndI hA (An j0.1 (hA ▸ j0.2.1)),?_⟩,imI hA fun e0=>have j0:=h.2 (ah (op:=.lss) hA e0);⟨ndI hA (An (An hp.1 (An hp.2.1 trivial)) (An (An rfl trivial) trivial)),⟨ndI hA (An (An rfl trivial) (An (An rfl trivial) trivial)),(W.q (hA ▸ j0))⟩⟩⟩
 refine W.cl j0.2.2 ?_
 rintro _ _ _ hp1 (⟨rfl,y1a0,y1a1,y1a2,y1a3,y1a4,y1a5,rfl,rfl,k1⟩)
 cbv
 refine ⟨?_,trivial⟩
 refine W.cd k1 ?_
 rintro _ _ _ hp2 (⟨rfl,SY,rfl,rfl,k2⟩)
 cbv
 refine W.draw 80 (by rfl) ?_
 cbv
 subst hA
 exact ⟨fun e3=>have j3:=k2.1 (ah (op:=.gtr) rfl e3);⟨(An rfl (An (Nat.le_refl _) (An j3.1 j3.2.1))),⟨(An rfl (An rfl rfl)),⟨(An rfl (An rfl (by show (R1.length + 1)=(List.length (aP R1 R1.length [[(AV.int .u64 y1a0),(AV.int .u64 y1a1),(AV.int .u64 y1a2),(AV.int .u64 y1a3),(AV.int .u64 y1a4),(AV.int .u64 y1a5)]]));(first | rfl | simp [af] | (simp [af];omega))))),⟨hp.1,⟨((fA hp.2.1 aQ)),(by show EV 19 [R0,(aP R1 R1.length [[(AV.int .u64 y1a0),(AV.int .u64 y1a1),(AV.int .u64 y1a2),(AV.int .u64 y1a3),(AV.int .u64 y1a4),(AV.int .u64 y1a5)]])] (.i 12::.r t20::.i t21::.i (IntKind.wrap .i64 (t22 + 1))::cL b0 b1 b2 b3 b4 b5 b6 b7 b8 b9 [.i tb1,.i tb2]);(try simp only [af,Nat.zero_add,Int.toNat_natCast]);exact j3.2.2)⟩⟩⟩⟩⟩,fun e3=>have j3:=k2.2 (ah (op:=.gtr) rfl e3);⟨(An rfl (An (Nat.le_refl _) (An j3.1 j3.2.1))),⟨(An rfl (An rfl rfl)),⟨(An rfl (An rfl (by show (R1.length + 1)=(List.length (aP R1 R1.length [[(AV.int .u64 y1a0),(AV.int .u64 y1a1),(AV.int .u64 y1a2),(AV.int .u64 y1a3),(AV.int .u64 y1a4),(AV.int .u64 y1a5)]]));(first | rfl | simp [af] | (simp [af];omega))))),⟨hp.1,⟨((fA hp.2.1 aQ)),(by show EV 19 [R0,(aP R1 R1.length [[(AV.int .u64 y1a0),(AV.int .u64 y1a1),(AV.int .u64 y1a2),(AV.int .u64 y1a3),(AV.int .u64 y1a4),(AV.int .u64 y1a5)]])] (.i t6::.r t20::.i t21::.i (IntKind.wrap .i64 (t22 + 1))::cL b0 b1 b2 b3 b4 b5 b6 b7 b8 b9 [.i tb1,.i tb2]);(try simp only [af,Nat.zero_add,Int.toNat_natCast]);exact j3.2.2)⟩⟩⟩⟩⟩⟩
theorem E16 {u0 u1 u2 u3:Int} {u4:RW} {u5:Int} {u6 u7 u8 u9:RW} (h:∀ EV,V16 EV Q→EZ G55 [] (cL u0 u1 u2 u3 u4 u5 u6 u7 u8 u9 []) (fun x rs vs=>(x=0∧∃ SS,rs=[]∧vs=[.i SS]∧((SS≠0→Q 0 [] [.r [],.i 0,.i SS])∧(SS=0→EZ G56 [] (cL u0 u1 u2 u3 u4 u5 u6 u7 u8 u9 []) (fun x rs vs=>(x=0∧∃ SY,rs=[]∧vs=[.i SY]∧(EV 19 [[],[]] (.i 0::.r u8::.i (u8.length:Int)::.i 0::cL u0 u1 u2 u3 u4 u5 u6 u7 u8 u9 [.i 0,.i SY]))))))))):EZ G16 [] (cL u0 u1 u2 u3 u4 u5 u6 u7 u8 u9 []) Q:=by
 refine ak.en (I:=I16) (L:=L16) Sm fun A hA CE CK Dn EV RR W hp=>?_
 have h:=h  EV (V16.of W)
 cbv
 refine W.cl h ?_
 rintro _ _ _ hp0 (⟨rfl,SS,rfl,rfl,k0⟩)
 cbv
 refine ⟨imI hA fun e1=>have j1:=k0.1 (ah (op:=.neq) hA e1);(W.q j1),imI hA fun e1=>have j1:=k0.2 (ah (op:=.neq) hA e1);?_⟩
 refine W.cl j1 ?_
 rintro _ _ _ hp2 (⟨rfl,SY,rfl,rfl,k2⟩)
 cbv
 subst hA
 exact ⟨(An rfl (An rfl rfl)),⟨(An rfl (An rfl rfl)),⟨aQ,⟨aQ,k2⟩⟩⟩⟩
theorem E19 {u0 u1 u2 u3:Int} {u4:RW} {u5:Int} {u6 u7 u8 u9:RW} (h:∀ EV,VN EV Q→EZ G16 [] (cL u0 u1 u2 u3 u4 u5 u6 u7 u8 u9 []) (fun x rs vs=>(x=0∧∃ y0a0 y0a1 Uj,rs=[]∧vs=[.r y0a0,.i y0a1,.i Uj]∧(Q 0 [] [.b (Uj == 0)])))):EZ G19 [] (cL u0 u1 u2 u3 u4 u5 u6 u7 u8 u9 []) Q:=by
 refine ak.en (I:=I19) (L:=L19) Si fun A hA CE CK Dn EV RR W hp=>?_
 have h:=h  EV ⟨trivial⟩
 cbv
 refine W.cl h ?_
 rintro _ _ _ hp0 (⟨rfl,y0a0,y0a1,Uj,rfl,rfl,k0⟩)
 cbv
 subst hA
 exact (W.q k0)
theorem E110 {a0:Int} (h:∀ EV,VN EV Q→(a0 < 0→Q 0 [] [.i 0])∧(a0≥0→(a0 > 1073741824→Q 0 [] [.i 1073741824])∧(a0≤1073741824→Q 0 [] [.i a0]))):EZ G110 [] [.i a0] Q:=by
 refine ak.en (I:=I110) (L:=L110) LM fun A hA CE CK Dn EV RR W hp=>?_
 have h:=h  EV ⟨trivial⟩
 cbv
 subst hA
 exact ⟨fun e0=>have j0:=h.1 (ah (op:=.lss) rfl e0);(W.q j0),fun e0=>have j0:=h.2 (ah (op:=.lss) rfl e0);⟨fun e1=>have j1:=j0.1 (ah (op:=.gtr) rfl e1);(W.q j1),fun e1=>have j1:=j0.2 (ah (op:=.gtr) rfl e1);(W.q j1)⟩⟩
theorem E77 {u0 u1 u2 v0 v1 v2 v3:Int} {a2:Bool} (h:∀ EV,VN EV Q→(u0=1→EZ G110 [] [.i u1] (fun x rs vs=>(x=0∧∃ SX,rs=[]∧vs=[.i SX]∧(Q 0 [] [.i SX]))))∧(u0≠1→(u0=2→(a2=true→EZ G110 [] [.i v2] (fun x rs vs=>(x=0∧∃ S9,rs=[]∧vs=[.i S9]∧(Q 0 [] [.i S9]))))∧(a2=false→(u0=2→EZ G110 [] [.i v3] (fun x rs vs=>(x=0∧∃ Td,rs=[]∧vs=[.i Td]∧(Q 0 [] [.i Td]))))∧(u0≠2→Q 0 [] [.i 1])))∧(u0≠2→(u0=2→EZ G110 [] [.i v3] (fun x rs vs=>(x=0∧∃ S9,rs=[]∧vs=[.i S9]∧(Q 0 [] [.i S9]))))∧(u0≠2→Q 0 [] [.i 1])))):EZ G77 [] [.i u0,.i u1,.i u2,.i v0,.i v1,.i v2,.i v3,.b a2] Q:=by
 refine ak.en (I:=I77) (L:=L77) QE fun A hA CE CK Dn EV RR W hp=>?_
 have h:=h  EV ⟨trivial⟩
 cbv
 refine ⟨imI hA fun e0=>have j0:=h.1 (ah (op:=.eql) hA e0);?_,imI hA fun e0=>have j0:=h.2 (ah (op:=.eql) hA e0);⟨imI hA fun e1=>have j1:=j0.1 (ah (op:=.eql) hA e1);⟨imI hA fun e2=>have j2:=j1.1 e2;?_,imI hA fun e2=>have j2:=j1.2 e2;⟨imI hA fun e3=>have j3:=j2.1 (ah (op:=.eql) hA e3);?_,imI hA fun e3=>have j3:=j2.2 (ah (op:=.eql) hA e3);(W.q j3)⟩⟩,imI hA fun e1=>have j1:=j0.2 (ah (op:=.eql) hA e1);⟨imI hA fun e2=>have j2:=j1.1 (ah (op:=.eql) hA e2);?_,imI hA fun e2=>have j2:=j1.2 (ah (op:=.eql) hA e2);(W.q j2)⟩⟩⟩
 ·refine W.cl j0 ?_
  rintro _ _ _ hp1 (⟨rfl,SX,rfl,rfl,k1⟩)
  cbv
  subst hA
  exact (W.q k1)
 ·refine W.cl j2 ?_
  rintro _ _ _ hp3 (⟨rfl,S9,rfl,rfl,k3⟩)
  cbv
  subst hA
  exact (W.q k3)
 ·refine W.cl j3 ?_
  rintro _ _ _ hp4 (⟨rfl,Td,rfl,rfl,k4⟩)
  cbv
  subst hA
  exact (W.q k4)
 ·refine W.cl j2 ?_
  rintro _ _ _ hp3 (⟨rfl,S9,rfl,rfl,k3⟩)
  cbv
  subst hA
  exact (W.q k3)
structure V71 (EV Q:EP):Prop where
  p9:∀ {t2:Bool} {t7:Int} {t10:RW} {t11 t12 b0 b1 b2 b3:Int},((t12 < t11→(0≤t12)∧(t10[t12.toNat]?=some (r3 t10 t12.toNat))∧(EZ G77 [] [.i (cIS t10 t12.toNat 0),.i (cIS t10 t12.toNat 1),.i (cIS t10 t12.toNat 2),.i b0,.i b1,.i b2,.i b3,.b t2] (fun x rs vs=>(x=0∧∃ SX,rs=[]∧vs=[.i SX]∧(EV 9 [] [.b t2,.i (IntKind.wrap .i64 (t7 + SX)),.r t10,.i t11,.i (IntKind.wrap .i64 (t12 + 1)),.i b0,.i b1,.i b2,.i b3])))))∧(t12≥t11→Q 0 [] [.i t7]))→EV 9 [] [.b t2,.i t7,.r t10,.i t11,.i t12,.i b0,.i b1,.i b2,.i b3]
theorem V71.of (W:Wk Tryz.prog Tryz.f71 I71 L71 Q A sg CE CK Dn EV RR):V71 EV Q:=by
 have hA:=W.hA
 refine ⟨?_⟩
 intro t2 t7 t10 t11 t12 b0 b1 b2 b3 h
 refine W.step 80 fun hp=>?_
 cbv
 refine ⟨imI hA fun e0=>have j0:=h.1 (ah (op:=.lss) hA e0);⟨ndI hA (An j0.1 (hA ▸ j0.2.1)),?_⟩,imI hA fun e0=>have j0:=h.2 (ah (op:=.lss) hA e0);(W.q j0)⟩
 refine W.cl j0.2.2 ?_
 rintro _ _ _ hp1 (⟨rfl,SX,rfl,rfl,k1⟩)
 cbv
 subst hA
 exact k1
theorem E71 {a0:RW} {v0 v1 v2 v3:Int} {a2:Bool} (h:∀ EV,V71 EV Q→EV 9 [] [.b a2,.i 0,.r a0,.i (a0.length:Int),.i 0,.i v0,.i v1,.i v2,.i v3]):EZ G71 [] [.r a0,.i v0,.i v1,.i v2,.i v3,.b a2] Q:=by
 refine ak.en (I:=I71) (L:=L71) QJ fun A hA CE CK Dn EV RR W hp=>?_
 have h:=h  EV (V71.of W)
 cbv
 subst hA
 exact h
theorem E107 {a0:Int} (h:∀ EV,VN EV Q→(a0 < 0→Q 0 [] [.i 0])∧(a0≥0→Q 0 [] [.i (IntKind.wrap .u64 a0)])):EZ G107 [] [.i a0] Q:=by
 refine ak.en (I:=I107) (L:=L107) LV fun A hA CE CK Dn EV RR W hp=>?_
 have h:=h  EV ⟨trivial⟩
 cbv
 subst hA
 exact ⟨fun e0=>have j0:=h.1 (ah (op:=.lss) rfl e0);(W.q j0),fun e0=>have j0:=h.2 (ah (op:=.lss) rfl e0);(W.q j0)⟩
structure V76 (EV Q:EP):Prop where
  p13:∀ {R0:RW} {t7 t8:Int} {t20:RW} {t21 t22 b0 b1 b2 b3:Int} {b4:RW} {b5:Int} {b6 b7 b8 b9:RW},(aB R0=true→(t22 < t21→(0≤t22)∧(t20[t22.toNat]?=some (r3 t20 t22.toNat))∧((cIS t20 t22.toNat 0)=3→EV 13 [R0] (.i (IntKind.wrap .i64 (t7 + 1))::.i t8::.r t20::.i t21::.i (IntKind.wrap .i64 (t22 + 1))::cL b0 b1 b2 b3 b4 b5 b6 b7 b8 b9 []))∧((cIS t20 t22.toNat 0)≠3→((cIS t20 t22.toNat 0)=4→EV 13 [R0] (.i (arS.mx (IntKind.wrap .i64 (t7 - 1)) 0)::.i t8::.r t20::.i t21::.i (IntKind.wrap .i64 (t22 + 1))::cL b0 b1 b2 b3 b4 b5 b6 b7 b8 b9 []))∧((cIS t20 t22.toNat 0)≠4→((cIS t20 t22.toNat 0)=5→EV 40 [R0] (.i t7::.i t8::.r t20::.i t21::.i t22::.b true::cL b0 b1 b2 b3 b4 b5 b6 b7 b8 b9 [.i (cIS t20 t22.toNat 0),.i (cIS t20 t22.toNat 1),.i (cIS t20 t22.toNat 2)]))∧((cIS t20 t22.toNat 0)≠5→EV 40 [R0] (.i t7::.i t8::.r t20::.i t21::.i t22::.b ((cIS t20 t22.toNat 0) == 6)::cL b0 b1 b2 b3 b4 b5 b6 b7 b8 b9 [.i (cIS t20 t22.toNat 0),.i (cIS t20 t22.toNat 1),.i (cIS t20 t22.toNat 2)])))))∧(t22≥t21→EV 59 [R0] (.i t7::.i t8::.i (R0.length:Int)::.i 0::cL b0 b1 b2 b3 b4 b5 b6 b7 b8 b9 [])))→EV 13 [R0] (.i t7::.i t8::.r t20::.i t21::.i t22::cL b0 b1 b2 b3 b4 b5 b6 b7 b8 b9 [])
  p40:∀ {R0:RW} {t7 t8:Int} {t20:RW} {t21 t22:Int} {t37:Bool} {b0 b1 b2 b3:Int} {b4:RW} {b5:Int} {b6 b7 b8 b9:RW} {f0 f1 f2:Int},(aB R0=true→(t37=true→(f1≥0→(f1≥(R0.length:Int)→EV 13 [R0] (.i t7::.i t8::.r t20::.i t21::.i (IntKind.wrap .i64 (t22 + 1))::cL b0 b1 b2 b3 b4 b5 b6 b7 b8 b9 []))∧(f1 < (R0.length:Int)→(f0=5→(0≤f1)∧(f1 < (R0.length:Int))∧(R0[f1.toNat]?=some [.int .i64 (cIS R0 f1.toNat 0)])∧(EV 13 [(List.set R0 f1.toNat [.int .i64 1])] (.i t7::.i t8::.r t20::.i t21::.i (IntKind.wrap .i64 (t22 + 1))::cL b0 b1 b2 b3 b4 b5 b6 b7 b8 b9 [])))∧(f0≠5→(0≤f1)∧(f1 < (R0.length:Int))∧(R0[f1.toNat]?=some [.int .i64 (cIS R0 f1.toNat 0)])∧(EV 13 [(List.set R0 f1.toNat [.int .i64 0])] (.i t7::.i t8::.r t20::.i t21::.i (IntKind.wrap .i64 (t22 + 1))::cL b0 b1 b2 b3 b4 b5 b6 b7 b8 b9 [])))))∧(f1 < 0→EV 13 [R0] (.i t7::.i t8::.r t20::.i t21::.i (IntKind.wrap .i64 (t22 + 1))::cL b0 b1 b2 b3 b4 b5 b6 b7 b8 b9 [])))∧(t37=false→EV 13 [R0] (.i t7::.i t8::.r t20::.i t21::.i (IntKind.wrap .i64 (t22 + 1))::cL b0 b1 b2 b3 b4 b5 b6 b7 b8 b9 [])))→EV 40 [R0] (.i t7::.i t8::.r t20::.i t21::.i t22::.b t37::cL b0 b1 b2 b3 b4 b5 b6 b7 b8 b9 [.i f0,.i f1,.i f2])
  p59:∀ {R0:RW} {t7 t8 t63 t64 b0 b1 b2 b3:Int} {b4:RW} {b5:Int} {b6 b7 b8 b9:RW},(aB R0=true→(t64 < t63→(0≤t64)∧(t64 < (R0.length:Int))∧(R0[t64.toNat]?=some [.int .i64 (cIS R0 t64.toNat 0)])∧((cIS R0 t64.toNat 0) > 0→(0≤t64)∧(b7[t64.toNat]?=some [.int .i64 (cIS b7 t64.toNat 0)])∧((cIS b7 t64.toNat 0) > t8→(0≤t64)∧(b7[t64.toNat]?=some [.int .i64 (cIS b7 t64.toNat 0)])∧(EV 59 [R0] (.i t7::.i (cIS b7 t64.toNat 0)::.i t63::.i (IntKind.wrap .i64 (t64 + 1))::cL b0 b1 b2 b3 b4 b5 b6 b7 b8 b9 [])))∧((cIS b7 t64.toNat 0)≤t8→EV 59 [R0] (.i t7::.i t8::.i t63::.i (IntKind.wrap .i64 (t64 + 1))::cL b0 b1 b2 b3 b4 b5 b6 b7 b8 b9 [])))∧((cIS R0 t64.toNat 0)≤0→EV 59 [R0] (.i t7::.i t8::.i t63::.i (IntKind.wrap .i64 (t64 + 1))::cL b0 b1 b2 b3 b4 b5 b6 b7 b8 b9 [])))∧(t64≥t63→(t7 > 0→Q 0 [] [.i 64])∧(t7≤0→Q 0 [] [.i t8])))→EV 59 [R0] (.i t7::.i t8::.i t63::.i t64::cL b0 b1 b2 b3 b4 b5 b6 b7 b8 b9 [])
theorem V76.of (W:Wk Tryz.prog Tryz.f76 I76 L76 Q A sg CE CK Dn EV RR):V76 EV Q:=by
 have hA:=W.hA
 refine ⟨?_,?_,?_⟩
 ·intro R0 t7 t8 t20 t21 t22 b0 b1 b2 b3 b4 b5 b6 b7 b8 b9 h
  refine W.step 80 fun hp=>?_
  have h:=h hp.1
  cbv
  subst hA
  exact ⟨fun e0=>have j0:=h.1 (ah (op:=.lss) rfl e0);⟨(An j0.1 j0.2.1),⟨fun e1=>have j1:=j0.2.2.1 ((ah (op:=.eql) rfl e1));⟨(An rfl (An rfl rfl)),⟨hp.1,j1⟩⟩,fun e1=>have j1:=j0.2.2.2 ((ah (op:=.eql) rfl e1));⟨fun e2=>have j2:=j1.1 ((ah (op:=.eql) rfl e2));⟨(An rfl (An rfl rfl)),⟨hp.1,j2⟩⟩,fun e2=>have j2:=j1.2 ((ah (op:=.eql) rfl e2));⟨fun e3=>have j3:=j2.1 ((ah (op:=.eql) rfl e3));⟨(An rfl (An rfl rfl)),⟨hp.1,j3⟩⟩,fun e3=>have j3:=j2.2 ((ah (op:=.eql) rfl e3));⟨(An rfl (An rfl rfl)),⟨hp.1,j3⟩⟩⟩⟩⟩⟩,fun e0=>have j0:=h.2 (ah (op:=.lss) rfl e0);⟨rfl,⟨(An rfl (An rfl rfl)),⟨hp.1,j0⟩⟩⟩⟩
 ·intro R0 t7 t8 t20 t21 t22 t37 b0 b1 b2 b3 b4 b5 b6 b7 b8 b9 f0 f1 f2 h
  refine W.step 80 fun hp=>?_
  have h:=h hp.1
  cbv
  subst hA
  exact ⟨fun e0=>have j0:=h.1 e0;⟨fun e1=>have j1:=j0.1 (ah (op:=.lss) rfl e1);⟨rfl,⟨fun e2=>have j2:=j1.1 ((ah (op:=.geq) rfl e2));⟨(An rfl (An rfl rfl)),⟨hp.1,j2⟩⟩,fun e2=>have j2:=j1.2 ((ah (op:=.geq) rfl e2));⟨fun e3=>have j3:=j2.1 (ah (op:=.eql) rfl e3);⟨(An j3.1 (An j3.2.1 rfl)),⟨(An rfl j3.2.2.1),⟨(An (by show R0.length=(List.length (List.set R0 f1.toNat [.int .i64 1]));(first | rfl | simp [af] | (simp [af];omega))) (An rfl (by show R0.length=(List.length (List.set R0 f1.toNat [.int .i64 1]));(first | rfl | simp [af] | (simp [af];omega))))),⟨((dU hp.1 rfl)),j3.2.2.2⟩⟩⟩⟩,fun e3=>have j3:=j2.2 (ah (op:=.eql) rfl e3);⟨(An j3.1 (An j3.2.1 rfl)),⟨(An rfl j3.2.2.1),⟨(An (by show R0.length=(List.length (List.set R0 f1.toNat [.int .i64 0]));(first | rfl | simp [af] | (simp [af];omega))) (An rfl (by show R0.length=(List.length (List.set R0 f1.toNat [.int .i64 0]));(first | rfl | simp [af] | (simp [af];omega))))),⟨((dU hp.1 rfl)),j3.2.2.2⟩⟩⟩⟩⟩⟩⟩,fun e1=>have j1:=j0.2 (ah (op:=.lss) rfl e1);⟨(An rfl (An rfl rfl)),⟨hp.1,j1⟩⟩⟩,fun e0=>have j0:=h.2 e0;⟨(An rfl (An rfl rfl)),⟨hp.1,j0⟩⟩⟩
 ·intro R0 t7 t8 t63 t64 b0 b1 b2 b3 b4 b5 b6 b7 b8 b9 h
  refine W.step 80 fun hp=>?_
  have h:=h hp.1
  cbv
  subst hA
  exact ⟨fun e0=>have j0:=h.1 (ah (op:=.lss) rfl e0);⟨(An j0.1 (An j0.2.1 rfl)),⟨(An rfl j0.2.2.1),⟨fun e1=>have j1:=j0.2.2.2.1 ((ah (op:=.gtr) rfl e1));⟨(An j1.1 j1.2.1),⟨fun e2=>have j2:=j1.2.2.1 ((ah (op:=.gtr) rfl e2));⟨(An j2.1 j2.2.1),⟨(An rfl (An rfl rfl)),⟨hp.1,j2.2.2⟩⟩⟩,fun e2=>have j2:=j1.2.2.2 ((ah (op:=.gtr) rfl e2));⟨(An rfl (An rfl rfl)),⟨hp.1,j2⟩⟩⟩⟩,fun e1=>have j1:=j0.2.2.2.2 ((ah (op:=.gtr) rfl e1));⟨(An rfl (An rfl rfl)),⟨hp.1,j1⟩⟩⟩⟩⟩,fun e0=>have j0:=h.2 (ah (op:=.lss) rfl e0);⟨fun e1=>have j1:=j0.1 (ah (op:=.gtr) rfl e1);(W.q j1),fun e1=>have j1:=j0.2 (ah (op:=.gtr) rfl e1);(W.q j1)⟩⟩
theorem E76 {u0 u1 u2 u3:Int} {u4:RW} {u5:Int} {u6 u7 u8 u9:RW} {v0 v1 v2 v3 v4 v5:Int} {v6 a2:RW} (h:∀ EV,V76 EV Q→((u7.length:Int)≤140737488355328)∧(((u7.length:Int) * ((8:Nat):Int))≤140737488355328)∧(EV 13 [(List.replicate u7.length [(AV.int .i64 0)])] (.i 0::.i v1::.r a2::.i (a2.length:Int)::.i 0::cL u0 u1 u2 u3 u4 u5 u6 u7 u8 u9 []))):EZ G76 [] (cL u0 u1 u2 u3 u4 u5 u6 u7 u8 u9 [.i v0,.i v1,.i v2,.i v3,.i v4,.i v5,.r v6,.r a2]) Q:=by
 refine ak.en (I:=I76) (L:=L76) QF fun A hA CE CK Dn EV RR W hp=>?_
 have h:=h  EV (V76.of W)
 cbv
 subst hA
 exact ⟨(An ((Int.natCast_nonneg _)) (An ((Int.le_refl _)) (An h.1 h.2.1))),⟨(An (by show u7.length=(List.length (List.replicate u7.length [(AV.int .i64 0)]));(first | rfl | simp [af] | (simp [af];omega))) (An rfl (by show u7.length=(List.length (List.replicate u7.length [(AV.int .i64 0)]));(first | rfl | simp [af] | (simp [af];omega))))),⟨((Gy rfl)),h.2.2⟩⟩⟩
structure V34 (EV Q:EP):Prop where
  p11:∀ {t2 t8 t19 t20 b0 b1 b2 b3:Int} {b4:RW} {b5:Int} {b6 b7 b8 b9:RW} {d0 d1 d2 d3 d4 d5:Int} {d6:RW},((t20 < t19→EV 27 [] (.i t2::.i t8::.i 0::.i t20::.i t19::.i t20::cL b0 b1 b2 b3 b4 b5 b6 b7 b8 b9 [.i d0,.i d1,.i d2,.i d3,.i d4,.i d5,.r d6]))∧(t20≥t19→Q 0 [] [.i t8]))→EV 11 [] (.i t2::.i t8::.i t19::.i t20::cL b0 b1 b2 b3 b4 b5 b6 b7 b8 b9 [.i d0,.i d1,.i d2,.i d3,.i d4,.i d5,.r d6])
  p27:∀ {t2 t8 t10 t11 t19 t20 b0 b1 b2 b3:Int} {b4:RW} {b5:Int} {b6 b7 b8 b9:RW} {d0 d1 d2 d3 d4 d5:Int} {d6:RW},((t11 < (d6.length:Int)→(0≤t11)∧(t11≤(d6.length:Int))∧(EZ G76 [] (cL b0 b1 b2 b3 b4 b5 b6 b7 b8 b9 [.i d0,.i d1,.i d2,.i d3,.i d4,.i d5,.r d6,.r (List.take t11.toNat d6)]) (fun x rs vs=>(x=0∧∃ SX,rs=[]∧vs=[.i SX]∧((SX < t2→(0≤(IntKind.wrap .i64 (t11 + 1)))∧((IntKind.wrap .i64 (t11 + 1))≤(d6.length:Int))∧(EZ G76 [] (cL b0 b1 b2 b3 b4 b5 b6 b7 b8 b9 [.i d0,.i d1,.i d2,.i d3,.i d4,.i d5,.r d6,.r (List.take (Int.toNat (IntKind.wrap .i64 (t11 + 1))) d6)]) (fun x rs vs=>(x=0∧∃ S9,rs=[]∧vs=[.i S9]∧(EV 38 [] (.i t2::.i t8::.i t10::.i t11::.i t19::.i t20::.b (decide (S9 < t2))::cL b0 b1 b2 b3 b4 b5 b6 b7 b8 b9 [.i d0,.i d1,.i d2,.i d3,.i d4,.i d5,.r d6]))))))∧(SX≥t2→EV 38 [] (.i t2::.i t8::.i t10::.i t11::.i t19::.i t20::.b false::cL b0 b1 b2 b3 b4 b5 b6 b7 b8 b9 [.i d0,.i d1,.i d2,.i d3,.i d4,.i d5,.r d6])))))))∧(t11≥(d6.length:Int)→EV 11 [] (.i t2::.i t8::.i t19::.i (IntKind.wrap .i64 (t20 + 1))::cL b0 b1 b2 b3 b4 b5 b6 b7 b8 b9 [.i d0,.i d1,.i d2,.i d3,.i d4,.i d5,.r d6])))→EV 27 [] (.i t2::.i t8::.i t10::.i t11::.i t19::.i t20::cL b0 b1 b2 b3 b4 b5 b6 b7 b8 b9 [.i d0,.i d1,.i d2,.i d3,.i d4,.i d5,.r d6])
  p38:∀ {t2 t8 t10 t11 t19 t20:Int} {t51:Bool} {b0 b1 b2 b3:Int} {b4:RW} {b5:Int} {b6 b7 b8 b9:RW} {d0 d1 d2 d3 d4 d5:Int} {d6:RW},((t51=true→EV 11 [] (.i t2::.i t8::.i t19::.i (IntKind.wrap .i64 (t20 + 1))::cL b0 b1 b2 b3 b4 b5 b6 b7 b8 b9 [.i d0,.i d1,.i d2,.i d3,.i d4,.i d5,.r d6]))∧(t51=false→(0≤t11)∧(d6[t11.toNat]?=some (r3 d6 t11.toNat))∧(EZ G77 [] [.i (cIS d6 t11.toNat 0),.i (cIS d6 t11.toNat 1),.i (cIS d6 t11.toNat 2),.i b0,.i b1,.i b2,.i b3,.b false] (fun x rs vs=>(x=0∧∃ SX,rs=[]∧vs=[.i SX]∧(EV 27 [] (.i t2::.i (arS.mx t8 (IntKind.wrap .i64 (t10 + SX)))::.i (IntKind.wrap .i64 (t10 + SX))::.i (IntKind.wrap .i64 (t11 + 1))::.i t19::.i t20::cL b0 b1 b2 b3 b4 b5 b6 b7 b8 b9 [.i d0,.i d1,.i d2,.i d3,.i d4,.i d5,.r d6])))))))→EV 38 [] (.i t2::.i t8::.i t10::.i t11::.i t19::.i t20::.b t51::cL b0 b1 b2 b3 b4 b5 b6 b7 b8 b9 [.i d0,.i d1,.i d2,.i d3,.i d4,.i d5,.r d6])
theorem V34.of (W:Wk Tryz.prog Tryz.f34 I34 L34 Q A sg CE CK Dn EV RR):V34 EV Q:=by
 have hA:=W.hA
 refine ⟨?_,?_,?_⟩
 ·intro t2 t8 t19 t20 b0 b1 b2 b3 b4 b5 b6 b7 b8 b9 d0 d1 d2 d3 d4 d5 d6 h
  refine W.step 80 fun hp=>?_
  cbv
  subst hA
  exact ⟨fun e0=>have j0:=h.1 (ah (op:=.lss) rfl e0);j0,fun e0=>have j0:=h.2 (ah (op:=.lss) rfl e0);(W.q j0)⟩
 ·intro t2 t8 t10 t11 t19 t20 b0 b1 b2 b3 b4 b5 b6 b7 b8 b9 d0 d1 d2 d3 d4 d5 d6 h
  refine W.step 80 fun hp=>?_
  cbv
  refine ⟨imI hA fun e0=>have j0:=h.1 (by subst hA;exact (ah (op:=.lss) rfl e0));⟨ndI hA (An j0.1 (hA ▸ j0.2.1)),⟨?_,trivial⟩⟩,imI hA fun e0=>have j0:=h.2 (by subst hA;exact (ah (op:=.lss) rfl e0));(hA ▸ j0)⟩
  refine W.cd j0.2.2 ?_
  rintro _ _ _ hp1 (⟨rfl,SX,rfl,rfl,k1⟩)
  cbv
  refine W.draw 80 (by rfl) ?_
  cbv
  refine ⟨fun e2=>have c2:SX < t2:=(by have q:=(ah (op:=.lss) hA e2);subst hA;exact q);?_,fun e2=>have c2:SX≥t2:=(by have q:=(ah (op:=.lss) hA e2);subst hA;exact q);?_⟩
  ·refine W.draw 80 (by rfl) ?_
   cbv
   refine ⟨ndI hA (An (hA ▸ (k1.1 c2).1) (hA ▸ (k1.1 c2).2.1)),⟨?_,trivial⟩⟩
   refine W.cd (k1.1 c2).2.2 ?_
   rintro _ _ _ hp3 (⟨rfl,S9,rfl,rfl,k3⟩)
   cbv
   refine W.draw 80 (by rfl) ?_
   cbv
   subst hA
   exact k3
  ·refine W.draw 80 (by rfl) ?_
   cbv
   subst hA
   exact ⟨(k1.2 c2),trivial⟩
 ·intro t2 t8 t10 t11 t19 t20 t51 b0 b1 b2 b3 b4 b5 b6 b7 b8 b9 d0 d1 d2 d3 d4 d5 d6 h
  refine W.step 80 fun hp=>?_
  cbv
  refine ⟨imI hA fun e0=>have j0:=h.1 e0;(hA ▸ j0),imI hA fun e0=>have j0:=h.2 e0;⟨ndI hA (An j0.1 (hA ▸ j0.2.1)),⟨?_,trivial⟩⟩⟩
  refine W.cd j0.2.2 ?_
  rintro _ _ _ hp1 (⟨rfl,SX,rfl,rfl,k1⟩)
  cbv
  refine W.draw 80 (by rfl) ?_
  cbv
  subst hA
  exact k1
theorem E34 {u0 u1 u2 u3:Int} {u4:RW} {u5:Int} {u6 u7 u8 u9:RW} {a1 a2:Int} (h:∀ EV,V34 EV Q→(0≤a1)∧(u8[a1.toNat]?=some (r7 u8 a1.toNat))∧(EV 11 [] (.i a2::.i 0::.i ((List.length (cRS u8 a1.toNat 6)):Int)::.i 0::cL u0 u1 u2 u3 u4 u5 u6 u7 u8 u9 [.i (cIS u8 a1.toNat 0),.i (cIS u8 a1.toNat 1),.i (cIS u8 a1.toNat 2),.i (cIS u8 a1.toNat 3),.i (cIS u8 a1.toNat 4),.i (cIS u8 a1.toNat 5),.r (cRS u8 a1.toNat 6)]))):EZ G34 [] (cL u0 u1 u2 u3 u4 u5 u6 u7 u8 u9 [.i a1,.i a2]) Q:=by
 refine ak.en (I:=I34) (L:=L34) Rz fun A hA CE CK Dn EV RR W hp=>?_
 have h:=h  EV (V34.of W)
 cbv
 subst hA
 exact ⟨(An h.1 h.2.1),h.2.2⟩
structure V102 (EV Q:EP):Prop where
  p16:∀ {t8 t9 b0 b1 b2 b3 b4 b5:Int} {b6:RW},((b5 > 0→EZ G107 [] [.i b5] (fun x rs vs=>(x=0∧∃ SX,rs=[]∧vs=[.i SX]∧(Q 0 [] [.i (arS.mn t8 (IntKind.wrap .u64 (SX + (IntKind.wrap .u64 (2 * t9)))))]))))∧(b5≤0→Q 0 [] [.i (arS.mn t8 t9)]))→EV 16 [] [.i t8,.i t9,.i b0,.i b1,.i b2,.i b3,.i b4,.i b5,.r b6]
theorem V102.of (W:Wk Tryz.prog Tryz.f102 I102 L102 Q A sg CE CK Dn EV RR):V102 EV Q:=by
 have hA:=W.hA
 refine ⟨?_⟩
 intro t8 t9 b0 b1 b2 b3 b4 b5 b6 h
 refine W.step 80 fun hp=>?_
 cbv
 refine ⟨imI hA fun e0=>have j0:=h.1 (ah (op:=.gtr) hA e0);?_,imI hA fun e0=>have j0:=h.2 (ah (op:=.gtr) hA e0);(W.q (hA ▸ j0))⟩
 refine W.cl j0 ?_
 rintro _ _ _ hp1 (⟨rfl,SX,rfl,rfl,k1⟩)
 cbv
 subst hA
 exact (W.q k1)
theorem E102 {u0 u1 u2 u3:Int} {u4:RW} {u5:Int} {u6 u7 u8 u9:RW} {a1 a2:Int} (h:∀ EV,V102 EV Q→(0≤a1)∧(u8[a1.toNat]?=some (r7 u8 a1.toNat))∧(EZ G71 [] [.r (cRS u8 a1.toNat 6),.i u0,.i u1,.i u2,.i u3,.b false] (fun x rs vs=>(x=0∧∃ SS,rs=[]∧vs=[.i SS]∧(EZ G107 [] [.i SS] (fun x rs vs=>(x=0∧∃ SX,rs=[]∧vs=[.i SX]∧((0≤a2)∧(u8[a2.toNat]?=some (r7 u8 a2.toNat))∧((cIS u8 a1.toNat 1)≥(cIS u8 a2.toNat 0)→Q 0 [] [.i SX])∧((cIS u8 a1.toNat 1) < (cIS u8 a2.toNat 0)→(0≤a2)∧(u8[a2.toNat]?=some (r7 u8 a2.toNat))∧(EZ G34 [] (cL u0 u1 u2 u3 u4 u5 u6 u7 u8 u9 [.i a1,.i (cIS u8 a2.toNat 0)]) (fun x rs vs=>(x=0∧∃ S9,rs=[]∧vs=[.i S9]∧(EZ G107 [] [.i S9] (fun x rs vs=>(x=0∧∃ Td,rs=[]∧vs=[.i Td]∧(EV 16 [] [.i SX,.i Td,.i (cIS u8 a1.toNat 0),.i (cIS u8 a1.toNat 1),.i (cIS u8 a1.toNat 2),.i (cIS u8 a1.toNat 3),.i (cIS u8 a1.toNat 4),.i (cIS u8 a1.toNat 5),.r (cRS u8 a1.toNat 6)])))))))))))))))):EZ G102 [] (cL u0 u1 u2 u3 u4 u5 u6 u7 u8 u9 [.i a1,.i a2]) Q:=by
 refine ak.en (I:=I102) (L:=L102) LX fun A hA CE CK Dn EV RR W hp=>?_
 have h:=h  EV (V102.of W)
 cbv
 refine ⟨ndI hA (An h.1 (hA ▸ h.2.1)),?_⟩
 refine W.cl h.2.2 ?_
 rintro _ _ _ hp0 (⟨rfl,SS,rfl,rfl,k0⟩)
 cbv
 refine W.cl k0 ?_
 rintro _ _ _ hp1 (⟨rfl,SX,rfl,rfl,k1⟩)
 cbv
 refine ⟨ndI hA (An k1.1 (hA ▸ k1.2.1)),⟨imI hA fun e2=>have j2:=k1.2.2.1 (by subst hA;exact (ah (op:=.geq) rfl e2));(W.q j2),imI hA fun e2=>have j2:=k1.2.2.2 (by subst hA;exact (ah (op:=.geq) rfl e2));⟨ndI hA (An j2.1 (hA ▸ j2.2.1)),⟨?_,trivial⟩⟩⟩⟩
 refine W.cd j2.2.2 ?_
 rintro _ _ _ hp3 (⟨rfl,S9,rfl,rfl,k3⟩)
 cbv
 refine W.draw 80 (by rfl) ?_
 cbv
 refine ⟨?_,trivial⟩
 refine W.cd k3 ?_
 rintro _ _ _ hp4 (⟨rfl,Td,rfl,rfl,k4⟩)
 cbv
 refine W.draw 80 (by rfl) ?_
 cbv
 subst hA
 exact k4
structure V66 (EV Q:EP):Prop where
  p9:∀ {t1 t5:Int} {t9:RW} {t10 t11 b0 b1 b2 b3:Int} {b4:RW} {b5:Int} {b6 b7 b8 b9:RW},((t11 < t10→(0≤t11)∧(t9[t11.toNat]?=some (r7 t9 t11.toNat))∧(0≤t1)∧(b8[t1.toNat]?=some (r7 b8 t1.toNat))∧((cIS t9 t11.toNat 0) < (cIS b8 t1.toNat 0)→EZ G102 [] (cL b0 b1 b2 b3 b4 b5 b6 b7 b8 b9 [.i t11,.i t1]) (fun x rs vs=>(x=0∧∃ SY,rs=[]∧vs=[.i SY]∧(EV 9 [] (.i t1::.i (arS.mx t5 SY)::.r t9::.i t10::.i (IntKind.wrap .i64 (t11 + 1))::cL b0 b1 b2 b3 b4 b5 b6 b7 b8 b9 [])))))∧((cIS t9 t11.toNat 0)≥(cIS b8 t1.toNat 0)→EV 9 [] (.i t1::.i t5::.r t9::.i t10::.i (IntKind.wrap .i64 (t11 + 1))::cL b0 b1 b2 b3 b4 b5 b6 b7 b8 b9 [])))∧(t11≥t10→Q 0 [] [.i t5]))→EV 9 [] (.i t1::.i t5::.r t9::.i t10::.i t11::cL b0 b1 b2 b3 b4 b5 b6 b7 b8 b9 [])
theorem V66.of (W:Wk Tryz.prog Tryz.f66 I66 L66 Q A sg CE CK Dn EV RR):V66 EV Q:=by
 have hA:=W.hA
 refine ⟨?_⟩
 intro t1 t5 t9 t10 t11 b0 b1 b2 b3 b4 b5 b6 b7 b8 b9 h
 refine W.step 80 fun hp=>?_
 cbv
 refine ⟨imI hA fun e0=>have j0:=h.1 (ah (op:=.lss) hA e0);⟨ndI hA (An j0.1 (hA ▸ j0.2.1)),⟨ndI hA (An j0.2.2.1 (hA ▸ j0.2.2.2.1)),⟨imI hA fun e1=>have j1:=j0.2.2.2.2.1 (by subst hA;exact (ah (op:=.lss) rfl e1));?_,imI hA fun e1=>have j1:=j0.2.2.2.2.2 (by subst hA;exact (ah (op:=.lss) rfl e1));(hA ▸ j1)⟩⟩⟩,imI hA fun e0=>have j0:=h.2 (ah (op:=.lss) hA e0);(W.q j0)⟩
 refine W.cl j1 ?_
 rintro _ _ _ hp2 (⟨rfl,SY,rfl,rfl,k2⟩)
 cbv
 subst hA
 exact k2
theorem E66 {u0 u1 u2 u3:Int} {u4:RW} {u5:Int} {u6 u7 u8 u9:RW} {a1:Int} (h:∀ EV,V66 EV Q→EV 9 [] (.i a1::.i 0::.r u8::.i (u8.length:Int)::.i 0::cL u0 u1 u2 u3 u4 u5 u6 u7 u8 u9 [])):EZ G66 [] (cL u0 u1 u2 u3 u4 u5 u6 u7 u8 u9 [.i a1]) Q:=by
 refine ak.en (I:=I66) (L:=L66) QK fun A hA CE CK Dn EV RR W hp=>?_
 have h:=h  EV (V66.of W)
 cbv
 subst hA
 exact h
theorem E27 {u0 u1 u2 u3:Int} {u4:RW} {u5:Int} {u6 u7 u8 u9:RW} {a1:Int} (h:∀ EV,VN EV Q→(0≤a1)∧(u8[a1.toNat]?=some (r7 u8 a1.toNat))∧(EZ G71 [] [.r (cRS u8 a1.toNat 6),.i u0,.i u1,.i u2,.i u3,.b false] (fun x rs vs=>(x=0∧∃ SS,rs=[]∧vs=[.i SS]∧(Q 0 [] [.i (IntKind.wrap .u64 SS)]))))):EZ G27 [] (cL u0 u1 u2 u3 u4 u5 u6 u7 u8 u9 [.i a1]) Q:=by
 refine ak.en (I:=I27) (L:=L27) RN fun A hA CE CK Dn EV RR W hp=>?_
 have h:=h  EV ⟨trivial⟩
 cbv
 refine ⟨ndI hA (An h.1 (hA ▸ h.2.1)),⟨?_,trivial⟩⟩
 refine W.cd h.2.2 ?_
 rintro _ _ _ hp0 (⟨rfl,SS,rfl,rfl,k0⟩)
 cbv
 refine W.draw 80 (by rfl) ?_
 cbv
 subst hA
 exact (W.q k0)
theorem E106 {a0 a1:Int} (h:∀ EV,VN EV Q→(a0=0→Q 0 [] [.i 0])∧(a0≠0→(a1≠0→(a0=18446744073709551615→Q 0 [] [.i 18446744073709551615])∧(a0≠18446744073709551615→(a1≠0)∧((IntKind.wrap .u64 ((IntKind.wrap .u64 (Int.tdiv a0 a1)) * a1))≠a0→Q 0 [] [.i (IntKind.wrap .u64 ((IntKind.wrap .u64 (Int.tdiv a0 a1)) + 1))])∧((IntKind.wrap .u64 ((IntKind.wrap .u64 (Int.tdiv a0 a1)) * a1))=a0→Q 0 [] [.i (IntKind.wrap .u64 (Int.tdiv a0 a1))])))∧(a1=0→Q 0 [] [.i 18446744073709551615]))):EZ G106 [] [.i a0,.i a1] Q:=by
 refine ak.en (I:=I106) (L:=L106) LW fun A hA CE CK Dn EV RR W hp=>?_
 have h:=h  EV ⟨trivial⟩
 cbv
 subst hA
 exact ⟨fun e0=>have j0:=h.1 (ah (op:=.eql) rfl e0);(W.q j0),fun e0=>have j0:=h.2 (ah (op:=.eql) rfl e0);⟨fun e1=>have j1:=j0.1 (ah (op:=.eql) rfl e1);⟨fun e2=>have j2:=j1.1 (ah (op:=.eql) rfl e2);(W.q j2),fun e2=>have j2:=j1.2 (ah (op:=.eql) rfl e2);⟨j2.1,⟨fun e3=>have j3:=j2.2.1 ((ah (op:=.neq) rfl e3));(W.q j3),fun e3=>have j3:=j2.2.2 ((ah (op:=.neq) rfl e3));(W.q j3)⟩⟩⟩,fun e1=>have j1:=j0.2 (ah (op:=.eql) rfl e1);(W.q j1)⟩⟩
theorem E25 {a0 a1:Int} (h:∀ EV,VN EV Q→(a0 > (IntKind.wrap .u64 (18446744073709551615 - a1))→Q 0 [] [.i 18446744073709551615])∧(a0≤(IntKind.wrap .u64 (18446744073709551615 - a1))→Q 0 [] [.i (IntKind.wrap .u64 (a0 + a1))])):EZ G25 [] [.i a0,.i a1] Q:=by
 refine ak.en (I:=I25) (L:=L25) RQ fun A hA CE CK Dn EV RR W hp=>?_
 have h:=h  EV ⟨trivial⟩
 cbv
 subst hA
 exact ⟨fun e0=>have j0:=h.1 ((ah (op:=.gtr) rfl e0));(W.q j0),fun e0=>have j0:=h.2 ((ah (op:=.gtr) rfl e0));(W.q j0)⟩
theorem E26 {a0 a1:Int} (h:∀ EV,VN EV Q→(a0≠0→(a1=0→Q 0 [] [.i 0])∧(a1≠0→((Int.tmod a1 2)=0→EZ G26 [] [.i a0,.i (IntKind.wrap .u64 (Int.tdiv a1 2))] (fun x rs vs=>(x=0∧∃ S9,rs=[]∧vs=[.i S9]∧(EZ G25 [] [.i S9,.i S9] (fun x rs vs=>(x=0∧∃ Td,rs=[]∧vs=[.i Td]∧(Q 0 [] [.i Td])))))))∧((Int.tmod a1 2)≠0→EZ G26 [] [.i a0,.i (IntKind.wrap .u64 (a1 - 1))] (fun x rs vs=>(x=0∧∃ S9,rs=[]∧vs=[.i S9]∧(EZ G25 [] [.i a0,.i S9] (fun x rs vs=>(x=0∧∃ Td,rs=[]∧vs=[.i Td]∧(Q 0 [] [.i Td])))))))))∧(a0=0→Q 0 [] [.i 0])):EZ G26 [] [.i a0,.i a1] Q:=by
 refine ak.en (I:=I26) (L:=L26) RP fun A hA CE CK Dn EV RR W hp=>?_
 have h:=h  EV ⟨trivial⟩
 cbv
 refine ⟨imI hA fun e0=>have j0:=h.1 (ah (op:=.eql) hA e0);⟨imI hA fun e1=>have j1:=j0.1 (ah (op:=.eql) hA e1);(W.q j1),imI hA fun e1=>have j1:=j0.2 (ah (op:=.eql) hA e1);⟨ndI hA (show _≠_ by decide),⟨imI hA fun e2=>have j2:=j1.1 (by subst hA;exact (ah (op:=.eql) rfl e2));⟨ndI hA (show _≠_ by decide),?_⟩,imI hA fun e2=>have j2:=j1.2 (by subst hA;exact (ah (op:=.eql) rfl e2));?_⟩⟩⟩,imI hA fun e0=>have j0:=h.2 (ah (op:=.eql) hA e0);(W.q j0)⟩
 ·refine W.cl j2 ?_
  rintro _ _ _ hp3 (⟨rfl,S9,rfl,rfl,k3⟩)
  cbv
  refine W.cl k3 ?_
  rintro _ _ _ hp4 (⟨rfl,Td,rfl,rfl,k4⟩)
  cbv
  subst hA
  exact (W.q k4)
 ·refine W.cl j2 ?_
  rintro _ _ _ hp3 (⟨rfl,S9,rfl,rfl,k3⟩)
  cbv
  refine W.cl k3 ?_
  rintro _ _ _ hp4 (⟨rfl,Td,rfl,rfl,k4⟩)
  cbv
  subst hA
  exact (W.q k4)
structure V138 (EV Q:EP):Prop where
  p9:∀ {t1 t2:RW} {t3 t9 t13 t14:Int},((t14 < t13→(0≤t14)∧(t1[t14.toNat]?=some [.int .u64 (cIS t1 t14.toNat 0)])∧(t2[t14.toNat]?=some [.int .u64 (cIS t2 t14.toNat 0)])∧(EZ G106 [] [.i t3,.i (cIS t2 t14.toNat 0)] (fun x rs vs=>(x=0∧∃ SX,rs=[]∧vs=[.i SX]∧(EZ G26 [] [.i (cIS t1 t14.toNat 0),.i SX] (fun x rs vs=>(x=0∧∃ SY,rs=[]∧vs=[.i SY]∧(EZ G25 [] [.i t9,.i SY] (fun x rs vs=>(x=0∧∃ S9,rs=[]∧vs=[.i S9]∧(EV 9 [] [.r t1,.r t2,.i t3,.i S9,.i t13,.i (IntKind.wrap .i64 (t14 + 1))])))))))))))∧(t14≥t13→Q 0 [] [.i t9]))→EV 9 [] [.r t1,.r t2,.i t3,.i t9,.i t13,.i t14]
theorem V138.of (W:Wk Tryz.prog Tryz.f138 I138 L138 Q A sg CE CK Dn EV RR):V138 EV Q:=by
 have hA:=W.hA
 refine ⟨?_⟩
 intro t1 t2 t3 t9 t13 t14 h
 refine W.step 80 fun hp=>?_
 cbv
 refine ⟨imI hA fun e0=>have j0:=h.1 (ah (op:=.lss) hA e0);⟨ndI hA (An j0.1 (hA ▸ j0.2.1)),⟨ndI hA (An j0.1 (hA ▸ j0.2.2.1)),⟨?_,trivial⟩⟩⟩,imI hA fun e0=>have j0:=h.2 (ah (op:=.lss) hA e0);(W.q j0)⟩
 refine W.cd j0.2.2.2 ?_
 rintro _ _ _ hp1 (⟨rfl,SX,rfl,rfl,k1⟩)
 cbv
 refine W.draw 80 (by rfl) ?_
 cbv
 refine ⟨?_,trivial⟩
 refine W.cd k1 ?_
 rintro _ _ _ hp2 (⟨rfl,SY,rfl,rfl,k2⟩)
 cbv
 refine W.draw 80 (by rfl) ?_
 cbv
 refine ⟨?_,trivial⟩
 refine W.cd k2 ?_
 rintro _ _ _ hp3 (⟨rfl,S9,rfl,rfl,k3⟩)
 cbv
 refine W.draw 80 (by rfl) ?_
 cbv
 subst hA
 exact k3
theorem E138 {a0:Int} {a1 a2:RW} {a3:Int} (h:∀ EV,V138 EV Q→EV 9 [] [.r a1,.r a2,.i a3,.i a0,.i (a1.length:Int),.i 0]):EZ G138 [] [.i a0,.r a1,.r a2,.i a3] Q:=by
 refine ak.en (I:=I138) (L:=L138) KR fun A hA CE CK Dn EV RR W hp=>?_
 have h:=h  EV (V138.of W)
 cbv
 subst hA
 exact h
structure V101 (EV Q:EP):Prop where
  p7:∀ {t0:Int} {t1 t2:RW} {t3 t9:Int},((t9≤t3→EZ G138 [] [.i t0,.r t1,.r t2,.i t9] (fun x rs vs=>(x=0∧∃ SX,rs=[]∧vs=[.i SX]∧((SX≤t9→Q 0 [] [.i t9])∧(SX > t9→EV 7 [] [.i t0,.r t1,.r t2,.i t3,.i (IntKind.wrap .u64 (t9 + 1))])))))∧(t9 > t3→Q 0 [] [.i 0]))→EV 7 [] [.i t0,.r t1,.r t2,.i t3,.i t9]
theorem V101.of (W:Wk Tryz.prog Tryz.f101 I101 L101 Q A sg CE CK Dn EV RR):V101 EV Q:=by
 have hA:=W.hA
 refine ⟨?_⟩
 intro t0 t1 t2 t3 t9 h
 refine W.step 80 fun hp=>?_
 cbv
 refine ⟨imI hA fun e0=>have j0:=h.1 (ah (op:=.leq) hA e0);?_,imI hA fun e0=>have j0:=h.2 (ah (op:=.leq) hA e0);(W.q j0)⟩
 refine W.cl j0 ?_
 rintro _ _ _ hp1 (⟨rfl,SX,rfl,rfl,k1⟩)
 cbv
 subst hA
 exact ⟨fun e2=>have j2:=k1.1 (ah (op:=.leq) rfl e2);(W.q j2),fun e2=>have j2:=k1.2 (ah (op:=.leq) rfl e2);j2⟩
theorem E101 {a0:Int} {a1 a2:RW} {a3:Int} (h:∀ EV,V101 EV Q→EV 7 [] [.i a0,.r a1,.r a2,.i a3,.i 1]):EZ G101 [] [.i a0,.r a1,.r a2,.i a3] Q:=by
 refine ak.en (I:=I101) (L:=L101) LY fun A hA CE CK Dn EV RR W hp=>?_
 have h:=h  EV (V101.of W)
 cbv
 subst hA
 exact h
structure V65 (EV Q:EP):Prop where
  p9:∀ {R0 R1:RW} {t1 t2 t3:Int} {t14:RW} {t15 t16 b0 b1 b2 b3:Int} {b4:RW} {b5:Int} {b6 b7 b8 b9:RW},(aB R0=true→aB R1=true→(t16 < t15→(0≤t16)∧(t14[t16.toNat]?=some (r7 t14 t16.toNat))∧(0≤t1)∧(b8[t1.toNat]?=some (r7 b8 t1.toNat))∧((cIS t14 t16.toNat 0)≥(cIS b8 t1.toNat 0)→∃ SY,EZ G27 [] (cL b0 b1 b2 b3 b4 b5 b6 b7 b8 b9 [.i t16]) (fun x rs vs=>x=0∧rs=[]∧vs=[.i SY])∧(((R0.length + (List.length (List.take 1 (List.drop 0 [[(AV.int .u64 SY)]]))))≤140737488355328)∧(((R0.length + (List.length (List.take 1 (List.drop 0 [[(AV.int .u64 SY)]])))) * 8)≤140737488355328)∧((R1.length + (List.length (List.take 1 (List.drop 0 [[(AV.int .u64 (IntKind.wrap .u64 (cIS t14 t16.toNat 2)))]]))))≤140737488355328)∧(((R1.length + (List.length (List.take 1 (List.drop 0 [[(AV.int .u64 (IntKind.wrap .u64 (cIS t14 t16.toNat 2)))]])))) * 8)≤140737488355328)∧(EV 9 [(R0++(List.take 1 (List.drop 0 [[(AV.int .u64 SY)]]))),(R1++(List.take 1 (List.drop 0 [[(AV.int .u64 (IntKind.wrap .u64 (cIS t14 t16.toNat 2)))]])))] (.i t1::.i t2::.i t3::.r t14::.i t15::.i (IntKind.wrap .i64 (t16 + 1))::cL b0 b1 b2 b3 b4 b5 b6 b7 b8 b9 []))))∧((cIS t14 t16.toNat 0) < (cIS b8 t1.toNat 0)→EV 9 [R0,R1] (.i t1::.i t2::.i t3::.r t14::.i t15::.i (IntKind.wrap .i64 (t16 + 1))::cL b0 b1 b2 b3 b4 b5 b6 b7 b8 b9 [])))∧(t16≥t15→EZ G101 [] [.i t2,.r (List.take R0.length (List.drop 0 R0)),.r (List.take R1.length (List.drop 0 R1)),.i t3] (fun x rs vs=>(x=0∧∃ SX,rs=[]∧vs=[.i SX]∧(Q 0 [] [.i SX])))))→EV 9 [R0,R1] (.i t1::.i t2::.i t3::.r t14::.i t15::.i t16::cL b0 b1 b2 b3 b4 b5 b6 b7 b8 b9 [])
theorem V65.of (W:Wk Tryz.prog Tryz.f65 I65 L65 Q A sg CE CK Dn EV RR):V65 EV Q:=by
 have hA:=W.hA
 refine ⟨?_⟩
 intro R0 R1 t1 t2 t3 t14 t15 t16 b0 b1 b2 b3 b4 b5 b6 b7 b8 b9 h
 refine W.step 80 fun hp=>?_
 have h:=h hp.1 hp.2.1
 cbv
 refine ⟨imI hA fun e0=>have j0:=h.1 (ah (op:=.lss) hA e0);⟨ndI hA (An j0.1 (hA ▸ j0.2.1)),⟨ndI hA (An j0.2.2.1 (hA ▸ j0.2.2.2.1)),⟨imI hA fun e1=>have j1:=j0.2.2.2.2.1 (by subst hA;exact (ah (op:=.geq) rfl e1));?_,imI hA fun e1=>have j1:=j0.2.2.2.2.2 (by subst hA;exact (ah (op:=.geq) rfl e1));⟨ndI hA (An rfl (An rfl rfl)),⟨ndI hA (An rfl (An rfl rfl)),⟨ndI hA hp.1,⟨ndI hA hp.2.1,(hA ▸ j1)⟩⟩⟩⟩⟩⟩⟩,imI hA fun e0=>have j0:=h.2 (ah (op:=.lss) hA e0);⟨ndI hA (An (An hp.1 (An hp.2.1 trivial)) (An rfl trivial)),⟨ndI hA (An (An hp.2.1 trivial) (An rfl trivial)),?_⟩⟩⟩
 ·obtain ⟨SY,he2,hk2⟩:=j1
  refine ⟨(AV.int .u64 SY),?_⟩
  cbv
  refine ⟨?_,?_⟩
  · refine W.cd he2 ?_
    rintro _ _ _ _ ⟨rfl,rfl,rfl⟩
    cbv
    try first | exact ⟨rfl,rfl⟩ | rfl
  refine W.draw 80 (by rfl) ?_
  cbv
  refine ⟨⟨⟨ndI hA (An (hA ▸ rfl) (by subst hA;show (0 + 1)≤1;(first | rfl | simp [af] | (simp [af];omega)))),⟨ndI hA (An rfl (An (Nat.le_refl _) (An (hA ▸ hk2.1) (hA ▸ hk2.2.1)))),?_⟩⟩,⟨⟨⟨ndI hA (An (hA ▸ rfl) (by subst hA;show (0 + 1)≤1;(first | rfl | simp [af] | (simp [af];omega)))),⟨ndI hA (An rfl (An (Nat.le_refl _) (An (hA ▸ hk2.1) (hA ▸ hk2.2.1)))),?_⟩⟩,⟨⟨⟨ndI hA (An (hA ▸ rfl) (by subst hA;show (0 + 1)≤1;(first | rfl | simp [af] | (simp [af];omega)))),⟨ndI hA (An rfl (An (Nat.le_refl _) (An (hA ▸ hk2.1) (hA ▸ hk2.2.1)))),?_⟩⟩,trivial⟩,trivial⟩⟩,trivial⟩⟩,⟨⟨⟨⟨ndI hA (An (hA ▸ rfl) (by subst hA;show (0 + 1)≤1;(first | rfl | simp [af] | (simp [af];omega)))),⟨ndI hA (An rfl (An (Nat.le_refl _) (An (hA ▸ hk2.1) (hA ▸ hk2.2.1)))),?_⟩⟩,⟨⟨⟨ndI hA (An (hA ▸ rfl) (by subst hA;show (0 + 1)≤1;(first | rfl | simp [af] | (simp [af];omega)))),⟨ndI hA (An rfl (An (Nat.le_refl _) (An (hA ▸ hk2.1) (hA ▸ hk2.2.1)))),?_⟩⟩,trivial⟩,trivial⟩⟩,⟨⟨⟨⟨ndI hA (An (hA ▸ rfl) (by subst hA;show (0 + 1)≤1;(first | rfl | simp [af] | (simp [af];omega)))),⟨ndI hA (An rfl (An (Nat.le_refl _) (An (hA ▸ hk2.1) (hA ▸ hk2.2.1)))),?_⟩⟩,trivial⟩,trivial⟩,trivial⟩⟩,trivial⟩⟩
  ·refine W.draw 80 (by rfl) ?_
   cbv
   refine ⟨⟨⟨⟨ndI hA (An (hA ▸ rfl) (by subst hA;show (0 + 1)≤1;(first | rfl | simp [af] | (simp [af];omega)))),⟨ndI hA (An rfl (An (Nat.le_refl _) (An (hA ▸ hk2.2.2.1) (hA ▸ hk2.2.2.2.1)))),?_⟩⟩,trivial⟩,trivial⟩,trivial⟩
   refine W.draw 80 (by rfl) ?_
   cbv
   subst hA
   exact ⟨(An rfl (An rfl (by show (R0.length + (List.length (List.take 1 (List.drop 0 [[(AV.int .u64 SY)]]))))=(List.length (aP R0 R0.length (List.take 1 (List.drop 0 [[(AV.int .u64 SY)]]))));(first | rfl | simp [af] | (simp [af];omega))))),⟨(An rfl (An rfl (by show (R1.length + (List.length (List.take 1 (List.drop 0 [[(AV.int .u64 (IntKind.wrap .u64 (cIS t14 t16.toNat 2)))]]))))=(List.length (aP R1 R1.length (List.take 1 (List.drop 0 [[(AV.int .u64 (IntKind.wrap .u64 (cIS t14 t16.toNat 2)))]]))));(first | rfl | simp [af] | (simp [af];omega))))),⟨((fA hp.1 (dw (dA aQ)))),⟨((fA hp.2.1 (dw (dA aQ)))),(by show EV 9 [(aP R0 R0.length (List.take 1 (List.drop 0 [[(AV.int .u64 SY)]]))),(aP R1 R1.length (List.take 1 (List.drop 0 [[(AV.int .u64 (IntKind.wrap .u64 (cIS t14 t16.toNat 2)))]])))] (.i t1::.i t2::.i t3::.r t14::.i t15::.i (IntKind.wrap .i64 (t16 + 1))::cL b0 b1 b2 b3 b4 b5 b6 b7 b8 b9 []);(try simp only [af,Nat.zero_add,Int.toNat_natCast]);exact hk2.2.2.2.2)⟩⟩⟩⟩
  ·refine W.draw 80 (by rfl) ?_
   cbv
   refine ⟨⟨⟨ndI hA (An (hA ▸ rfl) (by subst hA;show (0 + 1)≤1;(first | rfl | simp [af] | (simp [af];omega)))),⟨ndI hA (An rfl (An (Nat.le_refl _) (An (hA ▸ hk2.2.2.1) (hA ▸ hk2.2.2.2.1)))),?_⟩⟩,trivial⟩,trivial⟩
   refine W.draw 80 (by rfl) ?_
   cbv
   subst hA
   exact ⟨(An rfl (An rfl (by show (R0.length + (List.length (List.take 1 (List.drop 0 [[(AV.int .u64 SY)]]))))=(List.length (aP R0 R0.length (List.take 1 (List.drop 0 [[(AV.int .u64 SY)]]))));(first | rfl | simp [af] | (simp [af];omega))))),⟨(An rfl (An rfl (by show (R1.length + (List.length (List.take 1 (List.drop 0 [[(AV.int .u64 (IntKind.wrap .u64 (cIS t14 t16.toNat 2)))]]))))=(List.length (aP R1 R1.length (List.take 1 (List.drop 0 [[(AV.int .u64 (IntKind.wrap .u64 (cIS t14 t16.toNat 2)))]]))));(first | rfl | simp [af] | (simp [af];omega))))),⟨((fA hp.1 (dw (dA aQ)))),⟨((fA hp.2.1 (dw (dA aQ)))),(by show EV 9 [(aP R0 R0.length (List.take 1 (List.drop 0 [[(AV.int .u64 SY)]]))),(aP R1 R1.length (List.take 1 (List.drop 0 [[(AV.int .u64 (IntKind.wrap .u64 (cIS t14 t16.toNat 2)))]])))] (.i t1::.i t2::.i t3::.r t14::.i t15::.i (IntKind.wrap .i64 (t16 + 1))::cL b0 b1 b2 b3 b4 b5 b6 b7 b8 b9 []);(try simp only [af,Nat.zero_add,Int.toNat_natCast]);exact hk2.2.2.2.2)⟩⟩⟩⟩
  ·refine W.draw 80 (by rfl) ?_
   cbv
   refine ⟨⟨ndI hA (An (hA ▸ rfl) (by subst hA;show (0 + 1)≤1;(first | rfl | simp [af] | (simp [af];omega)))),⟨ndI hA (An rfl (An (Nat.le_refl _) (An (hA ▸ hk2.2.2.1) (hA ▸ hk2.2.2.2.1)))),?_⟩⟩,trivial⟩
   refine W.draw 80 (by rfl) ?_
   cbv
   subst hA
   exact ⟨(An rfl (An rfl (by show (R0.length + (List.length (List.take 1 (List.drop 0 [[(AV.int .u64 SY)]]))))=(List.length (aP R0 R0.length (List.take 1 (List.drop 0 [[(AV.int .u64 SY)]]))));(first | rfl | simp [af] | (simp [af];omega))))),⟨(An rfl (An rfl (by show (R1.length + (List.length (List.take 1 (List.drop 0 [[(AV.int .u64 (IntKind.wrap .u64 (cIS t14 t16.toNat 2)))]]))))=(List.length (aP R1 R1.length (List.take 1 (List.drop 0 [[(AV.int .u64 (IntKind.wrap .u64 (cIS t14 t16.toNat 2)))]]))));(first | rfl | simp [af] | (simp [af];omega))))),⟨((fA hp.1 (dw (dA aQ)))),⟨((fA hp.2.1 (dw (dA aQ)))),(by show EV 9 [(aP R0 R0.length (List.take 1 (List.drop 0 [[(AV.int .u64 SY)]]))),(aP R1 R1.length (List.take 1 (List.drop 0 [[(AV.int .u64 (IntKind.wrap .u64 (cIS t14 t16.toNat 2)))]])))] (.i t1::.i t2::.i t3::.r t14::.i t15::.i (IntKind.wrap .i64 (t16 + 1))::cL b0 b1 b2 b3 b4 b5 b6 b7 b8 b9 []);(try simp only [af,Nat.zero_add,Int.toNat_natCast]);exact hk2.2.2.2.2)⟩⟩⟩⟩
  ·refine W.draw 80 (by rfl) ?_
   cbv
   refine ⟨⟨⟨ndI hA (An (hA ▸ rfl) (by subst hA;show (0 + 1)≤1;(first | rfl | simp [af] | (simp [af];omega)))),⟨ndI hA (An rfl (An (Nat.le_refl _) (An (hA ▸ hk2.2.2.1) (hA ▸ hk2.2.2.2.1)))),?_⟩⟩,trivial⟩,trivial⟩
   refine W.draw 80 (by rfl) ?_
   cbv
   subst hA
   exact ⟨(An rfl (An rfl (by show (R0.length + (List.length (List.take 1 (List.drop 0 [[(AV.int .u64 SY)]]))))=(List.length (aP R0 R0.length (List.take 1 (List.drop 0 [[(AV.int .u64 SY)]]))));(first | rfl | simp [af] | (simp [af];omega))))),⟨(An rfl (An rfl (by show (R1.length + (List.length (List.take 1 (List.drop 0 [[(AV.int .u64 (IntKind.wrap .u64 (cIS t14 t16.toNat 2)))]]))))=(List.length (aP R1 R1.length (List.take 1 (List.drop 0 [[(AV.int .u64 (IntKind.wrap .u64 (cIS t14 t16.toNat 2)))]]))));(first | rfl | simp [af] | (simp [af];omega))))),⟨((fA hp.1 (dw (dA aQ)))),⟨((fA hp.2.1 (dw (dA aQ)))),(by show EV 9 [(aP R0 R0.length (List.take 1 (List.drop 0 [[(AV.int .u64 SY)]]))),(aP R1 R1.length (List.take 1 (List.drop 0 [[(AV.int .u64 (IntKind.wrap .u64 (cIS t14 t16.toNat 2)))]])))] (.i t1::.i t2::.i t3::.r t14::.i t15::.i (IntKind.wrap .i64 (t16 + 1))::cL b0 b1 b2 b3 b4 b5 b6 b7 b8 b9 []);(try simp only [af,Nat.zero_add,Int.toNat_natCast]);exact hk2.2.2.2.2)⟩⟩⟩⟩
  ·refine W.draw 80 (by rfl) ?_
   cbv
   refine ⟨⟨ndI hA (An (hA ▸ rfl) (by subst hA;show (0 + 1)≤1;(first | rfl | simp [af] | (simp [af];omega)))),⟨ndI hA (An rfl (An (Nat.le_refl _) (An (hA ▸ hk2.2.2.1) (hA ▸ hk2.2.2.2.1)))),?_⟩⟩,trivial⟩
   refine W.draw 80 (by rfl) ?_
   cbv
   subst hA
   exact ⟨(An rfl (An rfl (by show (R0.length + (List.length (List.take 1 (List.drop 0 [[(AV.int .u64 SY)]]))))=(List.length (aP R0 R0.length (List.take 1 (List.drop 0 [[(AV.int .u64 SY)]]))));(first | rfl | simp [af] | (simp [af];omega))))),⟨(An rfl (An rfl (by show (R1.length + (List.length (List.take 1 (List.drop 0 [[(AV.int .u64 (IntKind.wrap .u64 (cIS t14 t16.toNat 2)))]]))))=(List.length (aP R1 R1.length (List.take 1 (List.drop 0 [[(AV.int .u64 (IntKind.wrap .u64 (cIS t14 t16.toNat 2)))]]))));(first | rfl | simp [af] | (simp [af];omega))))),⟨((fA hp.1 (dw (dA aQ)))),⟨((fA hp.2.1 (dw (dA aQ)))),(by show EV 9 [(aP R0 R0.length (List.take 1 (List.drop 0 [[(AV.int .u64 SY)]]))),(aP R1 R1.length (List.take 1 (List.drop 0 [[(AV.int .u64 (IntKind.wrap .u64 (cIS t14 t16.toNat 2)))]])))] (.i t1::.i t2::.i t3::.r t14::.i t15::.i (IntKind.wrap .i64 (t16 + 1))::cL b0 b1 b2 b3 b4 b5 b6 b7 b8 b9 []);(try simp only [af,Nat.zero_add,Int.toNat_natCast]);exact hk2.2.2.2.2)⟩⟩⟩⟩
  ·refine W.draw 80 (by rfl) ?_
   cbv
   refine ⟨⟨ndI hA (An (hA ▸ rfl) (by subst hA;show (0 + 1)≤1;(first | rfl | simp [af] | (simp [af];omega)))),⟨ndI hA (An rfl (An (Nat.le_refl _) (An (hA ▸ hk2.2.2.1) (hA ▸ hk2.2.2.2.1)))),?_⟩⟩,trivial⟩
   refine W.draw 80 (by rfl) ?_
   cbv
   subst hA
   exact ⟨(An rfl (An rfl (by show (R0.length + (List.length (List.take 1 (List.drop 0 [[(AV.int .u64 SY)]]))))=(List.length (aP R0 R0.length (List.take 1 (List.drop 0 [[(AV.int .u64 SY)]]))));(first | rfl | simp [af] | (simp [af];omega))))),⟨(An rfl (An rfl (by show (R1.length + (List.length (List.take 1 (List.drop 0 [[(AV.int .u64 (IntKind.wrap .u64 (cIS t14 t16.toNat 2)))]]))))=(List.length (aP R1 R1.length (List.take 1 (List.drop 0 [[(AV.int .u64 (IntKind.wrap .u64 (cIS t14 t16.toNat 2)))]]))));(first | rfl | simp [af] | (simp [af];omega))))),⟨((fA hp.1 (dw (dA aQ)))),⟨((fA hp.2.1 (dw (dA aQ)))),(by show EV 9 [(aP R0 R0.length (List.take 1 (List.drop 0 [[(AV.int .u64 SY)]]))),(aP R1 R1.length (List.take 1 (List.drop 0 [[(AV.int .u64 (IntKind.wrap .u64 (cIS t14 t16.toNat 2)))]])))] (.i t1::.i t2::.i t3::.r t14::.i t15::.i (IntKind.wrap .i64 (t16 + 1))::cL b0 b1 b2 b3 b4 b5 b6 b7 b8 b9 []);(try simp only [af,Nat.zero_add,Int.toNat_natCast]);exact hk2.2.2.2.2)⟩⟩⟩⟩
 ·refine W.cl j0 ?_
  rintro _ _ _ hp1 (⟨rfl,SX,rfl,rfl,k1⟩)
  cbv
  subst hA
  exact (W.q k1)
theorem E65 {u0 u1 u2 u3:Int} {u4:RW} {u5:Int} {u6 u7 u8 u9:RW} {a1 a2 a3:Int} (h:∀ EV,V65 EV Q→EV 9 [[],[]] (.i a1::.i a2::.i a3::.r u8::.i (u8.length:Int)::.i 0::cL u0 u1 u2 u3 u4 u5 u6 u7 u8 u9 [])):EZ G65 [] (cL u0 u1 u2 u3 u4 u5 u6 u7 u8 u9 [.i a1,.i a2,.i a3]) Q:=by
 refine ak.en (I:=I65) (L:=L65) QL fun A hA CE CK Dn EV RR W hp=>?_
 have h:=h  EV (V65.of W)
 cbv
 subst hA
 exact ⟨(An rfl (An rfl rfl)),⟨(An rfl (An rfl rfl)),⟨aQ,⟨aQ,h⟩⟩⟩⟩
structure V21 (EV Q:EP):Prop where
  p7:∀ {t6:RW} {t7 t8 b0 b1 b2 b3:Int} {b4:RW} {b5:Int} {b6 b7 b8 b9:RW},((t8 < t7→(0≤t8)∧(t6[t8.toNat]?=some (r7 t6 t8.toNat))∧(EZ G66 [] (cL b0 b1 b2 b3 b4 b5 b6 b7 b8 b9 [.i t8]) (fun x rs vs=>(x=0∧∃ SX,rs=[]∧vs=[.i SX]∧(EZ G65 [] (cL b0 b1 b2 b3 b4 b5 b6 b7 b8 b9 [.i t8,.i SX,.i (IntKind.wrap .u64 (cIS t6 t8.toNat 3))]) (fun x rs vs=>(x=0∧∃ SY,rs=[]∧vs=[.i SY]∧(EV 19 [] (.r t6::.i t7::.i t8::.b (SY == 0)::cL b0 b1 b2 b3 b4 b5 b6 b7 b8 b9 [])))))))))∧(t8≥t7→Q 0 [] [.b true]))→EV 7 [] (.r t6::.i t7::.i t8::cL b0 b1 b2 b3 b4 b5 b6 b7 b8 b9 [])
  p19:∀ {t6:RW} {t7 t8:Int} {t22:Bool} {b0 b1 b2 b3:Int} {b4:RW} {b5:Int} {b6 b7 b8 b9:RW},((t22=true→Q 0 [] [.b false])∧(t22=false→EV 7 [] (.r t6::.i t7::.i (IntKind.wrap .i64 (t8 + 1))::cL b0 b1 b2 b3 b4 b5 b6 b7 b8 b9 [])))→EV 19 [] (.r t6::.i t7::.i t8::.b t22::cL b0 b1 b2 b3 b4 b5 b6 b7 b8 b9 [])
theorem V21.of (W:Wk Tryz.prog Tryz.f21 I21 L21 Q A sg CE CK Dn EV RR):V21 EV Q:=by
 have hA:=W.hA
 refine ⟨?_,?_⟩
 ·intro t6 t7 t8 b0 b1 b2 b3 b4 b5 b6 b7 b8 b9 h
  refine W.step 80 fun hp=>?_
  cbv
  refine ⟨imI hA fun e0=>have j0:=h.1 (ah (op:=.lss) hA e0);⟨ndI hA (An j0.1 (hA ▸ j0.2.1)),⟨?_,trivial⟩⟩,imI hA fun e0=>have j0:=h.2 (ah (op:=.lss) hA e0);(W.q j0)⟩
  refine W.cd j0.2.2 ?_
  rintro _ _ _ hp1 (⟨rfl,SX,rfl,rfl,k1⟩)
  cbv
  refine W.draw 80 (by rfl) ?_
  cbv
  refine ⟨?_,trivial⟩
  refine W.cd k1 ?_
  rintro _ _ _ hp2 (⟨rfl,SY,rfl,rfl,k2⟩)
  cbv
  refine W.draw 80 (by rfl) ?_
  cbv
  subst hA
  exact k2
 ·intro t6 t7 t8 t22 b0 b1 b2 b3 b4 b5 b6 b7 b8 b9 h
  refine W.step 80 fun hp=>?_
  cbv
  subst hA
  exact ⟨fun e0=>have j0:=h.1 e0;(W.q j0),fun e0=>have j0:=h.2 e0;j0⟩
theorem E21 {u0 u1 u2 u3:Int} {u4:RW} {u5:Int} {u6 u7 u8 u9:RW} (h:∀ EV,V21 EV Q→EV 7 [] (.r u8::.i (u8.length:Int)::.i 0::cL u0 u1 u2 u3 u4 u5 u6 u7 u8 u9 [])):EZ G21 [] (cL u0 u1 u2 u3 u4 u5 u6 u7 u8 u9 []) Q:=by
 refine ak.en (I:=I21) (L:=L21) RY fun A hA CE CK Dn EV RR W hp=>?_
 have h:=h  EV (V21.of W)
 cbv
 subst hA
 exact h
end Go.Ab
