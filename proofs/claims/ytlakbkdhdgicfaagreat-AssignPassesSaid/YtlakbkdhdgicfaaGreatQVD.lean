import Derived.Test.YtlakbkdhdgicfaaGreatQS
import Derived.Test.YtlakbkdhdgicfaaGreatLayE
/- PRINTED BY A PROGRAM (wip/tools/vc.py, AbVc.lean): what is to be shown of each function, from place to place, and that it is enough. -/
namespace Go.Ab
open Go Go.Proofs
set_option linter.unusedVariables false
set_option linter.unusedSimpArgs false
set_option maxRecDepth 100000
set_option maxHeartbeats 0
variable {Q EV RR:EP} {A:Ar} {CE:Nat→Rs→List Lf→EP→Prop} {CK:Nat→Rs→List Lf→Cont→Prop} {Dn:Nat→List Bool→List bf→Nat→List Bool→List AV→List aj→Prop}
theorem E72  (h:∀ EV,VN EV Q→Q 0 [[[(AV.int .i64 1),(AV.int .i64 1),(AV.int .i64 10),(AV.int .i64 10),(AV.int .i64 0),(AV.int .i64 0),(AV.inl 3 [[(AV.int .i64 3),(AV.int .i64 0),(AV.int .i64 0)],[(AV.int .i64 1),(AV.int .i64 5),(AV.int .i64 0)],[(AV.int .i64 4),(AV.int .i64 0),(AV.int .i64 0)]])]]] [.i 1,.i 1,.i 1,.i 5,.i 0]):EZ G72 [] [] Q:=by
 refine ak.en (I:=I72) (L:=L72) QI fun A hA CE CK Dn EV RR W hp=>?_
 have h:=h  EV ⟨trivial⟩
 cbv
 subst hA
 exact ⟨(An rfl (An rfl rfl)),⟨aQ,(W.q h)⟩⟩
theorem E74 {u0 u1 u2 u3:Int} {u4:RW} {u5:Int} {u6 u7 u8 u9:RW} {a1:Int} (h:∀ EV,VN EV Q→(a1≥0→Q 0 [] [.b (decide (a1 < (u8.length:Int)))])∧(a1 < 0→Q 0 [] [.b false])):EZ G74 [] (cL u0 u1 u2 u3 u4 u5 u6 u7 u8 u9 [.i a1]) Q:=by
 refine ak.en (I:=I74) (L:=L74) IB fun A hA CE CK Dn EV RR W hp=>?_
 have h:=h  EV ⟨trivial⟩
 cbv
 subst hA
 exact ⟨fun e0=>have j0:=h.1 (ah (op:=.geq) rfl e0);(W.q j0),fun e0=>have j0:=h.2 (ah (op:=.geq) rfl e0);(W.q j0)⟩
theorem E78 {a0:RW} (h:∀ EV,VN EV Q→((a0.length:Int)=0→Q 0 [[]] [])∧(a0.length≤140737488355328)∧((a0.length * 72)≤140737488355328)∧(aB a0=true)∧(Q 0 [a0] [])):EZ G78 [] [.r a0] Q:=by
 refine ak.en (I:=I78) (L:=L78) QD fun A hA CE CK Dn EV RR W hp=>?_
 have h:=h  EV ⟨trivial⟩
 cbv
 subst hA
 exact ⟨fun e0=>have j0:=h.1 ((ah (op:=.eql) rfl e0));⟨(An rfl (An rfl rfl)),⟨aQ,(W.q j0)⟩⟩,⟨(An h.2.1 h.2.2.1),⟨(An rfl (An rfl rfl)),⟨h.2.2.2.1,(W.q h.2.2.2.2)⟩⟩⟩⟩
theorem E74a {R0:RW} {u0 u1 u2 u3:Int} {u4:RW} {u5:Int} {u6 u7 u8:RW} {a1:Int} (h:aB R0=true→∀ EV,VN EV Q→(a1≥0→Q 0 [R0] [.b (decide (a1 < (R0.length:Int)))])∧(a1 < 0→Q 0 [R0] [.b false])):EZ G74a [R0] [.i u0,.i u1,.i u2,.i u3,.r u4,.i u5,.r u6,.r u7,.r u8,.i a1] Q:=by
 refine ak.en (I:=I74a) (L:=L74a) IB fun A hA CE CK Dn EV RR W hp=>?_
 have h:=h hp.1 EV ⟨trivial⟩
 cbv
 subst hA
 exact ⟨fun e0=>have j0:=h.1 (ah (op:=.geq) rfl e0);⟨rfl,⟨hp.1,(W.q j0)⟩⟩,fun e0=>have j0:=h.2 (ah (op:=.geq) rfl e0);⟨hp.1,(W.q j0)⟩⟩
theorem E35 {u0 u1 u2 u3:Int} {u4:RW} {u5:Int} {u6 u7 u8 u9:RW} {a1 a2:Int} (h:∀ EV,VN EV Q→EZ G78 [] [.r u8] (fun x rs vs=>(x=0∧∃ SV,rs=[SV]∧vs=[]∧(EZ G74a [SV] [.i u0,.i u1,.i u2,.i u3,.r u4,.i u5,.r u6,.r u7,.r u9,.i a1] (fun x rs vs=>(x=0∧∃ Tc SX,rs=[Tc]∧vs=[.b SX]∧((SX=true→(0≤a1)∧(a1 < (SV.length:Int))∧(SV.length=Tc.length)∧(Tc[a1.toNat]?=some (r7 Tc a1.toNat))∧(SV.length=(List.length (List.set Tc a1.toNat [.int .i64 (cIS Tc a1.toNat 0),.int .i64 (cIS Tc a1.toNat 1),.int .i64 (cIS Tc a1.toNat 2),.int .i64 (cIS Tc a1.toNat 3),.int .i64 (cIS Tc a1.toNat 4),.int .i64 a2,.inl 3 (cRS Tc a1.toNat 6)])))∧(Q 0 [] (cL u0 u1 u2 u3 u4 u5 u6 u7 (List.take SV.length (List.drop 0 (List.set Tc a1.toNat [.int .i64 (cIS Tc a1.toNat 0),.int .i64 (cIS Tc a1.toNat 1),.int .i64 (cIS Tc a1.toNat 2),.int .i64 (cIS Tc a1.toNat 3),.int .i64 (cIS Tc a1.toNat 4),.int .i64 a2,.inl 3 (cRS Tc a1.toNat 6)]))) u9 [])))∧(SX=false→(SV.length=Tc.length)∧(Q 0 [] (cL u0 u1 u2 u3 u4 u5 u6 u7 (List.take SV.length (List.drop 0 Tc)) u9 [])))))))))):EZ G35 [] (cL u0 u1 u2 u3 u4 u5 u6 u7 u8 u9 [.i a1,.i a2]) Q:=by
 refine ak.en (I:=I35) (L:=L35) Ry fun A hA CE CK Dn EV RR W hp=>?_
 have h:=h  EV ⟨trivial⟩
 cbv
 refine W.cl h ?_
 rintro _ _ _ hp0 (⟨rfl,SV,rfl,rfl,k0⟩)
 cbv
 refine ⟨ndI hA (An rfl (An rfl rfl)),⟨ndI hA hp0.1,?_⟩⟩
 refine W.cl k0 ?_
 rintro _ _ _ hp1 (⟨rfl,Tc,SX,rfl,rfl,k1⟩)
 cbv
 subst hA
 exact ⟨fun e2=>have j2:=k1.1 e2;⟨(An j2.1 (An j2.2.1 j2.2.2.1)),⟨(An j2.2.2.1 j2.2.2.2.1),⟨(An (An ((dU hp1.1 rfl)) trivial) (An (An j2.2.2.2.2.1 trivial) trivial)),⟨(An (An j2.2.2.2.2.1 trivial) (An (An j2.2.2.2.2.1 trivial) trivial)),(W.q j2.2.2.2.2.2)⟩⟩⟩⟩,fun e2=>have j2:=k1.2 e2;⟨(An (An hp1.1 trivial) (An (An j2.1 trivial) trivial)),⟨(An (An j2.1 trivial) (An (An j2.1 trivial) trivial)),(W.q j2.2)⟩⟩⟩
theorem E73 {a0 b0 b1 b2 b3:Int} {b4:RW} {b5:Int} {b6 b7 b8 b9:RW} {ab1:Int} (h:∀ EV,VN EV Q→EZ G35 [] (cL b0 b1 b2 b3 b4 b5 b6 b7 b8 b9 [.i ab1,.i a0]) (fun x rs vs=>(x=0∧∃ y0a0 y0a1 y0a2 y0a3 y0a4 y0a5 y0a6 y0a7 y0a8 y0a9,rs=[]∧vs=(cL y0a0 y0a1 y0a2 y0a3 y0a4 y0a5 y0a6 y0a7 y0a8 y0a9 [])∧(EZ G19 [] (cL y0a0 y0a1 y0a2 y0a3 y0a4 y0a5 y0a6 y0a7 y0a8 y0a9 []) (fun x rs vs=>(x=0∧∃ SX,rs=[]∧vs=[.b SX]∧(Q 0 [] (.b SX::cL b0 b1 b2 b3 b4 b5 b6 b7 b8 b9 [.i ab1])))))))):EZ G73 [] (.i a0::cL b0 b1 b2 b3 b4 b5 b6 b7 b8 b9 [.i ab1]) Q:=by
 refine ak.en (I:=I73) (L:=L73) QH fun A hA CE CK Dn EV RR W hp=>?_
 have h:=h  EV ⟨trivial⟩
 cbv
 refine W.cl h ?_
 rintro _ _ _ hp0 (⟨rfl,y0a0,y0a1,y0a2,y0a3,y0a4,y0a5,y0a6,y0a7,y0a8,y0a9,rfl,rfl,k0⟩)
 cbv
 refine W.cl k0 ?_
 rintro _ _ _ hp1 (⟨rfl,SX,rfl,rfl,k1⟩)
 cbv
 subst hA
 exact (W.q k1)
structure V30 (EV Q:EP):Prop where
  p17:∀ {t7 t8 b0 b1 b2 b3:Int} {b4:RW} {b5:Int} {b6 b7 b8 b9:RW} {tb1:Int},(((IntKind.wrap .i64 (t8 - t7)) > 1→EZ G73 [] (.i (IntKind.wrap .i64 (Int.tdiv (IntKind.wrap .i64 (t7 + t8)) 2))::cL b0 b1 b2 b3 b4 b5 b6 b7 b8 b9 [.i tb1]) (fun x rs vs=>(x=0∧∃ SX Tj Ti Tu Tt Tq Tn Tm TA Tz Tv Uy,rs=[]∧vs=(.b SX::cL Tj Ti Tu Tt Tq Tn Tm TA Tz Tv [.i Uy])∧((SX=true→EV 17 [] (.i (IntKind.wrap .i64 (Int.tdiv (IntKind.wrap .i64 (t7 + t8)) 2))::.i t8::cL Tj Ti Tu Tt Tq Tn Tm TA Tz Tv [.i Uy]))∧(SX=false→EV 17 [] (.i t7::.i (IntKind.wrap .i64 (Int.tdiv (IntKind.wrap .i64 (t7 + t8)) 2))::cL Tj Ti Tu Tt Tq Tn Tm TA Tz Tv [.i Uy]))))))∧((IntKind.wrap .i64 (t8 - t7))≤1→Q 0 [] [.i t7,.b true]))→EV 17 [] (.i t7::.i t8::cL b0 b1 b2 b3 b4 b5 b6 b7 b8 b9 [.i tb1])
theorem V30.of (W:Wk Tryz.prog Tryz.f30 I30 L30 Q A sg CE CK Dn EV RR):V30 EV Q:=by
 have hA:=W.hA
 refine ⟨?_⟩
 intro t7 t8 b0 b1 b2 b3 b4 b5 b6 b7 b8 b9 tb1 h
 refine W.step 80 fun hp=>?_
 cbv
 refine ⟨imI hA fun e0=>have j0:=h.1 (by subst hA;exact (ah (op:=.gtr) rfl e0));⟨ndI hA (show _≠_ by decide),?_⟩,imI hA fun e0=>have j0:=h.2 (by subst hA;exact (ah (op:=.gtr) rfl e0));(W.q j0)⟩
 refine W.cl j0 ?_
 rintro _ _ _ hp1 (⟨rfl,SX,Tj,Ti,Tu,Tt,Tq,Tn,Tm,TA,Tz,Tv,Uy,rfl,rfl,k1⟩)
 cbv
 subst hA
 exact ⟨fun e2=>have j2:=k1.1 e2;j2,fun e2=>have j2:=k1.2 e2;j2⟩
theorem E30 {u0 u1 u2 u3:Int} {u4:RW} {u5:Int} {u6 u7 u8 u9:RW} {a1:Int} (h:∀ EV,V30 EV Q→EZ G74 [] (cL u0 u1 u2 u3 u4 u5 u6 u7 u8 u9 [.i a1]) (fun x rs vs=>(x=0∧∃ SS,rs=[]∧vs=[.b SS]∧((SS=true→EZ G73 [] (.i 0::cL u0 u1 u2 u3 u4 u5 u6 u7 u8 u9 [.i a1]) (fun x rs vs=>(x=0∧∃ SY VT VS VR VQ VP VO VM VL VK VJ WZ,rs=[]∧vs=(.b SY::cL VT VS VR VQ VP VO VM VL VK VJ [.i WZ])∧((SY=false→Q 0 [] [.i 0,.b false])∧(SY=true→EV 17 [] (.i 0::.i 1048577::cL VT VS VR VQ VP VO VM VL VK VJ [.i WZ]))))))∧(SS=false→Q 0 [] [.i 0,.b false]))))):EZ G30 [] (cL u0 u1 u2 u3 u4 u5 u6 u7 u8 u9 [.i a1]) Q:=by
 refine ak.en (I:=I30) (L:=L30) RH fun A hA CE CK Dn EV RR W hp=>?_
 have h:=h  EV (V30.of W)
 cbv
 refine W.cl h ?_
 rintro _ _ _ hp0 (⟨rfl,SS,rfl,rfl,k0⟩)
 cbv
 refine ⟨imI hA fun e1=>have j1:=k0.1 (by subst hA;exact (notE rfl e1));?_,imI hA fun e1=>have j1:=k0.2 (by subst hA;exact (notE rfl e1));(W.q j1)⟩
 refine W.cl j1 ?_
 rintro _ _ _ hp2 (⟨rfl,SY,VT,VS,VR,VQ,VP,VO,VM,VL,VK,VJ,WZ,rfl,rfl,k2⟩)
 cbv
 subst hA
 exact ⟨fun e3=>have j3:=k2.1 ((notE rfl e3));(W.q j3),fun e3=>have j3:=k2.2 ((notE rfl e3));j3⟩
structure V32 (EV Q:EP):Prop where
  p9:∀ {R0:RW} {t10 t11 b0 b1 b2 b3:Int} {b4:RW} {b5:Int} {b6 b7 b8 b9:RW},(aB R0=true→(t11 < t10→EZ G30 [] (cL b0 b1 b2 b3 b4 b5 b6 b7 b8 b9 [.i t11]) (fun x rs vs=>(x=0∧∃ SX Ue,rs=[]∧vs=[.i SX,.b Ue]∧((Ue=false→Q 0 [[]] [.b false])∧(Ue=true→((R0.length + (List.length (List.take 1 (List.drop 0 [[(AV.int .i64 SX)]]))))≤140737488355328)∧(((R0.length + (List.length (List.take 1 (List.drop 0 [[(AV.int .i64 SX)]])))) * 8)≤140737488355328)∧(EV 9 [(R0++(List.take 1 (List.drop 0 [[(AV.int .i64 SX)]])))] (.i t10::.i (IntKind.wrap .i64 (t11 + 1))::cL b0 b1 b2 b3 b4 b5 b6 b7 b8 b9 [])))))))∧(t11≥t10→Q 0 [R0] [.b true]))→EV 9 [R0] (.i t10::.i t11::cL b0 b1 b2 b3 b4 b5 b6 b7 b8 b9 [])
theorem V32.of (W:Wk Tryz.prog Tryz.f32 I32 L32 Q A sg CE CK Dn EV RR):V32 EV Q:=by
 have hA:=W.hA
 refine ⟨?_⟩
 intro R0 t10 t11 b0 b1 b2 b3 b4 b5 b6 b7 b8 b9 h
 refine W.step 80 fun hp=>?_
 have h:=h hp.1
 cbv
 refine ⟨imI hA fun e0=>have j0:=h.1 (ah (op:=.lss) hA e0);?_,imI hA fun e0=>have j0:=h.2 (ah (op:=.lss) hA e0);⟨ndI hA (An rfl (An rfl rfl)),⟨ndI hA hp.1,(W.q j0)⟩⟩⟩
 refine W.cl j0 ?_
 rintro _ _ _ hp1 (⟨rfl,SX,Ue,rfl,rfl,k1⟩)
 cbv
 subst hA
 exact ⟨fun e2=>have j2:=k1.1 ((notE rfl e2));⟨(An rfl (An rfl rfl)),⟨aQ,(W.q j2)⟩⟩,fun e2=>have j2:=k1.2 ((notE rfl e2));⟨(An rfl (by show (0 + 1)≤1;(first | rfl | simp [af] | (simp [af];omega)))),⟨(An rfl (An (Nat.le_refl _) (An j2.1 j2.2.1))),⟨(An rfl (An rfl (by show (R0.length + (List.length (List.take 1 (List.drop 0 [[(AV.int .i64 SX)]]))))=(List.length (aP R0 R0.length (List.take 1 (List.drop 0 [[(AV.int .i64 SX)]]))));(first | rfl | simp [af] | (simp [af];omega))))),⟨((fA hp.1 (dw (dA aQ)))),(by show EV 9 [(aP R0 R0.length (List.take 1 (List.drop 0 [[(AV.int .i64 SX)]])))] (.i t10::.i (IntKind.wrap .i64 (t11 + 1))::cL b0 b1 b2 b3 b4 b5 b6 b7 b8 b9 []);(try simp only [af,Nat.zero_add,Int.toNat_natCast]);exact j2.2.2)⟩⟩⟩⟩⟩
theorem E32 {u0 u1 u2 u3:Int} {u4:RW} {u5:Int} {u6 u7 u8 u9:RW} (h:∀ EV,V32 EV Q→EV 9 [[]] (.i (u8.length:Int)::.i 0::cL u0 u1 u2 u3 u4 u5 u6 u7 u8 u9 [])):EZ G32 [] (cL u0 u1 u2 u3 u4 u5 u6 u7 u8 u9 []) Q:=by
 refine ak.en (I:=I32) (L:=L32) RF fun A hA CE CK Dn EV RR W hp=>?_
 have h:=h  EV (V32.of W)
 cbv
 subst hA
 exact ⟨(An rfl (An rfl rfl)),⟨aQ,h⟩⟩
theorem E33 {u0 u1 u2 u3:Int} {u4:RW} {u5:Int} {u6 u7 u8 u9:RW} {a1:Int} (h:∀ EV,VN EV Q→EZ G75 [] (cL u0 u1 u2 u3 u4 u5 u6 u7 u8 u9 [.i a1,.i 64]) (fun x rs vs=>(x=0∧∃ SS,rs=[]∧vs=[.i SS]∧(Q 0 [] [.i SS])))):EZ G33 [] (cL u0 u1 u2 u3 u4 u5 u6 u7 u8 u9 [.i a1]) Q:=by
 refine ak.en (I:=I33) (L:=L33) RD fun A hA CE CK Dn EV RR W hp=>?_
 have h:=h  EV ⟨trivial⟩
 cbv
 refine W.cl h ?_
 rintro _ _ _ hp0 (⟨rfl,SS,rfl,rfl,k0⟩)
 cbv
 subst hA
 exact (W.q k0)
theorem E28  (h:∀ EV,VN EV Q→EZ G72 [] [] (fun x rs vs=>(x=0∧∃ SV y0a0 y0a1 y0a2 y0a3 y0a4,rs=[SV]∧vs=[.i y0a0,.i y0a1,.i y0a2,.i y0a3,.i y0a4]∧(EZ G30 [] (cL y0a0 y0a1 y0a2 y0a3 ([]) y0a4 ([]) ([]) (List.take SV.length (List.drop 0 SV)) ([]) [.i 0]) (fun x rs vs=>(x=0∧∃ SX Ue,rs=[]∧vs=[.i SX,.b Ue]∧(EZ G72 [] [] (fun x rs vs=>(x=0∧∃ Tf y2a0 y2a1 y2a2 y2a3 y2a4,rs=[Tf]∧vs=[.i y2a0,.i y2a1,.i y2a2,.i y2a3,.i y2a4]∧(EZ G30 [] (cL y2a0 y2a1 y2a2 y2a3 ([]) y2a4 ([]) ([]) (List.take Tf.length (List.drop 0 Tf)) ([]) [.i 1]) (fun x rs vs=>(x=0∧∃ S9 Ux,rs=[]∧vs=[.i S9,.b Ux]∧(EZ G72 [] [] (fun x rs vs=>(x=0∧∃ Ve y4a0 y4a1 y4a2 y4a3 y4a4,rs=[Ve]∧vs=[.i y4a0,.i y4a1,.i y4a2,.i y4a3,.i y4a4]∧(EZ G32 [] (cL y4a0 y4a1 y4a2 y4a3 ([]) y4a4 ([]) ([]) (List.take Ve.length (List.drop 0 Ve)) ([]) []) (fun x rs vs=>(x=0∧∃ TN Un,rs=[TN]∧vs=[.b Un]∧((Ue=true→(SX=1048576→(Ux=false→(Un=true→((TN.length:Int)=1→EZ G72 [] [] (fun x rs vs=>(x=0∧∃ WW y11a0 y11a1 y11a2 y11a3 y11a4,rs=[WW]∧vs=[.i y11a0,.i y11a1,.i y11a2,.i y11a3,.i y11a4]∧(EZ G35 [] (cL y11a0 y11a1 y11a2 y11a3 ([]) y11a4 ([]) ([]) (List.take WW.length (List.drop 0 WW)) ([]) [.i 0,.i 7]) (fun x rs vs=>(x=0∧∃ y12a0 y12a1 y12a2 y12a3 y12a4 y12a5 y12a6 y12a7 y12a8 y12a9,rs=[]∧vs=(cL y12a0 y12a1 y12a2 y12a3 y12a4 y12a5 y12a6 y12a7 y12a8 y12a9 [])∧((y12a8[(Int.toNat 0)]?=some (r7 y12a8 (Int.toNat 0)))∧((cIS y12a8 (Int.toNat 0) 5)=7→EZ G72 [] [] (fun x rs vs=>(x=0∧∃ Vq y14a0 y14a1 y14a2 y14a3 y14a4,rs=[Vq]∧vs=[.i y14a0,.i y14a1,.i y14a2,.i y14a3,.i y14a4]∧(EZ G33 [] (cL y14a0 y14a1 y14a2 y14a3 ([]) y14a4 ([]) ([]) (List.take Vq.length (List.drop 0 Vq)) ([]) [.i 0]) (fun x rs vs=>(x=0∧∃ W9,rs=[]∧vs=[.i W9]∧(Q 0 [] [.b (W9 == 7)])))))))∧((cIS y12a8 (Int.toNat 0) 5)≠7→Q 0 [] [.b false]))))))))∧((TN.length:Int)≠1→Q 0 [] [.b false]))∧(Un=false→Q 0 [] [.b false]))∧(Ux=true→Q 0 [] [.b false]))∧(SX≠1048576→Q 0 [] [.b false]))∧(Ue=false→Q 0 [] [.b false])))))))))))))))))))):EZ G28 [] [] Q:=by
 refine ak.en (I:=I28) (L:=L28) RJ fun A hA CE CK Dn EV RR W hp=>?_
 have h:=h  EV ⟨trivial⟩
 cbv
 refine W.cl h ?_
 rintro _ _ _ hp0 (⟨rfl,SV,y0a0,y0a1,y0a2,y0a3,y0a4,rfl,rfl,k0⟩)
 cbv
 refine ⟨ndI hA (An (An hp0.1 trivial) (An (An rfl trivial) trivial)),?_⟩
 refine W.cl k0 ?_
 rintro _ _ _ hp1 (⟨rfl,SX,Ue,rfl,rfl,k1⟩)
 cbv
 refine W.cl k1 ?_
 rintro _ _ _ hp2 (⟨rfl,Tf,y2a0,y2a1,y2a2,y2a3,y2a4,rfl,rfl,k2⟩)
 cbv
 refine ⟨ndI hA (An (An hp2.1 trivial) (An (An rfl trivial) trivial)),?_⟩
 refine W.cl k2 ?_
 rintro _ _ _ hp3 (⟨rfl,S9,Ux,rfl,rfl,k3⟩)
 cbv
 refine W.cl k3 ?_
 rintro _ _ _ hp4 (⟨rfl,Ve,y4a0,y4a1,y4a2,y4a3,y4a4,rfl,rfl,k4⟩)
 cbv
 refine ⟨ndI hA (An (An hp4.1 trivial) (An (An rfl trivial) trivial)),?_⟩
 refine W.cl k4 ?_
 rintro _ _ _ hp5 (⟨rfl,TN,Un,rfl,rfl,k5⟩)
 cbv
 refine ⟨imI hA fun e6=>have j6:=k5.1 e6;⟨imI hA fun e7=>have j7:=j6.1 (ah (op:=.eql) hA e7);⟨imI hA fun e8=>have j8:=j7.1 (by subst hA;exact (notE rfl e8));⟨imI hA fun e9=>have j9:=j8.1 e9;⟨ndI hA rfl,⟨imI hA fun e10=>have j10:=j9.1 (by subst hA;exact (ah (op:=.eql) rfl e10));?_,imI hA fun e10=>have j10:=j9.2 (by subst hA;exact (ah (op:=.eql) rfl e10));(W.q j10)⟩⟩,imI hA fun e9=>have j9:=j8.2 e9;(W.q j9)⟩,imI hA fun e8=>have j8:=j7.2 (by subst hA;exact (notE rfl e8));(W.q j8)⟩,imI hA fun e7=>have j7:=j6.2 (ah (op:=.eql) hA e7);(W.q j7)⟩,imI hA fun e6=>have j6:=k5.2 e6;(W.q j6)⟩
 refine W.cl j10 ?_
 rintro _ _ _ hp11 (⟨rfl,WW,y11a0,y11a1,y11a2,y11a3,y11a4,rfl,rfl,k11⟩)
 cbv
 refine ⟨ndI hA (An (An hp5.1 (An hp11.1 trivial)) (An (An rfl trivial) trivial)),?_⟩
 refine W.cl k11 ?_
 rintro _ _ _ hp12 (⟨rfl,y12a0,y12a1,y12a2,y12a3,y12a4,y12a5,y12a6,y12a7,y12a8,y12a9,rfl,rfl,k12⟩)
 cbv
 refine ⟨ndI hA (An (Int.le_refl _) (hA ▸ k12.1)),⟨imI hA fun e13=>have j13:=k12.2.1 (by subst hA;exact (ah (op:=.eql) rfl e13));?_,imI hA fun e13=>have j13:=k12.2.2 (by subst hA;exact (ah (op:=.eql) rfl e13));(W.q j13)⟩⟩
 refine W.cl j13 ?_
 rintro _ _ _ hp14 (⟨rfl,Vq,y14a0,y14a1,y14a2,y14a3,y14a4,rfl,rfl,k14⟩)
 cbv
 refine ⟨ndI hA (An (An hp5.1 (An hp14.1 trivial)) (An (An rfl trivial) trivial)),?_⟩
 refine W.cl k14 ?_
 rintro _ _ _ hp15 (⟨rfl,W9,rfl,rfl,k15⟩)
 cbv
 subst hA
 exact (W.q k15)
theorem E29 {u0 u1 u2 u3:Int} {u4:RW} {u5:Int} {u6 u7 u8 u9:RW} (h:∀ EV,VN EV Q→EZ G15 [] (cL u0 u1 u2 u3 u4 u5 u6 u7 u8 u9 []) (fun x rs vs=>(x=0∧∃ SS,rs=[]∧vs=[.b SS]∧((SS=true→(u5 < 1000→(u5 > (-1000)→EZ G20 [] (cL u0 u1 u2 u3 u4 u5 u6 u7 u8 u9 []) (fun x rs vs=>(x=0∧∃ Td,rs=[]∧vs=[.b Td]∧(Q 0 [] [.b Td]))))∧(u5≤(-1000)→Q 0 [] [.b false]))∧(u5≥1000→Q 0 [] [.b false]))∧(SS=false→Q 0 [] [.b false]))))):EZ G29 [] (cL u0 u1 u2 u3 u4 u5 u6 u7 u8 u9 []) Q:=by
 refine ak.en (I:=I29) (L:=L29) RI fun A hA CE CK Dn EV RR W hp=>?_
 have h:=h  EV ⟨trivial⟩
 cbv
 refine W.cl h ?_
 rintro _ _ _ hp0 (⟨rfl,SS,rfl,rfl,k0⟩)
 cbv
 refine ⟨imI hA fun e1=>have j1:=k0.1 e1;⟨imI hA fun e2=>have j2:=j1.1 (ah (op:=.lss) hA e2);⟨imI hA fun e3=>have j3:=j2.1 (ah (op:=.gtr) hA e3);?_,imI hA fun e3=>have j3:=j2.2 (ah (op:=.gtr) hA e3);(W.q j3)⟩,imI hA fun e2=>have j2:=j1.2 (ah (op:=.lss) hA e2);(W.q j2)⟩,imI hA fun e1=>have j1:=k0.2 e1;(W.q j1)⟩
 refine W.cl j3 ?_
 rintro _ _ _ hp4 (⟨rfl,Td,rfl,rfl,k4⟩)
 cbv
 subst hA
 exact (W.q k4)
theorem E31 {u0 u1 u2 u3:Int} {u4:RW} {u5:Int} {u6 u7 u8 u9:RW} {a1 a2:Int} (h:∀ EV,VN EV Q→(u8.length≤140737488355328)∧((u8.length * 72)≤140737488355328)∧(0≤a1)∧(a1 < (u8.length:Int))∧(u8[a1.toNat]?=some (r7 u8 a1.toNat))∧(aB (List.set u8 a1.toNat [.int .i64 (cIS u8 a1.toNat 0),.int .i64 (cIS u8 a1.toNat 1),.int .i64 (cIS u8 a1.toNat 2),.int .i64 (cIS u8 a1.toNat 3),.int .i64 (cIS u8 a1.toNat 4),.int .i64 a2,.inl 3 (cRS u8 a1.toNat 6)])=true)∧(EZ G18 [] (cL u0 u1 u2 u3 u4 u5 u6 u7 (List.take u8.length (List.drop 0 (List.set u8 a1.toNat [.int .i64 (cIS u8 a1.toNat 0),.int .i64 (cIS u8 a1.toNat 1),.int .i64 (cIS u8 a1.toNat 2),.int .i64 (cIS u8 a1.toNat 3),.int .i64 (cIS u8 a1.toNat 4),.int .i64 a2,.inl 3 (cRS u8 a1.toNat 6)]))) u9 []) (fun x rs vs=>(x=0∧∃ SS,rs=[]∧vs=[.i SS]∧((SS=0→EZ G21 [] (cL u0 u1 u2 u3 u4 u5 u6 u7 (List.take u8.length (List.drop 0 (List.set u8 a1.toNat [.int .i64 (cIS u8 a1.toNat 0),.int .i64 (cIS u8 a1.toNat 1),.int .i64 (cIS u8 a1.toNat 2),.int .i64 (cIS u8 a1.toNat 3),.int .i64 (cIS u8 a1.toNat 4),.int .i64 a2,.inl 3 (cRS u8 a1.toNat 6)]))) u9 []) (fun x rs vs=>(x=0∧∃ SY,rs=[]∧vs=[.b SY]∧(Q 0 [] [.b SY]))))∧(SS≠0→Q 0 [] [.b false])))))):EZ G31 [] (cL u0 u1 u2 u3 u4 u5 u6 u7 u8 u9 [.i a1,.i a2]) Q:=by
 refine ak.en (I:=I31) (L:=L31) RG fun A hA CE CK Dn EV RR W hp=>?_
 have h:=h  EV ⟨trivial⟩
 cbv
 refine ⟨ndI hA (An (hA ▸ h.1) (hA ▸ h.2.1)),⟨ndI hA (An h.2.2.1 (An (hA ▸ h.2.2.2.1) rfl)),⟨ndI hA (An rfl (hA ▸ h.2.2.2.2.1)),⟨ndI hA (An (An (hA ▸ h.2.2.2.2.2.1) trivial) (An (An (by subst hA;show u8.length=(List.length (List.set u8 a1.toNat [.int .i64 (cIS u8 a1.toNat 0),.int .i64 (cIS u8 a1.toNat 1),.int .i64 (cIS u8 a1.toNat 2),.int .i64 (cIS u8 a1.toNat 3),.int .i64 (cIS u8 a1.toNat 4),.int .i64 a2,.inl 3 (cRS u8 a1.toNat 6)]));(first | rfl | simp [af] | (simp [af];omega))) trivial) trivial)),⟨ndI hA (An (An (by subst hA;show u8.length=(List.length (List.set u8 a1.toNat [.int .i64 (cIS u8 a1.toNat 0),.int .i64 (cIS u8 a1.toNat 1),.int .i64 (cIS u8 a1.toNat 2),.int .i64 (cIS u8 a1.toNat 3),.int .i64 (cIS u8 a1.toNat 4),.int .i64 a2,.inl 3 (cRS u8 a1.toNat 6)]));(first | rfl | simp [af] | (simp [af];omega))) trivial) trivial),?_⟩⟩⟩⟩⟩
 refine W.cl h.2.2.2.2.2.2 ?_
 rintro _ _ _ hp0 (⟨rfl,SS,rfl,rfl,k0⟩)
 cbv
 refine ⟨imI hA fun e1=>have j1:=k0.1 (ah (op:=.eql) hA e1);?_,imI hA fun e1=>have j1:=k0.2 (ah (op:=.eql) hA e1);(W.q j1)⟩
 refine W.cl j1 ?_
 rintro _ _ _ hp2 (⟨rfl,SY,rfl,rfl,k2⟩)
 cbv
 subst hA
 exact (W.q k2)
theorem E5 {u0 u1 u2 u3:Int} {u4:RW} {u5:Int} {u6 u7 u8 u9:RW} {a1 a2:Int} (h:∀ EV,VN EV Q→EZ G28 [] [] (fun x rs vs=>(x=0∧∃ SS,rs=[]∧vs=[.b SS]∧((SS=false→Q 0 [] [.b false])∧(SS=true→EZ G29 [] (cL u0 u1 u2 u3 u4 u5 u6 u7 u8 u9 []) (fun x rs vs=>(x=0∧∃ SY,rs=[]∧vs=[.b SY]∧((SY=true→((u8.length:Int)=0→Q 0 [] [.b true])∧((u8.length:Int)≠0→((u8.length:Int)≠0)∧(EZ G30 [] (cL u0 u1 u2 u3 u4 u5 u6 u7 u8 u9 [.i (Int.tmod (IntKind.wrap .i64 a1) (u8.length:Int))]) (fun x rs vs=>(x=0∧∃ Uc Un,rs=[]∧vs=[.i Uc,.b Un]∧((Un=false→(Uc=0→EZ G31 [] (cL u0 u1 u2 u3 u4 u5 u6 u7 u8 u9 [.i (Int.tmod (IntKind.wrap .i64 a1) (u8.length:Int)),.i 0]) (fun x rs vs=>(x=0∧∃ Ul,rs=[]∧vs=[.b Ul]∧(Q 0 [] [.b (!Ul)]))))∧(Uc≠0→Q 0 [] [.b false]))∧(Un=true→(Uc≥0→(Uc≤1048576→EZ G31 [] (cL u0 u1 u2 u3 u4 u5 u6 u7 u8 u9 [.i (Int.tmod (IntKind.wrap .i64 a1) (u8.length:Int)),.i Uc]) (fun x rs vs=>(x=0∧∃ Ur,rs=[]∧vs=[.b Ur]∧((Ur=true→(Uc < 1048576→EZ G31 [] (cL u0 u1 u2 u3 u4 u5 u6 u7 u8 u9 [.i (Int.tmod (IntKind.wrap .i64 a1) (u8.length:Int)),.i (IntKind.wrap .i64 (Uc + 1))]) (fun x rs vs=>(x=0∧∃ Uz,rs=[]∧vs=[.b Uz]∧((Uz=true→Q 0 [] [.b false])∧(Uz=false→((IntKind.wrap .i64 (Uc + 1))≠0)∧(EZ G31 [] (cL u0 u1 u2 u3 u4 u5 u6 u7 u8 u9 [.i (Int.tmod (IntKind.wrap .i64 a1) (u8.length:Int)),.i (Int.tmod (IntKind.wrap .i64 a2) (IntKind.wrap .i64 (Uc + 1)))]) (fun x rs vs=>(x=0∧∃ Vt,rs=[]∧vs=[.b Vt]∧(Q 0 [] [.b Vt])))))))))∧(Uc≥1048576→((IntKind.wrap .i64 (Uc + 1))≠0)∧(EZ G31 [] (cL u0 u1 u2 u3 u4 u5 u6 u7 u8 u9 [.i (Int.tmod (IntKind.wrap .i64 a1) (u8.length:Int)),.i (Int.tmod (IntKind.wrap .i64 a2) (IntKind.wrap .i64 (Uc + 1)))]) (fun x rs vs=>(x=0∧∃ Uz,rs=[]∧vs=[.b Uz]∧(Q 0 [] [.b Uz]))))))∧(Ur=false→Q 0 [] [.b false])))))∧(Uc > 1048576→Q 0 [] [.b false]))∧(Uc < 0→Q 0 [] [.b false]))))))))∧(SY=false→Q 0 [] [.b true]))))))))):EZ G5 [] (cL u0 u1 u2 u3 u4 u5 u6 u7 u8 u9 [.i a1,.i a2]) Q:=by
 refine ak.en (I:=I5) (L:=L5) F5_at fun A hA CE CK Dn EV RR W hp=>?_
 have h:=h  EV ⟨trivial⟩
 cbv
 refine W.cl h ?_
 rintro _ _ _ hp0 (⟨rfl,SS,rfl,rfl,k0⟩)
 cbv
 refine ⟨imI hA fun e1=>have j1:=k0.1 (by subst hA;exact (notE rfl e1));(W.q j1),imI hA fun e1=>have j1:=k0.2 (by subst hA;exact (notE rfl e1));?_⟩
 refine W.cl j1 ?_
 rintro _ _ _ hp2 (⟨rfl,SY,rfl,rfl,k2⟩)
 cbv
 refine ⟨imI hA fun e3=>have j3:=k2.1 (by subst hA;exact (notE rfl e3));⟨imI hA fun e4=>have j4:=j3.1 (by subst hA;exact (ah (op:=.eql) rfl e4));(W.q j4),imI hA fun e4=>have j4:=j3.2 (by subst hA;exact (ah (op:=.eql) rfl e4));⟨ndI hA (hA ▸ j4.1),?_⟩⟩,imI hA fun e3=>have j3:=k2.2 (by subst hA;exact (notE rfl e3));(W.q j3)⟩
 refine W.cl j4.2 ?_
 rintro _ _ _ hp5 (⟨rfl,Uc,Un,rfl,rfl,k5⟩)
 cbv
 refine ⟨imI hA fun e6=>have j6:=k5.1 (by subst hA;exact (notE rfl e6));⟨imI hA fun e7=>have j7:=j6.1 (ah (op:=.eql) hA e7);?_,imI hA fun e7=>have j7:=j6.2 (ah (op:=.eql) hA e7);(W.q j7)⟩,imI hA fun e6=>have j6:=k5.2 (by subst hA;exact (notE rfl e6));⟨imI hA fun e7=>have j7:=j6.1 (ah (op:=.lss) hA e7);⟨imI hA fun e8=>have j8:=j7.1 (ah (op:=.gtr) hA e8);?_,imI hA fun e8=>have j8:=j7.2 (ah (op:=.gtr) hA e8);(W.q j8)⟩,imI hA fun e7=>have j7:=j6.2 (ah (op:=.lss) hA e7);(W.q j7)⟩⟩
 ·refine W.cl j7 ?_
  rintro _ _ _ hp8 (⟨rfl,Ul,rfl,rfl,k8⟩)
  cbv
  subst hA
  exact (W.q k8)
 ·refine W.cl j8 ?_
  rintro _ _ _ hp9 (⟨rfl,Ur,rfl,rfl,k9⟩)
  cbv
  refine ⟨imI hA fun e10=>have j10:=k9.1 (by subst hA;exact (notE rfl e10));⟨imI hA fun e11=>have j11:=j10.1 (ah (op:=.lss) hA e11);?_,imI hA fun e11=>have j11:=j10.2 (ah (op:=.lss) hA e11);⟨ndI hA (hA ▸ j11.1),⟨?_,trivial⟩⟩⟩,imI hA fun e10=>have j10:=k9.2 (by subst hA;exact (notE rfl e10));(W.q j10)⟩
  ·refine W.cl j11 ?_
   rintro _ _ _ hp12 (⟨rfl,Uz,rfl,rfl,k12⟩)
   cbv
   refine ⟨imI hA fun e13=>have j13:=k12.1 e13;(W.q j13),imI hA fun e13=>have j13:=k12.2 e13;⟨ndI hA (hA ▸ j13.1),⟨?_,trivial⟩⟩⟩
   refine W.cd j13.2 ?_
   rintro _ _ _ hp14 (⟨rfl,Vt,rfl,rfl,k14⟩)
   cbv
   refine W.draw 80 (by rfl) ?_
   cbv
   subst hA
   exact (W.q k14)
  ·refine W.cd j11.2 ?_
   rintro _ _ _ hp12 (⟨rfl,Uz,rfl,rfl,k12⟩)
   cbv
   refine W.draw 80 (by rfl) ?_
   cbv
   subst hA
   exact (W.q k12)
structure V6 (EV Q:EP):Prop where
  p27:∀ {R0:RW} {t1 t2:Int} {t8 t9:Bool} {t33:RW} {t34 t35 b0 b1 b2 b3:Int} {b4:RW} {b5:Int} {b6 b7 b8 b9:RW},(aB R0=true→(t35 < t34→(0≤t35)∧(t33[t35.toNat]?=some (r7 t33 t35.toNat))∧(EZ G30 [] (cL b0 b1 b2 b3 b4 b5 b6 b7 b8 b9 [.i t35]) (fun x rs vs=>(x=0∧∃ SX Ue,rs=[]∧vs=[.i SX,.b Ue]∧((t9=true→(t8=true→(t35 < (R0.length:Int)→(0≤t35)∧(t35 < (R0.length:Int))∧(R0[t35.toNat]?=some [.int .i64 (cIS R0 t35.toNat 0)])∧((cIS R0 t35.toNat 0)≠SX→Q 0 [] [.b false])∧((cIS R0 t35.toNat 0)=SX→EZ G18 [] (cL b0 b1 b2 b3 b4 b5 b6 b7 b8 b9 []) (fun x rs vs=>(x=0∧∃ TY,rs=[]∧vs=[.i TY]∧((TY=0→EZ G33 [] (cL b0 b1 b2 b3 b4 b5 b6 b7 b8 b9 [.i t35]) (fun x rs vs=>(x=0∧∃ Ul,rs=[]∧vs=[.i Ul]∧(EZ G34 [] (cL b0 b1 b2 b3 b4 b5 b6 b7 b8 b9 [.i t35,.i 64]) (fun x rs vs=>(x=0∧∃ Ur,rs=[]∧vs=[.i Ur]∧(EV 52 [R0] (.i t1::.i t2::.b t8::.b Ue::.i t35::.r t33::.i t34::.i t35::.b (Ul != Ur)::cL b0 b1 b2 b3 b4 b5 b6 b7 b8 b9 [.i (cIS t33 t35.toNat 0),.i (cIS t33 t35.toNat 1),.i (cIS t33 t35.toNat 2),.i (cIS t33 t35.toNat 3),.i (cIS t33 t35.toNat 4),.i (cIS t33 t35.toNat 5),.r (cRS t33 t35.toNat 6)]))))))))∧(TY≠0→EV 52 [R0] (.i t1::.i t2::.b t8::.b Ue::.i t35::.r t33::.i t34::.i t35::.b false::cL b0 b1 b2 b3 b4 b5 b6 b7 b8 b9 [.i (cIS t33 t35.toNat 0),.i (cIS t33 t35.toNat 1),.i (cIS t33 t35.toNat 2),.i (cIS t33 t35.toNat 3),.i (cIS t33 t35.toNat 4),.i (cIS t33 t35.toNat 5),.r (cRS t33 t35.toNat 6)])))))))∧(t35≥(R0.length:Int)→Q 0 [] [.b false]))∧(t8=false→EZ G18 [] (cL b0 b1 b2 b3 b4 b5 b6 b7 b8 b9 []) (fun x rs vs=>(x=0∧∃ Td,rs=[]∧vs=[.i Td]∧((Td=0→EZ G33 [] (cL b0 b1 b2 b3 b4 b5 b6 b7 b8 b9 [.i t35]) (fun x rs vs=>(x=0∧∃ TY,rs=[]∧vs=[.i TY]∧(EZ G34 [] (cL b0 b1 b2 b3 b4 b5 b6 b7 b8 b9 [.i t35,.i 64]) (fun x rs vs=>(x=0∧∃ Ud,rs=[]∧vs=[.i Ud]∧(EV 52 [R0] (.i t1::.i t2::.b t8::.b Ue::.i t35::.r t33::.i t34::.i t35::.b (TY != Ud)::cL b0 b1 b2 b3 b4 b5 b6 b7 b8 b9 [.i (cIS t33 t35.toNat 0),.i (cIS t33 t35.toNat 1),.i (cIS t33 t35.toNat 2),.i (cIS t33 t35.toNat 3),.i (cIS t33 t35.toNat 4),.i (cIS t33 t35.toNat 5),.r (cRS t33 t35.toNat 6)]))))))))∧(Td≠0→EV 52 [R0] (.i t1::.i t2::.b t8::.b Ue::.i t35::.r t33::.i t34::.i t35::.b false::cL b0 b1 b2 b3 b4 b5 b6 b7 b8 b9 [.i (cIS t33 t35.toNat 0),.i (cIS t33 t35.toNat 1),.i (cIS t33 t35.toNat 2),.i (cIS t33 t35.toNat 3),.i (cIS t33 t35.toNat 4),.i (cIS t33 t35.toNat 5),.r (cRS t33 t35.toNat 6)])))))))∧(t9=false→(t8=true→(t35 < (R0.length:Int)→(0≤t35)∧(t35 < (R0.length:Int))∧(R0[t35.toNat]?=some [.int .i64 (cIS R0 t35.toNat 0)])∧((cIS R0 t35.toNat 0)≠SX→Q 0 [] [.b false])∧((cIS R0 t35.toNat 0)=SX→EZ G18 [] (cL b0 b1 b2 b3 b4 b5 b6 b7 b8 b9 []) (fun x rs vs=>(x=0∧∃ TY,rs=[]∧vs=[.i TY]∧((TY=0→EZ G33 [] (cL b0 b1 b2 b3 b4 b5 b6 b7 b8 b9 [.i t35]) (fun x rs vs=>(x=0∧∃ Ul,rs=[]∧vs=[.i Ul]∧(EZ G34 [] (cL b0 b1 b2 b3 b4 b5 b6 b7 b8 b9 [.i t35,.i 64]) (fun x rs vs=>(x=0∧∃ Ur,rs=[]∧vs=[.i Ur]∧(EV 52 [R0] (.i t1::.i t2::.b t8::.b false::.i t35::.r t33::.i t34::.i t35::.b (Ul != Ur)::cL b0 b1 b2 b3 b4 b5 b6 b7 b8 b9 [.i (cIS t33 t35.toNat 0),.i (cIS t33 t35.toNat 1),.i (cIS t33 t35.toNat 2),.i (cIS t33 t35.toNat 3),.i (cIS t33 t35.toNat 4),.i (cIS t33 t35.toNat 5),.r (cRS t33 t35.toNat 6)]))))))))∧(TY≠0→EV 52 [R0] (.i t1::.i t2::.b t8::.b false::.i t35::.r t33::.i t34::.i t35::.b false::cL b0 b1 b2 b3 b4 b5 b6 b7 b8 b9 [.i (cIS t33 t35.toNat 0),.i (cIS t33 t35.toNat 1),.i (cIS t33 t35.toNat 2),.i (cIS t33 t35.toNat 3),.i (cIS t33 t35.toNat 4),.i (cIS t33 t35.toNat 5),.r (cRS t33 t35.toNat 6)])))))))∧(t35≥(R0.length:Int)→Q 0 [] [.b false]))∧(t8=false→EZ G18 [] (cL b0 b1 b2 b3 b4 b5 b6 b7 b8 b9 []) (fun x rs vs=>(x=0∧∃ Td,rs=[]∧vs=[.i Td]∧((Td=0→EZ G33 [] (cL b0 b1 b2 b3 b4 b5 b6 b7 b8 b9 [.i t35]) (fun x rs vs=>(x=0∧∃ TY,rs=[]∧vs=[.i TY]∧(EZ G34 [] (cL b0 b1 b2 b3 b4 b5 b6 b7 b8 b9 [.i t35,.i 64]) (fun x rs vs=>(x=0∧∃ Ud,rs=[]∧vs=[.i Ud]∧(EV 52 [R0] (.i t1::.i t2::.b t8::.b false::.i t35::.r t33::.i t34::.i t35::.b (TY != Ud)::cL b0 b1 b2 b3 b4 b5 b6 b7 b8 b9 [.i (cIS t33 t35.toNat 0),.i (cIS t33 t35.toNat 1),.i (cIS t33 t35.toNat 2),.i (cIS t33 t35.toNat 3),.i (cIS t33 t35.toNat 4),.i (cIS t33 t35.toNat 5),.r (cRS t33 t35.toNat 6)]))))))))∧(Td≠0→EV 52 [R0] (.i t1::.i t2::.b t8::.b false::.i t35::.r t33::.i t34::.i t35::.b false::cL b0 b1 b2 b3 b4 b5 b6 b7 b8 b9 [.i (cIS t33 t35.toNat 0),.i (cIS t33 t35.toNat 1),.i (cIS t33 t35.toNat 2),.i (cIS t33 t35.toNat 3),.i (cIS t33 t35.toNat 4),.i (cIS t33 t35.toNat 5),.r (cRS t33 t35.toNat 6)]))))))))))))∧(t35≥t34→((t8 == t9)=true→(t8=false→Q 0 [] [.b ((R0.length:Int) == 0)])∧(t8=true→Q 0 [] [.b true]))∧((t8 == t9)=false→Q 0 [] [.b false])))→EV 27 [R0] (.i t1::.i t2::.b t8::.b t9::.r t33::.i t34::.i t35::cL b0 b1 b2 b3 b4 b5 b6 b7 b8 b9 [])
  p52:∀ {R0:RW} {t1 t2:Int} {t8 t9:Bool} {t10:Int} {t33:RW} {t34 t35:Int} {t76:Bool} {b0 b1 b2 b3:Int} {b4:RW} {b5:Int} {b6 b7 b8 b9:RW} {f0 f1 f2 f3 f4 f5:Int} {f6:RW},(aB R0=true→(t76=true→Q 0 [] [.b false])∧(t76=false→EZ G35 [] (cL b0 b1 b2 b3 b4 b5 b6 b7 b8 b9 [.i t1,.i t2]) (fun x rs vs=>(x=0∧∃ y1a0 y1a1 y1a2 y1a3 y1a4 y1a5 y1a6 y1a7 y1a8 y1a9,rs=[]∧vs=(cL y1a0 y1a1 y1a2 y1a3 y1a4 y1a5 y1a6 y1a7 y1a8 y1a9 [])∧((t10=t1→EV 67 [R0] (.i t1::.i t2::.b t8::.b t9::.i t10::.i t2::.r t33::.i t34::.i t35::cL b0 b1 b2 b3 b4 b5 b6 b7 b8 b9 (.i f0::.i f1::.i f2::.i f3::.i f4::.i f5::.r f6::cL y1a0 y1a1 y1a2 y1a3 y1a4 y1a5 y1a6 y1a7 y1a8 y1a9 [])))∧(t10≠t1→EV 67 [R0] (.i t1::.i t2::.b t8::.b t9::.i t10::.i f5::.r t33::.i t34::.i t35::cL b0 b1 b2 b3 b4 b5 b6 b7 b8 b9 (.i f0::.i f1::.i f2::.i f3::.i f4::.i f5::.r f6::cL y1a0 y1a1 y1a2 y1a3 y1a4 y1a5 y1a6 y1a7 y1a8 y1a9 []))))))))→EV 52 [R0] (.i t1::.i t2::.b t8::.b t9::.i t10::.r t33::.i t34::.i t35::.b t76::cL b0 b1 b2 b3 b4 b5 b6 b7 b8 b9 [.i f0,.i f1,.i f2,.i f3,.i f4,.i f5,.r f6])
  p67:∀ {R0:RW} {t1 t2:Int} {t8 t9:Bool} {t10 t15:Int} {t33:RW} {t34 t35 b0 b1 b2 b3:Int} {b4:RW} {b5:Int} {b6 b7 b8 b9:RW} {f0 f1 f2 f3 f4 f5:Int} {f6:RW} {g0 g1 g2 g3:Int} {g4:RW} {g5:Int} {g6 g7 g8 g9:RW},(aB R0=true→((g8.length:Int)≠(b8.length:Int)→Q 0 [] [.b false])∧((g8.length:Int)=(b8.length:Int)→(0≤t10)∧(g8[t10.toNat]?=some (r7 g8 t10.toNat))∧((cIS g8 t10.toNat 5)≠t15→Q 0 [] [.b false])∧((cIS g8 t10.toNat 5)=t15→(0≤t10)∧(b8[t10.toNat]?=some (r7 b8 t10.toNat))∧((cIS b8 t10.toNat 5)≠f5→Q 0 [] [.b false])∧((cIS b8 t10.toNat 5)=f5→EV 27 [R0] (.i t1::.i t2::.b t8::.b t9::.r t33::.i t34::.i (IntKind.wrap .i64 (t35 + 1))::cL b0 b1 b2 b3 b4 b5 b6 b7 b8 b9 [])))))→EV 67 [R0] (.i t1::.i t2::.b t8::.b t9::.i t10::.i t15::.r t33::.i t34::.i t35::cL b0 b1 b2 b3 b4 b5 b6 b7 b8 b9 (.i f0::.i f1::.i f2::.i f3::.i f4::.i f5::.r f6::cL g0 g1 g2 g3 g4 g5 g6 g7 g8 g9 []))
theorem V6.of (W:Wk Tryz.prog Tryz.f6 I6 L6 Q A sg CE CK Dn EV RR):V6 EV Q:=by
 have hA:=W.hA
 refine ⟨?_,?_,?_⟩
 ·intro R0 t1 t2 t8 t9 t33 t34 t35 b0 b1 b2 b3 b4 b5 b6 b7 b8 b9 h
  refine W.step 80 fun hp=>?_
  have h:=h hp.1
  cbv
  refine ⟨imI hA fun e0=>have j0:=h.1 (ah (op:=.lss) hA e0);⟨ndI hA (An j0.1 (hA ▸ j0.2.1)),?_⟩,imI hA fun e0=>have j0:=h.2 (ah (op:=.lss) hA e0);⟨imI hA fun e1=>have j1:=j0.1 (by subst hA;exact e1);⟨imI hA fun e2=>have j2:=j1.1 e2;⟨ndI hA rfl,(W.q (hA ▸ j2))⟩,imI hA fun e2=>have j2:=j1.2 e2;(W.q j2)⟩,imI hA fun e1=>have j1:=j0.2 (by subst hA;exact e1);(W.q j1)⟩⟩
  refine W.cl j0.2.2 ?_
  rintro _ _ _ hp1 (⟨rfl,SX,Ue,rfl,rfl,k1⟩)
  cbv
  refine ⟨imI hA fun e2=>have j2:=k1.1 e2;⟨imI hA fun e3=>have j3:=j2.1 e3;⟨ndI hA rfl,⟨imI hA fun e4=>have j4:=j3.1 (by subst hA;exact (ah (op:=.geq) rfl e4));⟨ndI hA (An j4.1 (An (hA ▸ j4.2.1) rfl)),⟨ndI hA (An rfl (hA ▸ j4.2.2.1)),⟨imI hA fun e5=>have j5:=j4.2.2.2.1 (by subst hA;exact (ah (op:=.neq) rfl e5));(W.q j5),imI hA fun e5=>have j5:=j4.2.2.2.2 (by subst hA;exact (ah (op:=.neq) rfl e5));⟨?_,trivial⟩⟩⟩⟩,imI hA fun e4=>have j4:=j3.2 (by subst hA;exact (ah (op:=.geq) rfl e4));(W.q j4)⟩⟩,imI hA fun e3=>have j3:=j2.2 e3;⟨?_,trivial⟩⟩,imI hA fun e2=>have j2:=k1.2 e2;⟨imI hA fun e3=>have j3:=j2.1 e3;⟨ndI hA rfl,⟨imI hA fun e4=>have j4:=j3.1 (by subst hA;exact (ah (op:=.geq) rfl e4));⟨ndI hA (An j4.1 (An (hA ▸ j4.2.1) rfl)),⟨ndI hA (An rfl (hA ▸ j4.2.2.1)),⟨imI hA fun e5=>have j5:=j4.2.2.2.1 (by subst hA;exact (ah (op:=.neq) rfl e5));(W.q j5),imI hA fun e5=>have j5:=j4.2.2.2.2 (by subst hA;exact (ah (op:=.neq) rfl e5));⟨?_,trivial⟩⟩⟩⟩,imI hA fun e4=>have j4:=j3.2 (by subst hA;exact (ah (op:=.geq) rfl e4));(W.q j4)⟩⟩,imI hA fun e3=>have j3:=j2.2 e3;⟨?_,trivial⟩⟩⟩
  ·refine W.cd j5 ?_
   rintro _ _ _ hp6 (⟨rfl,TY,rfl,rfl,k6⟩)
   cbv
   refine W.draw 80 (by rfl) ?_
   cbv
   refine ⟨fun e7=>have c7:TY=0:=(by have q:=(ah (op:=.eql) hA e7);subst hA;exact q);?_,fun e7=>have c7:TY≠0:=(by have q:=(ah (op:=.eql) hA e7);subst hA;exact q);?_⟩
   ·refine W.draw 80 (by rfl) ?_
    cbv
    refine ⟨?_,trivial⟩
    refine W.cd (k6.1 c7) ?_
    rintro _ _ _ hp8 (⟨rfl,Ul,rfl,rfl,k8⟩)
    cbv
    refine W.draw 80 (by rfl) ?_
    cbv
    refine ⟨?_,trivial⟩
    refine W.cd k8 ?_
    rintro _ _ _ hp9 (⟨rfl,Ur,rfl,rfl,k9⟩)
    cbv
    refine W.draw 80 (by rfl) ?_
    cbv
    subst hA
    exact ⟨(An rfl (An rfl rfl)),⟨hp.1,k9⟩⟩
   ·refine W.draw 80 (by rfl) ?_
    cbv
    subst hA
    exact ⟨⟨⟨(An rfl (An rfl rfl)),⟨hp.1,((k6.2 c7))⟩⟩,trivial⟩,trivial⟩
  ·refine W.cd j3 ?_
   rintro _ _ _ hp4 (⟨rfl,Td,rfl,rfl,k4⟩)
   cbv
   refine W.draw 80 (by rfl) ?_
   cbv
   refine ⟨fun e5=>have c5:Td=0:=(by have q:=(ah (op:=.eql) hA e5);subst hA;exact q);?_,fun e5=>have c5:Td≠0:=(by have q:=(ah (op:=.eql) hA e5);subst hA;exact q);?_⟩
   ·refine W.draw 80 (by rfl) ?_
    cbv
    refine ⟨?_,trivial⟩
    refine W.cd (k4.1 c5) ?_
    rintro _ _ _ hp6 (⟨rfl,TY,rfl,rfl,k6⟩)
    cbv
    refine W.draw 80 (by rfl) ?_
    cbv
    refine ⟨?_,trivial⟩
    refine W.cd k6 ?_
    rintro _ _ _ hp7 (⟨rfl,Ud,rfl,rfl,k7⟩)
    cbv
    refine W.draw 80 (by rfl) ?_
    cbv
    subst hA
    exact ⟨(An rfl (An rfl rfl)),⟨hp.1,k7⟩⟩
   ·refine W.draw 80 (by rfl) ?_
    cbv
    subst hA
    exact ⟨⟨⟨(An rfl (An rfl rfl)),⟨hp.1,((k4.2 c5))⟩⟩,trivial⟩,trivial⟩
  ·refine W.cd j5 ?_
   rintro _ _ _ hp6 (⟨rfl,TY,rfl,rfl,k6⟩)
   cbv
   refine W.draw 80 (by rfl) ?_
   cbv
   refine ⟨fun e7=>have c7:TY=0:=(by have q:=(ah (op:=.eql) hA e7);subst hA;exact q);?_,fun e7=>have c7:TY≠0:=(by have q:=(ah (op:=.eql) hA e7);subst hA;exact q);?_⟩
   ·refine W.draw 80 (by rfl) ?_
    cbv
    refine ⟨?_,trivial⟩
    refine W.cd (k6.1 c7) ?_
    rintro _ _ _ hp8 (⟨rfl,Ul,rfl,rfl,k8⟩)
    cbv
    refine W.draw 80 (by rfl) ?_
    cbv
    refine ⟨?_,trivial⟩
    refine W.cd k8 ?_
    rintro _ _ _ hp9 (⟨rfl,Ur,rfl,rfl,k9⟩)
    cbv
    refine W.draw 80 (by rfl) ?_
    cbv
    subst hA
    exact ⟨(An rfl (An rfl rfl)),⟨hp.1,k9⟩⟩
   ·refine W.draw 80 (by rfl) ?_
    cbv
    subst hA
    exact ⟨⟨⟨(An rfl (An rfl rfl)),⟨hp.1,((k6.2 c7))⟩⟩,trivial⟩,trivial⟩
  ·refine W.cd j3 ?_
   rintro _ _ _ hp4 (⟨rfl,Td,rfl,rfl,k4⟩)
   cbv
   refine W.draw 80 (by rfl) ?_
   cbv
   refine ⟨fun e5=>have c5:Td=0:=(by have q:=(ah (op:=.eql) hA e5);subst hA;exact q);?_,fun e5=>have c5:Td≠0:=(by have q:=(ah (op:=.eql) hA e5);subst hA;exact q);?_⟩
   ·refine W.draw 80 (by rfl) ?_
    cbv
    refine ⟨?_,trivial⟩
    refine W.cd (k4.1 c5) ?_
    rintro _ _ _ hp6 (⟨rfl,TY,rfl,rfl,k6⟩)
    cbv
    refine W.draw 80 (by rfl) ?_
    cbv
    refine ⟨?_,trivial⟩
    refine W.cd k6 ?_
    rintro _ _ _ hp7 (⟨rfl,Ud,rfl,rfl,k7⟩)
    cbv
    refine W.draw 80 (by rfl) ?_
    cbv
    subst hA
    exact ⟨(An rfl (An rfl rfl)),⟨hp.1,k7⟩⟩
   ·refine W.draw 80 (by rfl) ?_
    cbv
    subst hA
    exact ⟨⟨⟨(An rfl (An rfl rfl)),⟨hp.1,((k4.2 c5))⟩⟩,trivial⟩,trivial⟩
 ·intro R0 t1 t2 t8 t9 t10 t33 t34 t35 t76 b0 b1 b2 b3 b4 b5 b6 b7 b8 b9 f0 f1 f2 f3 f4 f5 f6 h
  refine W.step 80 fun hp=>?_
  have h:=h hp.1
  cbv
  refine ⟨imI hA fun e0=>have j0:=h.1 e0;(W.q j0),imI hA fun e0=>have j0:=h.2 e0;?_⟩
  refine W.cl j0 ?_
  rintro _ _ _ hp1 (⟨rfl,y1a0,y1a1,y1a2,y1a3,y1a4,y1a5,y1a6,y1a7,y1a8,y1a9,rfl,rfl,k1⟩)
  cbv
  subst hA
  exact ⟨fun e2=>have j2:=k1.1 (ah (op:=.eql) rfl e2);⟨(An rfl (An rfl rfl)),⟨hp.1,j2⟩⟩,fun e2=>have j2:=k1.2 (ah (op:=.eql) rfl e2);⟨(An rfl (An rfl rfl)),⟨hp.1,j2⟩⟩⟩
 ·intro R0 t1 t2 t8 t9 t10 t15 t33 t34 t35 b0 b1 b2 b3 b4 b5 b6 b7 b8 b9 f0 f1 f2 f3 f4 f5 f6 g0 g1 g2 g3 g4 g5 g6 g7 g8 g9 h
  refine W.step 80 fun hp=>?_
  have h:=h hp.1
  cbv
  refine ⟨fun e0=>have c0:(g8.length:Int)≠(b8.length:Int):=(by have q:=(ah (op:=.neq) hA e0);subst hA;exact q);?_,fun e0=>have c0:(g8.length:Int)=(b8.length:Int):=(by have q:=(ah (op:=.neq) hA e0);subst hA;exact q);?_⟩
  ·refine W.draw 80 (by rfl) ?_
   cbv
   subst hA
   exact (W.q (h.1 c0))
  ·refine W.draw 80 (by rfl) ?_
   cbv
   refine ⟨ndI hA (An (h.2 c0).1 (hA ▸ (h.2 c0).2.1)),⟨fun e1=>have c1:(cIS g8 t10.toNat 5)≠t15:=(by have q:=(ah (op:=.neq) hA e1);subst hA;exact q);?_,fun e1=>have c1:(cIS g8 t10.toNat 5)=t15:=(by have q:=(ah (op:=.neq) hA e1);subst hA;exact q);?_⟩⟩
   ·refine W.draw 80 (by rfl) ?_
    cbv
    subst hA
    exact (W.q ((h.2 c0).2.2.1 c1))
   ·refine W.draw 80 (by rfl) ?_
    cbv
    subst hA
    exact ⟨(An ((h.2 c0).2.2.2 c1).1 (((h.2 c0).2.2.2 c1).2.1)),⟨fun e2=>have j2:=((h.2 c0).2.2.2 c1).2.2.1 ((ah (op:=.neq) rfl e2));(W.q j2),fun e2=>have j2:=((h.2 c0).2.2.2 c1).2.2.2 ((ah (op:=.neq) rfl e2));⟨(An rfl (An rfl rfl)),⟨hp.1,j2⟩⟩⟩⟩
theorem E6 {u0 u1 u2 u3:Int} {u4:RW} {u5:Int} {u6 u7 u8 u9:RW} {a1 a2:Int} (h:∀ EV,V6 EV Q→EZ G28 [] [] (fun x rs vs=>(x=0∧∃ SS,rs=[]∧vs=[.b SS]∧((SS=false→Q 0 [] [.b false])∧(SS=true→EZ G29 [] (cL u0 u1 u2 u3 u4 u5 u6 u7 u8 u9 []) (fun x rs vs=>(x=0∧∃ SY,rs=[]∧vs=[.b SY]∧((SY=true→((u8.length:Int) > 4→Q 0 [] [.b true])∧((u8.length:Int)≤4→EZ G32 [] (cL u0 u1 u2 u3 u4 u5 u6 u7 u8 u9 []) (fun x rs vs=>(x=0∧∃ TN Un,rs=[TN]∧vs=[.b Un]∧(EV 27 [TN] (.i a1::.i a2::.b Un::.b true::.r u8::.i (u8.length:Int)::.i 0::cL u0 u1 u2 u3 u4 u5 u6 u7 u8 u9 []))))))∧(SY=false→Q 0 [] [.b true]))))))))):EZ G6 [] (cL u0 u1 u2 u3 u4 u5 u6 u7 u8 u9 [.i a1,.i a2]) Q:=by
 refine ak.en (I:=I6) (L:=L6) F6_at fun A hA CE CK Dn EV RR W hp=>?_
 have h:=h  EV (V6.of W)
 cbv
 refine W.cl h ?_
 rintro _ _ _ hp0 (⟨rfl,SS,rfl,rfl,k0⟩)
 cbv
 refine ⟨imI hA fun e1=>have j1:=k0.1 (by subst hA;exact (notE rfl e1));(W.q j1),imI hA fun e1=>have j1:=k0.2 (by subst hA;exact (notE rfl e1));?_⟩
 refine W.cl j1 ?_
 rintro _ _ _ hp2 (⟨rfl,SY,rfl,rfl,k2⟩)
 cbv
 refine ⟨imI hA fun e3=>have j3:=k2.1 (by subst hA;exact (notE rfl e3));⟨imI hA fun e4=>have j4:=j3.1 (by subst hA;exact (ah (op:=.gtr) rfl e4));(W.q j4),imI hA fun e4=>have j4:=j3.2 (by subst hA;exact (ah (op:=.gtr) rfl e4));?_⟩,imI hA fun e3=>have j3:=k2.2 (by subst hA;exact (notE rfl e3));(W.q j3)⟩
 refine W.cl j4 ?_
 rintro _ _ _ hp5 (⟨rfl,TN,Un,rfl,rfl,k5⟩)
 cbv
 subst hA
 exact ⟨(An rfl (An rfl rfl)),⟨hp5.1,k5⟩⟩
theorem E79  (h:∀ EV,VN EV Q→Q 0 [[[(AV.int .i64 1),(AV.int .i64 1),(AV.int .i64 10),(AV.int .i64 10),(AV.int .i64 0),(AV.int .i64 0),(AV.inl 3 [[(AV.int .i64 1),(AV.int .i64 5),(AV.int .i64 0)]])]]] [.i 1,.i 1,.i 1,.i 5,.i 0]):EZ G79 [] [] Q:=by
 refine ak.en (I:=I79) (L:=L79) QC fun A hA CE CK Dn EV RR W hp=>?_
 have h:=h  EV ⟨trivial⟩
 cbv
 subst hA
 exact ⟨(An rfl (An rfl rfl)),⟨aQ,(W.q h)⟩⟩
structure V41 (EV Q:EP):Prop where
  p9:∀ {R0 t7:RW} {t8 t9:Int},(aB R0=true→(t9 < t8→(0≤t9)∧(t7[t9.toNat]?=some (r7 t7 t9.toNat))∧((R0.length + (List.length (List.take 1 (List.drop 0 [[(AV.int .i64 (cIS t7 t9.toNat 0))]]))))≤140737488355328)∧(((R0.length + (List.length (List.take 1 (List.drop 0 [[(AV.int .i64 (cIS t7 t9.toNat 0))]])))) * 8)≤140737488355328)∧(EV 9 [(R0++(List.take 1 (List.drop 0 [[(AV.int .i64 (cIS t7 t9.toNat 0))]])))] [.r t7,.i t8,.i (IntKind.wrap .i64 (t9 + 1))]))∧(t9≥t8→Q 0 [R0] []))→EV 9 [R0] [.r t7,.i t8,.i t9]
theorem V41.of (W:Wk Tryz.prog Tryz.f41 I41 L41 Q A sg CE CK Dn EV RR):V41 EV Q:=by
 have hA:=W.hA
 refine ⟨?_⟩
 intro R0 t7 t8 t9 h
 refine W.step 80 fun hp=>?_
 have h:=h hp.1
 cbv
 subst hA
 exact ⟨fun e0=>have j0:=h.1 (ah (op:=.lss) rfl e0);⟨(An j0.1 j0.2.1),⟨(An rfl (by show (0 + 1)≤1;(first | rfl | simp [af] | (simp [af];omega)))),⟨(An rfl (An (Nat.le_refl _) (An j0.2.2.1 j0.2.2.2.1))),⟨(An rfl (An rfl (by show (R0.length + (List.length (List.take 1 (List.drop 0 [[(AV.int .i64 (cIS t7 t9.toNat 0))]]))))=(List.length (aP R0 R0.length (List.take 1 (List.drop 0 [[(AV.int .i64 (cIS t7 t9.toNat 0))]]))));(first | rfl | simp [af] | (simp [af];omega))))),⟨((fA hp.1 (dw (dA aQ)))),(by show EV 9 [(aP R0 R0.length (List.take 1 (List.drop 0 [[(AV.int .i64 (cIS t7 t9.toNat 0))]])))] [.r t7,.i t8,.i (IntKind.wrap .i64 (t9 + 1))];(try simp only [af,Nat.zero_add,Int.toNat_natCast]);exact j0.2.2.2.2)⟩⟩⟩⟩⟩,fun e0=>have j0:=h.2 (ah (op:=.lss) rfl e0);⟨(An rfl (An rfl rfl)),⟨hp.1,(W.q j0)⟩⟩⟩
theorem E41 {u0 u1 u2 u3:Int} {u4:RW} {u5:Int} {u6 u7 u8 u9:RW} (h:∀ EV,V41 EV Q→EV 9 [[]] [.r u8,.i (u8.length:Int),.i 0]):EZ G41 [] (cL u0 u1 u2 u3 u4 u5 u6 u7 u8 u9 []) Q:=by
 refine ak.en (I:=I41) (L:=L41) Ro fun A hA CE CK Dn EV RR W hp=>?_
 have h:=h  EV (V41.of W)
 cbv
 subst hA
 exact ⟨(An rfl (An rfl rfl)),⟨aQ,h⟩⟩
structure V38 (EV Q:EP):Prop where
  p17:∀ {R0 R1 R2 R3 R4 R5 t20:RW} {t21 t22 b0 b1 b2 b3:Int} {b4:RW} {b5:Int} {b6 b7 b8:RW} {d0 d1 d2 d3 d4:Int},(aB R0=true→aB R1=true→aB R2=true→aB R3=true→aB R4=true→aB R5=true→(t22 < t21→(0≤t22)∧(t20[t22.toNat]?=some [.int .i64 (cIS t20 t22.toNat 0)])∧(t22 < (R0.length:Int))∧(R0[t22.toNat]?=some (r7 R0 t22.toNat))∧(EV 17 [(List.set R0 t22.toNat [.int .i64 (cIS R0 t22.toNat 0),.int .i64 (cIS t20 t22.toNat 0),.int .i64 (cIS R0 t22.toNat 2),.int .i64 (cIS R0 t22.toNat 3),.int .i64 (cIS R0 t22.toNat 4),.int .i64 (cIS R0 t22.toNat 5),.inl 3 (cRS R0 t22.toNat 6)]),R1,R2,R3,R4,R5] [.r t20,.i t21,.i (IntKind.wrap .i64 (t22 + 1)),.i b0,.i b1,.i b2,.i b3,.r b4,.i b5,.r b6,.r b7,.r b8,.i d0,.i d1,.i d2,.i d3,.i d4]))∧(t22≥t21→EZ G55 [] (cL b0 b1 b2 b3 b4 b5 b6 b7 (List.take R0.length (List.drop 0 R0)) b8 []) (fun x rs vs=>(x=0∧∃ SX,rs=[]∧vs=[.i SX]∧((SX≠0→Q 0 [] (cL 0 0 0 0 ([]) 0 ([]) ([]) ([]) ([]) [.i SX]))∧(SX=0→Q 0 [] (cL b0 b1 b2 b3 b4 b5 b6 b7 (List.take R0.length (List.drop 0 R0)) b8 [.i 0])))))))→EV 17 [R0,R1,R2,R3,R4,R5] [.r t20,.i t21,.i t22,.i b0,.i b1,.i b2,.i b3,.r b4,.i b5,.r b6,.r b7,.r b8,.i d0,.i d1,.i d2,.i d3,.i d4]
theorem V38.of (W:Wk Tryz.prog Tryz.f38 I38 L38 Q A sg CE CK Dn EV RR):V38 EV Q:=by
 have hA:=W.hA
 refine ⟨?_⟩
 intro R0 R1 R2 R3 R4 R5 t20 t21 t22 b0 b1 b2 b3 b4 b5 b6 b7 b8 d0 d1 d2 d3 d4 h
 refine W.step 80 fun hp=>?_
 have h:=h hp.1 hp.2.1 hp.2.2.1 hp.2.2.2.1 hp.2.2.2.2.1 hp.2.2.2.2.2.1
 cbv
 refine ⟨imI hA fun e0=>have j0:=h.1 (ah (op:=.lss) hA e0);⟨ndI hA (An j0.1 (hA ▸ j0.2.1)),⟨ndI hA (An j0.1 (An (hA ▸ j0.2.2.1) rfl)),⟨ndI hA (An rfl (hA ▸ j0.2.2.2.1)),⟨ndI hA (An (by subst hA;show R0.length=(List.length (List.set R0 t22.toNat [.int .i64 (cIS R0 t22.toNat 0),.int .i64 (cIS t20 t22.toNat 0),.int .i64 (cIS R0 t22.toNat 2),.int .i64 (cIS R0 t22.toNat 3),.int .i64 (cIS R0 t22.toNat 4),.int .i64 (cIS R0 t22.toNat 5),.inl 3 (cRS R0 t22.toNat 6)]));(first | rfl | simp [af] | (simp [af];omega))) (An rfl (by subst hA;show R0.length=(List.length (List.set R0 t22.toNat [.int .i64 (cIS R0 t22.toNat 0),.int .i64 (cIS t20 t22.toNat 0),.int .i64 (cIS R0 t22.toNat 2),.int .i64 (cIS R0 t22.toNat 3),.int .i64 (cIS R0 t22.toNat 4),.int .i64 (cIS R0 t22.toNat 5),.inl 3 (cRS R0 t22.toNat 6)]));(first | rfl | simp [af] | (simp [af];omega))))),⟨ndI hA (An rfl (An rfl rfl)),⟨ndI hA (An rfl (An rfl rfl)),⟨ndI hA (An rfl (An rfl rfl)),⟨ndI hA (An rfl (An rfl rfl)),⟨ndI hA (An rfl (An rfl rfl)),⟨ndI hA (hA ▸ (dU hp.1 rfl)),⟨ndI hA hp.2.1,⟨ndI hA hp.2.2.1,⟨ndI hA hp.2.2.2.1,⟨ndI hA hp.2.2.2.2.1,⟨ndI hA hp.2.2.2.2.2.1,(hA ▸ j0.2.2.2.2)⟩⟩⟩⟩⟩⟩⟩⟩⟩⟩⟩⟩⟩⟩⟩,imI hA fun e0=>have j0:=h.2 (ah (op:=.lss) hA e0);⟨ndI hA (An (An hp.1 (An hp.2.1 (An hp.2.2.1 (An hp.2.2.2.1 (An hp.2.2.2.2.1 (An hp.2.2.2.2.2.1 trivial)))))) (An (An rfl trivial) trivial)),⟨ndI hA (An (An rfl trivial) trivial),?_⟩⟩⟩
 refine W.cl j0 ?_
 rintro _ _ _ hp1 (⟨rfl,SX,rfl,rfl,k1⟩)
 cbv
 subst hA
 exact ⟨fun e2=>have j2:=k1.1 (ah (op:=.neq) rfl e2);(W.q j2),fun e2=>have j2:=k1.2 (ah (op:=.neq) rfl e2);(W.q j2)⟩
theorem E38 {u0 u1 u2 u3:Int} {u4:RW} {u5:Int} {u6 u7 u8 u9 a1:RW} (h:∀ EV,V38 EV Q→((a1.length:Int)≠(u8.length:Int)→Q 0 [] (cL 0 0 0 0 ([]) 0 ([]) ([]) ([]) ([]) [.i 1]))∧((a1.length:Int)=(u8.length:Int)→EZ G78 [] [.r u8] (fun x rs vs=>(x=0∧∃ Tc,rs=[Tc]∧vs=[]∧(EV 17 [Tc,[],[],[],[],[]] [.r a1,.i (a1.length:Int),.i 0,.i u0,.i u1,.i u2,.i u3,.r u4,.i u5,.r u6,.r u7,.r u9,.i 0,.i 0,.i 0,.i 0,.i 0]))))):EZ G38 [] (cL u0 u1 u2 u3 u4 u5 u6 u7 u8 u9 [.r a1]) Q:=by
 refine ak.en (I:=I38) (L:=L38) Ru fun A hA CE CK Dn EV RR W hp=>?_
 have h:=h  EV (V38.of W)
 cbv
 refine ⟨imI hA fun e0=>have j0:=h.1 (by subst hA;exact (ah (op:=.neq) rfl e0));(W.q j0),imI hA fun e0=>have j0:=h.2 (by subst hA;exact (ah (op:=.neq) rfl e0));?_⟩
 refine W.cl j0 ?_
 rintro _ _ _ hp1 (⟨rfl,Tc,rfl,rfl,k1⟩)
 cbv
 subst hA
 exact ⟨(An rfl (An rfl rfl)),⟨(An rfl (An rfl rfl)),⟨(An rfl (An rfl rfl)),⟨(An rfl (An rfl rfl)),⟨(An rfl (An rfl rfl)),⟨(An rfl (An rfl rfl)),⟨hp1.1,⟨aQ,⟨aQ,⟨aQ,⟨aQ,⟨aQ,k1⟩⟩⟩⟩⟩⟩⟩⟩⟩⟩⟩⟩
theorem E39 {u0 u1 u2 u3:Int} {u4:RW} {u5:Int} {u6 u7 u8 u9 a1:RW} (h:∀ EV,VN EV Q→EZ G38 [] (cL u0 u1 u2 u3 u4 u5 u6 u7 u8 u9 [.r a1]) (fun x rs vs=>(x=0∧∃ y0a0 y0a1 y0a2 y0a3 y0a4 y0a5 y0a6 y0a7 y0a8 y0a9 Uj,rs=[]∧vs=(cL y0a0 y0a1 y0a2 y0a3 y0a4 y0a5 y0a6 y0a7 y0a8 y0a9 [.i Uj])∧((Uj=0→EZ G19 [] (cL y0a0 y0a1 y0a2 y0a3 y0a4 y0a5 y0a6 y0a7 y0a8 y0a9 []) (fun x rs vs=>(x=0∧∃ SY,rs=[]∧vs=[.b SY]∧(Q 0 [] [.b SY]))))∧(Uj≠0→Q 0 [] [.b false]))))):EZ G39 [] (cL u0 u1 u2 u3 u4 u5 u6 u7 u8 u9 [.r a1]) Q:=by
 refine ak.en (I:=I39) (L:=L39) Rq fun A hA CE CK Dn EV RR W hp=>?_
 have h:=h  EV ⟨trivial⟩
 cbv
 refine W.cl h ?_
 rintro _ _ _ hp0 (⟨rfl,y0a0,y0a1,y0a2,y0a3,y0a4,y0a5,y0a6,y0a7,y0a8,y0a9,Uj,rfl,rfl,k0⟩)
 cbv
 refine ⟨imI hA fun e1=>have j1:=k0.1 (ah (op:=.eql) hA e1);?_,imI hA fun e1=>have j1:=k0.2 (ah (op:=.eql) hA e1);(W.q j1)⟩
 refine W.cl j1 ?_
 rintro _ _ _ hp2 (⟨rfl,SY,rfl,rfl,k2⟩)
 cbv
 subst hA
 exact (W.q k2)
structure V111 (EV Q:EP):Prop where
  p9:∀ {R0:RW} {t1:Int} {t10:RW} {t11 t12 b0 b1 b2 b3:Int} {b4:RW} {b5:Int} {b6 b7 b8 b9:RW},(aB R0=true→(t12 < t11→(0≤t12)∧(t10[t12.toNat]?=some (r7 t10 t12.toNat))∧(0≤t1)∧(b8[t1.toNat]?=some (r7 b8 t1.toNat))∧((cIS t10 t12.toNat 0) > (cIS b8 t1.toNat 0)→((R0.length + (List.length (List.take 1 (List.drop 0 [[(AV.int .i64 (IntKind.wrap .i64 ((cIS t10 t12.toNat 0) - 1)))]]))))≤140737488355328)∧(((R0.length + (List.length (List.take 1 (List.drop 0 [[(AV.int .i64 (IntKind.wrap .i64 ((cIS t10 t12.toNat 0) - 1)))]])))) * 8)≤140737488355328)∧(EV 9 [(R0++(List.take 1 (List.drop 0 [[(AV.int .i64 (IntKind.wrap .i64 ((cIS t10 t12.toNat 0) - 1)))]])))] (.i t1::.r t10::.i t11::.i (IntKind.wrap .i64 (t12 + 1))::cL b0 b1 b2 b3 b4 b5 b6 b7 b8 b9 [])))∧((cIS t10 t12.toNat 0)≤(cIS b8 t1.toNat 0)→EV 9 [R0] (.i t1::.r t10::.i t11::.i (IntKind.wrap .i64 (t12 + 1))::cL b0 b1 b2 b3 b4 b5 b6 b7 b8 b9 [])))∧(t12≥t11→EZ G144 [R0] [] (fun x rs vs=>(x=0∧∃ Tc,rs=[Tc]∧vs=[]∧((R0.length=Tc.length)∧(Q 0 [Tc] []))))))→EV 9 [R0] (.i t1::.r t10::.i t11::.i t12::cL b0 b1 b2 b3 b4 b5 b6 b7 b8 b9 [])
theorem V111.of (W:Wk Tryz.prog Tryz.f111 I111 L111 Q A sg CE CK Dn EV RR):V111 EV Q:=by
 have hA:=W.hA
 refine ⟨?_⟩
 intro R0 t1 t10 t11 t12 b0 b1 b2 b3 b4 b5 b6 b7 b8 b9 h
 refine W.step 80 fun hp=>?_
 have h:=h hp.1
 cbv
 refine ⟨imI hA fun e0=>have j0:=h.1 (ah (op:=.lss) hA e0);⟨ndI hA (An j0.1 (hA ▸ j0.2.1)),⟨ndI hA (An j0.2.2.1 (hA ▸ j0.2.2.2.1)),⟨imI hA fun e1=>have j1:=j0.2.2.2.2.1 (by subst hA;exact (ah (op:=.gtr) rfl e1));⟨ndI hA (An (hA ▸ rfl) (by subst hA;show (0 + 1)≤1;(first | rfl | simp [af] | (simp [af];omega)))),⟨ndI hA (An rfl (An (Nat.le_refl _) (An (hA ▸ j1.1) (hA ▸ j1.2.1)))),⟨ndI hA (An rfl (An rfl (by subst hA;show (R0.length + (List.length (List.take 1 (List.drop 0 [[(AV.int .i64 (IntKind.wrap .i64 ((cIS t10 t12.toNat 0) - 1)))]]))))=(List.length (aP R0 R0.length (List.take 1 (List.drop 0 [[(AV.int .i64 (IntKind.wrap .i64 ((cIS t10 t12.toNat 0) - 1)))]]))));(first | rfl | simp [af] | (simp [af];omega))))),⟨ndI hA (hA ▸ (fA hp.1 (dw (dA aQ)))),(by subst hA;show EV 9 [(aP R0 R0.length (List.take 1 (List.drop 0 [[(AV.int .i64 (IntKind.wrap .i64 ((cIS t10 t12.toNat 0) - 1)))]])))] (.i t1::.r t10::.i t11::.i (IntKind.wrap .i64 (t12 + 1))::cL b0 b1 b2 b3 b4 b5 b6 b7 b8 b9 []);(try simp only [af,Nat.zero_add,Int.toNat_natCast]);exact j1.2.2)⟩⟩⟩⟩,imI hA fun e1=>have j1:=j0.2.2.2.2.2 (by subst hA;exact (ah (op:=.gtr) rfl e1));⟨ndI hA (An rfl (An rfl rfl)),⟨ndI hA hp.1,(hA ▸ j1)⟩⟩⟩⟩⟩,imI hA fun e0=>have j0:=h.2 (ah (op:=.lss) hA e0);⟨ndI hA (An rfl (An rfl rfl)),⟨ndI hA hp.1,?_⟩⟩⟩
 refine W.cl j0 ?_
 rintro _ _ _ hp1 (⟨rfl,Tc,rfl,rfl,k1⟩)
 cbv
 subst hA
 exact ⟨(An k1.1 (An rfl k1.1)),⟨hp1.1,(W.q k1.2)⟩⟩
theorem E111 {u0 u1 u2 u3:Int} {u4:RW} {u5:Int} {u6 u7 u8 u9:RW} {a1:Int} (h:∀ EV,V111 EV Q→EV 9 [[[(AV.int .i64 63)]]] (.i a1::.r u8::.i (u8.length:Int)::.i 0::cL u0 u1 u2 u3 u4 u5 u6 u7 u8 u9 [])):EZ G111 [] (cL u0 u1 u2 u3 u4 u5 u6 u7 u8 u9 [.i a1]) Q:=by
 refine ak.en (I:=I111) (L:=L111) LK fun A hA CE CK Dn EV RR W hp=>?_
 have h:=h  EV (V111.of W)
 cbv
 subst hA
 exact ⟨(An rfl (An rfl rfl)),⟨aQ,h⟩⟩
theorem E112 {a0:RW} (h:∀ EV,VN EV Q→((a0.length:Int)=0→Q 0 [[]] [])∧(a0.length≤140737488355328)∧((a0.length * 8)≤140737488355328)∧(aB a0=true)∧(Q 0 [a0] [])):EZ G112 [] [.r a0] Q:=by
 refine ak.en (I:=I112) (L:=L112) LJ fun A hA CE CK Dn EV RR W hp=>?_
 have h:=h  EV ⟨trivial⟩
 cbv
 subst hA
 exact ⟨fun e0=>have j0:=h.1 ((ah (op:=.eql) rfl e0));⟨(An rfl (An rfl rfl)),⟨aQ,(W.q j0)⟩⟩,⟨(An h.2.1 h.2.2.1),⟨(An rfl (An rfl rfl)),⟨h.2.2.2.1,(W.q h.2.2.2.2)⟩⟩⟩⟩
structure V80 (EV Q:EP):Prop where
  p9:∀ {R0 t1:RW} {t2 t7 t18 t19 b0 b1 b2 b3:Int} {b4:RW} {b5:Int} {b6 b7 b8 b9:RW},(aB R0=true→(t19 < t18→(0≤t19)∧(t19 < (R0.length:Int))∧(R0[t19.toNat]?=some [.int .i64 (cIS R0 t19.toNat 0)])∧(EZ G112 [] [.r t1] (fun x rs vs=>(x=0∧∃ Tc,rs=[Tc]∧vs=[]∧((0≤t2)∧(t2 < (Tc.length:Int))∧(Tc[t2.toNat]?=some [.int .i64 (cIS Tc t2.toNat 0)])∧(EZ G39 [] (cL b0 b1 b2 b3 b4 b5 b6 b7 b8 b9 [.r (List.take Tc.length (List.drop 0 (List.set Tc t2.toNat [.int .i64 (cIS R0 t19.toNat 0)])))]) (fun x rs vs=>(x=0∧∃ SY,rs=[]∧vs=[.b SY]∧((SY=false→Q 0 [] [.i t7])∧(SY=true→EV 9 [R0] (.r t1::.i t2::.i (cIS R0 t19.toNat 0)::.i t18::.i (IntKind.wrap .i64 (t19 + 1))::cL b0 b1 b2 b3 b4 b5 b6 b7 b8 b9 [])))))))))))∧(t19≥t18→Q 0 [] [.i t7]))→EV 9 [R0] (.r t1::.i t2::.i t7::.i t18::.i t19::cL b0 b1 b2 b3 b4 b5 b6 b7 b8 b9 [])
theorem V80.of (W:Wk Tryz.prog Tryz.f80 I80 L80 Q A sg CE CK Dn EV RR):V80 EV Q:=by
 have hA:=W.hA
 refine ⟨?_⟩
 intro R0 t1 t2 t7 t18 t19 b0 b1 b2 b3 b4 b5 b6 b7 b8 b9 h
 refine W.step 80 fun hp=>?_
 have h:=h hp.1
 cbv
 refine ⟨imI hA fun e0=>have j0:=h.1 (ah (op:=.lss) hA e0);⟨ndI hA (An j0.1 (An (hA ▸ j0.2.1) rfl)),⟨ndI hA (An rfl (hA ▸ j0.2.2.1)),?_⟩⟩,imI hA fun e0=>have j0:=h.2 (ah (op:=.lss) hA e0);(W.q j0)⟩
 refine W.cl j0.2.2.2 ?_
 rintro _ _ _ hp1 (⟨rfl,Tc,rfl,rfl,k1⟩)
 cbv
 refine ⟨ndI hA (An k1.1 (An (hA ▸ k1.2.1) rfl)),⟨ndI hA (An rfl (hA ▸ k1.2.2.1)),⟨ndI hA (An (An hp.1 (An (hA ▸ (dU hp1.1 rfl)) trivial)) (An (by subst hA;show Tc.length=(List.length (List.set Tc t2.toNat [.int .i64 (cIS R0 t19.toNat 0)]));(first | rfl | simp [af] | (simp [af];omega))) trivial)),?_⟩⟩⟩
 refine W.cl k1.2.2.2 ?_
 rintro _ _ _ hp2 (⟨rfl,SY,rfl,rfl,k2⟩)
 cbv
 subst hA
 exact ⟨fun e3=>have j3:=k2.1 ((notE rfl e3));(W.q j3),fun e3=>have j3:=k2.2 ((notE rfl e3));⟨(An rfl (An rfl rfl)),⟨hp.1,j3⟩⟩⟩
theorem E80 {u0 u1 u2 u3:Int} {u4:RW} {u5:Int} {u6 u7 u8 u9 a1:RW} {a2:Int} (h:∀ EV,V80 EV Q→(0≤a2)∧(a1[a2.toNat]?=some [.int .i64 (cIS a1 a2.toNat 0)])∧(EZ G111 [] (cL u0 u1 u2 u3 u4 u5 u6 u7 u8 u9 [.i a2]) (fun x rs vs=>(x=0∧∃ SV,rs=[SV]∧vs=[]∧(EV 9 [SV] (.r a1::.i a2::.i (cIS a1 a2.toNat 0)::.i (SV.length:Int)::.i 0::cL u0 u1 u2 u3 u4 u5 u6 u7 u8 u9 [])))))):EZ G80 [] (cL u0 u1 u2 u3 u4 u5 u6 u7 u8 u9 [.r a1,.i a2]) Q:=by
 refine ak.en (I:=I80) (L:=L80) QB fun A hA CE CK Dn EV RR W hp=>?_
 have h:=h  EV (V80.of W)
 cbv
 refine ⟨ndI hA (An h.1 (hA ▸ h.2.1)),?_⟩
 refine W.cl h.2.2 ?_
 rintro _ _ _ hp0 (⟨rfl,SV,rfl,rfl,k0⟩)
 cbv
 subst hA
 exact ⟨rfl,⟨(An rfl (An rfl rfl)),⟨hp0.1,k0⟩⟩⟩
structure V43 (EV Q:EP):Prop where
  p19:∀ {R0 t4:RW} {t15 t16 b0 b1 b2 b3:Int} {b4:RW} {b5:Int} {b6 b7 b8 b9:RW},(aB R0=true→(t16 < t15→EZ G80 [] (cL b0 b1 b2 b3 b4 b5 b6 b7 b8 b9 [.r t4,.i t16]) (fun x rs vs=>(x=0∧∃ SX,rs=[]∧vs=[.i SX]∧(((R0.length + (List.length (List.take 1 (List.drop 0 [[(AV.int .i64 SX)]]))))≤140737488355328)∧(((R0.length + (List.length (List.take 1 (List.drop 0 [[(AV.int .i64 SX)]])))) * 8)≤140737488355328)∧(EV 19 [(R0++(List.take 1 (List.drop 0 [[(AV.int .i64 SX)]])))] (.r t4::.i t15::.i (IntKind.wrap .i64 (t16 + 1))::cL b0 b1 b2 b3 b4 b5 b6 b7 b8 b9 []))))))∧(t16≥t15→Q 0 [R0] [.b true]))→EV 19 [R0] (.r t4::.i t15::.i t16::cL b0 b1 b2 b3 b4 b5 b6 b7 b8 b9 [])
theorem V43.of (W:Wk Tryz.prog Tryz.f43 I43 L43 Q A sg CE CK Dn EV RR):V43 EV Q:=by
 have hA:=W.hA
 refine ⟨?_⟩
 intro R0 t4 t15 t16 b0 b1 b2 b3 b4 b5 b6 b7 b8 b9 h
 refine W.step 80 fun hp=>?_
 have h:=h hp.1
 cbv
 refine ⟨imI hA fun e0=>have j0:=h.1 (ah (op:=.lss) hA e0);?_,imI hA fun e0=>have j0:=h.2 (ah (op:=.lss) hA e0);⟨ndI hA (An rfl (An rfl rfl)),⟨ndI hA hp.1,(W.q j0)⟩⟩⟩
 refine W.cl j0 ?_
 rintro _ _ _ hp1 (⟨rfl,SX,rfl,rfl,k1⟩)
 cbv
 subst hA
 exact ⟨(An rfl (by show (0 + 1)≤1;(first | rfl | simp [af] | (simp [af];omega)))),⟨(An rfl (An (Nat.le_refl _) (An k1.1 k1.2.1))),⟨(An rfl (An rfl (by show (R0.length + (List.length (List.take 1 (List.drop 0 [[(AV.int .i64 SX)]]))))=(List.length (aP R0 R0.length (List.take 1 (List.drop 0 [[(AV.int .i64 SX)]]))));(first | rfl | simp [af] | (simp [af];omega))))),⟨((fA hp.1 (dw (dA aQ)))),(by show EV 19 [(aP R0 R0.length (List.take 1 (List.drop 0 [[(AV.int .i64 SX)]])))] (.r t4::.i t15::.i (IntKind.wrap .i64 (t16 + 1))::cL b0 b1 b2 b3 b4 b5 b6 b7 b8 b9 []);(try simp only [af,Nat.zero_add,Int.toNat_natCast]);exact k1.2.2)⟩⟩⟩⟩
theorem E43 {u0 u1 u2 u3:Int} {u4:RW} {u5:Int} {u6 u7 u8 u9:RW} (h:∀ EV,V43 EV Q→EZ G41 [] (cL u0 u1 u2 u3 u4 u5 u6 u7 u8 u9 []) (fun x rs vs=>(x=0∧∃ SV,rs=[SV]∧vs=[]∧(EZ G39 [] (cL u0 u1 u2 u3 u4 u5 u6 u7 u8 u9 [.r (List.take SV.length (List.drop 0 SV))]) (fun x rs vs=>(x=0∧∃ SX,rs=[]∧vs=[.b SX]∧((SX=false→Q 0 [[]] [.b false])∧(SX=true→EV 19 [[]] (.r (List.take SV.length (List.drop 0 SV))::.i (u8.length:Int)::.i 0::cL u0 u1 u2 u3 u4 u5 u6 u7 u8 u9 []))))))))):EZ G43 [] (cL u0 u1 u2 u3 u4 u5 u6 u7 u8 u9 []) Q:=by
 refine ak.en (I:=I43) (L:=L43) Rk fun A hA CE CK Dn EV RR W hp=>?_
 have h:=h  EV (V43.of W)
 cbv
 refine W.cl h ?_
 rintro _ _ _ hp0 (⟨rfl,SV,rfl,rfl,k0⟩)
 cbv
 refine ⟨ndI hA (An (An hp0.1 trivial) (An rfl (An rfl trivial))),?_⟩
 refine W.cl k0 ?_
 rintro _ _ _ hp1 (⟨rfl,SX,rfl,rfl,k1⟩)
 cbv
 subst hA
 exact ⟨fun e2=>have j2:=k1.1 ((notE rfl e2));⟨(An rfl (An rfl rfl)),⟨aQ,(W.q j2)⟩⟩,fun e2=>have j2:=k1.2 ((notE rfl e2));⟨(An rfl (An rfl rfl)),⟨aQ,j2⟩⟩⟩
theorem E42 {u0 u1 u2 u3:Int} {u4:RW} {u5:Int} {u6 u7 u8 u9:RW} (h:∀ EV,VN EV Q→Q 0 [] [.i (IntKind.wrap .i64 (1 + (IntKind.wrap .i64 ((u8.length:Int) * (IntKind.wrap .i64 ((u8.length:Int) + 1))))))]):EZ G42 [] (cL u0 u1 u2 u3 u4 u5 u6 u7 u8 u9 []) Q:=by
 refine ak.en (I:=I42) (L:=L42) Rl fun A hA CE CK Dn EV RR W hp=>?_
 have h:=h  EV ⟨trivial⟩
 cbv
 subst hA
 exact (W.q h)
theorem E36  (h:∀ EV,VN EV Q→EZ G79 [] [] (fun x rs vs=>(x=0∧∃ SV y0a0 y0a1 y0a2 y0a3 y0a4,rs=[SV]∧vs=[.i y0a0,.i y0a1,.i y0a2,.i y0a3,.i y0a4]∧(EZ G43 [] (cL y0a0 y0a1 y0a2 y0a3 ([]) y0a4 ([]) ([]) (List.take SV.length (List.drop 0 SV)) ([]) []) (fun x rs vs=>(x=0∧∃ Tc Ue,rs=[Tc]∧vs=[.b Ue]∧(EZ G79 [] [] (fun x rs vs=>(x=0∧∃ Tf y2a0 y2a1 y2a2 y2a3 y2a4,rs=[Tf]∧vs=[.i y2a0,.i y2a1,.i y2a2,.i y2a3,.i y2a4]∧((0 < (Tf.length:Int))∧(Tf[(Int.toNat 0)]?=some (r7 Tf (Int.toNat 0)))∧(EZ G43 [] (cL y2a0 y2a1 y2a2 y2a3 ([]) y2a4 ([]) ([]) (List.take Tf.length (List.drop 0 (List.set Tf (Int.toNat 0) [.int .i64 (cIS Tf (Int.toNat 0) 0),.int .i64 (cIS Tf (Int.toNat 0) 1),.int .i64 (cIS Tf (Int.toNat 0) 2),.int .i64 4,.int .i64 (cIS Tf (Int.toNat 0) 4),.int .i64 (cIS Tf (Int.toNat 0) 5),.inl 3 (cRS Tf (Int.toNat 0) 6)]))) ([]) []) (fun x rs vs=>(x=0∧∃ TZ Ux,rs=[TZ]∧vs=[.b Ux]∧(EZ G38 [] (cL y2a0 y2a1 y2a2 y2a3 ([]) y2a4 ([]) ([]) (List.take Tf.length (List.drop 0 (List.set Tf (Int.toNat 0) [.int .i64 (cIS Tf (Int.toNat 0) 0),.int .i64 (cIS Tf (Int.toNat 0) 1),.int .i64 (cIS Tf (Int.toNat 0) 2),.int .i64 4,.int .i64 (cIS Tf (Int.toNat 0) 4),.int .i64 (cIS Tf (Int.toNat 0) 5),.inl 3 (cRS Tf (Int.toNat 0) 6)]))) ([]) [.r []]) (fun x rs vs=>(x=0∧∃ y4a0 y4a1 y4a2 y4a3 y4a4 y4a5 y4a6 y4a7 y4a8 y4a9 Us,rs=[]∧vs=(cL y4a0 y4a1 y4a2 y4a3 y4a4 y4a5 y4a6 y4a7 y4a8 y4a9 [.i Us])∧((Ue=true→((Tc.length:Int)=1→(0 < (Tc.length:Int))∧(Tc[(Int.toNat 0)]?=some [.int .i64 (cIS Tc (Int.toNat 0) 0)])∧((cIS Tc (Int.toNat 0) 0)=63→(Ux=false→(Us=1→EZ G79 [] [] (fun x rs vs=>(x=0∧∃ VE y10a0 y10a1 y10a2 y10a3 y10a4,rs=[VE]∧vs=[.i y10a0,.i y10a1,.i y10a2,.i y10a3,.i y10a4]∧(EZ G39 [] (cL y10a0 y10a1 y10a2 y10a3 ([]) y10a4 ([]) ([]) (List.take VE.length (List.drop 0 VE)) ([]) [.r (List.take 1 (List.drop 0 [[(AV.int .i64 9)]]))]) (fun x rs vs=>(x=0∧∃ Vo,rs=[]∧vs=[.b Vo]∧((Vo=true→EZ G79 [] [] (fun x rs vs=>(x=0∧∃ WV y13a0 y13a1 y13a2 y13a3 y13a4,rs=[WV]∧vs=[.i y13a0,.i y13a1,.i y13a2,.i y13a3,.i y13a4]∧(EZ G39 [] (cL y13a0 y13a1 y13a2 y13a3 ([]) y13a4 ([]) ([]) (List.take WV.length (List.drop 0 WV)) ([]) [.r (List.take 1 (List.drop 0 [[(AV.int .i64 0)]]))]) (fun x rs vs=>(x=0∧∃ Vt,rs=[]∧vs=[.b Vt]∧((Vt=false→EZ G79 [] [] (fun x rs vs=>(x=0∧∃ Vp y16a0 y16a1 y16a2 y16a3 y16a4,rs=[Vp]∧vs=[.i y16a0,.i y16a1,.i y16a2,.i y16a3,.i y16a4]∧(EZ G42 [] (cL y16a0 y16a1 y16a2 y16a3 ([]) y16a4 ([]) ([]) (List.take Vp.length (List.drop 0 Vp)) ([]) []) (fun x rs vs=>(x=0∧∃ VA,rs=[]∧vs=[.i VA]∧(Q 0 [] [.b (VA == 3)])))))))∧(Vt=true→Q 0 [] [.b false]))))))))∧(Vo=false→Q 0 [] [.b false]))))))))∧(Us≠1→Q 0 [] [.b false]))∧(Ux=true→Q 0 [] [.b false]))∧((cIS Tc (Int.toNat 0) 0)≠63→Q 0 [] [.b false]))∧((Tc.length:Int)≠1→Q 0 [] [.b false]))∧(Ue=false→Q 0 [] [.b false])))))))))))))))))):EZ G36 [] [] Q:=by
 refine ak.en (I:=I36) (L:=L36) Rx fun A hA CE CK Dn EV RR W hp=>?_
 have h:=h  EV ⟨trivial⟩
 cbv
 refine W.cl h ?_
 rintro _ _ _ hp0 (⟨rfl,SV,y0a0,y0a1,y0a2,y0a3,y0a4,rfl,rfl,k0⟩)
 cbv
 refine ⟨ndI hA (An (An hp0.1 trivial) (An (An rfl trivial) trivial)),?_⟩
 refine W.cl k0 ?_
 rintro _ _ _ hp1 (⟨rfl,Tc,Ue,rfl,rfl,k1⟩)
 cbv
 refine W.cl k1 ?_
 rintro _ _ _ hp2 (⟨rfl,Tf,y2a0,y2a1,y2a2,y2a3,y2a4,rfl,rfl,k2⟩)
 cbv
 refine ⟨ndI hA (An (Int.le_refl _) (An (hA ▸ k2.1) rfl)),⟨ndI hA (An rfl (hA ▸ k2.2.1)),⟨ndI hA (An (An hp1.1 (An (hA ▸ (dU hp2.1 rfl)) trivial)) (An (An (by subst hA;show Tf.length=(List.length (List.set Tf (Int.toNat 0) [.int .i64 (cIS Tf (Int.toNat 0) 0),.int .i64 (cIS Tf (Int.toNat 0) 1),.int .i64 (cIS Tf (Int.toNat 0) 2),.int .i64 4,.int .i64 (cIS Tf (Int.toNat 0) 4),.int .i64 (cIS Tf (Int.toNat 0) 5),.inl 3 (cRS Tf (Int.toNat 0) 6)]));(first | rfl | simp [af] | (simp [af];omega))) trivial) trivial)),⟨ndI hA (An (An (by subst hA;show Tf.length=(List.length (List.set Tf (Int.toNat 0) [.int .i64 (cIS Tf (Int.toNat 0) 0),.int .i64 (cIS Tf (Int.toNat 0) 1),.int .i64 (cIS Tf (Int.toNat 0) 2),.int .i64 4,.int .i64 (cIS Tf (Int.toNat 0) 4),.int .i64 (cIS Tf (Int.toNat 0) 5),.inl 3 (cRS Tf (Int.toNat 0) 6)]));(first | rfl | simp [af] | (simp [af];omega))) trivial) trivial),?_⟩⟩⟩⟩
 refine W.cl k2.2.2 ?_
 rintro _ _ _ hp3 (⟨rfl,TZ,Ux,rfl,rfl,k3⟩)
 cbv
 refine W.cl k3 ?_
 rintro _ _ _ hp4 (⟨rfl,y4a0,y4a1,y4a2,y4a3,y4a4,y4a5,y4a6,y4a7,y4a8,y4a9,Us,rfl,rfl,k4⟩)
 cbv
 refine ⟨imI hA fun e5=>have j5:=k4.1 e5;⟨ndI hA rfl,⟨imI hA fun e6=>have j6:=j5.1 (by subst hA;exact (ah (op:=.eql) rfl e6));⟨ndI hA (An (Int.le_refl _) (An (hA ▸ j6.1) rfl)),⟨ndI hA (An rfl (hA ▸ j6.2.1)),⟨imI hA fun e7=>have j7:=j6.2.2.1 (by subst hA;exact (ah (op:=.eql) rfl e7));⟨imI hA fun e8=>have j8:=j7.1 (by subst hA;exact (notE rfl e8));⟨imI hA fun e9=>have j9:=j8.1 (ah (op:=.eql) hA e9);?_,imI hA fun e9=>have j9:=j8.2 (ah (op:=.eql) hA e9);(W.q j9)⟩,imI hA fun e8=>have j8:=j7.2 (by subst hA;exact (notE rfl e8));(W.q j8)⟩,imI hA fun e7=>have j7:=j6.2.2.2 (by subst hA;exact (ah (op:=.eql) rfl e7));(W.q j7)⟩⟩⟩,imI hA fun e6=>have j6:=j5.2 (by subst hA;exact (ah (op:=.eql) rfl e6));(W.q j6)⟩⟩,imI hA fun e5=>have j5:=k4.2 e5;(W.q j5)⟩
 refine W.cl j9 ?_
 rintro _ _ _ hp10 (⟨rfl,VE,y10a0,y10a1,y10a2,y10a3,y10a4,rfl,rfl,k10⟩)
 cbv
 refine ⟨ndI hA (An (An hp1.1 (An hp3.1 (An hp10.1 (An aQ trivial)))) (An (hA ▸ rfl) trivial)),⟨ndI hA (An (An hp1.1 (An hp3.1 (An hp10.1 trivial))) (An (An rfl trivial) trivial)),?_⟩⟩
 refine W.cl k10 ?_
 rintro _ _ _ hp11 (⟨rfl,Vo,rfl,rfl,k11⟩)
 cbv
 refine ⟨imI hA fun e12=>have j12:=k11.1 e12;?_,imI hA fun e12=>have j12:=k11.2 e12;(W.q j12)⟩
 refine W.cl j12 ?_
 rintro _ _ _ hp13 (⟨rfl,WV,y13a0,y13a1,y13a2,y13a3,y13a4,rfl,rfl,k13⟩)
 cbv
 refine ⟨ndI hA (An (An hp1.1 (An hp3.1 (An hp13.1 (An aQ trivial)))) (An (hA ▸ rfl) trivial)),⟨ndI hA (An (An hp1.1 (An hp3.1 (An hp13.1 trivial))) (An (An rfl trivial) trivial)),?_⟩⟩
 refine W.cl k13 ?_
 rintro _ _ _ hp14 (⟨rfl,Vt,rfl,rfl,k14⟩)
 cbv
 refine ⟨imI hA fun e15=>have j15:=k14.1 (by subst hA;exact (notE rfl e15));?_,imI hA fun e15=>have j15:=k14.2 (by subst hA;exact (notE rfl e15));(W.q j15)⟩
 refine W.cl j15 ?_
 rintro _ _ _ hp16 (⟨rfl,Vp,y16a0,y16a1,y16a2,y16a3,y16a4,rfl,rfl,k16⟩)
 cbv
 refine ⟨ndI hA (An (An hp1.1 (An hp3.1 (An hp16.1 trivial))) (An (An rfl trivial) trivial)),?_⟩
 refine W.cl k16 ?_
 rintro _ _ _ hp17 (⟨rfl,VA,rfl,rfl,k17⟩)
 cbv
 subst hA
 exact (W.q k17)
theorem E37 {u0 u1 u2 u3:Int} {u4:RW} {u5:Int} {u6 u7 u8 u9:RW} (h:∀ EV,VN EV Q→EZ G15 [] (cL u0 u1 u2 u3 u4 u5 u6 u7 u8 u9 []) (fun x rs vs=>(x=0∧∃ SS,rs=[]∧vs=[.b SS]∧((SS=true→(u5 < 1000→(u5 > (-1000)→EZ G20 [] (cL u0 u1 u2 u3 u4 u5 u6 u7 u8 u9 []) (fun x rs vs=>(x=0∧∃ Td,rs=[]∧vs=[.b Td]∧(Q 0 [] [.b Td]))))∧(u5≤(-1000)→Q 0 [] [.b false]))∧(u5≥1000→Q 0 [] [.b false]))∧(SS=false→Q 0 [] [.b false]))))):EZ G37 [] (cL u0 u1 u2 u3 u4 u5 u6 u7 u8 u9 []) Q:=by
 refine ak.en (I:=I37) (L:=L37) Rw fun A hA CE CK Dn EV RR W hp=>?_
 have h:=h  EV ⟨trivial⟩
 cbv
 refine W.cl h ?_
 rintro _ _ _ hp0 (⟨rfl,SS,rfl,rfl,k0⟩)
 cbv
 refine ⟨imI hA fun e1=>have j1:=k0.1 e1;⟨imI hA fun e2=>have j2:=j1.1 (ah (op:=.lss) hA e2);⟨imI hA fun e3=>have j3:=j2.1 (ah (op:=.gtr) hA e3);?_,imI hA fun e3=>have j3:=j2.2 (ah (op:=.gtr) hA e3);(W.q j3)⟩,imI hA fun e2=>have j2:=j1.2 (ah (op:=.lss) hA e2);(W.q j2)⟩,imI hA fun e1=>have j1:=k0.2 e1;(W.q j1)⟩
 refine W.cl j3 ?_
 rintro _ _ _ hp4 (⟨rfl,Td,rfl,rfl,k4⟩)
 cbv
 subst hA
 exact (W.q k4)
structure V40 (EV Q:EP):Prop where
  p19:∀ {R0 t1:RW} {t20 t21 b0 b1 b2 b3:Int} {b4:RW} {b5:Int} {b6 b7 b8:RW},(aB R0=true→(t21 < t20→(0≤t21)∧(t1[t21.toNat]?=some [.int .i64 (cIS t1 t21.toNat 0)])∧(t21 < (R0.length:Int))∧(R0[t21.toNat]?=some (r7 R0 t21.toNat))∧(EV 19 [(List.set R0 t21.toNat [.int .i64 (cIS R0 t21.toNat 0),.int .i64 (cIS t1 t21.toNat 0),.int .i64 (cIS R0 t21.toNat 2),.int .i64 (cIS R0 t21.toNat 3),.int .i64 (cIS R0 t21.toNat 4),.int .i64 (cIS R0 t21.toNat 5),.inl 3 (cRS R0 t21.toNat 6)])] [.r t1,.i t20,.i (IntKind.wrap .i64 (t21 + 1)),.i b0,.i b1,.i b2,.i b3,.r b4,.i b5,.r b6,.r b7,.r b8]))∧(t21≥t20→EZ G18 [] (cL b0 b1 b2 b3 b4 b5 b6 b7 (List.take R0.length (List.drop 0 R0)) b8 []) (fun x rs vs=>(x=0∧∃ SX,rs=[]∧vs=[.i SX]∧((SX=0→EZ G21 [] (cL b0 b1 b2 b3 b4 b5 b6 b7 (List.take R0.length (List.drop 0 R0)) b8 []) (fun x rs vs=>(x=0∧∃ S9,rs=[]∧vs=[.b S9]∧(Q 0 [] [.b S9]))))∧(SX≠0→Q 0 [] [.b false]))))))→EV 19 [R0] [.r t1,.i t20,.i t21,.i b0,.i b1,.i b2,.i b3,.r b4,.i b5,.r b6,.r b7,.r b8]
theorem V40.of (W:Wk Tryz.prog Tryz.f40 I40 L40 Q A sg CE CK Dn EV RR):V40 EV Q:=by
 have hA:=W.hA
 refine ⟨?_⟩
 intro R0 t1 t20 t21 b0 b1 b2 b3 b4 b5 b6 b7 b8 h
 refine W.step 80 fun hp=>?_
 have h:=h hp.1
 cbv
 refine ⟨imI hA fun e0=>have j0:=h.1 (ah (op:=.lss) hA e0);⟨ndI hA (An j0.1 (hA ▸ j0.2.1)),⟨⟨ndI hA (An j0.1 (An (hA ▸ j0.2.2.1) rfl)),⟨⟨ndI hA (An rfl (hA ▸ j0.2.2.2.1)),⟨ndI hA (An (by subst hA;show R0.length=(List.length (List.set R0 t21.toNat [.int .i64 (cIS R0 t21.toNat 0),.int .i64 (cIS t1 t21.toNat 0),.int .i64 (cIS R0 t21.toNat 2),.int .i64 (cIS R0 t21.toNat 3),.int .i64 (cIS R0 t21.toNat 4),.int .i64 (cIS R0 t21.toNat 5),.inl 3 (cRS R0 t21.toNat 6)]));(first | rfl | simp [af] | (simp [af];omega))) (An rfl (by subst hA;show R0.length=(List.length (List.set R0 t21.toNat [.int .i64 (cIS R0 t21.toNat 0),.int .i64 (cIS t1 t21.toNat 0),.int .i64 (cIS R0 t21.toNat 2),.int .i64 (cIS R0 t21.toNat 3),.int .i64 (cIS R0 t21.toNat 4),.int .i64 (cIS R0 t21.toNat 5),.inl 3 (cRS R0 t21.toNat 6)]));(first | rfl | simp [af] | (simp [af];omega))))),⟨ndI hA (hA ▸ (dU hp.1 rfl)),(hA ▸ j0.2.2.2.2)⟩⟩⟩,trivial⟩⟩,trivial⟩⟩,imI hA fun e0=>have j0:=h.2 (ah (op:=.lss) hA e0);⟨ndI hA (An (An hp.1 trivial) (An (An rfl trivial) trivial)),⟨ndI hA (An (An rfl trivial) trivial),?_⟩⟩⟩
 refine W.cl j0 ?_
 rintro _ _ _ hp1 (⟨rfl,SX,rfl,rfl,k1⟩)
 cbv
 refine ⟨imI hA fun e2=>have j2:=k1.1 (ah (op:=.eql) hA e2);?_,imI hA fun e2=>have j2:=k1.2 (ah (op:=.eql) hA e2);(W.q j2)⟩
 refine W.cl j2 ?_
 rintro _ _ _ hp3 (⟨rfl,S9,rfl,rfl,k3⟩)
 cbv
 subst hA
 exact (W.q k3)
theorem E40 {u0 u1 u2 u3:Int} {u4:RW} {u5:Int} {u6 u7 u8 u9 a1:RW} (h:∀ EV,V40 EV Q→((a1.length:Int)≠(u8.length:Int)→Q 0 [] [.b false])∧((a1.length:Int)=(u8.length:Int)→(u8.length≤140737488355328)∧((u8.length * 72)≤140737488355328)∧(aB u8=true)∧(EV 19 [u8] [.r a1,.i (a1.length:Int),.i 0,.i u0,.i u1,.i u2,.i u3,.r u4,.i u5,.r u6,.r u7,.r u9]))):EZ G40 [] (cL u0 u1 u2 u3 u4 u5 u6 u7 u8 u9 [.r a1]) Q:=by
 refine ak.en (I:=I40) (L:=L40) IC fun A hA CE CK Dn EV RR W hp=>?_
 have h:=h  EV (V40.of W)
 cbv
 subst hA
 exact ⟨fun e0=>have j0:=h.1 ((ah (op:=.neq) rfl e0));(W.q j0),fun e0=>have j0:=h.2 ((ah (op:=.neq) rfl e0));⟨(An j0.1 j0.2.1),⟨(An rfl (An rfl rfl)),⟨j0.2.2.1,j0.2.2.2⟩⟩⟩⟩
structure V7 (EV Q:EP):Prop where
  p25:∀ {R0 t1 t30:RW} {t31 t32 b0 b1 b2 b3:Int} {b4:RW} {b5:Int} {b6 b7 b8 b9:RW},(aB R0=true→(t32 < t31→(0≤t32)∧(t30[t32.toNat]?=some (r7 t30 t32.toNat))∧(t32 < (R0.length:Int))∧(R0[t32.toNat]?=some [.int .i64 (cIS R0 t32.toNat 0)])∧(EV 25 [(List.set R0 t32.toNat [.int .i64 (cIS t30 t32.toNat 1)])] (.r t1::.r t30::.i t31::.i (IntKind.wrap .i64 (t32 + 1))::cL b0 b1 b2 b3 b4 b5 b6 b7 b8 b9 [])))∧(t32≥t31→EZ G38 [] (cL b0 b1 b2 b3 b4 b5 b6 b7 b8 b9 [.r t1]) (fun x rs vs=>(x=0∧∃ y1a0 y1a1 y1a2 y1a3 y1a4 y1a5 y1a6 y1a7 y1a8 y1a9 Ue,rs=[]∧vs=(cL y1a0 y1a1 y1a2 y1a3 y1a4 y1a5 y1a6 y1a7 y1a8 y1a9 [.i Ue])∧(EZ G39 [] (cL b0 b1 b2 b3 b4 b5 b6 b7 b8 b9 [.r t1]) (fun x rs vs=>(x=0∧∃ SY,rs=[]∧vs=[.b SY]∧(EZ G40 [] (cL b0 b1 b2 b3 b4 b5 b6 b7 b8 b9 [.r t1]) (fun x rs vs=>(x=0∧∃ S9,rs=[]∧vs=[.b S9]∧(EV 41 [R0] (.r t1::.i Ue::.b (SY == S9)::cL b0 b1 b2 b3 b4 b5 b6 b7 b8 b9 (cL y1a0 y1a1 y1a2 y1a3 y1a4 y1a5 y1a6 y1a7 y1a8 y1a9 [])))))))))))))→EV 25 [R0] (.r t1::.r t30::.i t31::.i t32::cL b0 b1 b2 b3 b4 b5 b6 b7 b8 b9 [])
  p41:∀ {R0 t1:RW} {t9:Int} {t10:Bool} {b0 b1 b2 b3:Int} {b4:RW} {b5:Int} {b6 b7 b8 b9:RW} {f0 f1 f2 f3:Int} {f4:RW} {f5:Int} {f6 f7 f8 f9:RW},(aB R0=true→EZ G41 [] (cL b0 b1 b2 b3 b4 b5 b6 b7 b8 b9 []) (fun x rs vs=>(x=0∧∃ SV,rs=[SV]∧vs=[]∧(EV 48 [R0,SV] (.r t1::.i t9::.b t10::.r b8::.i (b8.length:Int)::.i 0::cL b0 b1 b2 b3 b4 b5 b6 b7 b8 b9 (cL f0 f1 f2 f3 f4 f5 f6 f7 f8 f9 []))))))→EV 41 [R0] (.r t1::.i t9::.b t10::cL b0 b1 b2 b3 b4 b5 b6 b7 b8 b9 (cL f0 f1 f2 f3 f4 f5 f6 f7 f8 f9 []))
  p48:∀ {R0 R1 t1:RW} {t9:Int} {t10:Bool} {t59:RW} {t60 t61 b0 b1 b2 b3:Int} {b4:RW} {b5:Int} {b6 b7 b8 b9:RW} {f0 f1 f2 f3:Int} {f4:RW} {f5:Int} {f6 f7 f8 f9:RW},(aB R0=true→aB R1=true→(t61 < t60→(0≤t61)∧(t59[t61.toNat]?=some (r7 t59 t61.toNat))∧(t61 < (R0.length:Int))∧(R0[t61.toNat]?=some [.int .i64 (cIS R0 t61.toNat 0)])∧((cIS t59 t61.toNat 1)≠(cIS R0 t61.toNat 0)→Q 0 [] [.b false])∧((cIS t59 t61.toNat 1)=(cIS R0 t61.toNat 0)→(t61≥(R1.length:Int)→Q 0 [] [.b false])∧(t61 < (R1.length:Int)→(0≤t61)∧(t61 < (R1.length:Int))∧(R1[t61.toNat]?=some [.int .i64 (cIS R1 t61.toNat 0)])∧((cIS R1 t61.toNat 0)≠(cIS t59 t61.toNat 0)→Q 0 [] [.b false])∧((cIS R1 t61.toNat 0)=(cIS t59 t61.toNat 0)→EV 48 [R0,R1] (.r t1::.i t9::.b t10::.r t59::.i t60::.i (IntKind.wrap .i64 (t61 + 1))::cL b0 b1 b2 b3 b4 b5 b6 b7 b8 b9 (cL f0 f1 f2 f3 f4 f5 f6 f7 f8 f9 []))))))∧(t61≥t60→((t1.length:Int)≠(b8.length:Int)→(t10=true→Q 0 [] [.b (t9 == 1)])∧(t10=false→Q 0 [] [.b false]))∧((t1.length:Int)=(b8.length:Int)→EV 79 [R1] (.r t1::.b t10::.i (f8.length:Int)::.i 0::cL b0 b1 b2 b3 b4 b5 b6 b7 b8 b9 (cL f0 f1 f2 f3 f4 f5 f6 f7 f8 f9 [])))))→EV 48 [R0,R1] (.r t1::.i t9::.b t10::.r t59::.i t60::.i t61::cL b0 b1 b2 b3 b4 b5 b6 b7 b8 b9 (cL f0 f1 f2 f3 f4 f5 f6 f7 f8 f9 []))
  p79:∀ {R0 t1:RW} {t10:Bool} {t102 t103 b0 b1 b2 b3:Int} {b4:RW} {b5:Int} {b6 b7 b8 b9:RW} {d0 d1 d2 d3:Int} {d4:RW} {d5:Int} {d6 d7 d8 d9:RW},(aB R0=true→(t103 < t102→(0≤t103)∧(d8[t103.toNat]?=some (r7 d8 t103.toNat))∧(t1[t103.toNat]?=some [.int .i64 (cIS t1 t103.toNat 0)])∧((cIS d8 t103.toNat 1)≠(cIS t1 t103.toNat 0)→Q 0 [] [.b false])∧((cIS d8 t103.toNat 1)=(cIS t1 t103.toNat 0)→EV 79 [R0] (.r t1::.b t10::.i t102::.i (IntKind.wrap .i64 (t103 + 1))::cL b0 b1 b2 b3 b4 b5 b6 b7 b8 b9 (cL d0 d1 d2 d3 d4 d5 d6 d7 d8 d9 []))))∧(t103≥t102→(t10=true→((R0.length:Int)=(b8.length:Int)→EZ G42 [] (cL b0 b1 b2 b3 b4 b5 b6 b7 b8 b9 []) (fun x rs vs=>(x=0∧∃ S9,rs=[]∧vs=[.i S9]∧(Q 0 [] [.b (S9 == (IntKind.wrap .i64 (1 + (IntKind.wrap .i64 ((b8.length:Int) * (IntKind.wrap .i64 ((b8.length:Int) + 1)))))))]))))∧((R0.length:Int)≠(b8.length:Int)→Q 0 [] [.b false]))∧(t10=false→Q 0 [] [.b false])))→EV 79 [R0] (.r t1::.b t10::.i t102::.i t103::cL b0 b1 b2 b3 b4 b5 b6 b7 b8 b9 (cL d0 d1 d2 d3 d4 d5 d6 d7 d8 d9 []))
theorem V7.of (W:Wk Tryz.prog Tryz.f7 I7 L7 Q A sg CE CK Dn EV RR):V7 EV Q:=by
 have hA:=W.hA
 refine ⟨?_,?_,?_,?_⟩
 ·intro R0 t1 t30 t31 t32 b0 b1 b2 b3 b4 b5 b6 b7 b8 b9 h
  refine W.step 80 fun hp=>?_
  have h:=h hp.1
  cbv
  refine ⟨imI hA fun e0=>have j0:=h.1 (ah (op:=.lss) hA e0);⟨ndI hA (An j0.1 (hA ▸ j0.2.1)),⟨ndI hA (An j0.1 (An (hA ▸ j0.2.2.1) rfl)),⟨ndI hA (An rfl (hA ▸ j0.2.2.2.1)),⟨ndI hA (An (by subst hA;show R0.length=(List.length (List.set R0 t32.toNat [.int .i64 (cIS t30 t32.toNat 1)]));(first | rfl | simp [af] | (simp [af];omega))) (An rfl (by subst hA;show R0.length=(List.length (List.set R0 t32.toNat [.int .i64 (cIS t30 t32.toNat 1)]));(first | rfl | simp [af] | (simp [af];omega))))),⟨ndI hA (hA ▸ (dU hp.1 rfl)),(hA ▸ j0.2.2.2.2)⟩⟩⟩⟩⟩,imI hA fun e0=>have j0:=h.2 (ah (op:=.lss) hA e0);?_⟩
  refine W.cl j0 ?_
  rintro _ _ _ hp1 (⟨rfl,y1a0,y1a1,y1a2,y1a3,y1a4,y1a5,y1a6,y1a7,y1a8,y1a9,Ue,rfl,rfl,k1⟩)
  cbv
  refine ⟨?_,trivial⟩
  refine W.cd k1 ?_
  rintro _ _ _ hp2 (⟨rfl,SY,rfl,rfl,k2⟩)
  cbv
  refine W.draw 80 (by rfl) ?_
  cbv
  refine ⟨?_,trivial⟩
  refine W.cd k2 ?_
  rintro _ _ _ hp3 (⟨rfl,S9,rfl,rfl,k3⟩)
  cbv
  refine W.draw 80 (by rfl) ?_
  cbv
  subst hA
  exact ⟨(An rfl (An rfl rfl)),⟨hp.1,k3⟩⟩
 ·intro R0 t1 t9 t10 b0 b1 b2 b3 b4 b5 b6 b7 b8 b9 f0 f1 f2 f3 f4 f5 f6 f7 f8 f9 h
  refine W.step 80 fun hp=>?_
  have h:=h hp.1
  cbv
  refine W.cl h ?_
  rintro _ _ _ hp0 (⟨rfl,SV,rfl,rfl,k0⟩)
  cbv
  subst hA
  exact ⟨(An rfl (An rfl rfl)),⟨(An rfl (An rfl rfl)),⟨hp.1,⟨hp0.1,k0⟩⟩⟩⟩
 ·intro R0 R1 t1 t9 t10 t59 t60 t61 b0 b1 b2 b3 b4 b5 b6 b7 b8 b9 f0 f1 f2 f3 f4 f5 f6 f7 f8 f9 h
  refine W.step 80 fun hp=>?_
  have h:=h hp.1 hp.2.1
  cbv
  refine ⟨imI hA fun e0=>have j0:=h.1 (ah (op:=.lss) hA e0);⟨ndI hA (An j0.1 (hA ▸ j0.2.1)),⟨ndI hA (An j0.1 (An (hA ▸ j0.2.2.1) rfl)),⟨ndI hA (An rfl (hA ▸ j0.2.2.2.1)),⟨fun e1=>have c1:(cIS t59 t61.toNat 1)≠(cIS R0 t61.toNat 0):=(by have q:=(ah (op:=.neq) hA e1);subst hA;exact q);?_,fun e1=>have c1:(cIS t59 t61.toNat 1)=(cIS R0 t61.toNat 0):=(by have q:=(ah (op:=.neq) hA e1);subst hA;exact q);?_⟩⟩⟩⟩,imI hA fun e0=>have j0:=h.2 (ah (op:=.lss) hA e0);⟨imI hA fun e1=>have j1:=j0.1 (by subst hA;exact (ah (op:=.neq) rfl e1));⟨imI hA fun e2=>have j2:=j1.1 e2;(W.q (hA ▸ j2)),imI hA fun e2=>have j2:=j1.2 e2;(W.q j2)⟩,imI hA fun e1=>have j1:=j0.2 (by subst hA;exact (ah (op:=.neq) rfl e1));⟨ndI hA (An rfl (An rfl rfl)),⟨ndI hA hp.2.1,(hA ▸ j1)⟩⟩⟩⟩
  ·refine W.draw 80 (by rfl) ?_
   cbv
   subst hA
   exact (W.q (j0.2.2.2.2.1 c1))
  ·refine W.draw 80 (by rfl) ?_
   cbv
   refine ⟨ndI hA rfl,⟨fun e2=>have c2:t61≥(R1.length:Int):=(by have q:=(ah (op:=.geq) hA e2);subst hA;exact q);?_,fun e2=>have c2:t61 < (R1.length:Int):=(by have q:=(ah (op:=.geq) hA e2);subst hA;exact q);?_⟩⟩
   ·refine W.draw 80 (by rfl) ?_
    cbv
    subst hA
    exact (W.q ((j0.2.2.2.2.2 c1).1 c2))
   ·refine W.draw 80 (by rfl) ?_
    cbv
    subst hA
    exact ⟨(An ((j0.2.2.2.2.2 c1).2 c2).1 (An (((j0.2.2.2.2.2 c1).2 c2).2.1) rfl)),⟨(An rfl (((j0.2.2.2.2.2 c1).2 c2).2.2.1)),⟨fun e3=>have j3:=((j0.2.2.2.2.2 c1).2 c2).2.2.2.1 ((ah (op:=.neq) rfl e3));(W.q j3),fun e3=>have j3:=((j0.2.2.2.2.2 c1).2 c2).2.2.2.2 ((ah (op:=.neq) rfl e3));⟨(An rfl (An rfl rfl)),⟨(An rfl (An rfl rfl)),⟨hp.1,⟨hp.2.1,j3⟩⟩⟩⟩⟩⟩⟩
 ·intro R0 t1 t10 t102 t103 b0 b1 b2 b3 b4 b5 b6 b7 b8 b9 d0 d1 d2 d3 d4 d5 d6 d7 d8 d9 h
  refine W.step 80 fun hp=>?_
  have h:=h hp.1
  cbv
  refine ⟨imI hA fun e0=>have j0:=h.1 (ah (op:=.lss) hA e0);⟨ndI hA (An j0.1 (hA ▸ j0.2.1)),⟨ndI hA (An j0.1 (hA ▸ j0.2.2.1)),⟨imI hA fun e1=>have j1:=j0.2.2.2.1 (by subst hA;exact (ah (op:=.neq) rfl e1));(W.q j1),imI hA fun e1=>have j1:=j0.2.2.2.2 (by subst hA;exact (ah (op:=.neq) rfl e1));⟨ndI hA (An rfl (An rfl rfl)),⟨ndI hA hp.1,(hA ▸ j1)⟩⟩⟩⟩⟩,imI hA fun e0=>have j0:=h.2 (ah (op:=.lss) hA e0);⟨fun e1=>have c1:t10=true:=(by have q:=e1;subst hA;exact q);?_,fun e1=>have c1:t10=false:=(by have q:=e1;subst hA;exact q);?_⟩⟩
  ·refine W.draw 80 (by rfl) ?_
   cbv
   refine ⟨ndI hA rfl,⟨fun e2=>have c2:(R0.length:Int)=(b8.length:Int):=(by have q:=(ah (op:=.eql) hA e2);subst hA;exact q);?_,fun e2=>have c2:(R0.length:Int)≠(b8.length:Int):=(by have q:=(ah (op:=.eql) hA e2);subst hA;exact q);?_⟩⟩
   ·refine W.draw 80 (by rfl) ?_
    cbv
    refine ⟨?_,trivial⟩
    refine W.cd ((j0.1 c1).1 c2) ?_
    rintro _ _ _ hp3 (⟨rfl,S9,rfl,rfl,k3⟩)
    cbv
    refine W.draw 80 (by rfl) ?_
    cbv
    subst hA
    exact (W.q k3)
   ·refine W.draw 80 (by rfl) ?_
    cbv
    subst hA
    exact ⟨(W.q ((j0.1 c1).2 c2)),trivial⟩
  ·refine W.draw 80 (by rfl) ?_
   cbv
   subst hA
   exact ⟨(W.q (j0.2 c1)),trivial⟩
theorem E7 {u0 u1 u2 u3:Int} {u4:RW} {u5:Int} {u6 u7 u8 u9 a1:RW} (h:∀ EV,V7 EV Q→EZ G36 [] [] (fun x rs vs=>(x=0∧∃ SS,rs=[]∧vs=[.b SS]∧((SS=false→Q 0 [] [.b false])∧(SS=true→EZ G37 [] (cL u0 u1 u2 u3 u4 u5 u6 u7 u8 u9 []) (fun x rs vs=>(x=0∧∃ SY,rs=[]∧vs=[.b SY]∧((SY=true→((a1.length:Int) > 30→Q 0 [] [.b true])∧((a1.length:Int)≤30→((u8.length:Int)≤140737488355328)∧(((u8.length:Int) * ((8:Nat):Int))≤140737488355328)∧(EV 25 [(List.replicate u8.length [(AV.int .i64 0)])] (.r a1::.r u8::.i (u8.length:Int)::.i 0::cL u0 u1 u2 u3 u4 u5 u6 u7 u8 u9 []))))∧(SY=false→Q 0 [] [.b true]))))))))):EZ G7 [] (cL u0 u1 u2 u3 u4 u5 u6 u7 u8 u9 [.r a1]) Q:=by
 refine ak.en (I:=I7) (L:=L7) F7_at fun A hA CE CK Dn EV RR W hp=>?_
 have h:=h  EV (V7.of W)
 cbv
 refine W.cl h ?_
 rintro _ _ _ hp0 (⟨rfl,SS,rfl,rfl,k0⟩)
 cbv
 refine ⟨imI hA fun e1=>have j1:=k0.1 (by subst hA;exact (notE rfl e1));(W.q j1),imI hA fun e1=>have j1:=k0.2 (by subst hA;exact (notE rfl e1));?_⟩
 refine W.cl j1 ?_
 rintro _ _ _ hp2 (⟨rfl,SY,rfl,rfl,k2⟩)
 cbv
 subst hA
 exact ⟨fun e3=>have j3:=k2.1 ((notE rfl e3));⟨fun e4=>have j4:=j3.1 ((ah (op:=.gtr) rfl e4));(W.q j4),fun e4=>have j4:=j3.2 ((ah (op:=.gtr) rfl e4));⟨(An ((Int.natCast_nonneg _)) (An ((Int.le_refl _)) (An j4.1 j4.2.1))),⟨(An (by show u8.length=(List.length (List.replicate u8.length [(AV.int .i64 0)]));(first | rfl | simp [af] | (simp [af];omega))) (An rfl (by show u8.length=(List.length (List.replicate u8.length [(AV.int .i64 0)]));(first | rfl | simp [af] | (simp [af];omega))))),⟨((Gy rfl)),j4.2.2⟩⟩⟩⟩,fun e3=>have j3:=k2.2 ((notE rfl e3));(W.q j3)⟩
structure V40a (EV Q:EP):Prop where
  p19:∀ {R0 R1:RW} {t20 t21 d0 d1 d2 d3:Int} {d4:RW} {d5:Int} {d6 d7 d8:RW},(aB R0=true→aB R1=true→(t21 < t20→(0≤t21)∧(t21 < (R0.length:Int))∧(R0[t21.toNat]?=some [.int .i64 (cIS R0 t21.toNat 0)])∧(t21 < (R1.length:Int))∧(R1[t21.toNat]?=some (r7 R1 t21.toNat))∧(EV 19 [R0,(List.set R1 t21.toNat [.int .i64 (cIS R1 t21.toNat 0),.int .i64 (cIS R0 t21.toNat 0),.int .i64 (cIS R1 t21.toNat 2),.int .i64 (cIS R1 t21.toNat 3),.int .i64 (cIS R1 t21.toNat 4),.int .i64 (cIS R1 t21.toNat 5),.inl 3 (cRS R1 t21.toNat 6)])] [.i t20,.i (IntKind.wrap .i64 (t21 + 1)),.i d0,.i d1,.i d2,.i d3,.r d4,.i d5,.r d6,.r d7,.r d8]))∧(t21≥t20→EZ G18 [] (cL d0 d1 d2 d3 d4 d5 d6 d7 (List.take R1.length (List.drop 0 R1)) d8 []) (fun x rs vs=>(x=0∧∃ SX,rs=[]∧vs=[.i SX]∧((SX=0→EZ G21 [] (cL d0 d1 d2 d3 d4 d5 d6 d7 (List.take R1.length (List.drop 0 R1)) d8 []) (fun x rs vs=>(x=0∧∃ S9,rs=[]∧vs=[.b S9]∧(Q 0 [R0] [.b S9]))))∧(SX≠0→Q 0 [R0] [.b false]))))))→EV 19 [R0,R1] [.i t20,.i t21,.i d0,.i d1,.i d2,.i d3,.r d4,.i d5,.r d6,.r d7,.r d8]
theorem V40a.of (W:Wk Tryz.prog Tryz.f40 I40a L40a Q A sg CE CK Dn EV RR):V40a EV Q:=by
 have hA:=W.hA
 refine ⟨?_⟩
 intro R0 R1 t20 t21 d0 d1 d2 d3 d4 d5 d6 d7 d8 h
 refine W.step 80 fun hp=>?_
 have h:=h hp.1 hp.2.1
 cbv
 refine ⟨imI hA fun e0=>have j0:=h.1 (ah (op:=.lss) hA e0);⟨ndI hA (An j0.1 (An (hA ▸ j0.2.1) rfl)),⟨ndI hA (An rfl (hA ▸ j0.2.2.1)),⟨⟨ndI hA (An j0.1 (An (hA ▸ j0.2.2.2.1) rfl)),⟨⟨ndI hA (An rfl (hA ▸ j0.2.2.2.2.1)),⟨ndI hA (An rfl (An rfl rfl)),⟨ndI hA hp.1,⟨ndI hA (An (by subst hA;show R1.length=(List.length (List.set R1 t21.toNat [.int .i64 (cIS R1 t21.toNat 0),.int .i64 (cIS R0 t21.toNat 0),.int .i64 (cIS R1 t21.toNat 2),.int .i64 (cIS R1 t21.toNat 3),.int .i64 (cIS R1 t21.toNat 4),.int .i64 (cIS R1 t21.toNat 5),.inl 3 (cRS R1 t21.toNat 6)]));(first | rfl | simp [af] | (simp [af];omega))) (An rfl (by subst hA;show R1.length=(List.length (List.set R1 t21.toNat [.int .i64 (cIS R1 t21.toNat 0),.int .i64 (cIS R0 t21.toNat 0),.int .i64 (cIS R1 t21.toNat 2),.int .i64 (cIS R1 t21.toNat 3),.int .i64 (cIS R1 t21.toNat 4),.int .i64 (cIS R1 t21.toNat 5),.inl 3 (cRS R1 t21.toNat 6)]));(first | rfl | simp [af] | (simp [af];omega))))),⟨ndI hA (hA ▸ (dU hp.2.1 rfl)),(hA ▸ j0.2.2.2.2.2)⟩⟩⟩⟩⟩,trivial⟩⟩,trivial⟩⟩⟩,imI hA fun e0=>have j0:=h.2 (ah (op:=.lss) hA e0);⟨ndI hA (An (An hp.1 (An hp.2.1 trivial)) (An (An rfl trivial) trivial)),⟨ndI hA (An (An rfl trivial) trivial),?_⟩⟩⟩
 refine W.cl j0 ?_
 rintro _ _ _ hp1 (⟨rfl,SX,rfl,rfl,k1⟩)
 cbv
 refine ⟨imI hA fun e2=>have j2:=k1.1 (ah (op:=.eql) hA e2);?_,imI hA fun e2=>have j2:=k1.2 (ah (op:=.eql) hA e2);⟨ndI hA hp.1,(W.q j2)⟩⟩
 refine W.cl j2 ?_
 rintro _ _ _ hp3 (⟨rfl,S9,rfl,rfl,k3⟩)
 cbv
 subst hA
 exact ⟨hp.1,(W.q k3)⟩
theorem E40a {R0:RW} {u0 u1 u2 u3:Int} {u4:RW} {u5:Int} {u6 u7 u8 u9:RW} (h:aB R0=true→∀ EV,V40a EV Q→((R0.length:Int)≠(u8.length:Int)→Q 0 [R0] [.b false])∧((R0.length:Int)=(u8.length:Int)→(u8.length≤140737488355328)∧((u8.length * 72)≤140737488355328)∧(aB u8=true)∧(EV 19 [R0,u8] [.i (R0.length:Int),.i 0,.i u0,.i u1,.i u2,.i u3,.r u4,.i u5,.r u6,.r u7,.r u9]))):EZ G40a [R0] (cL u0 u1 u2 u3 u4 u5 u6 u7 u8 u9 []) Q:=by
 refine ak.en (I:=I40a) (L:=L40a) IC fun A hA CE CK Dn EV RR W hp=>?_
 have h:=h hp.1 EV (V40a.of W)
 cbv
 subst hA
 exact ⟨rfl,⟨fun e0=>have j0:=h.1 ((ah (op:=.neq) rfl e0));⟨hp.1,(W.q j0)⟩,fun e0=>have j0:=h.2 ((ah (op:=.neq) rfl e0));⟨(An j0.1 j0.2.1),⟨rfl,⟨(An rfl (An rfl rfl)),⟨hp.1,⟨(An rfl (An rfl rfl)),⟨j0.2.2.1,j0.2.2.2⟩⟩⟩⟩⟩⟩⟩⟩
theorem E8 {u0 u1 u2 u3:Int} {u4:RW} {u5:Int} {u6 u7 u8 u9 a1:RW} (h:∀ EV,VN EV Q→EZ G36 [] [] (fun x rs vs=>(x=0∧∃ SS,rs=[]∧vs=[.b SS]∧((SS=false→Q 0 [] [.b false])∧(SS=true→EZ G37 [] (cL u0 u1 u2 u3 u4 u5 u6 u7 u8 u9 []) (fun x rs vs=>(x=0∧∃ SY,rs=[]∧vs=[.b SY]∧((SY=true→((a1.length:Int) > 30→Q 0 [] [.b true])∧((a1.length:Int)≤30→EZ G43 [] (cL u0 u1 u2 u3 u4 u5 u6 u7 u8 u9 []) (fun x rs vs=>(x=0∧∃ TN Un,rs=[TN]∧vs=[.b Un]∧((Un=true→Q 0 [] [.b true])∧(Un=false→EZ G40 [] (cL u0 u1 u2 u3 u4 u5 u6 u7 u8 u9 [.r a1]) (fun x rs vs=>(x=0∧∃ Ud,rs=[]∧vs=[.b Ud]∧((Ud=false→EZ G41 [] (cL u0 u1 u2 u3 u4 u5 u6 u7 u8 u9 []) (fun x rs vs=>(x=0∧∃ Y9_0,rs=[Y9_0]∧vs=[]∧(EZ G40a [Y9_0] (cL u0 u1 u2 u3 u4 u5 u6 u7 u8 u9 []) (fun x rs vs=>(x=0∧∃ VE Uo,rs=[VE]∧vs=[.b Uo]∧(Q 0 [] [.b (!Uo)])))))))∧(Ud=true→Q 0 [] [.b false]))))))))))∧(SY=false→Q 0 [] [.b true]))))))))):EZ G8 [] (cL u0 u1 u2 u3 u4 u5 u6 u7 u8 u9 [.r a1]) Q:=by
 refine ak.en (I:=I8) (L:=L8) F8_at fun A hA CE CK Dn EV RR W hp=>?_
 have h:=h  EV ⟨trivial⟩
 cbv
 refine W.cl h ?_
 rintro _ _ _ hp0 (⟨rfl,SS,rfl,rfl,k0⟩)
 cbv
 refine ⟨imI hA fun e1=>have j1:=k0.1 (by subst hA;exact (notE rfl e1));(W.q j1),imI hA fun e1=>have j1:=k0.2 (by subst hA;exact (notE rfl e1));?_⟩
 refine W.cl j1 ?_
 rintro _ _ _ hp2 (⟨rfl,SY,rfl,rfl,k2⟩)
 cbv
 refine ⟨imI hA fun e3=>have j3:=k2.1 (by subst hA;exact (notE rfl e3));⟨imI hA fun e4=>have j4:=j3.1 (by subst hA;exact (ah (op:=.gtr) rfl e4));(W.q j4),imI hA fun e4=>have j4:=j3.2 (by subst hA;exact (ah (op:=.gtr) rfl e4));?_⟩,imI hA fun e3=>have j3:=k2.2 (by subst hA;exact (notE rfl e3));(W.q j3)⟩
 refine W.cl j4 ?_
 rintro _ _ _ hp5 (⟨rfl,TN,Un,rfl,rfl,k5⟩)
 cbv
 refine ⟨imI hA fun e6=>have j6:=k5.1 e6;(W.q j6),imI hA fun e6=>have j6:=k5.2 e6;⟨?_,trivial⟩⟩
 refine W.cd j6 ?_
 rintro _ _ _ hp7 (⟨rfl,Ud,rfl,rfl,k7⟩)
 cbv
 refine W.draw 80 (by rfl) ?_
 cbv
 refine ⟨fun e8=>have c8:Ud=false:=(by have q:=(notE hA e8);subst hA;exact q);?_,fun e8=>have c8:Ud=true:=(by have q:=(notE hA e8);subst hA;exact q);?_⟩
 ·refine W.draw 80 (by rfl) ?_
  cbv
  refine ⟨?_,trivial⟩
  refine W.cd (k7.1 c8) ?_
  rintro _ _ _ hp9 (⟨rfl,Y9_0,rfl,rfl,k9⟩)
  cbv
  refine W.draw 80 (by rfl) ?_
  cbv
  refine ⟨⟨ndI hA (An rfl (An rfl rfl)),⟨ndI hA hp9.1,?_⟩⟩,trivial⟩
  refine W.cd k9 ?_
  rintro _ _ _ hp10 (⟨rfl,VE,Uo,rfl,rfl,k10⟩)
  cbv
  refine W.draw 80 (by rfl) ?_
  cbv
  subst hA
  exact (W.q k10)
 ·refine W.draw 80 (by rfl) ?_
  cbv
  subst hA
  exact ⟨⟨(W.q (k7.2 c8)),trivial⟩,trivial⟩
structure V9 (EV Q:EP):Prop where
  p44:∀ {t1:RW} {t2:Int} {t7:RW} {t48 t49 b0 b1 b2 b3:Int} {b4:RW} {b5:Int} {b6 b7 b8 b9:RW},((t49 < t48→(0≤t49)∧(t1[t49.toNat]?=some [.int .i64 (cIS t1 t49.toNat 0)])∧(t7[t49.toNat]?=some [.int .i64 (cIS t7 t49.toNat 0)])∧((cIS t1 t49.toNat 0) > (cIS t7 t49.toNat 0)→Q 0 [] [.b false])∧((cIS t1 t49.toNat 0)≤(cIS t7 t49.toNat 0)→EV 44 [] (.r t1::.i t2::.r t7::.i t48::.i (IntKind.wrap .i64 (t49 + 1))::cL b0 b1 b2 b3 b4 b5 b6 b7 b8 b9 [])))∧(t49≥t48→EV 63 [] (.i t2::.r t7::cL b0 b1 b2 b3 b4 b5 b6 b7 b8 b9 [])))→EV 44 [] (.r t1::.i t2::.r t7::.i t48::.i t49::cL b0 b1 b2 b3 b4 b5 b6 b7 b8 b9 [])
  p63:∀ {t2:Int} {t7:RW} {b0 b1 b2 b3:Int} {b4:RW} {b5:Int} {b6 b7 b8 b9:RW},(((t7.length:Int)≠0)∧(t7.length≤140737488355328)∧((t7.length * 8)≤140737488355328)∧(0≤(Int.tmod (IntKind.wrap .i64 t2) (t7.length:Int)))∧((Int.tmod (IntKind.wrap .i64 t2) (t7.length:Int)) < (t7.length:Int))∧(t7[(Int.toNat (Int.tmod (IntKind.wrap .i64 t2) (t7.length:Int)))]?=some [.int .i64 (cIS t7 (Int.toNat (Int.tmod (IntKind.wrap .i64 t2) (t7.length:Int))) 0)])∧(aB (List.set t7 (Int.toNat (Int.tmod (IntKind.wrap .i64 t2) (t7.length:Int))) [.int .i64 (IntKind.wrap .i64 ((cIS t7 (Int.toNat (Int.tmod (IntKind.wrap .i64 t2) (t7.length:Int))) 0) + 1))])=true)∧(EZ G40 [] (cL b0 b1 b2 b3 b4 b5 b6 b7 b8 b9 [.r (List.take t7.length (List.drop 0 (List.set t7 (Int.toNat (Int.tmod (IntKind.wrap .i64 t2) (t7.length:Int))) [.int .i64 (IntKind.wrap .i64 ((cIS t7 (Int.toNat (Int.tmod (IntKind.wrap .i64 t2) (t7.length:Int))) 0) + 1))])))]) (fun x rs vs=>(x=0∧∃ SS,rs=[]∧vs=[.b SS]∧(Q 0 [] [.b (!SS)])))))→EV 63 [] (.i t2::.r t7::cL b0 b1 b2 b3 b4 b5 b6 b7 b8 b9 [])
theorem V9.of (W:Wk Tryz.prog Tryz.f9 I9 L9 Q A sg CE CK Dn EV RR):V9 EV Q:=by
 have hA:=W.hA
 refine ⟨?_,?_⟩
 ·intro t1 t2 t7 t48 t49 b0 b1 b2 b3 b4 b5 b6 b7 b8 b9 h
  refine W.step 80 fun hp=>?_
  cbv
  subst hA
  exact ⟨fun e0=>have j0:=h.1 (ah (op:=.lss) rfl e0);⟨(An j0.1 j0.2.1),⟨(An j0.1 j0.2.2.1),⟨fun e1=>have j1:=j0.2.2.2.1 ((ah (op:=.gtr) rfl e1));(W.q j1),fun e1=>have j1:=j0.2.2.2.2 ((ah (op:=.gtr) rfl e1));j1⟩⟩⟩,fun e0=>have j0:=h.2 (ah (op:=.lss) rfl e0);j0⟩
 ·intro t2 t7 b0 b1 b2 b3 b4 b5 b6 b7 b8 b9 h
  refine W.step 80 fun hp=>?_
  cbv
  refine ⟨ndI hA (hA ▸ h.1),⟨ndI hA (An (hA ▸ h.2.1) (hA ▸ h.2.2.1)),⟨ndI hA (An (hA ▸ h.2.2.2.1) (An (hA ▸ h.2.2.2.2.1) rfl)),⟨ndI hA (An rfl (hA ▸ h.2.2.2.2.2.1)),⟨ndI hA (An (hA ▸ h.2.2.2.1) (An (hA ▸ h.2.2.2.2.1) rfl)),⟨ndI hA (An rfl (hA ▸ h.2.2.2.2.2.1)),⟨ndI hA (An (An (hA ▸ h.2.2.2.2.2.2.1) trivial) (An (by subst hA;show t7.length=(List.length (List.set t7 (Int.toNat (Int.tmod (IntKind.wrap .i64 t2) (t7.length:Int))) [.int .i64 (IntKind.wrap .i64 ((cIS t7 (Int.toNat (Int.tmod (IntKind.wrap .i64 t2) (t7.length:Int))) 0) + 1))]));(first | rfl | simp [af] | (simp [af];omega))) trivial)),?_⟩⟩⟩⟩⟩⟩⟩
  refine W.cl h.2.2.2.2.2.2.2 ?_
  rintro _ _ _ hp0 (⟨rfl,SS,rfl,rfl,k0⟩)
  cbv
  subst hA
  exact (W.q k0)
theorem E9 {u0 u1 u2 u3:Int} {u4:RW} {u5:Int} {u6 u7 u8 u9 a1:RW} {a2:Int} (h:∀ EV,V9 EV Q→EZ G36 [] [] (fun x rs vs=>(x=0∧∃ SS,rs=[]∧vs=[.b SS]∧((SS=false→Q 0 [] [.b false])∧(SS=true→EZ G37 [] (cL u0 u1 u2 u3 u4 u5 u6 u7 u8 u9 []) (fun x rs vs=>(x=0∧∃ SY,rs=[]∧vs=[.b SY]∧((SY=true→((a1.length:Int) > 30→Q 0 [] [.b true])∧((a1.length:Int)≤30→EZ G43 [] (cL u0 u1 u2 u3 u4 u5 u6 u7 u8 u9 []) (fun x rs vs=>(x=0∧∃ TN Un,rs=[TN]∧vs=[.b Un]∧((Un=false→Q 0 [] [.b ((TN.length:Int) == 0)])∧(Un=true→EZ G40 [] (cL u0 u1 u2 u3 u4 u5 u6 u7 u8 u9 [.r (List.take TN.length (List.drop 0 TN))]) (fun x rs vs=>(x=0∧∃ Ud,rs=[]∧vs=[.b Ud]∧((Ud=true→(((List.length (List.take TN.length (List.drop 0 TN))):Int)≠(u8.length:Int)→Q 0 [] [.b false])∧(((List.length (List.take TN.length (List.drop 0 TN))):Int)=(u8.length:Int)→EZ G40 [] (cL u0 u1 u2 u3 u4 u5 u6 u7 u8 u9 [.r a1]) (fun x rs vs=>(x=0∧∃ Uo,rs=[]∧vs=[.b Uo]∧((Uo=true→EV 44 [] (.r a1::.i a2::.r (List.take TN.length (List.drop 0 TN))::.i (a1.length:Int)::.i 0::cL u0 u1 u2 u3 u4 u5 u6 u7 u8 u9 []))∧(Uo=false→EV 63 [] (.i a2::.r (List.take TN.length (List.drop 0 TN))::cL u0 u1 u2 u3 u4 u5 u6 u7 u8 u9 [])))))))∧(Ud=false→Q 0 [] [.b false]))))))))))∧(SY=false→Q 0 [] [.b true]))))))))):EZ G9 [] (cL u0 u1 u2 u3 u4 u5 u6 u7 u8 u9 [.r a1,.i a2]) Q:=by
 refine ak.en (I:=I9) (L:=L9) F9_at fun A hA CE CK Dn EV RR W hp=>?_
 have h:=h  EV (V9.of W)
 cbv
 refine W.cl h ?_
 rintro _ _ _ hp0 (⟨rfl,SS,rfl,rfl,k0⟩)
 cbv
 refine ⟨imI hA fun e1=>have j1:=k0.1 (by subst hA;exact (notE rfl e1));(W.q j1),imI hA fun e1=>have j1:=k0.2 (by subst hA;exact (notE rfl e1));?_⟩
 refine W.cl j1 ?_
 rintro _ _ _ hp2 (⟨rfl,SY,rfl,rfl,k2⟩)
 cbv
 refine ⟨imI hA fun e3=>have j3:=k2.1 (by subst hA;exact (notE rfl e3));⟨imI hA fun e4=>have j4:=j3.1 (by subst hA;exact (ah (op:=.gtr) rfl e4));(W.q j4),imI hA fun e4=>have j4:=j3.2 (by subst hA;exact (ah (op:=.gtr) rfl e4));?_⟩,imI hA fun e3=>have j3:=k2.2 (by subst hA;exact (notE rfl e3));(W.q j3)⟩
 refine W.cl j4 ?_
 rintro _ _ _ hp5 (⟨rfl,TN,Un,rfl,rfl,k5⟩)
 cbv
 refine ⟨imI hA fun e6=>have j6:=k5.1 (by subst hA;exact (notE rfl e6));⟨ndI hA rfl,(W.q (hA ▸ j6))⟩,imI hA fun e6=>have j6:=k5.2 (by subst hA;exact (notE rfl e6));⟨ndI hA (An (An hp5.1 trivial) (An rfl (An rfl trivial))),?_⟩⟩
 refine W.cl j6 ?_
 rintro _ _ _ hp7 (⟨rfl,Ud,rfl,rfl,k7⟩)
 cbv
 refine ⟨imI hA fun e8=>have j8:=k7.1 (by subst hA;exact (notE rfl e8));⟨imI hA fun e9=>have j9:=j8.1 (by subst hA;exact (ah (op:=.neq) rfl e9));(W.q j9),imI hA fun e9=>have j9:=j8.2 (by subst hA;exact (ah (op:=.neq) rfl e9));?_⟩,imI hA fun e8=>have j8:=k7.2 (by subst hA;exact (notE rfl e8));(W.q j8)⟩
 refine W.cl j9 ?_
 rintro _ _ _ hp10 (⟨rfl,Uo,rfl,rfl,k10⟩)
 cbv
 subst hA
 exact ⟨fun e11=>have j11:=k10.1 e11;j11,fun e11=>have j11:=k10.2 e11;j11⟩
end Go.Ab
