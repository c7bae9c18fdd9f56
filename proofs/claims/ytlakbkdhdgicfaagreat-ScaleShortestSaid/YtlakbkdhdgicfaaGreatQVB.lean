import Derived.Test.YtlakbkdhdgicfaaGreatQS
import Derived.Test.YtlakbkdhdgicfaaGreatLayE
/- PRINTED BY A PROGRAM (wip/tools/vc.py, AbVc.lean): what is to be shown of each function, from place to place, and that it is enough. -/
namespace Go.Ab
open Go Go.Proofs
set_option linter.unusedVariables false
set_option linter.unusedSimpArgs false
set_option maxRecDepth 100000
set_option maxHeartbeats 0
variable {Q EV RR:EP} {A:Ar} {CE:Nat→Rs→List Lf→EP→Prop} {CK:Nat→Rs→List Lf→Cont→Prop} {Dn:Nat→List Bool→List bf→Nat→List Bool→List AV→List aj→Prop}
structure V123 (EV Q:EP):Prop where
  p9:∀ {R0 t8:RW} {t9 t10 b0 b1 b2 b3:Int} {b4:RW} {b5:Int} {b6 b7 b8 b9:RW},(aB R0=true→(t10 < t9→(0≤t10)∧(t8[t10.toNat]?=some (r7 t8 t10.toNat))∧((cIS t8 t10.toNat 1)≥(cIS t8 t10.toNat 0)→((cIS t8 t10.toNat 4)≥0→((cIS t8 t10.toNat 4)≤1048576→(jM .i64 (cIS t8 t10.toNat 0) (AV.bool false) R0=some (AV.bool (mBS R0 .i64 (cIS t8 t10.toNat 0))))∧((mBS R0 .i64 (cIS t8 t10.toNat 0))=true→Q 0 [] [.b false])∧((mBS R0 .i64 (cIS t8 t10.toNat 0))=false→(jh .i64 (cIS t8 t10.toNat 0) (AV.bool true) R0=some (mSS R0 .i64 (cIS t8 t10.toNat 0) (AV.bool true)))∧(EV 9 [(mSS R0 .i64 (cIS t8 t10.toNat 0) (AV.bool true))] (.r t8::.i t9::.i (IntKind.wrap .i64 (t10 + 1))::cL b0 b1 b2 b3 b4 b5 b6 b7 b8 b9 []))))∧((cIS t8 t10.toNat 4) > 1048576→Q 0 [] [.b false]))∧((cIS t8 t10.toNat 4) < 0→Q 0 [] [.b false]))∧((cIS t8 t10.toNat 1) < (cIS t8 t10.toNat 0)→Q 0 [] [.b false]))∧(t10≥t9→Q 0 [] [.b (decide ((b8.length:Int)≤12))]))→EV 9 [R0] (.r t8::.i t9::.i t10::cL b0 b1 b2 b3 b4 b5 b6 b7 b8 b9 [])
theorem V123.of (W:Wk Tryz.prog Tryz.f123 I123 L123 Q A sg CE CK Dn EV RR):V123 EV Q:=by
 have hA:=W.hA
 refine ⟨?_⟩
 intro R0 t8 t9 t10 b0 b1 b2 b3 b4 b5 b6 b7 b8 b9 h
 refine W.step 80 fun hp=>?_
 have h:=h hp.1
 cbv
 subst hA
 exact ⟨fun e0=>have j0:=h.1 (ah (op:=.lss) rfl e0);⟨(An j0.1 j0.2.1),⟨fun e1=>have j1:=j0.2.2.1 ((ah (op:=.lss) rfl e1));⟨fun e2=>have j2:=j1.1 ((ah (op:=.lss) rfl e2));⟨fun e3=>have j3:=j2.1 ((ah (op:=.gtr) rfl e3));⟨j3.1,⟨fun e4=>have j4:=j3.2.1 e4;(W.q j4),fun e4=>have j4:=j3.2.2 e4;⟨j4.1,⟨((vmset hp.1 rfl)),j4.2⟩⟩⟩⟩,fun e3=>have j3:=j2.2 ((ah (op:=.gtr) rfl e3));(W.q j3)⟩,fun e2=>have j2:=j1.2 ((ah (op:=.lss) rfl e2));(W.q j2)⟩,fun e1=>have j1:=j0.2.2.2 ((ah (op:=.lss) rfl e1));(W.q j1)⟩⟩,fun e0=>have j0:=h.2 (ah (op:=.lss) rfl e0);(W.q j0)⟩
theorem E123 {u0 u1 u2 u3:Int} {u4:RW} {u5:Int} {u6 u7 u8 u9:RW} (h:∀ EV,V123 EV Q→EV 9 [[]] (.r u8::.i (u8.length:Int)::.i 0::cL u0 u1 u2 u3 u4 u5 u6 u7 u8 u9 [])):EZ G123 [] (cL u0 u1 u2 u3 u4 u5 u6 u7 u8 u9 []) Q:=by
 refine ak.en (I:=I123) (L:=L123) Lm fun A hA CE CK Dn EV RR W hp=>?_
 have h:=h  EV (V123.of W)
 cbv
 subst hA
 exact ⟨aQ,h⟩
structure V188 (EV Q:EP):Prop where
  p10:∀ {t0 t2:Int},((t0≥65536→((0:Int)≤16)∧(EV 18 [] [.i (cO .shr .u64 t0 16),.i (IntKind.wrap .i64 (t2 + 16))]))∧(t0 < 65536→EV 18 [] [.i t0,.i t2]))→EV 10 [] [.i t0,.i t2]
  p18:∀ {t0 t2:Int},((t0≥256→((0:Int)≤8)∧(0≤(IntKind.wrap .u8 (cO .shr .u64 t0 8)))∧((IntKind.wrap .u8 (cO .shr .u64 t0 8)) < ((ByteArray.size (ByteArray.mk (Array.mk [0,1,2,2,3,3,3,3,4,4,4,4,4,4,4,4,5,5,5,5,5,5,5,5,5,5,5,5,5,5,5,5,6,6,6,6,6,6,6,6,6,6,6,6,6,6,6,6,6,6,6,6,6,6,6,6,6,6,6,6,6,6,6,6,7,7,7,7,7,7,7,7,7,7,7,7,7,7,7,7,7,7,7,7,7,7,7,7,7,7,7,7,7,7,7,7,7,7,7,7,7,7,7,7,7,7,7,7,7,7,7,7,7,7,7,7,7,7,7,7,7,7,7,7,7,7,7,7,8,8,8,8,8,8,8,8,8,8,8,8,8,8,8,8,8,8,8,8,8,8,8,8,8,8,8,8,8,8,8,8,8,8,8,8,8,8,8,8,8,8,8,8,8,8,8,8,8,8,8,8,8,8,8,8,8,8,8,8,8,8,8,8,8,8,8,8,8,8,8,8,8,8,8,8,8,8,8,8,8,8,8,8,8,8,8,8,8,8,8,8,8,8,8,8,8,8,8,8,8,8,8,8,8,8,8,8,8,8,8,8,8,8,8,8,8,8,8,8,8,8,8,8,8,8,8,8]))):Int))∧(Q 0 [] [.i (IntKind.wrap .i64 ((IntKind.wrap .i64 (t2 + 8)) + (IntKind.wrap .i64 (arS.sidx (ByteArray.mk (Array.mk [0,1,2,2,3,3,3,3,4,4,4,4,4,4,4,4,5,5,5,5,5,5,5,5,5,5,5,5,5,5,5,5,6,6,6,6,6,6,6,6,6,6,6,6,6,6,6,6,6,6,6,6,6,6,6,6,6,6,6,6,6,6,6,6,7,7,7,7,7,7,7,7,7,7,7,7,7,7,7,7,7,7,7,7,7,7,7,7,7,7,7,7,7,7,7,7,7,7,7,7,7,7,7,7,7,7,7,7,7,7,7,7,7,7,7,7,7,7,7,7,7,7,7,7,7,7,7,7,8,8,8,8,8,8,8,8,8,8,8,8,8,8,8,8,8,8,8,8,8,8,8,8,8,8,8,8,8,8,8,8,8,8,8,8,8,8,8,8,8,8,8,8,8,8,8,8,8,8,8,8,8,8,8,8,8,8,8,8,8,8,8,8,8,8,8,8,8,8,8,8,8,8,8,8,8,8,8,8,8,8,8,8,8,8,8,8,8,8,8,8,8,8,8,8,8,8,8,8,8,8,8,8,8,8,8,8,8,8,8,8,8,8,8,8,8,8,8,8,8,8,8,8,8,8,8,8])) (IntKind.wrap .u8 (cO .shr .u64 t0 8))))))]))∧(t0 < 256→(0≤(IntKind.wrap .u8 t0))∧((IntKind.wrap .u8 t0) < ((ByteArray.size (ByteArray.mk (Array.mk [0,1,2,2,3,3,3,3,4,4,4,4,4,4,4,4,5,5,5,5,5,5,5,5,5,5,5,5,5,5,5,5,6,6,6,6,6,6,6,6,6,6,6,6,6,6,6,6,6,6,6,6,6,6,6,6,6,6,6,6,6,6,6,6,7,7,7,7,7,7,7,7,7,7,7,7,7,7,7,7,7,7,7,7,7,7,7,7,7,7,7,7,7,7,7,7,7,7,7,7,7,7,7,7,7,7,7,7,7,7,7,7,7,7,7,7,7,7,7,7,7,7,7,7,7,7,7,7,8,8,8,8,8,8,8,8,8,8,8,8,8,8,8,8,8,8,8,8,8,8,8,8,8,8,8,8,8,8,8,8,8,8,8,8,8,8,8,8,8,8,8,8,8,8,8,8,8,8,8,8,8,8,8,8,8,8,8,8,8,8,8,8,8,8,8,8,8,8,8,8,8,8,8,8,8,8,8,8,8,8,8,8,8,8,8,8,8,8,8,8,8,8,8,8,8,8,8,8,8,8,8,8,8,8,8,8,8,8,8,8,8,8,8,8,8,8,8,8,8,8,8,8,8,8,8,8]))):Int))∧(Q 0 [] [.i (IntKind.wrap .i64 (t2 + (IntKind.wrap .i64 (arS.sidx (ByteArray.mk (Array.mk [0,1,2,2,3,3,3,3,4,4,4,4,4,4,4,4,5,5,5,5,5,5,5,5,5,5,5,5,5,5,5,5,6,6,6,6,6,6,6,6,6,6,6,6,6,6,6,6,6,6,6,6,6,6,6,6,6,6,6,6,6,6,6,6,7,7,7,7,7,7,7,7,7,7,7,7,7,7,7,7,7,7,7,7,7,7,7,7,7,7,7,7,7,7,7,7,7,7,7,7,7,7,7,7,7,7,7,7,7,7,7,7,7,7,7,7,7,7,7,7,7,7,7,7,7,7,7,7,8,8,8,8,8,8,8,8,8,8,8,8,8,8,8,8,8,8,8,8,8,8,8,8,8,8,8,8,8,8,8,8,8,8,8,8,8,8,8,8,8,8,8,8,8,8,8,8,8,8,8,8,8,8,8,8,8,8,8,8,8,8,8,8,8,8,8,8,8,8,8,8,8,8,8,8,8,8,8,8,8,8,8,8,8,8,8,8,8,8,8,8,8,8,8,8,8,8,8,8,8,8,8,8,8,8,8,8,8,8,8,8,8,8,8,8,8,8,8,8,8,8,8,8,8,8,8,8])) (IntKind.wrap .u8 t0)))))])))→EV 18 [] [.i t0,.i t2]
theorem V188.of (W:Wk Tryz.prog Tryz.f188 I188 L188 Q A sg CE CK Dn EV RR):V188 EV Q:=by
 have hA:=W.hA
 refine ⟨?_,?_⟩
 ·intro t0 t2 h
  refine W.step 80 fun hp=>?_
  cbv
  subst hA
  exact ⟨fun e0=>have j0:=h.1 (ah (op:=.geq) rfl e0);⟨j0.1,j0.2⟩,fun e0=>have j0:=h.2 (ah (op:=.geq) rfl e0);j0⟩
 ·intro t0 t2 h
  refine W.step 80 fun hp=>?_
  cbv
  subst hA
  exact ⟨fun e0=>have j0:=h.1 (ah (op:=.geq) rfl e0);⟨j0.1,⟨(An j0.2.1 j0.2.2.1),(W.q j0.2.2.2)⟩⟩,fun e0=>have j0:=h.2 (ah (op:=.geq) rfl e0);⟨(An j0.1 j0.2.1),(W.q j0.2.2)⟩⟩
theorem E188 {a0:Int} (h:∀ EV,V188 EV Q→(a0≥4294967296→((0:Int)≤32)∧(EV 10 [] [.i (cO .shr .u64 a0 32),.i 32]))∧(a0 < 4294967296→EV 10 [] [.i a0,.i 0])):EZ G188 [] [.i a0] Q:=by
 refine ak.en (I:=I188) (L:=L188) J4 fun A hA CE CK Dn EV RR W hp=>?_
 have h:=h  EV (V188.of W)
 cbv
 subst hA
 exact ⟨fun e0=>have j0:=h.1 (ah (op:=.geq) rfl e0);⟨j0.1,j0.2⟩,fun e0=>have j0:=h.2 (ah (op:=.geq) rfl e0);j0⟩
theorem E166 {a0:Int} (h:∀ EV,VN EV Q→EZ G188 [] [.i a0] (fun x rs vs=>(x=0∧∃ SS,rs=[]∧vs=[.i SS]∧(Q 0 [] [.i SS])))):EZ G166 [] [.i a0] Q:=by
 refine ak.en (I:=I166) (L:=L166) Kr fun A hA CE CK Dn EV RR W hp=>?_
 have h:=h  EV ⟨trivial⟩
 cbv
 refine W.cl h ?_
 rintro _ _ _ hp0 (⟨rfl,SS,rfl,rfl,k0⟩)
 cbv
 subst hA
 exact (W.q k0)
theorem E173 {a0:Int} (h:∀ EV,VN EV Q→Q 0 [] [.b (a0 != a0)]):EZ G173 [] [.i a0] Q:=by
 refine ak.en (I:=I173) (L:=L173) J7 fun A hA CE CK Dn EV RR W hp=>?_
 have h:=h  EV ⟨trivial⟩
 cbv
 subst hA
 exact (W.q h)
theorem E155 {a0 a1:Int} (h:∀ EV,VN EV Q→EZ G173 [] [.i a0] (fun x rs vs=>(x=0∧∃ SS,rs=[]∧vs=[.b SS]∧(EZ G173 [] [.i a1] (fun x rs vs=>(x=0∧∃ SX,rs=[]∧vs=[.b SX]∧((SS=true→(SX=true→Q 0 [] [.i 0])∧(SX=false→Q 0 [] [.i (-1)]))∧(SS=false→(SX=true→Q 0 [] [.i 1])∧(SX=false→(a0 < a1→Q 0 [] [.i (-1)])∧(a0≥a1→(a0 > a1→Q 0 [] [.i 1])∧(a0≤a1→Q 0 [] [.i 0]))))))))))):EZ G155 [] [.i a0,.i a1] Q:=by
 refine ak.en (I:=I155) (L:=L155) KC fun A hA CE CK Dn EV RR W hp=>?_
 have h:=h  EV ⟨trivial⟩
 cbv
 refine W.cl h ?_
 rintro _ _ _ hp0 (⟨rfl,SS,rfl,rfl,k0⟩)
 cbv
 refine W.cl k0 ?_
 rintro _ _ _ hp1 (⟨rfl,SX,rfl,rfl,k1⟩)
 cbv
 subst hA
 exact ⟨fun e2=>have j2:=k1.1 e2;⟨fun e3=>have j3:=j2.1 e3;(W.q j3),fun e3=>have j3:=j2.2 e3;(W.q j3)⟩,fun e2=>have j2:=k1.2 e2;⟨fun e3=>have j3:=j2.1 e3;(W.q j3),fun e3=>have j3:=j2.2 e3;⟨fun e4=>have j4:=j3.1 (ah (op:=.lss) rfl e4);(W.q j4),fun e4=>have j4:=j3.2 (ah (op:=.lss) rfl e4);⟨fun e5=>have j5:=j4.1 (ah (op:=.gtr) rfl e5);(W.q j5),fun e5=>have j5:=j4.2 (ah (op:=.gtr) rfl e5);(W.q j5)⟩⟩⟩⟩
theorem E154 {a0 a1 b0 b1 b2 b3:Int} {b4:RW} {b5:Int} {b6 b7 b8 b9:RW} (h:∀ EV,VN EV Q→(0≤a0)∧(b8[a0.toNat]?=some (r7 b8 a0.toNat))∧(0≤a1)∧(b8[a1.toNat]?=some (r7 b8 a1.toNat))∧(EZ G155 [] [.i (cIS b8 a0.toNat 0),.i (cIS b8 a1.toNat 0)] (fun x rs vs=>(x=0∧∃ SS,rs=[]∧vs=[.i SS]∧(Q 0 [] (.i SS::cL b0 b1 b2 b3 b4 b5 b6 b7 b8 b9 [])))))):EZ G154 [] (.i a0::.i a1::cL b0 b1 b2 b3 b4 b5 b6 b7 b8 b9 []) Q:=by
 refine ak.en (I:=I154) (L:=L154) KD fun A hA CE CK Dn EV RR W hp=>?_
 have h:=h  EV ⟨trivial⟩
 cbv
 refine ⟨ndI hA (An h.1 (hA ▸ h.2.1)),⟨ndI hA (An h.2.2.1 (hA ▸ h.2.2.2.1)),⟨?_,trivial⟩⟩⟩
 refine W.cd h.2.2.2.2 ?_
 rintro _ _ _ hp0 (⟨rfl,SS,rfl,rfl,k0⟩)
 cbv
 refine W.draw 80 (by rfl) ?_
 cbv
 subst hA
 exact (W.q k0)
structure V192 (EV Q:EP):Prop where
  p4:∀ {R0:RW} {t1 t2 t8 d0 d1 d2 d3:Int} {d4:RW} {d5:Int} {d6 d7 d8 d9:RW},(aB R0=true→(t8 < t2→EV 16 [R0] (.i t1::.i t2::.i t8::.i t8::cL d0 d1 d2 d3 d4 d5 d6 d7 d8 d9 []))∧(t8≥t2→Q 0 [R0] (cL d0 d1 d2 d3 d4 d5 d6 d7 d8 d9 [])))→EV 4 [R0] (.i t1::.i t2::.i t8::cL d0 d1 d2 d3 d4 d5 d6 d7 d8 d9 [])
  p16:∀ {R0:RW} {t1 t2 t8 t9 d0 d1 d2 d3:Int} {d4:RW} {d5:Int} {d6 d7 d8 d9:RW},(aB R0=true→(t9 > t1→(0≤t9)∧(t9 < (R0.length:Int))∧(R0[t9.toNat]?=some [.int .i64 (cIS R0 t9.toNat 0)])∧(0≤(IntKind.wrap .i64 (t9 - 1)))∧((IntKind.wrap .i64 (t9 - 1)) < (R0.length:Int))∧(R0[(Int.toNat (IntKind.wrap .i64 (t9 - 1)))]?=some [.int .i64 (cIS R0 (Int.toNat (IntKind.wrap .i64 (t9 - 1))) 0)])∧(EZ G154 [] (.i (cIS R0 t9.toNat 0)::.i (cIS R0 (Int.toNat (IntKind.wrap .i64 (t9 - 1))) 0)::cL d0 d1 d2 d3 d4 d5 d6 d7 d8 d9 []) (fun x rs vs=>(x=0∧∃ SX Tj Ti Tu Tt Tq Tn Tm TA Tz Tv,rs=[]∧vs=(.i SX::cL Tj Ti Tu Tt Tq Tn Tm TA Tz Tv [])∧((SX < 0→(0≤(IntKind.wrap .i64 (t9 - 1)))∧((IntKind.wrap .i64 (t9 - 1)) < (R0.length:Int))∧(R0[(Int.toNat (IntKind.wrap .i64 (t9 - 1)))]?=some [.int .i64 (cIS R0 (Int.toNat (IntKind.wrap .i64 (t9 - 1))) 0)])∧(0≤t9)∧(t9 < (R0.length:Int))∧(R0[t9.toNat]?=some [.int .i64 (cIS R0 t9.toNat 0)])∧((List.set R0 t9.toNat [.int .i64 (cIS R0 (Int.toNat (IntKind.wrap .i64 (t9 - 1))) 0)])[(Int.toNat (IntKind.wrap .i64 (t9 - 1)))]?=some [.int .i64 (cIS (List.set R0 t9.toNat [.int .i64 (cIS R0 (Int.toNat (IntKind.wrap .i64 (t9 - 1))) 0)]) (Int.toNat (IntKind.wrap .i64 (t9 - 1))) 0)])∧(EV 16 [(List.set (List.set R0 t9.toNat [.int .i64 (cIS R0 (Int.toNat (IntKind.wrap .i64 (t9 - 1))) 0)]) (Int.toNat (IntKind.wrap .i64 (t9 - 1))) [.int .i64 (cIS R0 t9.toNat 0)])] (.i t1::.i t2::.i t8::.i (IntKind.wrap .i64 (t9 - 1))::cL Tj Ti Tu Tt Tq Tn Tm TA Tz Tv [])))∧(SX≥0→EV 4 [R0] (.i t1::.i t2::.i (IntKind.wrap .i64 (t8 + 1))::cL Tj Ti Tu Tt Tq Tn Tm TA Tz Tv [])))))))∧(t9≤t1→EV 4 [R0] (.i t1::.i t2::.i (IntKind.wrap .i64 (t8 + 1))::cL d0 d1 d2 d3 d4 d5 d6 d7 d8 d9 [])))→EV 16 [R0] (.i t1::.i t2::.i t8::.i t9::cL d0 d1 d2 d3 d4 d5 d6 d7 d8 d9 [])
theorem V192.of (W:Wk Tryz.prog Tryz.f192 I192 L192 Q A sg CE CK Dn EV RR):V192 EV Q:=by
 have hA:=W.hA
 refine ⟨?_,?_⟩
 ·intro R0 t1 t2 t8 d0 d1 d2 d3 d4 d5 d6 d7 d8 d9 h
  refine W.step 80 fun hp=>?_
  have h:=h hp.1
  cbv
  subst hA
  exact ⟨fun e0=>have j0:=h.1 (ah (op:=.lss) rfl e0);⟨(An rfl (An rfl rfl)),⟨hp.1,j0⟩⟩,fun e0=>have j0:=h.2 (ah (op:=.lss) rfl e0);⟨hp.1,(W.q j0)⟩⟩
 ·intro R0 t1 t2 t8 t9 d0 d1 d2 d3 d4 d5 d6 d7 d8 d9 h
  refine W.step 80 fun hp=>?_
  have h:=h hp.1
  cbv
  refine ⟨fun e0=>have c0:t9 > t1:=(by have q:=(ah (op:=.gtr) hA e0);subst hA;exact q);?_,fun e0=>have c0:t9≤t1:=(by have q:=(ah (op:=.gtr) hA e0);subst hA;exact q);?_⟩
  ·refine W.draw 80 (by rfl) ?_
   cbv
   refine ⟨ndI hA (An (h.1 c0).1 (An (hA ▸ (h.1 c0).2.1) rfl)),⟨ndI hA (An rfl (hA ▸ (h.1 c0).2.2.1)),⟨ndI hA (An (hA ▸ (h.1 c0).2.2.2.1) (An (hA ▸ (h.1 c0).2.2.2.2.1) rfl)),⟨ndI hA (An rfl (hA ▸ (h.1 c0).2.2.2.2.2.1)),⟨?_,trivial⟩⟩⟩⟩⟩
   refine W.cd (h.1 c0).2.2.2.2.2.2 ?_
   rintro _ _ _ hp1 (⟨rfl,SX,Tj,Ti,Tu,Tt,Tq,Tn,Tm,TA,Tz,Tv,rfl,rfl,k1⟩)
   cbv
   refine W.draw 80 (by rfl) ?_
   cbv
   subst hA
   exact ⟨fun e2=>have j2:=k1.1 (ah (op:=.lss) rfl e2);⟨⟨(An j2.1 (An j2.2.1 rfl)),⟨⟨(An rfl j2.2.2.1),⟨⟨(An j2.2.2.2.1 (An j2.2.2.2.2.1 rfl)),⟨⟨(An rfl j2.2.2.2.2.2.1),⟨⟨(An j2.2.2.2.1 (An j2.2.2.2.2.1 rfl)),⟨⟨(An rfl j2.2.2.2.2.2.1),⟨⟨(An j2.1 (An j2.2.1 (by show R0.length=(List.length (List.set R0 t9.toNat [.int .i64 (cIS R0 (Int.toNat (IntKind.wrap .i64 (t9 - 1))) 0)]));(first | rfl | simp [af] | (simp [af];omega))))),⟨⟨(An (by show R0.length=(List.length (List.set R0 t9.toNat [.int .i64 (cIS R0 (Int.toNat (IntKind.wrap .i64 (t9 - 1))) 0)]));(first | rfl | simp [af] | (simp [af];omega))) j2.2.2.2.2.2.2.1),⟨(An (by show R0.length=(List.length (List.set (List.set R0 t9.toNat [.int .i64 (cIS R0 (Int.toNat (IntKind.wrap .i64 (t9 - 1))) 0)]) (Int.toNat (IntKind.wrap .i64 (t9 - 1))) [.int .i64 (cIS R0 t9.toNat 0)]));(first | rfl | simp [af] | (simp [af];omega))) (An rfl (by show R0.length=(List.length (List.set (List.set R0 t9.toNat [.int .i64 (cIS R0 (Int.toNat (IntKind.wrap .i64 (t9 - 1))) 0)]) (Int.toNat (IntKind.wrap .i64 (t9 - 1))) [.int .i64 (cIS R0 t9.toNat 0)]));(first | rfl | simp [af] | (simp [af];omega))))),⟨((dU (dU hp.1 rfl) rfl)),j2.2.2.2.2.2.2.2⟩⟩⟩,trivial⟩⟩,trivial⟩⟩,trivial⟩⟩,trivial⟩⟩,trivial⟩⟩,trivial⟩⟩,⟨⟨(An j2.2.2.2.1 (An j2.2.2.2.2.1 rfl)),⟨⟨(An rfl j2.2.2.1),⟨⟨(An rfl j2.2.2.2.2.2.1),⟨⟨(An j2.2.2.2.1 (An j2.2.2.2.2.1 rfl)),⟨⟨(An rfl j2.2.2.2.2.2.1),⟨⟨(An j2.1 (An j2.2.1 (by show R0.length=(List.length (List.set R0 t9.toNat [.int .i64 (cIS R0 (Int.toNat (IntKind.wrap .i64 (t9 - 1))) 0)]));(first | rfl | simp [af] | (simp [af];omega))))),⟨⟨(An (by show R0.length=(List.length (List.set R0 t9.toNat [.int .i64 (cIS R0 (Int.toNat (IntKind.wrap .i64 (t9 - 1))) 0)]));(first | rfl | simp [af] | (simp [af];omega))) j2.2.2.2.2.2.2.1),⟨(An (by show R0.length=(List.length (List.set (List.set R0 t9.toNat [.int .i64 (cIS R0 (Int.toNat (IntKind.wrap .i64 (t9 - 1))) 0)]) (Int.toNat (IntKind.wrap .i64 (t9 - 1))) [.int .i64 (cIS R0 t9.toNat 0)]));(first | rfl | simp [af] | (simp [af];omega))) (An rfl (by show R0.length=(List.length (List.set (List.set R0 t9.toNat [.int .i64 (cIS R0 (Int.toNat (IntKind.wrap .i64 (t9 - 1))) 0)]) (Int.toNat (IntKind.wrap .i64 (t9 - 1))) [.int .i64 (cIS R0 t9.toNat 0)]));(first | rfl | simp [af] | (simp [af];omega))))),⟨((dU (dU hp.1 rfl) rfl)),j2.2.2.2.2.2.2.2⟩⟩⟩,trivial⟩⟩,trivial⟩⟩,trivial⟩⟩,trivial⟩⟩,trivial⟩⟩,⟨⟨(An rfl j2.2.2.2.2.2.1),⟨⟨(An rfl j2.2.2.1),⟨⟨(An j2.2.2.2.1 (An j2.2.2.2.2.1 rfl)),⟨⟨(An rfl j2.2.2.2.2.2.1),⟨⟨(An j2.1 (An j2.2.1 (by show R0.length=(List.length (List.set R0 t9.toNat [.int .i64 (cIS R0 (Int.toNat (IntKind.wrap .i64 (t9 - 1))) 0)]));(first | rfl | simp [af] | (simp [af];omega))))),⟨⟨(An (by show R0.length=(List.length (List.set R0 t9.toNat [.int .i64 (cIS R0 (Int.toNat (IntKind.wrap .i64 (t9 - 1))) 0)]));(first | rfl | simp [af] | (simp [af];omega))) j2.2.2.2.2.2.2.1),⟨(An (by show R0.length=(List.length (List.set (List.set R0 t9.toNat [.int .i64 (cIS R0 (Int.toNat (IntKind.wrap .i64 (t9 - 1))) 0)]) (Int.toNat (IntKind.wrap .i64 (t9 - 1))) [.int .i64 (cIS R0 t9.toNat 0)]));(first | rfl | simp [af] | (simp [af];omega))) (An rfl (by show R0.length=(List.length (List.set (List.set R0 t9.toNat [.int .i64 (cIS R0 (Int.toNat (IntKind.wrap .i64 (t9 - 1))) 0)]) (Int.toNat (IntKind.wrap .i64 (t9 - 1))) [.int .i64 (cIS R0 t9.toNat 0)]));(first | rfl | simp [af] | (simp [af];omega))))),⟨((dU (dU hp.1 rfl) rfl)),j2.2.2.2.2.2.2.2⟩⟩⟩,trivial⟩⟩,trivial⟩⟩,trivial⟩⟩,trivial⟩⟩,trivial⟩⟩,trivial⟩⟩⟩,trivial⟩⟩⟩,⟨⟨(An j2.2.2.2.1 (An j2.2.2.2.2.1 rfl)),⟨⟨(An j2.1 (An j2.2.1 rfl)),⟨⟨(An rfl j2.2.2.1),⟨⟨(An rfl j2.2.2.2.2.2.1),⟨⟨(An j2.2.2.2.1 (An j2.2.2.2.2.1 rfl)),⟨⟨(An rfl j2.2.2.2.2.2.1),⟨⟨(An j2.1 (An j2.2.1 (by show R0.length=(List.length (List.set R0 t9.toNat [.int .i64 (cIS R0 (Int.toNat (IntKind.wrap .i64 (t9 - 1))) 0)]));(first | rfl | simp [af] | (simp [af];omega))))),⟨⟨(An (by show R0.length=(List.length (List.set R0 t9.toNat [.int .i64 (cIS R0 (Int.toNat (IntKind.wrap .i64 (t9 - 1))) 0)]));(first | rfl | simp [af] | (simp [af];omega))) j2.2.2.2.2.2.2.1),⟨(An (by show R0.length=(List.length (List.set (List.set R0 t9.toNat [.int .i64 (cIS R0 (Int.toNat (IntKind.wrap .i64 (t9 - 1))) 0)]) (Int.toNat (IntKind.wrap .i64 (t9 - 1))) [.int .i64 (cIS R0 t9.toNat 0)]));(first | rfl | simp [af] | (simp [af];omega))) (An rfl (by show R0.length=(List.length (List.set (List.set R0 t9.toNat [.int .i64 (cIS R0 (Int.toNat (IntKind.wrap .i64 (t9 - 1))) 0)]) (Int.toNat (IntKind.wrap .i64 (t9 - 1))) [.int .i64 (cIS R0 t9.toNat 0)]));(first | rfl | simp [af] | (simp [af];omega))))),⟨((dU (dU hp.1 rfl) rfl)),j2.2.2.2.2.2.2.2⟩⟩⟩,trivial⟩⟩,trivial⟩⟩,trivial⟩⟩,trivial⟩⟩,trivial⟩⟩,⟨⟨(An rfl j2.2.2.2.2.2.1),⟨⟨(An rfl j2.2.2.1),⟨⟨(An j2.2.2.2.1 (An j2.2.2.2.2.1 rfl)),⟨⟨(An rfl j2.2.2.2.2.2.1),⟨⟨(An j2.1 (An j2.2.1 (by show R0.length=(List.length (List.set R0 t9.toNat [.int .i64 (cIS R0 (Int.toNat (IntKind.wrap .i64 (t9 - 1))) 0)]));(first | rfl | simp [af] | (simp [af];omega))))),⟨⟨(An (by show R0.length=(List.length (List.set R0 t9.toNat [.int .i64 (cIS R0 (Int.toNat (IntKind.wrap .i64 (t9 - 1))) 0)]));(first | rfl | simp [af] | (simp [af];omega))) j2.2.2.2.2.2.2.1),⟨(An (by show R0.length=(List.length (List.set (List.set R0 t9.toNat [.int .i64 (cIS R0 (Int.toNat (IntKind.wrap .i64 (t9 - 1))) 0)]) (Int.toNat (IntKind.wrap .i64 (t9 - 1))) [.int .i64 (cIS R0 t9.toNat 0)]));(first | rfl | simp [af] | (simp [af];omega))) (An rfl (by show R0.length=(List.length (List.set (List.set R0 t9.toNat [.int .i64 (cIS R0 (Int.toNat (IntKind.wrap .i64 (t9 - 1))) 0)]) (Int.toNat (IntKind.wrap .i64 (t9 - 1))) [.int .i64 (cIS R0 t9.toNat 0)]));(first | rfl | simp [af] | (simp [af];omega))))),⟨((dU (dU hp.1 rfl) rfl)),j2.2.2.2.2.2.2.2⟩⟩⟩,trivial⟩⟩,trivial⟩⟩,trivial⟩⟩,trivial⟩⟩,trivial⟩⟩,trivial⟩⟩⟩,⟨⟨(An rfl j2.2.2.2.2.2.1),⟨⟨(An j2.1 (An j2.2.1 rfl)),⟨⟨(An rfl j2.2.2.1),⟨⟨(An j2.2.2.2.1 (An j2.2.2.2.2.1 rfl)),⟨⟨(An rfl j2.2.2.2.2.2.1),⟨⟨(An j2.1 (An j2.2.1 (by show R0.length=(List.length (List.set R0 t9.toNat [.int .i64 (cIS R0 (Int.toNat (IntKind.wrap .i64 (t9 - 1))) 0)]));(first | rfl | simp [af] | (simp [af];omega))))),⟨⟨(An (by show R0.length=(List.length (List.set R0 t9.toNat [.int .i64 (cIS R0 (Int.toNat (IntKind.wrap .i64 (t9 - 1))) 0)]));(first | rfl | simp [af] | (simp [af];omega))) j2.2.2.2.2.2.2.1),⟨(An (by show R0.length=(List.length (List.set (List.set R0 t9.toNat [.int .i64 (cIS R0 (Int.toNat (IntKind.wrap .i64 (t9 - 1))) 0)]) (Int.toNat (IntKind.wrap .i64 (t9 - 1))) [.int .i64 (cIS R0 t9.toNat 0)]));(first | rfl | simp [af] | (simp [af];omega))) (An rfl (by show R0.length=(List.length (List.set (List.set R0 t9.toNat [.int .i64 (cIS R0 (Int.toNat (IntKind.wrap .i64 (t9 - 1))) 0)]) (Int.toNat (IntKind.wrap .i64 (t9 - 1))) [.int .i64 (cIS R0 t9.toNat 0)]));(first | rfl | simp [af] | (simp [af];omega))))),⟨((dU (dU hp.1 rfl) rfl)),j2.2.2.2.2.2.2.2⟩⟩⟩,trivial⟩⟩,trivial⟩⟩,trivial⟩⟩,trivial⟩⟩,trivial⟩⟩,trivial⟩⟩,trivial⟩⟩⟩,trivial⟩⟩,fun e2=>have j2:=k1.2 (ah (op:=.lss) rfl e2);⟨(An rfl (An rfl rfl)),⟨hp.1,j2⟩⟩⟩
  ·refine W.draw 80 (by rfl) ?_
   cbv
   subst hA
   exact ⟨⟨(An rfl (An rfl rfl)),⟨hp.1,((h.2 c0))⟩⟩,trivial⟩
theorem E192 {R0:RW} {a1 a2 d0 d1 d2 d3:Int} {d4:RW} {d5:Int} {d6 d7 d8 d9:RW} (h:aB R0=true→∀ EV,V192 EV Q→EV 4 [R0] (.i a1::.i a2::.i (IntKind.wrap .i64 (a1 + 1))::cL d0 d1 d2 d3 d4 d5 d6 d7 d8 d9 [])):EZ G192 [R0] (.i a1::.i a2::cL d0 d1 d2 d3 d4 d5 d6 d7 d8 d9 []) Q:=by
 refine ak.en (I:=I192) (L:=L192) JY fun A hA CE CK Dn EV RR W hp=>?_
 have h:=h hp.1 EV (V192.of W)
 cbv
 subst hA
 exact ⟨(An rfl (An rfl rfl)),⟨hp.1,h⟩⟩
structure V172 (EV Q:EP):Prop where
  p6:∀ {R0:RW} {t1 t2 t3:Int} {t10 t11:Bool} {d0 d1 d2 d3:Int} {d4:RW} {d5:Int} {d6 d7 d8 d9:RW},(aB R0=true→((IntKind.wrap .i64 (t2 - t1))≤12→EZ G192 [R0] (.i t1::.i t2::cL d0 d1 d2 d3 d4 d5 d6 d7 d8 d9 []) (fun x rs vs=>(x=0∧∃ Tc TW TV TU TS TR TQ TP Uh Ug Uf,rs=[Tc]∧vs=(cL TW TV TU TS TR TQ TP Uh Ug Uf [])∧(Q 0 [Tc] (cL TW TV TU TS TR TQ TP Uh Ug Uf [])))))∧((IntKind.wrap .i64 (t2 - t1)) > 12→(t3=0→EZ G193 [R0] (.i t1::.i t2::cL d0 d1 d2 d3 d4 d5 d6 d7 d8 d9 []) (fun x rs vs=>(x=0∧∃ Tf U6 U5 U4 U3 U2 U1 U0 UZ UY UX,rs=[Tf]∧vs=(cL U6 U5 U4 U3 U2 U1 U0 UZ UY UX [])∧(Q 0 [Tf] (cL U6 U5 U4 U3 U2 U1 U0 UZ UY UX [])))))∧(t3≠0→(t10=false→EZ G194 [R0] (.i t1::.i t2::cL d0 d1 d2 d3 d4 d5 d6 d7 d8 d9 []) (fun x rs vs=>(x=0∧∃ TZ TM TL TJ TI TG TF TE TD TC TB,rs=[TZ]∧vs=(cL TM TL TJ TI TG TF TE TD TC TB [])∧((R0.length=TZ.length)∧(EV 33 [TZ] (.i t1::.i t2::.i (IntKind.wrap .i64 (t3 - 1))::.b t10::.b t11::.i (IntKind.wrap .i64 (t2 - t1))::cL TM TL TJ TI TG TF TE TD TC TB []))))))∧(t10=true→EV 33 [R0] (.i t1::.i t2::.i t3::.b t10::.b t11::.i (IntKind.wrap .i64 (t2 - t1))::cL d0 d1 d2 d3 d4 d5 d6 d7 d8 d9 [])))))→EV 6 [R0] (.i t1::.i t2::.i t3::.b t10::.b t11::cL d0 d1 d2 d3 d4 d5 d6 d7 d8 d9 [])
  p33:∀ {R0:RW} {t1 t2 t3:Int} {t10 t11:Bool} {t12 d0 d1 d2 d3:Int} {d4:RW} {d5:Int} {d6 d7 d8 d9:RW},(aB R0=true→EZ G195 [R0] (.i t1::.i t2::cL d0 d1 d2 d3 d4 d5 d6 d7 d8 d9 []) (fun x rs vs=>(x=0∧∃ SV SS Uj UG UF UE UD UC UB UA Vy Vx Vu,rs=[SV]∧vs=(.i SS::.i Uj::cL UG UF UE UD UC UB UA Vy Vx Vu [])∧((Uj=2→(R0.length=SV.length)∧(EZ G196 [SV] (.i t1::.i t2::cL UG UF UE UD UC UB UA Vy Vx Vu []) (fun x rs vs=>(x=0∧∃ Tf U6 U5 U4 U3 U2 U1 U0 UZ UY UX,rs=[Tf]∧vs=(cL U6 U5 U4 U3 U2 U1 U0 UZ UY UX [])∧((R0.length=Tf.length)∧(EV 45 [Tf] (.i t1::.i t2::.i t3::.b t10::.b t11::.i t12::.i (IntKind.wrap .i64 ((IntKind.wrap .i64 (t2 - 1)) - (IntKind.wrap .i64 (SS - t1))))::.i 1::cL U6 U5 U4 U3 U2 U1 U0 UZ UY UX [])))))))∧(Uj≠2→(R0.length=SV.length)∧(EV 45 [SV] (.i t1::.i t2::.i t3::.b t10::.b t11::.i t12::.i SS::.i Uj::cL UG UF UE UD UC UB UA Vy Vx Vu [])))))))→EV 33 [R0] (.i t1::.i t2::.i t3::.b t10::.b t11::.i t12::cL d0 d1 d2 d3 d4 d5 d6 d7 d8 d9 [])
  p45:∀ {R0:RW} {t1 t2 t3:Int} {t10 t11:Bool} {t12 t13 t14 d0 d1 d2 d3:Int} {d4:RW} {d5:Int} {d6 d7 d8 d9:RW},(aB R0=true→(t10=true→(t11=true→(t14=1→EZ G197 [R0] (.i t1::.i t2::cL d0 d1 d2 d3 d4 d5 d6 d7 d8 d9 []) (fun x rs vs=>(x=0∧∃ TZ S9 TM TL TJ TI TG TF TE TD TC TB,rs=[TZ]∧vs=(.b S9::cL TM TL TJ TI TG TF TE TD TC TB [])∧((S9=true→Q 0 [TZ] (cL TM TL TJ TI TG TF TE TD TC TB []))∧(S9=false→(R0.length=TZ.length)∧(EV 55 [TZ] (.i t1::.i t2::.i t3::.b t10::.b t11::.i t12::.i t13::cL TM TL TJ TI TG TF TE TD TC TB [])))))))∧(t14≠1→EV 55 [R0] (.i t1::.i t2::.i t3::.b t10::.b t11::.i t12::.i t13::cL d0 d1 d2 d3 d4 d5 d6 d7 d8 d9 [])))∧(t11=false→EV 55 [R0] (.i t1::.i t2::.i t3::.b t10::.b t11::.i t12::.i t13::cL d0 d1 d2 d3 d4 d5 d6 d7 d8 d9 [])))∧(t10=false→EV 55 [R0] (.i t1::.i t2::.i t3::.b t10::.b t11::.i t12::.i t13::cL d0 d1 d2 d3 d4 d5 d6 d7 d8 d9 [])))→EV 45 [R0] (.i t1::.i t2::.i t3::.b t10::.b t11::.i t12::.i t13::.i t14::cL d0 d1 d2 d3 d4 d5 d6 d7 d8 d9 [])
  p55:∀ {R0:RW} {t1 t2 t3:Int} {t10 t11:Bool} {t12 t13 d0 d1 d2 d3:Int} {d4:RW} {d5:Int} {d6 d7 d8 d9:RW},(aB R0=true→(t1 > 0→(0≤(IntKind.wrap .i64 (t1 - 1)))∧((IntKind.wrap .i64 (t1 - 1)) < (R0.length:Int))∧(R0[(Int.toNat (IntKind.wrap .i64 (t1 - 1)))]?=some [.int .i64 (cIS R0 (Int.toNat (IntKind.wrap .i64 (t1 - 1))) 0)])∧(0≤t13)∧(t13 < (R0.length:Int))∧(R0[t13.toNat]?=some [.int .i64 (cIS R0 t13.toNat 0)])∧(EZ G154 [] (.i (cIS R0 (Int.toNat (IntKind.wrap .i64 (t1 - 1))) 0)::.i (cIS R0 t13.toNat 0)::cL d0 d1 d2 d3 d4 d5 d6 d7 d8 d9 []) (fun x rs vs=>(x=0∧∃ SX Tj Ti Tu Tt Tq Tn Tm TA Tz Tv,rs=[]∧vs=(.i SX::cL Tj Ti Tu Tt Tq Tn Tm TA Tz Tv [])∧((SX≥0→EZ G198 [R0] (.i t1::.i t2::.i t13::cL Tj Ti Tu Tt Tq Tn Tm TA Tz Tv []) (fun x rs vs=>(x=0∧∃ TZ S9 TM TL TJ TI TG TF TE TD TC TB,rs=[TZ]∧vs=(.i S9::cL TM TL TJ TI TG TF TE TD TC TB [])∧((R0.length=TZ.length)∧(EV 6 [TZ] (.i S9::.i t2::.i t3::.b t10::.b t11::cL TM TL TJ TI TG TF TE TD TC TB []))))))∧(SX < 0→EZ G199 [R0] (.i t1::.i t2::.i t13::cL Tj Ti Tu Tt Tq Tn Tm TA Tz Tv []) (fun x rs vs=>(x=0∧∃ TZ S9 Ux TM TL TJ TI TG TF TE TD TC TB,rs=[TZ]∧vs=(.i S9::.b Ux::cL TM TL TJ TI TG TF TE TD TC TB [])∧(((IntKind.wrap .i64 (S9 - t1)) < (IntKind.wrap .i64 (t2 - S9))→(R0.length=TZ.length)∧(EZ G172 [TZ] (.i t1::.i S9::.i t3::cL TM TL TJ TI TG TF TE TD TC TB []) (fun x rs vs=>(x=0∧∃ TN UW UU UT UR UQ UO UN UL UK UJ,rs=[TN]∧vs=(cL UW UU UT UR UQ UO UN UL UK UJ [])∧((R0.length=TN.length)∧(EV 6 [TN] (.i (IntKind.wrap .i64 (S9 + 1))::.i t2::.i t3::.b (decide ((IntKind.wrap .i64 (S9 - t1))≥(IntKind.wrap .i64 (Int.tdiv t12 8))))::.b Ux::cL UW UU UT UR UQ UO UN UL UK UJ [])))))))∧((IntKind.wrap .i64 (S9 - t1))≥(IntKind.wrap .i64 (t2 - S9))→(R0.length=TZ.length)∧(EZ G172 [TZ] (.i (IntKind.wrap .i64 (S9 + 1))::.i t2::.i t3::cL TM TL TJ TI TG TF TE TD TC TB []) (fun x rs vs=>(x=0∧∃ TN UW UU UT UR UQ UO UN UL UK UJ,rs=[TN]∧vs=(cL UW UU UT UR UQ UO UN UL UK UJ [])∧((R0.length=TN.length)∧(EV 6 [TN] (.i t1::.i S9::.i t3::.b (decide ((IntKind.wrap .i64 (t2 - S9))≥(IntKind.wrap .i64 (Int.tdiv t12 8))))::.b Ux::cL UW UU UT UR UQ UO UN UL UK UJ []))))))))))))))))∧(t1≤0→EZ G199 [R0] (.i t1::.i t2::.i t13::cL d0 d1 d2 d3 d4 d5 d6 d7 d8 d9 []) (fun x rs vs=>(x=0∧∃ Tc SX Ue TW TV TU TS TR TQ TP Uh Ug Uf,rs=[Tc]∧vs=(.i SX::.b Ue::cL TW TV TU TS TR TQ TP Uh Ug Uf [])∧(((IntKind.wrap .i64 (SX - t1)) < (IntKind.wrap .i64 (t2 - SX))→(R0.length=Tc.length)∧(EZ G172 [Tc] (.i t1::.i SX::.i t3::cL TW TV TU TS TR TQ TP Uh Ug Uf []) (fun x rs vs=>(x=0∧∃ TZ TM TL TJ TI TG TF TE TD TC TB,rs=[TZ]∧vs=(cL TM TL TJ TI TG TF TE TD TC TB [])∧((R0.length=TZ.length)∧(EV 6 [TZ] (.i (IntKind.wrap .i64 (SX + 1))::.i t2::.i t3::.b (decide ((IntKind.wrap .i64 (SX - t1))≥(IntKind.wrap .i64 (Int.tdiv t12 8))))::.b Ue::cL TM TL TJ TI TG TF TE TD TC TB [])))))))∧((IntKind.wrap .i64 (SX - t1))≥(IntKind.wrap .i64 (t2 - SX))→(R0.length=Tc.length)∧(EZ G172 [Tc] (.i (IntKind.wrap .i64 (SX + 1))::.i t2::.i t3::cL TW TV TU TS TR TQ TP Uh Ug Uf []) (fun x rs vs=>(x=0∧∃ TZ TM TL TJ TI TG TF TE TD TC TB,rs=[TZ]∧vs=(cL TM TL TJ TI TG TF TE TD TC TB [])∧((R0.length=TZ.length)∧(EV 6 [TZ] (.i t1::.i SX::.i t3::.b (decide ((IntKind.wrap .i64 (t2 - SX))≥(IntKind.wrap .i64 (Int.tdiv t12 8))))::.b Ue::cL TM TL TJ TI TG TF TE TD TC TB []))))))))))))→EV 55 [R0] (.i t1::.i t2::.i t3::.b t10::.b t11::.i t12::.i t13::cL d0 d1 d2 d3 d4 d5 d6 d7 d8 d9 [])
theorem V172.of (W:Wk Tryz.prog Tryz.f172 I172 L172 Q A sg CE CK Dn EV RR):V172 EV Q:=by
 have hA:=W.hA
 refine ⟨?_,?_,?_,?_⟩
 ·intro R0 t1 t2 t3 t10 t11 d0 d1 d2 d3 d4 d5 d6 d7 d8 d9 h
  refine W.step 80 fun hp=>?_
  have h:=h hp.1
  cbv
  refine ⟨imI hA fun e0=>have j0:=h.1 (by subst hA;exact (ah (op:=.leq) rfl e0));⟨ndI hA (An rfl (An rfl rfl)),⟨ndI hA hp.1,?_⟩⟩,imI hA fun e0=>have j0:=h.2 (by subst hA;exact (ah (op:=.leq) rfl e0));⟨imI hA fun e1=>have j1:=j0.1 (ah (op:=.eql) hA e1);⟨ndI hA (An rfl (An rfl rfl)),⟨ndI hA hp.1,?_⟩⟩,imI hA fun e1=>have j1:=j0.2 (ah (op:=.eql) hA e1);⟨imI hA fun e2=>have j2:=j1.1 (by subst hA;exact (notE rfl e2));⟨ndI hA (An rfl (An rfl rfl)),⟨ndI hA hp.1,?_⟩⟩,imI hA fun e2=>have j2:=j1.2 (by subst hA;exact (notE rfl e2));⟨ndI hA (An rfl (An rfl rfl)),⟨ndI hA hp.1,(hA ▸ j2)⟩⟩⟩⟩⟩
  ·refine W.cl j0 ?_
   rintro _ _ _ hp1 (⟨rfl,Tc,TW,TV,TU,TS,TR,TQ,TP,Uh,Ug,Uf,rfl,rfl,k1⟩)
   cbv
   subst hA
   exact ⟨hp1.1,(W.q k1)⟩
  ·refine W.cl j1 ?_
   rintro _ _ _ hp2 (⟨rfl,Tf,U6,U5,U4,U3,U2,U1,U0,UZ,UY,UX,rfl,rfl,k2⟩)
   cbv
   subst hA
   exact ⟨hp2.1,(W.q k2)⟩
  ·refine W.cl j2 ?_
   rintro _ _ _ hp3 (⟨rfl,TZ,TM,TL,TJ,TI,TG,TF,TE,TD,TC,TB,rfl,rfl,k3⟩)
   cbv
   subst hA
   exact ⟨(An k3.1 (An rfl k3.1)),⟨hp3.1,k3.2⟩⟩
 ·intro R0 t1 t2 t3 t10 t11 t12 d0 d1 d2 d3 d4 d5 d6 d7 d8 d9 h
  refine W.step 80 fun hp=>?_
  have h:=h hp.1
  cbv
  refine ⟨ndI hA (An rfl (An rfl rfl)),⟨ndI hA hp.1,?_⟩⟩
  refine W.cl h ?_
  rintro _ _ _ hp0 (⟨rfl,SV,SS,Uj,UG,UF,UE,UD,UC,UB,UA,Vy,Vx,Vu,rfl,rfl,k0⟩)
  cbv
  refine ⟨imI hA fun e1=>have j1:=k0.1 (ah (op:=.eql) hA e1);⟨ndI hA (An (hA ▸ j1.1) (An rfl (hA ▸ j1.1))),⟨ndI hA hp0.1,?_⟩⟩,imI hA fun e1=>have j1:=k0.2 (ah (op:=.eql) hA e1);⟨ndI hA (An (hA ▸ j1.1) (An rfl (hA ▸ j1.1))),⟨ndI hA hp0.1,j1.2⟩⟩⟩
  refine W.cl j1.2 ?_
  rintro _ _ _ hp2 (⟨rfl,Tf,U6,U5,U4,U3,U2,U1,U0,UZ,UY,UX,rfl,rfl,k2⟩)
  cbv
  subst hA
  exact ⟨(An k2.1 (An rfl k2.1)),⟨hp2.1,k2.2⟩⟩
 ·intro R0 t1 t2 t3 t10 t11 t12 t13 t14 d0 d1 d2 d3 d4 d5 d6 d7 d8 d9 h
  refine W.step 80 fun hp=>?_
  have h:=h hp.1
  cbv
  refine ⟨imI hA fun e0=>have j0:=h.1 e0;⟨imI hA fun e1=>have j1:=j0.1 e1;⟨imI hA fun e2=>have j2:=j1.1 (ah (op:=.eql) hA e2);⟨ndI hA (An rfl (An rfl rfl)),⟨ndI hA hp.1,?_⟩⟩,imI hA fun e2=>have j2:=j1.2 (ah (op:=.eql) hA e2);⟨ndI hA (An rfl (An rfl rfl)),⟨ndI hA hp.1,j2⟩⟩⟩,imI hA fun e1=>have j1:=j0.2 e1;⟨ndI hA (An rfl (An rfl rfl)),⟨ndI hA hp.1,j1⟩⟩⟩,imI hA fun e0=>have j0:=h.2 e0;⟨ndI hA (An rfl (An rfl rfl)),⟨ndI hA hp.1,j0⟩⟩⟩
  refine W.cl j2 ?_
  rintro _ _ _ hp3 (⟨rfl,TZ,S9,TM,TL,TJ,TI,TG,TF,TE,TD,TC,TB,rfl,rfl,k3⟩)
  cbv
  subst hA
  exact ⟨fun e4=>have j4:=k3.1 e4;⟨hp3.1,(W.q j4)⟩,fun e4=>have j4:=k3.2 e4;⟨(An j4.1 (An rfl j4.1)),⟨hp3.1,j4.2⟩⟩⟩
 ·intro R0 t1 t2 t3 t10 t11 t12 t13 d0 d1 d2 d3 d4 d5 d6 d7 d8 d9 h
  refine W.step 80 fun hp=>?_
  have h:=h hp.1
  cbv
  refine ⟨fun e0=>have c0:t1 > 0:=(by have q:=(ah (op:=.gtr) hA e0);subst hA;exact q);?_,fun e0=>have c0:t1≤0:=(by have q:=(ah (op:=.gtr) hA e0);subst hA;exact q);?_⟩
  ·refine W.draw 80 (by rfl) ?_
   cbv
   refine ⟨ndI hA (An (hA ▸ (h.1 c0).1) (An (hA ▸ (h.1 c0).2.1) rfl)),⟨ndI hA (An rfl (hA ▸ (h.1 c0).2.2.1)),⟨ndI hA (An (h.1 c0).2.2.2.1 (An (hA ▸ (h.1 c0).2.2.2.2.1) rfl)),⟨ndI hA (An rfl (hA ▸ (h.1 c0).2.2.2.2.2.1)),⟨?_,trivial⟩⟩⟩⟩⟩
   refine W.cd (h.1 c0).2.2.2.2.2.2 ?_
   rintro _ _ _ hp1 (⟨rfl,SX,Tj,Ti,Tu,Tt,Tq,Tn,Tm,TA,Tz,Tv,rfl,rfl,k1⟩)
   cbv
   refine W.draw 80 (by rfl) ?_
   cbv
   refine ⟨imI hA fun e2=>have j2:=k1.1 (by subst hA;exact (ah (op:=.lss) rfl (notE rfl e2)));⟨ndI hA (An rfl (An rfl rfl)),⟨ndI hA hp.1,?_⟩⟩,imI hA fun e2=>have j2:=k1.2 (by subst hA;exact (ah (op:=.lss) rfl (notE rfl e2)));⟨ndI hA (An rfl (An rfl rfl)),⟨ndI hA hp.1,?_⟩⟩⟩
   ·refine W.cl j2 ?_
    rintro _ _ _ hp3 (⟨rfl,TZ,S9,TM,TL,TJ,TI,TG,TF,TE,TD,TC,TB,rfl,rfl,k3⟩)
    cbv
    subst hA
    exact ⟨(An k3.1 (An rfl k3.1)),⟨hp3.1,k3.2⟩⟩
   ·refine W.cl j2 ?_
    rintro _ _ _ hp3 (⟨rfl,TZ,S9,Ux,TM,TL,TJ,TI,TG,TF,TE,TD,TC,TB,rfl,rfl,k3⟩)
    cbv
    refine ⟨ndI hA (show _≠_ by decide),⟨imI hA fun e4=>have j4:=k3.1 (by subst hA;exact (ah (op:=.lss) rfl e4));⟨ndI hA (An (hA ▸ j4.1) (An rfl (hA ▸ j4.1))),⟨ndI hA hp3.1,?_⟩⟩,imI hA fun e4=>have j4:=k3.2 (by subst hA;exact (ah (op:=.lss) rfl e4));⟨ndI hA (An (hA ▸ j4.1) (An rfl (hA ▸ j4.1))),⟨ndI hA hp3.1,?_⟩⟩⟩⟩
    ·refine W.cl j4.2 ?_
     rintro _ _ _ hp5 (⟨rfl,TN,UW,UU,UT,UR,UQ,UO,UN,UL,UK,UJ,rfl,rfl,k5⟩)
     cbv
     subst hA
     exact ⟨(An k5.1 (An rfl k5.1)),⟨hp5.1,k5.2⟩⟩
    ·refine W.cl j4.2 ?_
     rintro _ _ _ hp5 (⟨rfl,TN,UW,UU,UT,UR,UQ,UO,UN,UL,UK,UJ,rfl,rfl,k5⟩)
     cbv
     subst hA
     exact ⟨(An k5.1 (An rfl k5.1)),⟨hp5.1,k5.2⟩⟩
  ·refine W.draw 80 (by rfl) ?_
   cbv
   refine ⟨⟨ndI hA (An rfl (An rfl rfl)),⟨ndI hA hp.1,?_⟩⟩,trivial⟩
   refine W.cl (h.2 c0) ?_
   rintro _ _ _ hp1 (⟨rfl,Tc,SX,Ue,TW,TV,TU,TS,TR,TQ,TP,Uh,Ug,Uf,rfl,rfl,k1⟩)
   cbv
   refine ⟨ndI hA (show _≠_ by decide),⟨imI hA fun e2=>have j2:=k1.1 (by subst hA;exact (ah (op:=.lss) rfl e2));⟨ndI hA (An (hA ▸ j2.1) (An rfl (hA ▸ j2.1))),⟨ndI hA hp1.1,?_⟩⟩,imI hA fun e2=>have j2:=k1.2 (by subst hA;exact (ah (op:=.lss) rfl e2));⟨ndI hA (An (hA ▸ j2.1) (An rfl (hA ▸ j2.1))),⟨ndI hA hp1.1,?_⟩⟩⟩⟩
   ·refine W.cl j2.2 ?_
    rintro _ _ _ hp3 (⟨rfl,TZ,TM,TL,TJ,TI,TG,TF,TE,TD,TC,TB,rfl,rfl,k3⟩)
    cbv
    subst hA
    exact ⟨(An k3.1 (An rfl k3.1)),⟨hp3.1,k3.2⟩⟩
   ·refine W.cl j2.2 ?_
    rintro _ _ _ hp3 (⟨rfl,TZ,TM,TL,TJ,TI,TG,TF,TE,TD,TC,TB,rfl,rfl,k3⟩)
    cbv
    subst hA
    exact ⟨(An k3.1 (An rfl k3.1)),⟨hp3.1,k3.2⟩⟩
theorem E172 {R0:RW} {a1 a2 a3 d0 d1 d2 d3:Int} {d4:RW} {d5:Int} {d6 d7 d8 d9:RW} (h:aB R0=true→∀ EV,V172 EV Q→EV 6 [R0] (.i a1::.i a2::.i a3::.b true::.b true::cL d0 d1 d2 d3 d4 d5 d6 d7 d8 d9 [])):EZ G172 [R0] (.i a1::.i a2::.i a3::cL d0 d1 d2 d3 d4 d5 d6 d7 d8 d9 []) Q:=by
 refine ak.en (I:=I172) (L:=L172) J8 fun A hA CE CK Dn EV RR W hp=>?_
 have h:=h hp.1 EV (V172.of W)
 cbv
 subst hA
 exact ⟨(An rfl (An rfl rfl)),⟨hp.1,h⟩⟩
theorem E153 {R0:RW} {d0 d1 d2 d3:Int} {d4:RW} {d5:Int} {d6 d7 d8 d9:RW} (h:aB R0=true→∀ EV,VN EV Q→EZ G166 [] [.i (IntKind.wrap .u64 (R0.length:Int))] (fun x rs vs=>(x=0∧∃ SS,rs=[]∧vs=[.i SS]∧(EZ G172 [R0] (.i 0::.i (R0.length:Int)::.i SS::cL d0 d1 d2 d3 d4 d5 d6 d7 d8 d9 []) (fun x rs vs=>(x=0∧∃ Tc TW TV TU TS TR TQ TP Uh Ug Uf,rs=[Tc]∧vs=(cL TW TV TU TS TR TQ TP Uh Ug Uf [])∧(Q 0 [Tc] (cL TW TV TU TS TR TQ TP Uh Ug Uf [])))))))):EZ G153 [R0] (cL d0 d1 d2 d3 d4 d5 d6 d7 d8 d9 []) Q:=by
 refine ak.en (I:=I153) (L:=L153) KE fun A hA CE CK Dn EV RR W hp=>?_
 have h:=h hp.1 EV ⟨trivial⟩
 cbv
 refine ⟨ndI hA rfl,?_⟩
 refine W.cl h ?_
 rintro _ _ _ hp0 (⟨rfl,SS,rfl,rfl,k0⟩)
 cbv
 refine ⟨ndI hA (An rfl (An rfl rfl)),⟨ndI hA hp.1,?_⟩⟩
 refine W.cl k0 ?_
 rintro _ _ _ hp1 (⟨rfl,Tc,TW,TV,TU,TS,TR,TQ,TP,Uh,Ug,Uf,rfl,rfl,k1⟩)
 cbv
 subst hA
 exact ⟨hp1.1,(W.q k1)⟩
structure V125 (EV Q:EP):Prop where
  p9:∀ {R0:RW} {t10 t11 b0 b1 b2 b3:Int} {b4:RW} {b5:Int} {b6 b7 b8 b9:RW},(aB R0=true→(t11 < t10→(0≤t11)∧(t11 < (R0.length:Int))∧(R0[t11.toNat]?=some [.int .i64 (cIS R0 t11.toNat 0)])∧(EV 9 [(List.set R0 t11.toNat [.int .i64 t11])] (.i t10::.i (IntKind.wrap .i64 (t11 + 1))::cL b0 b1 b2 b3 b4 b5 b6 b7 b8 b9 [])))∧(t11≥t10→EZ G153 [R0] (cL b0 b1 b2 b3 b4 b5 b6 b7 b8 b9 []) (fun x rs vs=>(x=0∧∃ Tc TW TV TU TS TR TQ TP Uh Ug Uf,rs=[Tc]∧vs=(cL TW TV TU TS TR TQ TP Uh Ug Uf [])∧((R0.length=Tc.length)∧(Q 0 [] [.r (List.take R0.length (List.drop 0 Tc))]))))))→EV 9 [R0] (.i t10::.i t11::cL b0 b1 b2 b3 b4 b5 b6 b7 b8 b9 [])
theorem V125.of (W:Wk Tryz.prog Tryz.f125 I125 L125 Q A sg CE CK Dn EV RR):V125 EV Q:=by
 have hA:=W.hA
 refine ⟨?_⟩
 intro R0 t10 t11 b0 b1 b2 b3 b4 b5 b6 b7 b8 b9 h
 refine W.step 80 fun hp=>?_
 have h:=h hp.1
 cbv
 refine ⟨imI hA fun e0=>have j0:=h.1 (ah (op:=.lss) hA e0);⟨ndI hA (An j0.1 (An (hA ▸ j0.2.1) rfl)),⟨ndI hA (An rfl (hA ▸ j0.2.2.1)),⟨ndI hA (An (by subst hA;show R0.length=(List.length (List.set R0 t11.toNat [.int .i64 t11]));(first | rfl | simp [af] | (simp [af];omega))) (An rfl (by subst hA;show R0.length=(List.length (List.set R0 t11.toNat [.int .i64 t11]));(first | rfl | simp [af] | (simp [af];omega))))),⟨ndI hA (hA ▸ (dU hp.1 rfl)),(hA ▸ j0.2.2.2)⟩⟩⟩⟩,imI hA fun e0=>have j0:=h.2 (ah (op:=.lss) hA e0);⟨ndI hA (An rfl (An rfl rfl)),⟨ndI hA hp.1,?_⟩⟩⟩
 refine W.cl j0 ?_
 rintro _ _ _ hp1 (⟨rfl,Tc,TW,TV,TU,TS,TR,TQ,TP,Uh,Ug,Uf,rfl,rfl,k1⟩)
 cbv
 subst hA
 exact ⟨(An (An hp1.1 trivial) (An k1.1 trivial)),(W.q k1.2)⟩
theorem E125 {u0 u1 u2 u3:Int} {u4:RW} {u5:Int} {u6 u7 u8 u9:RW} (h:∀ EV,V125 EV Q→((u8.length:Int)≤140737488355328)∧(((u8.length:Int) * ((8:Nat):Int))≤140737488355328)∧(EV 9 [(List.replicate u8.length [(AV.int .i64 0)])] (.i (u8.length:Int)::.i 0::cL u0 u1 u2 u3 u4 u5 u6 u7 u8 u9 []))):EZ G125 [] (cL u0 u1 u2 u3 u4 u5 u6 u7 u8 u9 []) Q:=by
 refine ak.en (I:=I125) (L:=L125) Ll fun A hA CE CK Dn EV RR W hp=>?_
 have h:=h  EV (V125.of W)
 cbv
 subst hA
 exact ⟨(An ((Int.natCast_nonneg _)) (An ((Int.le_refl _)) (An h.1 h.2.1))),⟨(by show u8.length=(List.length (List.replicate u8.length [(AV.int .i64 0)]));(first | rfl | simp [af] | (simp [af];omega))),⟨(An (by show u8.length=(List.length (List.replicate u8.length [(AV.int .i64 0)]));(first | rfl | simp [af] | (simp [af];omega))) (An rfl (by show u8.length=(List.length (List.replicate u8.length [(AV.int .i64 0)]));(first | rfl | simp [af] | (simp [af];omega))))),⟨((Gy rfl)),h.2.2⟩⟩⟩⟩
theorem E151 {a0:RW} (h:∀ EV,VN EV Q→Q 0 [] [.r a0]):EZ G151 [] [.r a0] Q:=by
 refine ak.en (I:=I151) (L:=L151) KG fun A hA CE CK Dn EV RR W hp=>?_
 have h:=h  EV ⟨trivial⟩
 cbv
 subst hA
 exact (W.q h)
theorem E152 {u0 u1 u2 u3:Int} {u4:RW} {u5:Int} {u6 u7 u8 u9:RW} {a1 a2:Int} (h:∀ EV,VN EV Q→(a1≥0→(a1 < (u8.length:Int)→(a2≥0→(a2 < (u8.length:Int)→(0≤a1)∧(u8[a1.toNat]?=some (r7 u8 a1.toNat))∧(0≤a2)∧(u8[a2.toNat]?=some (r7 u8 a2.toNat))∧(Q 0 [] [.b (decide ((cIS u8 a1.toNat 0) > (cIS u8 a2.toNat 1)))]))∧(a2≥(u8.length:Int)→Q 0 [] [.b false]))∧(a2 < 0→Q 0 [] [.b false]))∧(a1≥(u8.length:Int)→Q 0 [] [.b false]))∧(a1 < 0→Q 0 [] [.b false])):EZ G152 [] (cL u0 u1 u2 u3 u4 u5 u6 u7 u8 u9 [.i a1,.i a2]) Q:=by
 refine ak.en (I:=I152) (L:=L152) KF fun A hA CE CK Dn EV RR W hp=>?_
 have h:=h  EV ⟨trivial⟩
 cbv
 refine ⟨fun e0=>have c0:a1≥0:=(by have q:=(ah (op:=.geq) hA e0);subst hA;exact q);?_,fun e0=>have c0:a1 < 0:=(by have q:=(ah (op:=.geq) hA e0);subst hA;exact q);?_⟩
 ·refine W.draw 80 (by rfl) ?_
  cbv
  refine ⟨fun e1=>have c1:a1 < (u8.length:Int):=(by have q:=(ah (op:=.lss) hA e1);subst hA;exact q);?_,fun e1=>have c1:a1≥(u8.length:Int):=(by have q:=(ah (op:=.lss) hA e1);subst hA;exact q);?_⟩
  ·refine W.draw 80 (by rfl) ?_
   cbv
   refine ⟨fun e2=>have c2:a2≥0:=(by have q:=(ah (op:=.geq) hA e2);subst hA;exact q);?_,fun e2=>have c2:a2 < 0:=(by have q:=(ah (op:=.geq) hA e2);subst hA;exact q);?_⟩
   ·refine W.draw 80 (by rfl) ?_
    cbv
    refine ⟨fun e3=>have c3:a2 < (u8.length:Int):=(by have q:=(ah (op:=.lss) hA e3);subst hA;exact q);?_,fun e3=>have c3:a2≥(u8.length:Int):=(by have q:=(ah (op:=.lss) hA e3);subst hA;exact q);?_⟩
    ·refine W.draw 80 (by rfl) ?_
     cbv
     subst hA
     exact ⟨(An ((((h.1 c0).1 c1).1 c2).1 c3).1 (((((h.1 c0).1 c1).1 c2).1 c3).2.1)),⟨(An ((((h.1 c0).1 c1).1 c2).1 c3).2.2.1 (((((h.1 c0).1 c1).1 c2).1 c3).2.2.2.1)),(W.q (((((h.1 c0).1 c1).1 c2).1 c3).2.2.2.2))⟩⟩
    ·refine W.draw 80 (by rfl) ?_
     cbv
     subst hA
     exact (W.q ((((h.1 c0).1 c1).1 c2).2 c3))
   ·refine W.draw 80 (by rfl) ?_
    cbv
    subst hA
    exact (W.q (((h.1 c0).1 c1).2 c2))
  ·refine W.draw 80 (by rfl) ?_
   cbv
   subst hA
   exact (W.q ((h.1 c0).2 c1))
 ·refine W.draw 80 (by rfl) ?_
  cbv
  subst hA
  exact (W.q (h.2 c0))
theorem E124 {u0 u1 u2 u3:Int} {u4:RW} {u5:Int} {u6 u7 u8 u9:RW} (h:∀ {A:Ar} {CE:Nat→Rs→List Lf→EP→Prop} {CK:Nat→Rs→List Lf→Cont→Prop} {Dn:Nat→List Bool→List bf→Nat→List Bool→List AV→List aj→Prop} {EV RR:EP},Wk Tryz.prog Tryz.f124 I124 L124 Q A sg CE CK Dn EV RR→VN EV Q→((u8.length:Int)≤140737488355328)∧(((u8.length:Int) * ((16:Nat):Int))≤140737488355328)∧(EZ G125 [] (cL u0 u1 u2 u3 u4 u5 u6 u7 u8 u9 []) (fun x rs vs=>(x=0∧∃ SS,rs=[]∧vs=[.r SS]∧(EZ G151 [] [.r SS] (fun x rs vs=>(x=0∧∃ Vr,rs=[]∧vs=[.r Vr]∧(EV 10 [(List.replicate u8.length [(AV.int .i64 0),(AV.int .i64 0)])] (cL u0 u1 u2 u3 u4 u5 u6 u7 u8 u9 [.r SS,.r Vr]))))))))):EZ G124 [] (cL u0 u1 u2 u3 u4 u5 u6 u7 u8 u9 []) Q:=by
 refine ak.en (I:=I124) (L:=L124) D5 fun A hA CE CK Dn EV RR W hp=>?_
 have h:=h  W ⟨trivial⟩
 cbv
 refine ⟨ndI hA (An (hA ▸ (Int.natCast_nonneg _)) (An (hA ▸ (Int.le_refl _)) (An (hA ▸ h.1) (hA ▸ h.2.1)))),?_⟩
 refine W.cl h.2.2 ?_
 rintro _ _ _ hp0 (⟨rfl,SS,rfl,rfl,k0⟩)
 cbv
 refine W.cl k0 ?_
 rintro _ _ _ hp1 (⟨rfl,Vr,rfl,rfl,k1⟩)
 cbv
 subst hA
 exact ⟨(An (by show u8.length=(List.length (List.replicate u8.length [(AV.int .i64 0),(AV.int .i64 0)]));(first | rfl | simp [af] | (simp [af];omega))) (An rfl (by show u8.length=(List.length (List.replicate u8.length [(AV.int .i64 0),(AV.int .i64 0)]));(first | rfl | simp [af] | (simp [af];omega))))),⟨((Gy rfl)),k1⟩⟩
structure V124r (EV Q:EP):Prop where
  p12:∀ {R0:RW} {t6 b0 b1 b2 b3:Int} {b4:RW} {b5:Int} {b6 b7 b8 b9 tb2 tb3:RW},(aB R0=true→EV 20 [R0] (.i t6::.r tb2::.i (tb2.length:Int)::.i 0::cL b0 b1 b2 b3 b4 b5 b6 b7 b8 b9 [.r tb2,.r tb3,.i 0,.i (-1)]))→EV 12 [R0] (.i t6::cL b0 b1 b2 b3 b4 b5 b6 b7 b8 b9 [.r tb2,.r tb3])
  p20:∀ {R0:RW} {t6:Int} {t21:RW} {t22 t23 b0 b1 b2 b3:Int} {b4:RW} {b5:Int} {b6 b7 b8 b9 tb2 tb3:RW} {n0 n1:Int},(aB R0=true→(t23 < t22→(0≤t23)∧(t21[t23.toNat]?=some [.int .i64 (cIS t21 t23.toNat 0)])∧(EZ G152 [] (cL b0 b1 b2 b3 b4 b5 b6 b7 b8 b9 [.i (cIS t21 t23.toNat 0),.i t6]) (fun x rs vs=>(x=0∧∃ SX,rs=[]∧vs=[.b SX]∧((SX=true→(n1=(-1)→(0≤(cIS t21 t23.toNat 0))∧((cIS t21 t23.toNat 0) < (R0.length:Int))∧(R0[(Int.toNat (cIS t21 t23.toNat 0))]?=some [.int .i64 (cIS R0 (Int.toNat (cIS t21 t23.toNat 0)) 0),.int .i64 (cIS R0 (Int.toNat (cIS t21 t23.toNat 0)) 1)])∧(EV 20 [R0] (.i t6::.r t21::.i t22::.i (IntKind.wrap .i64 (t23 + 1))::cL b0 b1 b2 b3 b4 b5 b6 b7 b8 b9 [.r tb2,.r tb3,.i (cIS R0 (Int.toNat (cIS t21 t23.toNat 0)) 0),.i (cIS t21 t23.toNat 0)])))∧(n1≠(-1)→(0≤(cIS t21 t23.toNat 0))∧((cIS t21 t23.toNat 0) < (R0.length:Int))∧(R0[(Int.toNat (cIS t21 t23.toNat 0))]?=some [.int .i64 (cIS R0 (Int.toNat (cIS t21 t23.toNat 0)) 0),.int .i64 (cIS R0 (Int.toNat (cIS t21 t23.toNat 0)) 1)])∧((cIS R0 (Int.toNat (cIS t21 t23.toNat 0)) 0) > n0→(0≤(cIS t21 t23.toNat 0))∧((cIS t21 t23.toNat 0) < (R0.length:Int))∧(R0[(Int.toNat (cIS t21 t23.toNat 0))]?=some [.int .i64 (cIS R0 (Int.toNat (cIS t21 t23.toNat 0)) 0),.int .i64 (cIS R0 (Int.toNat (cIS t21 t23.toNat 0)) 1)])∧(EV 20 [R0] (.i t6::.r t21::.i t22::.i (IntKind.wrap .i64 (t23 + 1))::cL b0 b1 b2 b3 b4 b5 b6 b7 b8 b9 [.r tb2,.r tb3,.i (cIS R0 (Int.toNat (cIS t21 t23.toNat 0)) 0),.i (cIS t21 t23.toNat 0)])))∧((cIS R0 (Int.toNat (cIS t21 t23.toNat 0)) 0)≤n0→EV 20 [R0] (.i t6::.r t21::.i t22::.i (IntKind.wrap .i64 (t23 + 1))::cL b0 b1 b2 b3 b4 b5 b6 b7 b8 b9 [.r tb2,.r tb3,.i n0,.i n1]))))∧(SX=false→EV 20 [R0] (.i t6::.r t21::.i t22::.i (IntKind.wrap .i64 (t23 + 1))::cL b0 b1 b2 b3 b4 b5 b6 b7 b8 b9 [.r tb2,.r tb3,.i n0,.i n1])))))))∧(t23≥t22→(0≤t6)∧(b8[t6.toNat]?=some (r7 b8 t6.toNat))∧(t6 < (R0.length:Int))∧(R0[t6.toNat]?=some [.int .i64 (cIS R0 t6.toNat 0),.int .i64 (cIS R0 t6.toNat 1)])∧(Q 0 [(List.set R0 t6.toNat [.int .i64 (IntKind.wrap .i64 ((cIS b8 t6.toNat 4) + n0)),.int .i64 n1])] (cL b0 b1 b2 b3 b4 b5 b6 b7 b8 b9 [.r tb2,.r tb3]))))→EV 20 [R0] (.i t6::.r t21::.i t22::.i t23::cL b0 b1 b2 b3 b4 b5 b6 b7 b8 b9 [.r tb2,.r tb3,.i n0,.i n1])
theorem V124r.of (W:Wk Tryz.prog Tryz.f124r I124r L124r Q A sg CE CK Dn EV RR):V124r EV Q:=by
 have hA:=W.hA
 refine ⟨?_,?_⟩
 ·intro R0 t6 b0 b1 b2 b3 b4 b5 b6 b7 b8 b9 tb2 tb3 h
  refine W.step 80 fun hp=>?_
  have h:=h hp.1
  cbv
  subst hA
  exact ⟨(An rfl (An rfl rfl)),⟨hp.1,h⟩⟩
 ·intro R0 t6 t21 t22 t23 b0 b1 b2 b3 b4 b5 b6 b7 b8 b9 tb2 tb3 n0 n1 h
  refine W.step 80 fun hp=>?_
  have h:=h hp.1
  cbv
  refine ⟨imI hA fun e0=>have j0:=h.1 (ah (op:=.lss) hA e0);⟨ndI hA (An j0.1 (hA ▸ j0.2.1)),⟨?_,trivial⟩⟩,imI hA fun e0=>have j0:=h.2 (ah (op:=.lss) hA e0);⟨ndI hA (An j0.1 (hA ▸ j0.2.1)),⟨⟨ndI hA (An j0.1 (An (hA ▸ j0.2.2.1) rfl)),⟨⟨ndI hA (An rfl (hA ▸ j0.2.2.2.1)),⟨ndI hA (An (by subst hA;show R0.length=(List.length (List.set R0 t6.toNat [.int .i64 (IntKind.wrap .i64 ((cIS b8 t6.toNat 4) + n0)),.int .i64 n1]));(first | rfl | simp [af] | (simp [af];omega))) (An rfl (by subst hA;show R0.length=(List.length (List.set R0 t6.toNat [.int .i64 (IntKind.wrap .i64 ((cIS b8 t6.toNat 4) + n0)),.int .i64 n1]));(first | rfl | simp [af] | (simp [af];omega))))),⟨ndI hA (hA ▸ (dU hp.1 rfl)),(W.q (hA ▸ j0.2.2.2.2))⟩⟩⟩,trivial⟩⟩,trivial⟩⟩⟩
  refine W.cd j0.2.2 ?_
  rintro _ _ _ hp1 (⟨rfl,SX,rfl,rfl,k1⟩)
  cbv
  refine W.draw 80 (by rfl) ?_
  cbv
  refine ⟨fun e2=>have c2:SX=true:=(by have q:=e2;subst hA;exact q);?_,fun e2=>have c2:SX=false:=(by have q:=e2;subst hA;exact q);?_⟩
  ·refine W.draw 80 (by rfl) ?_
   cbv
   refine ⟨fun e3=>have c3:n1=(-1):=(by have q:=(ah (op:=.eql) hA e3);subst hA;exact q);?_,fun e3=>have c3:n1≠(-1):=(by have q:=(ah (op:=.eql) hA e3);subst hA;exact q);?_⟩
   ·refine W.draw 80 (by rfl) ?_
    cbv
    subst hA
    exact ⟨(An (((k1.1 c2).1 c3).1) (An (((k1.1 c2).1 c3).2.1) rfl)),⟨(An rfl (((k1.1 c2).1 c3).2.2.1)),⟨(An rfl (An rfl rfl)),⟨hp.1,(((k1.1 c2).1 c3).2.2.2)⟩⟩⟩⟩
   ·refine W.draw 80 (by rfl) ?_
    cbv
    subst hA
    exact ⟨(An (((k1.1 c2).2 c3).1) (An (((k1.1 c2).2 c3).2.1) rfl)),⟨(An rfl (((k1.1 c2).2 c3).2.2.1)),⟨fun e4=>have j4:=((k1.1 c2).2 c3).2.2.2.1 ((ah (op:=.gtr) rfl e4));⟨(An j4.1 (An j4.2.1 rfl)),⟨(An rfl j4.2.2.1),⟨(An rfl (An rfl rfl)),⟨hp.1,j4.2.2.2⟩⟩⟩⟩,fun e4=>have j4:=((k1.1 c2).2 c3).2.2.2.2 ((ah (op:=.gtr) rfl e4));⟨(An rfl (An rfl rfl)),⟨hp.1,j4⟩⟩⟩⟩⟩
  ·refine W.draw 80 (by rfl) ?_
   cbv
   subst hA
   exact ⟨(An rfl (An rfl rfl)),⟨hp.1,((k1.2 c2))⟩⟩
structure V92 (EV Q:EP):Prop where
  p19:∀ {R0:RW} {t4:Int} {t20:RW} {t21 t22:Int},(aB R0=true→(t22 < t21→(0≤t22)∧(t20[t22.toNat]?=some [.int .i64 (cIS t20 t22.toNat 0)])∧(t4=(-1)→EV 19 [R0] [.i (cIS t20 t22.toNat 0),.r t20,.i t21,.i (IntKind.wrap .i64 (t22 + 1))])∧(t4≠(-1)→(0≤(cIS t20 t22.toNat 0))∧((cIS t20 t22.toNat 0) < (R0.length:Int))∧(R0[(Int.toNat (cIS t20 t22.toNat 0))]?=some [.int .i64 (cIS R0 (Int.toNat (cIS t20 t22.toNat 0)) 0),.int .i64 (cIS R0 (Int.toNat (cIS t20 t22.toNat 0)) 1)])∧(0≤t4)∧(t4 < (R0.length:Int))∧(R0[t4.toNat]?=some [.int .i64 (cIS R0 t4.toNat 0),.int .i64 (cIS R0 t4.toNat 1)])∧((cIS R0 (Int.toNat (cIS t20 t22.toNat 0)) 0) > (cIS R0 t4.toNat 0)→EV 19 [R0] [.i (cIS t20 t22.toNat 0),.r t20,.i t21,.i (IntKind.wrap .i64 (t22 + 1))])∧((cIS R0 (Int.toNat (cIS t20 t22.toNat 0)) 0)≤(cIS R0 t4.toNat 0)→EV 19 [R0] [.i t4,.r t20,.i t21,.i (IntKind.wrap .i64 (t22 + 1))])))∧(t22≥t21→EV 40 [R0,[]] [.i t4]))→EV 19 [R0] [.i t4,.r t20,.i t21,.i t22]
  p40:∀ {R0 R1:RW} {t4:Int},(aB R0=true→aB R1=true→(t4≠(-1)→((R1.length + (List.length (List.take 1 (List.drop 0 [[(AV.int .i64 t4)]]))))≤140737488355328)∧(((R1.length + (List.length (List.take 1 (List.drop 0 [[(AV.int .i64 t4)]])))) * 8)≤140737488355328)∧(0≤t4)∧(t4 < (R0.length:Int))∧(R0[t4.toNat]?=some [.int .i64 (cIS R0 t4.toNat 0),.int .i64 (cIS R0 t4.toNat 1)])∧(EV 40 [R0,(R1++(List.take 1 (List.drop 0 [[(AV.int .i64 t4)]])))] [.i (cIS R0 t4.toNat 1)]))∧(t4=(-1)→Q 0 [R1] []))→EV 40 [R0,R1] [.i t4]
theorem V92.of (W:Wk Tryz.prog Tryz.f92 I92 L92 Q A sg CE CK Dn EV RR):V92 EV Q:=by
 have hA:=W.hA
 refine ⟨?_,?_⟩
 ·intro R0 t4 t20 t21 t22 h
  refine W.step 80 fun hp=>?_
  have h:=h hp.1
  cbv
  refine ⟨imI hA fun e0=>have j0:=h.1 (ah (op:=.lss) hA e0);⟨ndI hA (An j0.1 (hA ▸ j0.2.1)),⟨fun e1=>have c1:t4=(-1):=(by have q:=(ah (op:=.eql) hA e1);subst hA;exact q);?_,fun e1=>have c1:t4≠(-1):=(by have q:=(ah (op:=.eql) hA e1);subst hA;exact q);?_⟩⟩,imI hA fun e0=>have j0:=h.2 (ah (op:=.lss) hA e0);⟨ndI hA (An rfl (An rfl rfl)),⟨ndI hA (An (hA ▸ rfl) (An rfl (hA ▸ rfl))),⟨ndI hA hp.1,⟨ndI hA aQ,j0⟩⟩⟩⟩⟩
  ·refine W.draw 80 (by rfl) ?_
   cbv
   subst hA
   exact ⟨(An rfl (An rfl rfl)),⟨hp.1,((j0.2.2.1 c1))⟩⟩
  ·refine W.draw 80 (by rfl) ?_
   cbv
   subst hA
   exact ⟨(An ((j0.2.2.2 c1).1) (An ((j0.2.2.2 c1).2.1) rfl)),⟨(An rfl ((j0.2.2.2 c1).2.2.1)),⟨(An (j0.2.2.2 c1).2.2.2.1 (An ((j0.2.2.2 c1).2.2.2.2.1) rfl)),⟨(An rfl ((j0.2.2.2 c1).2.2.2.2.2.1)),⟨fun e2=>have j2:=(j0.2.2.2 c1).2.2.2.2.2.2.1 ((ah (op:=.gtr) rfl e2));⟨(An rfl (An rfl rfl)),⟨hp.1,j2⟩⟩,fun e2=>have j2:=(j0.2.2.2 c1).2.2.2.2.2.2.2 ((ah (op:=.gtr) rfl e2));⟨(An rfl (An rfl rfl)),⟨hp.1,j2⟩⟩⟩⟩⟩⟩⟩
 ·intro R0 R1 t4 h
  refine W.step 80 fun hp=>?_
  have h:=h hp.1 hp.2.1
  cbv
  subst hA
  exact ⟨fun e0=>have j0:=h.1 (ah (op:=.neq) rfl e0);⟨(An rfl (by show (0 + 1)≤1;(first | rfl | simp [af] | (simp [af];omega)))),⟨(An rfl (An (Nat.le_refl _) (An j0.1 j0.2.1))),⟨(An j0.2.2.1 (An j0.2.2.2.1 rfl)),⟨(An rfl j0.2.2.2.2.1),⟨(An rfl (An rfl rfl)),⟨(An rfl (An rfl (by show (R1.length + (List.length (List.take 1 (List.drop 0 [[(AV.int .i64 t4)]]))))=(List.length (aP R1 R1.length (List.take 1 (List.drop 0 [[(AV.int .i64 t4)]]))));(first | rfl | simp [af] | (simp [af];omega))))),⟨hp.1,⟨((fA hp.2.1 (dw (dA aQ)))),(by show EV 40 [R0,(aP R1 R1.length (List.take 1 (List.drop 0 [[(AV.int .i64 t4)]])))] [.i (cIS R0 t4.toNat 1)];(try simp only [af,Nat.zero_add,Int.toNat_natCast]);exact j0.2.2.2.2.2)⟩⟩⟩⟩⟩⟩⟩⟩,fun e0=>have j0:=h.2 (ah (op:=.neq) rfl e0);⟨(An rfl (An rfl rfl)),⟨hp.2.1,(W.q j0)⟩⟩⟩
theorem E92 {u0 u1 u2 u3:Int} {u4:RW} {u5:Int} {u6 u7 u8 u9:RW} (h:∀ EV,V92 EV Q→EZ G123 [] (cL u0 u1 u2 u3 u4 u5 u6 u7 u8 u9 []) (fun x rs vs=>(x=0∧∃ SS,rs=[]∧vs=[.b SS]∧((SS=true→((u8.length:Int)=0→Q 0 [[]] [])∧((u8.length:Int)≠0→EZ G124 [] (cL u0 u1 u2 u3 u4 u5 u6 u7 u8 u9 []) (fun x rs vs=>(x=0∧∃ TZ,rs=[TZ]∧vs=[]∧(EZ G125 [] (cL u0 u1 u2 u3 u4 u5 u6 u7 u8 u9 []) (fun x rs vs=>(x=0∧∃ Td,rs=[]∧vs=[.r Td]∧(EV 19 [TZ] [.i (-1),.r Td,.i (Td.length:Int),.i 0]))))))))∧(SS=false→Q 0 [[]] []))))):EZ G92 [] (cL u0 u1 u2 u3 u4 u5 u6 u7 u8 u9 []) Q:=by
 refine ak.en (I:=I92) (L:=L92) Qp fun A hA CE CK Dn EV RR W hp=>?_
 have h:=h  EV (V92.of W)
 cbv
 refine W.cl h ?_
 rintro _ _ _ hp0 (⟨rfl,SS,rfl,rfl,k0⟩)
 cbv
 refine ⟨imI hA fun e1=>have j1:=k0.1 (by subst hA;exact (notE rfl e1));⟨imI hA fun e2=>have j2:=j1.1 (by subst hA;exact (ah (op:=.eql) rfl e2));⟨ndI hA (An (hA ▸ rfl) (An rfl (hA ▸ rfl))),⟨ndI hA aQ,(W.q j2)⟩⟩,imI hA fun e2=>have j2:=j1.2 (by subst hA;exact (ah (op:=.eql) rfl e2));?_⟩,imI hA fun e1=>have j1:=k0.2 (by subst hA;exact (notE rfl e1));⟨ndI hA (An (hA ▸ rfl) (An rfl (hA ▸ rfl))),⟨ndI hA aQ,(W.q j1)⟩⟩⟩
 refine W.cl j2 ?_
 rintro _ _ _ hp3 (⟨rfl,TZ,rfl,rfl,k3⟩)
 cbv
 refine W.cl k3 ?_
 rintro _ _ _ hp4 (⟨rfl,Td,rfl,rfl,k4⟩)
 cbv
 subst hA
 exact ⟨(An rfl (An rfl rfl)),⟨hp3.1,k4⟩⟩
structure V56 (EV Q:EP):Prop where
  p9:∀ {R0:RW} {t3 t8 t9 b0 b1 b2 b3:Int} {b4:RW} {b5:Int} {b6 b7 b8 b9:RW},(aB R0=true→(t9 < t8→(0≤t9)∧(t9 < (R0.length:Int))∧(R0[t9.toNat]?=some [.int .i64 (cIS R0 t9.toNat 0)])∧(0≤(cIS R0 t9.toNat 0))∧(b8[(Int.toNat (cIS R0 t9.toNat 0))]?=some (r7 b8 (Int.toNat (cIS R0 t9.toNat 0))))∧(EV 9 [R0] (.i (IntKind.wrap .i64 (t3 + (cIS b8 (Int.toNat (cIS R0 t9.toNat 0)) 4)))::.i t8::.i (IntKind.wrap .i64 (t9 + 1))::cL b0 b1 b2 b3 b4 b5 b6 b7 b8 b9 [])))∧(t9≥t8→Q 0 [] [.i t3]))→EV 9 [R0] (.i t3::.i t8::.i t9::cL b0 b1 b2 b3 b4 b5 b6 b7 b8 b9 [])
theorem V56.of (W:Wk Tryz.prog Tryz.f56 I56 L56 Q A sg CE CK Dn EV RR):V56 EV Q:=by
 have hA:=W.hA
 refine ⟨?_⟩
 intro R0 t3 t8 t9 b0 b1 b2 b3 b4 b5 b6 b7 b8 b9 h
 refine W.step 80 fun hp=>?_
 have h:=h hp.1
 cbv
 subst hA
 exact ⟨fun e0=>have j0:=h.1 (ah (op:=.lss) rfl e0);⟨(An j0.1 (An j0.2.1 rfl)),⟨(An rfl j0.2.2.1),⟨(An j0.2.2.2.1 j0.2.2.2.2.1),⟨(An rfl (An rfl rfl)),⟨hp.1,j0.2.2.2.2.2⟩⟩⟩⟩⟩,fun e0=>have j0:=h.2 (ah (op:=.lss) rfl e0);(W.q j0)⟩
theorem E56 {u0 u1 u2 u3:Int} {u4:RW} {u5:Int} {u6 u7 u8 u9:RW} (h:∀ EV,V56 EV Q→EZ G92 [] (cL u0 u1 u2 u3 u4 u5 u6 u7 u8 u9 []) (fun x rs vs=>(x=0∧∃ SV,rs=[SV]∧vs=[]∧(EV 9 [SV] (.i 0::.i (SV.length:Int)::.i 0::cL u0 u1 u2 u3 u4 u5 u6 u7 u8 u9 []))))):EZ G56 [] (cL u0 u1 u2 u3 u4 u5 u6 u7 u8 u9 []) Q:=by
 refine ak.en (I:=I56) (L:=L56) QX fun A hA CE CK Dn EV RR W hp=>?_
 have h:=h  EV (V56.of W)
 cbv
 refine W.cl h ?_
 rintro _ _ _ hp0 (⟨rfl,SV,rfl,rfl,k0⟩)
 cbv
 subst hA
 exact ⟨rfl,⟨(An rfl (An rfl rfl)),⟨hp0.1,k0⟩⟩⟩
theorem E143 {a0:Int} (h:∀ EV,VN EV Q→Q 0 [] [.i (arS.mn (arS.mx a0 0) 1073741824)]):EZ G143 [] [.i a0] Q:=by
 refine ak.en (I:=I143) (L:=L143) KO fun A hA CE CK Dn EV RR W hp=>?_
 have h:=h  EV ⟨trivial⟩
 cbv
 subst hA
 exact (W.q h)
theorem E109 {u0 u1 u2 v0 v1 v2 v3:Int} {a2:Bool} (h:∀ EV,VN EV Q→(u0=1→EZ G143 [] [.i u1] (fun x rs vs=>(x=0∧∃ SX,rs=[]∧vs=[.i SX]∧(Q 0 [] [.i SX]))))∧(u0≠1→(u0≠2→Q 0 [] [.i 1])∧(u0=2→(a2=true→EZ G143 [] [.i v2] (fun x rs vs=>(x=0∧∃ S9,rs=[]∧vs=[.i S9]∧(Q 0 [] [.i S9]))))∧(a2=false→EZ G143 [] [.i v3] (fun x rs vs=>(x=0∧∃ S9,rs=[]∧vs=[.i S9]∧(Q 0 [] [.i S9]))))))):EZ G109 [] [.i u0,.i u1,.i u2,.i v0,.i v1,.i v2,.i v3,.b a2] Q:=by
 refine ak.en (I:=I109) (L:=L109) LP fun A hA CE CK Dn EV RR W hp=>?_
 have h:=h  EV ⟨trivial⟩
 cbv
 refine ⟨imI hA fun e0=>have j0:=h.1 (ah (op:=.eql) hA e0);?_,imI hA fun e0=>have j0:=h.2 (ah (op:=.eql) hA e0);⟨imI hA fun e1=>have j1:=j0.1 (ah (op:=.neq) hA e1);(W.q j1),imI hA fun e1=>have j1:=j0.2 (ah (op:=.neq) hA e1);⟨imI hA fun e2=>have j2:=j1.1 e2;?_,imI hA fun e2=>have j2:=j1.2 e2;?_⟩⟩⟩
 ·refine W.cl j0 ?_
  rintro _ _ _ hp1 (⟨rfl,SX,rfl,rfl,k1⟩)
  cbv
  subst hA
  exact (W.q k1)
 ·refine W.cl j2 ?_
  rintro _ _ _ hp3 (⟨rfl,S9,rfl,rfl,k3⟩)
  cbv
  subst hA
  exact (W.q k3)
 ·refine W.cl j2 ?_
  rintro _ _ _ hp3 (⟨rfl,S9,rfl,rfl,k3⟩)
  cbv
  subst hA
  exact (W.q k3)
structure V135 (EV Q:EP):Prop where
  p9:∀ {t2:Bool} {t7:Int} {t10:RW} {t11 t12 b0 b1 b2 b3:Int},((t12 < t11→(0≤t12)∧(t10[t12.toNat]?=some (r3 t10 t12.toNat))∧(EZ G109 [] [.i (cIS t10 t12.toNat 0),.i (cIS t10 t12.toNat 1),.i (cIS t10 t12.toNat 2),.i b0,.i b1,.i b2,.i b3,.b t2] (fun x rs vs=>(x=0∧∃ SX,rs=[]∧vs=[.i SX]∧(EV 9 [] [.b t2,.i (IntKind.wrap .i64 (t7 + SX)),.r t10,.i t11,.i (IntKind.wrap .i64 (t12 + 1)),.i b0,.i b1,.i b2,.i b3])))))∧(t12≥t11→Q 0 [] [.i t7]))→EV 9 [] [.b t2,.i t7,.r t10,.i t11,.i t12,.i b0,.i b1,.i b2,.i b3]
theorem V135.of (W:Wk Tryz.prog Tryz.f135 I135 L135 Q A sg CE CK Dn EV RR):V135 EV Q:=by
 have hA:=W.hA
 refine ⟨?_⟩
 intro t2 t7 t10 t11 t12 b0 b1 b2 b3 h
 refine W.step 80 fun hp=>?_
 cbv
 refine ⟨imI hA fun e0=>have j0:=h.1 (ah (op:=.lss) hA e0);⟨ndI hA (An j0.1 (hA ▸ j0.2.1)),?_⟩,imI hA fun e0=>have j0:=h.2 (ah (op:=.lss) hA e0);(W.q j0)⟩
 refine W.cl j0.2.2 ?_
 rintro _ _ _ hp1 (⟨rfl,SX,rfl,rfl,k1⟩)
 cbv
 subst hA
 exact k1
theorem E135 {a0:RW} {v0 v1 v2 v3:Int} {a2:Bool} (h:∀ EV,V135 EV Q→EV 9 [] [.b a2,.i 0,.r a0,.i (a0.length:Int),.i 0,.i v0,.i v1,.i v2,.i v3]):EZ G135 [] [.r a0,.i v0,.i v1,.i v2,.i v3,.b a2] Q:=by
 refine ak.en (I:=I135) (L:=L135) KW fun A hA CE CK Dn EV RR W hp=>?_
 have h:=h  EV (V135.of W)
 cbv
 subst hA
 exact h
theorem E97 {a0:RW} {v0 v1 v2 v3:Int} (h:∀ EV,VN EV Q→EZ G135 [] [.r a0,.i v0,.i v1,.i v2,.i v3,.b false] (fun x rs vs=>(x=0∧∃ SS,rs=[]∧vs=[.i SS]∧(Q 0 [] [.i SS])))):EZ G97 [] [.r a0,.i v0,.i v1,.i v2,.i v3] Q:=by
 refine ak.en (I:=I97) (L:=L97) Qk fun A hA CE CK Dn EV RR W hp=>?_
 have h:=h  EV ⟨trivial⟩
 cbv
 refine W.cl h ?_
 rintro _ _ _ hp0 (⟨rfl,SS,rfl,rfl,k0⟩)
 cbv
 subst hA
 exact (W.q k0)
theorem E58 {a0:Int} (h:∀ EV,VN EV Q→Q 0 [] [.i (IntKind.wrap .u64 (arS.mx a0 0))]):EZ G58 [] [.i a0] Q:=by
 refine ak.en (I:=I58) (L:=L58) QV fun A hA CE CK Dn EV RR W hp=>?_
 have h:=h  EV ⟨trivial⟩
 cbv
 subst hA
 exact (W.q h)
theorem E59 {u0 u1 u2 u3:Int} {u4:RW} {u5:Int} {u6 u7 u8 u9:RW} {a1:Int} (h:∀ EV,VN EV Q→(0≤a1)∧(u8[a1.toNat]?=some (r7 u8 a1.toNat))∧(EZ G97 [] [.r (cRS u8 a1.toNat 6),.i u0,.i u1,.i u2,.i u3] (fun x rs vs=>(x=0∧∃ SS,rs=[]∧vs=[.i SS]∧(EZ G58 [] [.i SS] (fun x rs vs=>(x=0∧∃ SX,rs=[]∧vs=[.i SX]∧(EZ G58 [] [.i (cIS u8 a1.toNat 2)] (fun x rs vs=>(x=0∧∃ SY,rs=[]∧vs=[.i SY]∧(Q 0 [] [.i SX,.i SY]))))))))))):EZ G59 [] (cL u0 u1 u2 u3 u4 u5 u6 u7 u8 u9 [.i a1]) Q:=by
 refine ak.en (I:=I59) (L:=L59) QU fun A hA CE CK Dn EV RR W hp=>?_
 have h:=h  EV ⟨trivial⟩
 cbv
 refine ⟨ndI hA (An h.1 (hA ▸ h.2.1)),⟨?_,trivial⟩⟩
 refine W.cd h.2.2 ?_
 rintro _ _ _ hp0 (⟨rfl,SS,rfl,rfl,k0⟩)
 cbv
 refine W.draw 80 (by rfl) ?_
 cbv
 refine ⟨?_,trivial⟩
 refine W.cd k0 ?_
 rintro _ _ _ hp1 (⟨rfl,SX,rfl,rfl,k1⟩)
 cbv
 refine W.draw 80 (by rfl) ?_
 cbv
 refine ⟨?_,trivial⟩
 refine W.cd k1 ?_
 rintro _ _ _ hp2 (⟨rfl,SY,rfl,rfl,k2⟩)
 cbv
 refine W.draw 80 (by rfl) ?_
 cbv
 subst hA
 exact ⟨(W.q k2),trivial⟩
theorem E145 {u0 u1 u2 u3:Int} {u4:RW} {u5:Int} {u6 u7 u8 u9:RW} {a1:Int} (h:∀ EV,VN EV Q→(a1≥0→Q 0 [] [.b (decide (a1 < (u8.length:Int)))])∧(a1 < 0→Q 0 [] [.b false])):EZ G145 [] (cL u0 u1 u2 u3 u4 u5 u6 u7 u8 u9 [.i a1]) Q:=by
 refine ak.en (I:=I145) (L:=L145) KN fun A hA CE CK Dn EV RR W hp=>?_
 have h:=h  EV ⟨trivial⟩
 cbv
 subst hA
 exact ⟨fun e0=>have j0:=h.1 (ah (op:=.geq) rfl e0);(W.q j0),fun e0=>have j0:=h.2 (ah (op:=.geq) rfl e0);(W.q j0)⟩
theorem E156 {u0 u1 u2 u3 u4 u5:Int} {u6:RW} {v0 v1 v2 v3 v4 v5:Int} {v6:RW} (h:∀ EV,VN EV Q→Q 0 [] [.b (decide (u0 < v0))]):EZ G156 [] [.i u0,.i u1,.i u2,.i u3,.i u4,.i u5,.r u6,.i v0,.i v1,.i v2,.i v3,.i v4,.i v5,.r v6] Q:=by
 refine ak.en (I:=I156) (L:=L156) KA fun A hA CE CK Dn EV RR W hp=>?_
 have h:=h  EV ⟨trivial⟩
 cbv
 subst hA
 exact (W.q h)
structure V113 (EV Q:EP):Prop where
  p17:∀ {R0:RW} {t1:Int} {t15:RW} {t16 t17 b0 b1 b2 b3:Int} {b4:RW} {b5:Int} {b6 b7 b8 b9:RW},(aB R0=true→(t17 < t16→(0≤t17)∧(t15[t17.toNat]?=some (r7 t15 t17.toNat))∧(0≤t1)∧(b8[t1.toNat]?=some (r7 b8 t1.toNat))∧(EZ G156 [] [.i (cIS t15 t17.toNat 0),.i (cIS t15 t17.toNat 1),.i (cIS t15 t17.toNat 2),.i (cIS t15 t17.toNat 3),.i (cIS t15 t17.toNat 4),.i (cIS t15 t17.toNat 5),.r (cRS t15 t17.toNat 6),.i (cIS b8 t1.toNat 0),.i (cIS b8 t1.toNat 1),.i (cIS b8 t1.toNat 2),.i (cIS b8 t1.toNat 3),.i (cIS b8 t1.toNat 4),.i (cIS b8 t1.toNat 5),.r (cRS b8 t1.toNat 6)] (fun x rs vs=>(x=0∧∃ SX,rs=[]∧vs=[.b SX]∧((SX=true→((R0.length + (List.length (List.take 1 (List.drop 0 [[(AV.int .i64 t17)]]))))≤140737488355328)∧(((R0.length + (List.length (List.take 1 (List.drop 0 [[(AV.int .i64 t17)]])))) * 8)≤140737488355328)∧(EV 17 [(R0++(List.take 1 (List.drop 0 [[(AV.int .i64 t17)]])))] (.i t1::.r t15::.i t16::.i (IntKind.wrap .i64 (t17 + 1))::cL b0 b1 b2 b3 b4 b5 b6 b7 b8 b9 [])))∧(SX=false→EV 17 [R0] (.i t1::.r t15::.i t16::.i (IntKind.wrap .i64 (t17 + 1))::cL b0 b1 b2 b3 b4 b5 b6 b7 b8 b9 [])))))))∧(t17≥t16→Q 0 [R0] []))→EV 17 [R0] (.i t1::.r t15::.i t16::.i t17::cL b0 b1 b2 b3 b4 b5 b6 b7 b8 b9 [])
theorem V113.of (W:Wk Tryz.prog Tryz.f113 I113 L113 Q A sg CE CK Dn EV RR):V113 EV Q:=by
 have hA:=W.hA
 refine ⟨?_⟩
 intro R0 t1 t15 t16 t17 b0 b1 b2 b3 b4 b5 b6 b7 b8 b9 h
 refine W.step 80 fun hp=>?_
 have h:=h hp.1
 cbv
 refine ⟨imI hA fun e0=>have j0:=h.1 (ah (op:=.lss) hA e0);⟨ndI hA (An j0.1 (hA ▸ j0.2.1)),⟨ndI hA (An j0.2.2.1 (hA ▸ j0.2.2.2.1)),⟨?_,trivial⟩⟩⟩,imI hA fun e0=>have j0:=h.2 (ah (op:=.lss) hA e0);⟨ndI hA (An rfl (An rfl rfl)),⟨ndI hA hp.1,(W.q j0)⟩⟩⟩
 refine W.cd j0.2.2.2.2 ?_
 rintro _ _ _ hp1 (⟨rfl,SX,rfl,rfl,k1⟩)
 cbv
 refine W.draw 80 (by rfl) ?_
 cbv
 subst hA
 exact ⟨fun e2=>have j2:=k1.1 e2;⟨(An rfl (by show (0 + 1)≤1;(first | rfl | simp [af] | (simp [af];omega)))),⟨(An rfl (An (Nat.le_refl _) (An j2.1 j2.2.1))),⟨(An rfl (An rfl (by show (R0.length + (List.length (List.take 1 (List.drop 0 [[(AV.int .i64 t17)]]))))=(List.length (aP R0 R0.length (List.take 1 (List.drop 0 [[(AV.int .i64 t17)]]))));(first | rfl | simp [af] | (simp [af];omega))))),⟨((fA hp.1 (dw (dA aQ)))),(by show EV 17 [(aP R0 R0.length (List.take 1 (List.drop 0 [[(AV.int .i64 t17)]])))] (.i t1::.r t15::.i t16::.i (IntKind.wrap .i64 (t17 + 1))::cL b0 b1 b2 b3 b4 b5 b6 b7 b8 b9 []);(try simp only [af,Nat.zero_add,Int.toNat_natCast]);exact j2.2.2)⟩⟩⟩⟩,fun e2=>have j2:=k1.2 e2;⟨(An rfl (An rfl rfl)),⟨hp.1,j2⟩⟩⟩
theorem E113 {u0 u1 u2 u3:Int} {u4:RW} {u5:Int} {u6 u7 u8 u9:RW} {a1:Int} (h:∀ EV,V113 EV Q→EZ G145 [] (cL u0 u1 u2 u3 u4 u5 u6 u7 u8 u9 [.i a1]) (fun x rs vs=>(x=0∧∃ SS,rs=[]∧vs=[.b SS]∧((SS=false→Q 0 [[]] [])∧(SS=true→EV 17 [[]] (.i a1::.r u8::.i (u8.length:Int)::.i 0::cL u0 u1 u2 u3 u4 u5 u6 u7 u8 u9 [])))))):EZ G113 [] (cL u0 u1 u2 u3 u4 u5 u6 u7 u8 u9 [.i a1]) Q:=by
 refine ak.en (I:=I113) (L:=L113) D6 fun A hA CE CK Dn EV RR W hp=>?_
 have h:=h  EV (V113.of W)
 cbv
 refine W.cl h ?_
 rintro _ _ _ hp0 (⟨rfl,SS,rfl,rfl,k0⟩)
 cbv
 subst hA
 exact ⟨fun e1=>have j1:=k0.1 ((notE rfl e1));⟨(An rfl (An rfl rfl)),⟨aQ,(W.q j1)⟩⟩,fun e1=>have j1:=k0.2 ((notE rfl e1));⟨(An rfl (An rfl rfl)),⟨aQ,j1⟩⟩⟩
theorem E126 {u0 u1 u2 u3:Int} {u4:RW} {u5:Int} {u6 u7 u8 u9:RW} {a1:Int} (h:∀ EV,VN EV Q→EZ G113 [] (cL u0 u1 u2 u3 u4 u5 u6 u7 u8 u9 [.i a1]) (fun x rs vs=>(x=0∧∃ SV,rs=[SV]∧vs=[]∧(Q 0 [SV] [])))):EZ G126 [] (cL u0 u1 u2 u3 u4 u5 u6 u7 u8 u9 [.i a1]) Q:=by
 refine ak.en (I:=I126) (L:=L126) Lj fun A hA CE CK Dn EV RR W hp=>?_
 have h:=h  EV ⟨trivial⟩
 cbv
 refine W.cl h ?_
 rintro _ _ _ hp0 (⟨rfl,SV,rfl,rfl,k0⟩)
 cbv
 subst hA
 exact ⟨(An rfl (An rfl rfl)),⟨hp0.1,(W.q k0)⟩⟩
theorem E140 {u0 u1 u2 u3:Int} {u4:RW} {u5:Int} {u6 u7 u8 u9:RW} {a1:Int} (h:∀ EV,VN EV Q→(a1≥0→Q 0 [] [.b (decide (a1 < (u8.length:Int)))])∧(a1 < 0→Q 0 [] [.b false])):EZ G140 [] (cL u0 u1 u2 u3 u4 u5 u6 u7 u8 u9 [.i a1]) Q:=by
 refine ak.en (I:=I140) (L:=L140) KQ fun A hA CE CK Dn EV RR W hp=>?_
 have h:=h  EV ⟨trivial⟩
 cbv
 subst hA
 exact ⟨fun e0=>have j0:=h.1 (ah (op:=.geq) rfl e0);(W.q j0),fun e0=>have j0:=h.2 (ah (op:=.geq) rfl e0);(W.q j0)⟩
structure V200 (EV Q:EP):Prop where
  p9:∀ {R0 R1:RW} {t1 t9 t10:Int},(aB R0=true→aB R1=true→(t10 < t9→EZ G177 [R0] [.i t10] (fun x rs vs=>(x=0∧∃ Tc,rs=[Tc]∧vs=[]∧(False))∨(x=1∧∃ Tc SX,rs=[Tc]∧vs=[.n SX]∧((Tc[SX]?=some [.int .i64 (cIS Tc SX 0),.int .i64 (cIS Tc SX 1),.bool (cBS Tc SX 2)])∧((cBS Tc SX 2)=true→(Tc[SX]?=some [.int .i64 (cIS Tc SX 0),.int .i64 (cIS Tc SX 1),.bool (cBS Tc SX 2)])∧((cIS Tc SX 1)=t1→((R1.length + (List.length (List.take 1 (List.drop 0 [[(AV.int .i64 t10)]]))))≤140737488355328)∧(((R1.length + (List.length (List.take 1 (List.drop 0 [[(AV.int .i64 t10)]])))) * 8)≤140737488355328)∧(EV 9 [Tc,(R1++(List.take 1 (List.drop 0 [[(AV.int .i64 t10)]])))] [.i t1,.i t9,.i (IntKind.wrap .i64 (t10 + 1))]))∧((cIS Tc SX 1)≠t1→EV 9 [Tc,R1] [.i t1,.i t9,.i (IntKind.wrap .i64 (t10 + 1))]))∧((cBS Tc SX 2)=false→EV 9 [Tc,R1] [.i t1,.i t9,.i (IntKind.wrap .i64 (t10 + 1))])))))∧(t10≥t9→Q 0 [R0,R1] []))→EV 9 [R0,R1] [.i t1,.i t9,.i t10]
theorem V200.of (W:Wk Tryz.prog Tryz.f200 I200 L200 Q A sg CE CK Dn EV RR):V200 EV Q:=by
 have hA:=W.hA
 refine ⟨?_⟩
 intro R0 R1 t1 t9 t10 h
 refine W.step 80 fun hp=>?_
 have h:=h hp.1 hp.2.1
 cbv
 refine ⟨imI hA fun e0=>have j0:=h.1 (ah (op:=.lss) hA e0);⟨ndI hA (An rfl (An rfl rfl)),⟨ndI hA hp.1,?_⟩⟩,imI hA fun e0=>have j0:=h.2 (ah (op:=.lss) hA e0);⟨ndI hA (An rfl (An rfl rfl)),⟨ndI hA (An rfl (An rfl rfl)),⟨ndI hA hp.1,⟨ndI hA hp.2.1,(W.q j0)⟩⟩⟩⟩⟩
 refine W.cl j0 ?_
 rintro _ _ _ hp1 (⟨rfl,Tc,rfl,rfl,k1⟩ | ⟨rfl,Tc,SX,rfl,rfl,k1⟩)
 ·cbv
  subst hA
  exact k1
 ·cbv
  subst hA
  exact ⟨(An rfl k1.1),⟨fun e2=>have j2:=k1.2.1 e2;⟨(An rfl j2.1),⟨fun e3=>have j3:=j2.2.1 ((ah (op:=.eql) rfl e3));⟨(An rfl (by show (0 + 1)≤1;(first | rfl | simp [af] | (simp [af];omega)))),⟨(An rfl (An (Nat.le_refl _) (An j3.1 j3.2.1))),⟨(An rfl (An rfl (by show (R1.length + (List.length (List.take 1 (List.drop 0 [[(AV.int .i64 t10)]]))))=(List.length (aP R1 R1.length (List.take 1 (List.drop 0 [[(AV.int .i64 t10)]]))));(first | rfl | simp [af] | (simp [af];omega))))),⟨(An rfl (An rfl rfl)),⟨hp1.1,⟨((fA hp.2.1 (dw (dA aQ)))),(by show EV 9 [Tc,(aP R1 R1.length (List.take 1 (List.drop 0 [[(AV.int .i64 t10)]])))] [.i t1,.i t9,.i (IntKind.wrap .i64 (t10 + 1))];(try simp only [af,Nat.zero_add,Int.toNat_natCast]);exact j3.2.2)⟩⟩⟩⟩⟩⟩,fun e3=>have j3:=j2.2.2 ((ah (op:=.eql) rfl e3));⟨(An rfl (An rfl rfl)),⟨(An rfl (An rfl rfl)),⟨hp1.1,⟨hp.2.1,j3⟩⟩⟩⟩⟩⟩,fun e2=>have j2:=k1.2.2 e2;⟨(An rfl (An rfl rfl)),⟨(An rfl (An rfl rfl)),⟨hp1.1,⟨hp.2.1,j2⟩⟩⟩⟩⟩⟩
theorem E200 {R0:RW} {a1:Int} (h:aB R0=true→∀ EV,V200 EV Q→EZ G201 [R0] [] (fun x rs vs=>(x=0∧∃ SV SS,rs=[SV]∧vs=[.i SS]∧(EV 9 [SV,[]] [.i a1,.i SS,.i 0])))):EZ G200 [R0] [.i a1] Q:=by
 refine ak.en (I:=I200) (L:=L200) JX fun A hA CE CK Dn EV RR W hp=>?_
 have h:=h hp.1 EV (V200.of W)
 cbv
 refine ⟨ndI hA (An rfl (An rfl rfl)),⟨ndI hA hp.1,?_⟩⟩
 refine W.cl h ?_
 rintro _ _ _ hp0 (⟨rfl,SV,SS,rfl,rfl,k0⟩)
 cbv
 subst hA
 exact ⟨(An rfl (An rfl rfl)),⟨(An rfl (An rfl rfl)),⟨hp0.1,⟨aQ,k0⟩⟩⟩⟩
theorem E162 {R0:RW} {b0 b1:Int} (h:aB R0=true→∀ EV,VN EV Q→(b1 > 0→Q 0 [R0] [.i 64,.i b0,.i b1])∧(b1≤0→EZ G176 [R0] [.i 0,.i b0] (fun x rs vs=>(x=0∧∃ Tc SX,rs=[Tc]∧vs=[.i SX]∧(Q 0 [Tc] [.i SX,.i b0,.i b1]))))):EZ G162 [R0] [.i b0,.i b1] Q:=by
 refine ak.en (I:=I162) (L:=L162) Kt fun A hA CE CK Dn EV RR W hp=>?_
 have h:=h hp.1 EV ⟨trivial⟩
 cbv
 refine ⟨imI hA fun e0=>have j0:=h.1 (ah (op:=.gtr) hA e0);⟨ndI hA (An rfl (An rfl rfl)),⟨ndI hA hp.1,(W.q j0)⟩⟩,imI hA fun e0=>have j0:=h.2 (ah (op:=.gtr) hA e0);⟨⟨ndI hA (An rfl (An rfl rfl)),⟨ndI hA hp.1,?_⟩⟩,trivial⟩⟩
 refine W.cd j0 ?_
 rintro _ _ _ hp1 (⟨rfl,Tc,SX,rfl,rfl,k1⟩)
 cbv
 refine W.draw 80 (by rfl) ?_
 cbv
 subst hA
 exact ⟨(An rfl (An rfl rfl)),⟨hp1.1,(W.q k1)⟩⟩
structure V142 (EV Q:EP):Prop where
  p25:∀ {R0:RW} {b0 b1 g0 g1 m0 m1:Int},(aB R0=true→EZ G162 [R0] [.i b0,.i b1] (fun x rs vs=>(x=0∧∃ SV SS Ub Ua,rs=[SV]∧vs=[.i SS,.i Ub,.i Ua]∧(Q 0 [SV] [.i m0,.i SS,.i Ub,.i Ua]))))→EV 25 [R0] [.i b0,.i b1,.i g0,.i g1,.i m0,.i m1]
theorem V142.of (W:Wk Tryz.prog Tryz.f142 I142 L142 Q A sg CE CK Dn EV RR):V142 EV Q:=by
 have hA:=W.hA
 refine ⟨?_⟩
 intro R0 b0 b1 g0 g1 m0 m1 h
 refine W.step 80 fun hp=>?_
 have h:=h hp.1
 cbv
 refine ⟨ndI hA (An rfl (An rfl rfl)),⟨ndI hA hp.1,?_⟩⟩
 refine W.cl h ?_
 rintro _ _ _ hp0 (⟨rfl,SV,SS,Ub,Ua,rfl,rfl,k0⟩)
 cbv
 subst hA
 exact ⟨(An rfl (An rfl rfl)),⟨hp0.1,(W.q k0)⟩⟩
theorem E142 {R0:RW} {v0 v1 v2 b0 b1:Int} (h:aB R0=true→∀ EV,V142 EV Q→EZ G162 [R0] [.i b0,.i b1] (fun x rs vs=>(x=0∧∃ SV SS Ub Ua,rs=[SV]∧vs=[.i SS,.i Ub,.i Ua]∧((v0=3→EV 25 [SV] [.i Ub,.i (IntKind.wrap .i64 (Ua + 1)),.i 0,.i 0,.i SS,.i 0])∧(v0≠3→(v0=4→EV 25 [SV] [.i Ub,.i (arS.mx (IntKind.wrap .i64 (Ua - 1)) 0),.i 0,.i 0,.i SS,.i 0])∧(v0≠4→(v0=5→EZ G163 [SV] [.i v1,.i 0] (fun x rs vs=>(x=0∧∃ Ve Td,rs=[Ve]∧vs=[.i Td]∧(EV 25 [Ve] [.i Ub,.i Ua,.i 0,.i 0,.i SS,.i 0]))))∧(v0≠5→(v0=6→EZ G164 [SV] [.i v1,.i 0] (fun x rs vs=>(x=0∧∃ TN Uc,rs=[TN]∧vs=[.i Uc]∧(EV 25 [TN] [.i Ub,.i Ua,.i 0,.i 0,.i SS,.i 0]))))∧(v0≠6→EV 25 [SV] [.i Ub,.i Ua,.i 0,.i 0,.i SS,.i 0])))))))):EZ G142 [R0] [.i v0,.i v1,.i v2,.i b0,.i b1] Q:=by
 refine ak.en (I:=I142) (L:=L142) KP fun A hA CE CK Dn EV RR W hp=>?_
 have h:=h hp.1 EV (V142.of W)
 cbv
 refine ⟨ndI hA (An rfl (An rfl rfl)),⟨ndI hA hp.1,?_⟩⟩
 refine W.cl h ?_
 rintro _ _ _ hp0 (⟨rfl,SV,SS,Ub,Ua,rfl,rfl,k0⟩)
 cbv
 refine ⟨imI hA fun e1=>have j1:=k0.1 (ah (op:=.eql) hA e1);⟨ndI hA (An rfl (An rfl rfl)),⟨ndI hA hp0.1,(hA ▸ j1)⟩⟩,imI hA fun e1=>have j1:=k0.2 (ah (op:=.eql) hA e1);⟨imI hA fun e2=>have j2:=j1.1 (ah (op:=.eql) hA e2);⟨ndI hA (An rfl (An rfl rfl)),⟨ndI hA hp0.1,(hA ▸ j2)⟩⟩,imI hA fun e2=>have j2:=j1.2 (ah (op:=.eql) hA e2);⟨imI hA fun e3=>have j3:=j2.1 (ah (op:=.eql) hA e3);⟨⟨ndI hA (An rfl (An rfl rfl)),⟨ndI hA hp0.1,?_⟩⟩,trivial⟩,imI hA fun e3=>have j3:=j2.2 (ah (op:=.eql) hA e3);⟨imI hA fun e4=>have j4:=j3.1 (ah (op:=.eql) hA e4);⟨⟨ndI hA (An rfl (An rfl rfl)),⟨ndI hA hp0.1,?_⟩⟩,trivial⟩,imI hA fun e4=>have j4:=j3.2 (ah (op:=.eql) hA e4);⟨ndI hA (An rfl (An rfl rfl)),⟨ndI hA hp0.1,j4⟩⟩⟩⟩⟩⟩
 ·refine W.cd j3 ?_
  rintro _ _ _ hp4 (⟨rfl,Ve,Td,rfl,rfl,k4⟩)
  cbv
  refine W.draw 80 (by rfl) ?_
  cbv
  subst hA
  exact ⟨(An rfl (An rfl rfl)),⟨hp4.1,k4⟩⟩
 ·refine W.cd j4 ?_
  rintro _ _ _ hp5 (⟨rfl,TN,Uc,rfl,rfl,k5⟩)
  cbv
  refine W.draw 80 (by rfl) ?_
  cbv
  subst hA
  exact ⟨(An rfl (An rfl rfl)),⟨hp5.1,k5⟩⟩
structure V108 (EV Q:EP):Prop where
  p12:∀ {R0:RW} {t1 b0 b1 b2 b3:Int} {b4:RW} {b5:Int} {b6 b7 b8 b9:RW} {d0 d1:Int},(aB R0=true→(0≤t1)∧(b8[t1.toNat]?=some (r7 b8 t1.toNat))∧(EV 19 [[],R0] [.r (cRS b8 t1.toNat 6),.i ((List.length (cRS b8 t1.toNat 6)):Int),.i 0,.i d0,.i d1]))→EV 12 [R0] (.i t1::cL b0 b1 b2 b3 b4 b5 b6 b7 b8 b9 [.i d0,.i d1])
  p19:∀ {R0 R1 t29:RW} {t30 t31 b0 b1:Int},(aB R0=true→aB R1=true→(t31 < t30→(0≤t31)∧(t29[t31.toNat]?=some (r3 t29 t31.toNat))∧(EZ G142 [R1] [.i (cIS t29 t31.toNat 0),.i (cIS t29 t31.toNat 1),.i (cIS t29 t31.toNat 2),.i b0,.i b1] (fun x rs vs=>(x=0∧∃ Tc y1a0 y1a1 Tj Ti,rs=[Tc]∧vs=[.i y1a0,.i y1a1,.i Tj,.i Ti]∧(((R0.length + 1)≤140737488355328)∧(((R0.length + 1) * 16)≤140737488355328)∧(EV 19 [(R0++[[(AV.int .i64 y1a0),(AV.int .i64 y1a1)]]),Tc] [.r t29,.i t30,.i (IntKind.wrap .i64 (t31 + 1)),.i Tj,.i Ti]))))))∧(t31≥t30→Q 0 [R0] []))→EV 19 [R0,R1] [.r t29,.i t30,.i t31,.i b0,.i b1]
theorem V108.of (W:Wk Tryz.prog Tryz.f108 I108 L108 Q A sg CE CK Dn EV RR):V108 EV Q:=by
 have hA:=W.hA
 refine ⟨?_,?_⟩
 ·intro R0 t1 b0 b1 b2 b3 b4 b5 b6 b7 b8 b9 d0 d1 h
  refine W.step 80 fun hp=>?_
  have h:=h hp.1
  cbv
  subst hA
  exact ⟨(An h.1 h.2.1),⟨(An rfl (An rfl rfl)),⟨aQ,⟨(An rfl (An rfl rfl)),⟨hp.1,h.2.2⟩⟩⟩⟩⟩
 ·intro R0 R1 t29 t30 t31 b0 b1 h
  refine W.step 80 fun hp=>?_
  have h:=h hp.1 hp.2.1
  cbv
  refine ⟨imI hA fun e0=>have j0:=h.1 (ah (op:=.lss) hA e0);⟨ndI hA (An j0.1 (hA ▸ j0.2.1)),⟨ndI hA (An rfl (An rfl rfl)),⟨ndI hA hp.2.1,?_⟩⟩⟩,imI hA fun e0=>have j0:=h.2 (ah (op:=.lss) hA e0);⟨ndI hA (An rfl (An rfl rfl)),⟨ndI hA hp.1,(W.q j0)⟩⟩⟩
  refine W.cl j0.2.2 ?_
  rintro _ _ _ hp1 (⟨rfl,Tc,y1a0,y1a1,Tj,Ti,rfl,rfl,k1⟩)
  cbv
  subst hA
  exact ⟨(An rfl (An (Nat.le_refl _) (An k1.1 k1.2.1))),⟨(An rfl (An rfl (by show (R0.length + 1)=(List.length (aP R0 R0.length [[(AV.int .i64 y1a0),(AV.int .i64 y1a1)]]));(first | rfl | simp [af] | (simp [af];omega))))),⟨((fA hp.1 aQ)),⟨(An rfl (An rfl rfl)),⟨hp1.1,(by show EV 19 [(aP R0 R0.length [[(AV.int .i64 y1a0),(AV.int .i64 y1a1)]]),Tc] [.r t29,.i t30,.i (IntKind.wrap .i64 (t31 + 1)),.i Tj,.i Ti];(try simp only [af,Nat.zero_add,Int.toNat_natCast]);exact k1.2.2)⟩⟩⟩⟩⟩
theorem E108 {u0 u1 u2 u3:Int} {u4:RW} {u5:Int} {u6 u7 u8 u9:RW} {a1:Int} (h:∀ EV,V108 EV Q→EZ G140 [] (cL u0 u1 u2 u3 u4 u5 u6 u7 u8 u9 [.i a1]) (fun x rs vs=>(x=0∧∃ SS,rs=[]∧vs=[.b SS]∧((SS=false→Q 0 [[]] [])∧(SS=true→(0≤a1)∧(u8[a1.toNat]?=some (r7 u8 a1.toNat))∧(EZ G141 [] [.r u7] (fun x rs vs=>(x=0∧∃ Tf,rs=[Tf]∧vs=[]∧(EV 12 [Tf] (.i a1::cL u0 u1 u2 u3 u4 u5 u6 u7 u8 u9 [.i (cIS u8 a1.toNat 1),.i 0])))))))))):EZ G108 [] (cL u0 u1 u2 u3 u4 u5 u6 u7 u8 u9 [.i a1]) Q:=by
 refine ak.en (I:=I108) (L:=L108) LQ fun A hA CE CK Dn EV RR W hp=>?_
 have h:=h  EV (V108.of W)
 cbv
 refine W.cl h ?_
 rintro _ _ _ hp0 (⟨rfl,SS,rfl,rfl,k0⟩)
 cbv
 refine ⟨imI hA fun e1=>have j1:=k0.1 (by subst hA;exact (notE rfl e1));⟨ndI hA (An (hA ▸ rfl) (An rfl (hA ▸ rfl))),⟨ndI hA aQ,(W.q j1)⟩⟩,imI hA fun e1=>have j1:=k0.2 (by subst hA;exact (notE rfl e1));⟨ndI hA (An j1.1 (hA ▸ j1.2.1)),⟨?_,trivial⟩⟩⟩
 refine W.cd j1.2.2 ?_
 rintro _ _ _ hp2 (⟨rfl,Tf,rfl,rfl,k2⟩)
 cbv
 refine W.draw 80 (by rfl) ?_
 cbv
 subst hA
 exact ⟨⟨(An rfl (An rfl rfl)),⟨hp2.1,k2⟩⟩,trivial⟩
structure V75 (EV Q:EP):Prop where
  p9:∀ {R0:RW} {t1 t2 t7 t8 t14 t15 b0 b1 b2 b3:Int} {b4:RW} {b5:Int} {b6 b7 b8 b9:RW},(aB R0=true→(t15 < t14→(0≤t15)∧(t15 < (R0.length:Int))∧(R0[t15.toNat]?=some [.int .i64 (cIS R0 t15.toNat 0),.int .i64 (cIS R0 t15.toNat 1)])∧((arS.mx (cIS R0 t15.toNat 0) (cIS R0 t15.toNat 1)) < t2→EV 9 [R0] (.i t1::.i t2::.i t7::.i 0::.i t14::.i (IntKind.wrap .i64 (t15 + 1))::cL b0 b1 b2 b3 b4 b5 b6 b7 b8 b9 []))∧((arS.mx (cIS R0 t15.toNat 0) (cIS R0 t15.toNat 1))≥t2→(0≤t1)∧(b8[t1.toNat]?=some (r7 b8 t1.toNat))∧(0≤t15)∧((cRS b8 t1.toNat 6)[t15.toNat]?=some (r3 (cRS b8 t1.toNat 6) t15.toNat))∧(EZ G109 [] [.i (cIS (cRS b8 t1.toNat 6) t15.toNat 0),.i (cIS (cRS b8 t1.toNat 6) t15.toNat 1),.i (cIS (cRS b8 t1.toNat 6) t15.toNat 2),.i b0,.i b1,.i b2,.i b3,.b false] (fun x rs vs=>(x=0∧∃ SY,rs=[]∧vs=[.i SY]∧(EV 9 [R0] (.i t1::.i t2::.i (arS.mx t7 (IntKind.wrap .i64 (t8 + SY)))::.i (IntKind.wrap .i64 (t8 + SY))::.i t14::.i (IntKind.wrap .i64 (t15 + 1))::cL b0 b1 b2 b3 b4 b5 b6 b7 b8 b9 [])))))))∧(t15≥t14→Q 0 [] [.i t7]))→EV 9 [R0] (.i t1::.i t2::.i t7::.i t8::.i t14::.i t15::cL b0 b1 b2 b3 b4 b5 b6 b7 b8 b9 [])
theorem V75.of (W:Wk Tryz.prog Tryz.f75 I75 L75 Q A sg CE CK Dn EV RR):V75 EV Q:=by
 have hA:=W.hA
 refine ⟨?_⟩
 intro R0 t1 t2 t7 t8 t14 t15 b0 b1 b2 b3 b4 b5 b6 b7 b8 b9 h
 refine W.step 80 fun hp=>?_
 have h:=h hp.1
 cbv
 refine ⟨imI hA fun e0=>have j0:=h.1 (ah (op:=.lss) hA e0);⟨ndI hA (An j0.1 (An (hA ▸ j0.2.1) rfl)),⟨ndI hA (An rfl (hA ▸ j0.2.2.1)),⟨imI hA fun e1=>have j1:=j0.2.2.2.1 (by subst hA;exact (ah (op:=.lss) rfl e1));⟨ndI hA (An rfl (An rfl rfl)),⟨ndI hA hp.1,(hA ▸ j1)⟩⟩,imI hA fun e1=>have j1:=j0.2.2.2.2 (by subst hA;exact (ah (op:=.lss) rfl e1));⟨ndI hA (An j1.1 (hA ▸ j1.2.1)),⟨ndI hA (An j1.2.2.1 (hA ▸ j1.2.2.2.1)),⟨?_,trivial⟩⟩⟩⟩⟩⟩,imI hA fun e0=>have j0:=h.2 (ah (op:=.lss) hA e0);(W.q j0)⟩
 refine W.cd j1.2.2.2.2 ?_
 rintro _ _ _ hp2 (⟨rfl,SY,rfl,rfl,k2⟩)
 cbv
 refine W.draw 80 (by rfl) ?_
 cbv
 subst hA
 exact ⟨(An rfl (An rfl rfl)),⟨hp.1,k2⟩⟩
theorem E75 {u0 u1 u2 u3:Int} {u4:RW} {u5:Int} {u6 u7 u8 u9:RW} {a1 a2:Int} (h:∀ EV,V75 EV Q→EZ G108 [] (cL u0 u1 u2 u3 u4 u5 u6 u7 u8 u9 [.i a1]) (fun x rs vs=>(x=0∧∃ SV,rs=[SV]∧vs=[]∧(EV 9 [SV] (.i a1::.i a2::.i 0::.i 0::.i (SV.length:Int)::.i 0::cL u0 u1 u2 u3 u4 u5 u6 u7 u8 u9 []))))):EZ G75 [] (cL u0 u1 u2 u3 u4 u5 u6 u7 u8 u9 [.i a1,.i a2]) Q:=by
 refine ak.en (I:=I75) (L:=L75) QG fun A hA CE CK Dn EV RR W hp=>?_
 have h:=h  EV (V75.of W)
 cbv
 refine W.cl h ?_
 rintro _ _ _ hp0 (⟨rfl,SV,rfl,rfl,k0⟩)
 cbv
 subst hA
 exact ⟨rfl,⟨(An rfl (An rfl rfl)),⟨hp0.1,k0⟩⟩⟩
theorem E60 {a0 a1:Int} (h:∀ EV,VN EV Q→((arS.c0 a0 a1) > 0→Q 0 [] [.i 18446744073709551615])∧((arS.c0 a0 a1)≤0→Q 0 [] [.i (arS.s0 a0 a1)])):EZ G60 [] [.i a0,.i a1] Q:=by
 refine ak.en (I:=I60) (L:=L60) QT fun A hA CE CK Dn EV RR W hp=>?_
 have h:=h  EV ⟨trivial⟩
 cbv
 subst hA
 exact ⟨fun e0=>have j0:=h.1 ((ah (op:=.gtr) rfl e0));(W.q j0),fun e0=>have j0:=h.2 ((ah (op:=.gtr) rfl e0));(W.q j0)⟩
structure V157 (EV Q:EP):Prop where
  p9:∀ {t3:Int} {t6:RW} {t7 t8:Int},((t8 < t7→(0≤t8)∧(t6[t8.toNat]?=some [.int .u64 (cIS t6 t8.toNat 0)])∧(EZ G60 [] [.i t3,.i (cIS t6 t8.toNat 0)] (fun x rs vs=>(x=0∧∃ SX,rs=[]∧vs=[.i SX]∧(EV 9 [] [.i SX,.r t6,.i t7,.i (IntKind.wrap .i64 (t8 + 1))])))))∧(t8≥t7→Q 0 [] [.i t3]))→EV 9 [] [.i t3,.r t6,.i t7,.i t8]
theorem V157.of (W:Wk Tryz.prog Tryz.f157 I157 L157 Q A sg CE CK Dn EV RR):V157 EV Q:=by
 have hA:=W.hA
 refine ⟨?_⟩
 intro t3 t6 t7 t8 h
 refine W.step 80 fun hp=>?_
 cbv
 refine ⟨imI hA fun e0=>have j0:=h.1 (ah (op:=.lss) hA e0);⟨ndI hA (An j0.1 (hA ▸ j0.2.1)),?_⟩,imI hA fun e0=>have j0:=h.2 (ah (op:=.lss) hA e0);(W.q j0)⟩
 refine W.cl j0.2.2 ?_
 rintro _ _ _ hp1 (⟨rfl,SX,rfl,rfl,k1⟩)
 cbv
 subst hA
 exact k1
theorem E157 {a0:RW} (h:∀ EV,V157 EV Q→EV 9 [] [.i 0,.r a0,.i (a0.length:Int),.i 0]):EZ G157 [] [.r a0] Q:=by
 refine ak.en (I:=I157) (L:=L157) Kz fun A hA CE CK Dn EV RR W hp=>?_
 have h:=h  EV (V157.of W)
 cbv
 subst hA
 exact h
structure V127 (EV Q:EP):Prop where
  p12:∀ {t1 t8 b0 b1 b2 b3:Int} {b4:RW} {b5:Int} {b6 b7 b8 b9:RW} {d0 d1 d2 d3 d4 d5:Int} {d6:RW},(EZ G97 [] [.r d6,.i b0,.i b1,.i b2,.i b3] (fun x rs vs=>(x=0∧∃ SS,rs=[]∧vs=[.i SS]∧(EZ G58 [] [.i SS] (fun x rs vs=>(x=0∧∃ SX,rs=[]∧vs=[.i SX]∧((d1≥t8→Q 0 [] [.i SX])∧(d1 < t8→EZ G75 [] (cL b0 b1 b2 b3 b4 b5 b6 b7 b8 b9 [.i t1,.i t8]) (fun x rs vs=>(x=0∧∃ S9,rs=[]∧vs=[.i S9]∧(EZ G58 [] [.i S9] (fun x rs vs=>(x=0∧∃ Td,rs=[]∧vs=[.i Td]∧((d5 > 0→EZ G58 [] [.i d5] (fun x rs vs=>(x=0∧∃ TY,rs=[]∧vs=[.i TY]∧(EZ G157 [] [.r [[(AV.int .u64 TY)],[(AV.int .u64 Td)],[(AV.int .u64 Td)]]] (fun x rs vs=>(x=0∧∃ Ud,rs=[]∧vs=[.i Ud]∧(Q 0 [] [.i (arS.mn SX Ud)])))))))∧(d5≤0→Q 0 [] [.i (arS.mn SX Td)])))))))))))))))→EV 12 [] (.i t1::.i t8::cL b0 b1 b2 b3 b4 b5 b6 b7 b8 b9 [.i d0,.i d1,.i d2,.i d3,.i d4,.i d5,.r d6])
theorem V127.of (W:Wk Tryz.prog Tryz.f127 I127 L127 Q A sg CE CK Dn EV RR):V127 EV Q:=by
 have hA:=W.hA
 refine ⟨?_⟩
 intro t1 t8 b0 b1 b2 b3 b4 b5 b6 b7 b8 b9 d0 d1 d2 d3 d4 d5 d6 h
 refine W.step 80 fun hp=>?_
 cbv
 refine W.cl h ?_
 rintro _ _ _ hp0 (⟨rfl,SS,rfl,rfl,k0⟩)
 cbv
 refine W.cl k0 ?_
 rintro _ _ _ hp1 (⟨rfl,SX,rfl,rfl,k1⟩)
 cbv
 refine ⟨imI hA fun e2=>have j2:=k1.1 (ah (op:=.geq) hA e2);(W.q j2),imI hA fun e2=>have j2:=k1.2 (ah (op:=.geq) hA e2);?_⟩
 refine W.cl j2 ?_
 rintro _ _ _ hp3 (⟨rfl,S9,rfl,rfl,k3⟩)
 cbv
 refine W.cl k3 ?_
 rintro _ _ _ hp4 (⟨rfl,Td,rfl,rfl,k4⟩)
 cbv
 refine ⟨imI hA fun e5=>have j5:=k4.1 (ah (op:=.gtr) hA e5);?_,imI hA fun e5=>have j5:=k4.2 (ah (op:=.gtr) hA e5);(W.q (hA ▸ j5))⟩
 refine W.cl j5 ?_
 rintro _ _ _ hp6 (⟨rfl,TY,rfl,rfl,k6⟩)
 cbv
 refine W.cl k6 ?_
 rintro _ _ _ hp7 (⟨rfl,Ud,rfl,rfl,k7⟩)
 cbv
 subst hA
 exact (W.q k7)
theorem E127 {u0 u1 u2 u3:Int} {u4:RW} {u5:Int} {u6 u7 u8 u9:RW} {a1 a2:Int} (h:∀ EV,V127 EV Q→EZ G145 [] (cL u0 u1 u2 u3 u4 u5 u6 u7 u8 u9 [.i a1]) (fun x rs vs=>(x=0∧∃ SS,rs=[]∧vs=[.b SS]∧((SS=true→EZ G145 [] (cL u0 u1 u2 u3 u4 u5 u6 u7 u8 u9 [.i a2]) (fun x rs vs=>(x=0∧∃ SY,rs=[]∧vs=[.b SY]∧((SY=false→Q 0 [] [.i 0])∧(SY=true→(0≤a1)∧(u8[a1.toNat]?=some (r7 u8 a1.toNat))∧(0≤a2)∧(u8[a2.toNat]?=some (r7 u8 a2.toNat))∧(EV 12 [] (.i a1::.i (cIS u8 a2.toNat 0)::cL u0 u1 u2 u3 u4 u5 u6 u7 u8 u9 [.i (cIS u8 a1.toNat 0),.i (cIS u8 a1.toNat 1),.i (cIS u8 a1.toNat 2),.i (cIS u8 a1.toNat 3),.i (cIS u8 a1.toNat 4),.i (cIS u8 a1.toNat 5),.r (cRS u8 a1.toNat 6)])))))))∧(SS=false→Q 0 [] [.i 0]))))):EZ G127 [] (cL u0 u1 u2 u3 u4 u5 u6 u7 u8 u9 [.i a1,.i a2]) Q:=by
 refine ak.en (I:=I127) (L:=L127) Lh fun A hA CE CK Dn EV RR W hp=>?_
 have h:=h  EV (V127.of W)
 cbv
 refine W.cl h ?_
 rintro _ _ _ hp0 (⟨rfl,SS,rfl,rfl,k0⟩)
 cbv
 refine ⟨imI hA fun e1=>have j1:=k0.1 (by subst hA;exact (notE rfl e1));?_,imI hA fun e1=>have j1:=k0.2 (by subst hA;exact (notE rfl e1));(W.q j1)⟩
 refine W.cl j1 ?_
 rintro _ _ _ hp2 (⟨rfl,SY,rfl,rfl,k2⟩)
 cbv
 subst hA
 exact ⟨fun e3=>have j3:=k2.1 ((notE rfl e3));(W.q j3),fun e3=>have j3:=k2.2 ((notE rfl e3));⟨(An j3.1 j3.2.1),⟨(An j3.2.2.1 j3.2.2.2.1),⟨⟨j3.2.2.2.2,trivial⟩,trivial⟩⟩⟩⟩
structure V93 (EV Q:EP):Prop where
  p9:∀ {R0:RW} {t1 t5 t11 t12 b0 b1 b2 b3:Int} {b4:RW} {b5:Int} {b6 b7 b8 b9:RW},(aB R0=true→(t12 < t11→(0≤t12)∧(t12 < (R0.length:Int))∧(R0[t12.toNat]?=some [.int .i64 (cIS R0 t12.toNat 0)])∧(EZ G127 [] (cL b0 b1 b2 b3 b4 b5 b6 b7 b8 b9 [.i (cIS R0 t12.toNat 0),.i t1]) (fun x rs vs=>(x=0∧∃ SX,rs=[]∧vs=[.i SX]∧(EV 9 [R0] (.i t1::.i (arS.mx t5 SX)::.i t11::.i (IntKind.wrap .i64 (t12 + 1))::cL b0 b1 b2 b3 b4 b5 b6 b7 b8 b9 []))))))∧(t12≥t11→Q 0 [] [.i t5]))→EV 9 [R0] (.i t1::.i t5::.i t11::.i t12::cL b0 b1 b2 b3 b4 b5 b6 b7 b8 b9 [])
theorem V93.of (W:Wk Tryz.prog Tryz.f93 I93 L93 Q A sg CE CK Dn EV RR):V93 EV Q:=by
 have hA:=W.hA
 refine ⟨?_⟩
 intro R0 t1 t5 t11 t12 b0 b1 b2 b3 b4 b5 b6 b7 b8 b9 h
 refine W.step 80 fun hp=>?_
 have h:=h hp.1
 cbv
 refine ⟨imI hA fun e0=>have j0:=h.1 (ah (op:=.lss) hA e0);⟨ndI hA (An j0.1 (An (hA ▸ j0.2.1) rfl)),⟨ndI hA (An rfl (hA ▸ j0.2.2.1)),?_⟩⟩,imI hA fun e0=>have j0:=h.2 (ah (op:=.lss) hA e0);(W.q j0)⟩
 refine W.cl j0.2.2.2 ?_
 rintro _ _ _ hp1 (⟨rfl,SX,rfl,rfl,k1⟩)
 cbv
 subst hA
 exact ⟨(An rfl (An rfl rfl)),⟨hp.1,k1⟩⟩
theorem E93 {u0 u1 u2 u3:Int} {u4:RW} {u5:Int} {u6 u7 u8 u9:RW} {a1:Int} (h:∀ EV,V93 EV Q→EZ G126 [] (cL u0 u1 u2 u3 u4 u5 u6 u7 u8 u9 [.i a1]) (fun x rs vs=>(x=0∧∃ SV,rs=[SV]∧vs=[]∧(EV 9 [SV] (.i a1::.i 0::.i (SV.length:Int)::.i 0::cL u0 u1 u2 u3 u4 u5 u6 u7 u8 u9 []))))):EZ G93 [] (cL u0 u1 u2 u3 u4 u5 u6 u7 u8 u9 [.i a1]) Q:=by
 refine ak.en (I:=I93) (L:=L93) Qo fun A hA CE CK Dn EV RR W hp=>?_
 have h:=h  EV (V93.of W)
 cbv
 refine W.cl h ?_
 rintro _ _ _ hp0 (⟨rfl,SV,rfl,rfl,k0⟩)
 cbv
 subst hA
 exact ⟨rfl,⟨(An rfl (An rfl rfl)),⟨hp0.1,k0⟩⟩⟩
theorem E128 {u0 u1 u2 u3:Int} {u4:RW} {u5:Int} {u6 u7 u8 u9:RW} {a1:Int} (h:∀ EV,VN EV Q→(a1≥0→Q 0 [] [.b (decide (a1 < (u8.length:Int)))])∧(a1 < 0→Q 0 [] [.b false])):EZ G128 [] (cL u0 u1 u2 u3 u4 u5 u6 u7 u8 u9 [.i a1]) Q:=by
 refine ak.en (I:=I128) (L:=L128) Le fun A hA CE CK Dn EV RR W hp=>?_
 have h:=h  EV ⟨trivial⟩
 cbv
 subst hA
 exact ⟨fun e0=>have j0:=h.1 (ah (op:=.geq) rfl e0);(W.q j0),fun e0=>have j0:=h.2 (ah (op:=.geq) rfl e0);(W.q j0)⟩
structure V174 (EV Q:EP):Prop where
  p9:∀ {R0 t6:RW} {t7 t8:Int},(aB R0=true→(t8 < t7→(0≤t8)∧(t6[t8.toNat]?=some (r3 t6 t8.toNat))∧((cIS t6 t8.toNat 0)=2→((R0.length + (List.length (List.take 1 (List.drop 0 [[(AV.int .i64 (cIS t6 t8.toNat 1))]]))))≤140737488355328)∧(((R0.length + (List.length (List.take 1 (List.drop 0 [[(AV.int .i64 (cIS t6 t8.toNat 1))]])))) * 8)≤140737488355328)∧(EV 9 [(R0++(List.take 1 (List.drop 0 [[(AV.int .i64 (cIS t6 t8.toNat 1))]])))] [.r t6,.i t7,.i (IntKind.wrap .i64 (t8 + 1))]))∧((cIS t6 t8.toNat 0)≠2→EV 9 [R0] [.r t6,.i t7,.i (IntKind.wrap .i64 (t8 + 1))]))∧(t8≥t7→Q 0 [R0] []))→EV 9 [R0] [.r t6,.i t7,.i t8]
theorem V174.of (W:Wk Tryz.prog Tryz.f174 I174 L174 Q A sg CE CK Dn EV RR):V174 EV Q:=by
 have hA:=W.hA
 refine ⟨?_⟩
 intro R0 t6 t7 t8 h
 refine W.step 80 fun hp=>?_
 have h:=h hp.1
 cbv
 subst hA
 exact ⟨fun e0=>have j0:=h.1 (ah (op:=.lss) rfl e0);⟨(An j0.1 j0.2.1),⟨fun e1=>have j1:=j0.2.2.1 ((ah (op:=.eql) rfl e1));⟨(An rfl (by show (0 + 1)≤1;(first | rfl | simp [af] | (simp [af];omega)))),⟨(An rfl (An (Nat.le_refl _) (An j1.1 j1.2.1))),⟨(An rfl (An rfl (by show (R0.length + (List.length (List.take 1 (List.drop 0 [[(AV.int .i64 (cIS t6 t8.toNat 1))]]))))=(List.length (aP R0 R0.length (List.take 1 (List.drop 0 [[(AV.int .i64 (cIS t6 t8.toNat 1))]]))));(first | rfl | simp [af] | (simp [af];omega))))),⟨((fA hp.1 (dw (dA aQ)))),(by show EV 9 [(aP R0 R0.length (List.take 1 (List.drop 0 [[(AV.int .i64 (cIS t6 t8.toNat 1))]])))] [.r t6,.i t7,.i (IntKind.wrap .i64 (t8 + 1))];(try simp only [af,Nat.zero_add,Int.toNat_natCast]);exact j1.2.2)⟩⟩⟩⟩,fun e1=>have j1:=j0.2.2.2 ((ah (op:=.eql) rfl e1));⟨(An rfl (An rfl rfl)),⟨hp.1,j1⟩⟩⟩⟩,fun e0=>have j0:=h.2 (ah (op:=.lss) rfl e0);⟨(An rfl (An rfl rfl)),⟨hp.1,(W.q j0)⟩⟩⟩
theorem E174 {a0:RW} (h:∀ EV,V174 EV Q→EV 9 [[]] [.r a0,.i (a0.length:Int),.i 0]):EZ G174 [] [.r a0] Q:=by
 refine ak.en (I:=I174) (L:=L174) J6 fun A hA CE CK Dn EV RR W hp=>?_
 have h:=h  EV (V174.of W)
 cbv
 subst hA
 exact ⟨(An rfl (An rfl rfl)),⟨aQ,h⟩⟩
structure V175 (EV Q:EP):Prop where
  p15:∀ {R0:RW} {t3:Int},(aB R0=true→(t3 < (R0.length:Int)→(0≤t3)∧(t3 < (R0.length:Int))∧(R0[t3.toNat]?=some [.int .i64 (cIS R0 t3.toNat 0)])∧(0≤(IntKind.wrap .i64 (t3 - 1)))∧((IntKind.wrap .i64 (t3 - 1)) < (R0.length:Int))∧(R0[(Int.toNat (IntKind.wrap .i64 (t3 - 1)))]?=some [.int .i64 (cIS R0 (Int.toNat (IntKind.wrap .i64 (t3 - 1))) 0)])∧((cIS R0 t3.toNat 0)=(cIS R0 (Int.toNat (IntKind.wrap .i64 (t3 - 1))) 0)→(0≤t3)∧(t3≤(R0.length:Int))∧(EV 33 [R0] [.i t3,.n t3.toNat,.n (R0.length - t3.toNat),.i 1]))∧((cIS R0 t3.toNat 0)≠(cIS R0 (Int.toNat (IntKind.wrap .i64 (t3 - 1))) 0)→EV 15 [R0] [.i (IntKind.wrap .i64 (t3 + 1))]))∧(t3≥(R0.length:Int)→Q 0 [R0] [.n R0.length]))→EV 15 [R0] [.i t3]
  p33:∀ {R0:RW} {t3:Int} {t4_0 t4_1:Nat} {t5:Int},(aB R0=true→(t5 < (t4_1:Int)→(0≤t5)∧(t5 < (t4_1:Int))∧(R0[(oZ t4_0 t5.toNat)]?=some [.int .i64 (cIS R0 (oZ t4_0 t5.toNat) 0)])∧(0≤(IntKind.wrap .i64 (t5 - 1)))∧((IntKind.wrap .i64 (t5 - 1)) < (t4_1:Int))∧(R0[(oZ t4_0 (Int.toNat (IntKind.wrap .i64 (t5 - 1))))]?=some [.int .i64 (cIS R0 (oZ t4_0 (Int.toNat (IntKind.wrap .i64 (t5 - 1)))) 0)])∧((cIS R0 (oZ t4_0 t5.toNat) 0)≠(cIS R0 (oZ t4_0 (Int.toNat (IntKind.wrap .i64 (t5 - 1)))) 0)→(0≤t5)∧(t5 < (t4_1:Int))∧(R0[(oZ t4_0 t5.toNat)]?=some [.int .i64 (cIS R0 (oZ t4_0 t5.toNat) 0)])∧(0≤t3)∧(t3 < (R0.length:Int))∧(R0[t3.toNat]?=some [.int .i64 (cIS R0 t3.toNat 0)])∧(EV 33 [(List.set R0 t3.toNat [.int .i64 (cIS R0 (oZ t4_0 t5.toNat) 0)])] [.i (IntKind.wrap .i64 (t3 + 1)),.n t4_0,.n t4_1,.i (IntKind.wrap .i64 (t5 + 1))]))∧((cIS R0 (oZ t4_0 t5.toNat) 0)=(cIS R0 (oZ t4_0 (Int.toNat (IntKind.wrap .i64 (t5 - 1)))) 0)→EV 33 [R0] [.i t3,.n t4_0,.n t4_1,.i (IntKind.wrap .i64 (t5 + 1))]))∧(t5≥(t4_1:Int)→(0≤t3)∧(t3≤(R0.length:Int))∧((t3.toNat + (R0.length - t3.toNat))≤R0.length)∧(R0.length=(List.length (aP R0 t3.toNat (List.replicate (R0.length - t3.toNat) [(AV.int .i64 0)]))))∧(Q 0 [(aP R0 t3.toNat (List.replicate (R0.length - t3.toNat) [(AV.int .i64 0)]))] [.n t3.toNat])))→EV 33 [R0] [.i t3,.n t4_0,.n t4_1,.i t5]
theorem V175.of (W:Wk Tryz.prog Tryz.f175 I175 L175 Q A sg CE CK Dn EV RR):V175 EV Q:=by
 have hA:=W.hA
 refine ⟨?_,?_⟩
 ·intro R0 t3 h
  refine W.step 80 fun hp=>?_
  have h:=h hp.1
  cbv
  subst hA
  exact ⟨rfl,⟨fun e0=>have j0:=h.1 ((ah (op:=.lss) rfl e0));⟨(An j0.1 (An j0.2.1 rfl)),⟨(An rfl j0.2.2.1),⟨(An j0.2.2.2.1 (An j0.2.2.2.2.1 rfl)),⟨(An rfl j0.2.2.2.2.2.1),⟨fun e1=>have j1:=j0.2.2.2.2.2.2.1 ((ah (op:=.eql) rfl e1));⟨(An j1.1 (An j1.2.1 rfl)),⟨(An rfl (An rfl rfl)),⟨rfl,⟨hp.1,(by show EV 33 [R0] [.i t3,.n (0 + t3.toNat),.n (R0.length - t3.toNat),.i 1];(try simp only [af,Nat.zero_add,Int.toNat_natCast]);exact j1.2.2)⟩⟩⟩⟩,fun e1=>have j1:=j0.2.2.2.2.2.2.2 ((ah (op:=.eql) rfl e1));⟨(An rfl (An rfl rfl)),⟨hp.1,j1⟩⟩⟩⟩⟩⟩⟩,fun e0=>have j0:=h.2 ((ah (op:=.lss) rfl e0));⟨(An rfl rfl),⟨hp.1,(W.q j0)⟩⟩⟩⟩
 ·intro R0 t3 t4_0 t4_1 t5 h
  refine W.step 80 fun hp=>?_
  have h:=h hp.1
  cbv
  subst hA
  exact ⟨rfl,⟨fun e0=>have j0:=h.1 ((ah (op:=.lss) rfl e0));⟨(An j0.1 (An j0.2.1 rfl)),⟨(An rfl j0.2.2.1),⟨(An j0.2.2.2.1 (An j0.2.2.2.2.1 rfl)),⟨(An rfl j0.2.2.2.2.2.1),⟨fun e1=>have j1:=j0.2.2.2.2.2.2.1 ((ah (op:=.neq) rfl e1));⟨(An j1.1 (An j1.2.1 rfl)),⟨(An rfl j1.2.2.1),⟨(An j1.2.2.2.1 (An j1.2.2.2.2.1 rfl)),⟨(An rfl j1.2.2.2.2.2.1),⟨(An (by show R0.length=(List.length (List.set R0 t3.toNat [.int .i64 (cIS R0 (oZ t4_0 t5.toNat) 0)]));(first | rfl | simp [af] | (simp [af];omega))) (An rfl (by show R0.length=(List.length (List.set R0 t3.toNat [.int .i64 (cIS R0 (oZ t4_0 t5.toNat) 0)]));(first | rfl | simp [af] | (simp [af];omega))))),⟨(by show R0.length=(List.length (List.set R0 t3.toNat [.int .i64 (cIS R0 (oZ t4_0 t5.toNat) 0)]));(first | rfl | simp [af] | (simp [af];omega))),⟨((dU hp.1 rfl)),j1.2.2.2.2.2.2⟩⟩⟩⟩⟩⟩⟩,fun e1=>have j1:=j0.2.2.2.2.2.2.2 ((ah (op:=.neq) rfl e1));⟨(An rfl (An rfl rfl)),⟨rfl,⟨hp.1,j1⟩⟩⟩⟩⟩⟩⟩⟩,fun e0=>have j0:=h.2 ((ah (op:=.lss) rfl e0));⟨(An j0.1 (An j0.2.1 rfl)),⟨(An rfl (by show ((0 + t3.toNat) + (R0.length - t3.toNat))≤R0.length;(try simp only [af,Nat.zero_add,Int.toNat_natCast]);exact j0.2.2.1)),⟨(An j0.1 (An j0.2.1 (by show R0.length=(List.length (aP R0 (0 + t3.toNat) (List.replicate (R0.length - t3.toNat) [(AV.int .i64 0)])));(try simp only [af,Nat.zero_add,Int.toNat_natCast]);exact j0.2.2.2.1))),⟨(An (by show R0.length=(List.length (aP R0 (0 + t3.toNat) (List.replicate (R0.length - t3.toNat) [(AV.int .i64 0)])));(try simp only [af,Nat.zero_add,Int.toNat_natCast]);exact j0.2.2.2.1) rfl),⟨((fA hp.1 (Gy rfl))),(W.q (by show Q 0 [(aP R0 (0 + t3.toNat) (List.replicate (R0.length - t3.toNat) [(AV.int .i64 0)]))] [.n t3.toNat];(try simp only [af,Nat.zero_add,Int.toNat_natCast]);exact j0.2.2.2.2))⟩⟩⟩⟩⟩⟩⟩
theorem E175 {R0:RW} (h:aB R0=true→∀ EV,V175 EV Q→((R0.length:Int) < 2→Q 0 [R0] [.n R0.length])∧((R0.length:Int)≥2→EV 15 [R0] [.i 1])):EZ G175 [R0] [] Q:=by
 refine ak.en (I:=I175) (L:=L175) J5 fun A hA CE CK Dn EV RR W hp=>?_
 have h:=h hp.1 EV (V175.of W)
 cbv
 subst hA
 exact ⟨rfl,⟨fun e0=>have j0:=h.1 ((ah (op:=.lss) rfl e0));⟨(An rfl rfl),⟨hp.1,(W.q j0)⟩⟩,fun e0=>have j0:=h.2 ((ah (op:=.lss) rfl e0));⟨(An rfl (An rfl rfl)),⟨hp.1,j0⟩⟩⟩⟩
theorem E158 {a0:RW} (h:∀ EV,VN EV Q→EZ G174 [] [.r a0] (fun x rs vs=>(x=0∧∃ SV,rs=[SV]∧vs=[]∧(EZ G144 [SV] [] (fun x rs vs=>(x=0∧∃ Tc,rs=[Tc]∧vs=[]∧((SV.length=Tc.length)∧(EZ G175 [Tc] [] (fun x rs vs=>(x=0∧∃ Tf SY,rs=[Tf]∧vs=[.n SY]∧(Q 0 [Tf] [.n SY]))))))))))):EZ G158 [] [.r a0] Q:=by
 refine ak.en (I:=I158) (L:=L158) Ky fun A hA CE CK Dn EV RR W hp=>?_
 have h:=h  EV ⟨trivial⟩
 cbv
 refine W.cl h ?_
 rintro _ _ _ hp0 (⟨rfl,SV,rfl,rfl,k0⟩)
 cbv
 refine ⟨ndI hA (An rfl (An rfl rfl)),⟨ndI hA hp0.1,?_⟩⟩
 refine W.cl k0 ?_
 rintro _ _ _ hp1 (⟨rfl,Tc,rfl,rfl,k1⟩)
 cbv
 refine ⟨ndI hA (An (hA ▸ k1.1) (An rfl (hA ▸ k1.1))),⟨ndI hA hp1.1,?_⟩⟩
 refine W.cl k1.2 ?_
 rintro _ _ _ hp2 (⟨rfl,Tf,SY,rfl,rfl,k2⟩)
 cbv
 subst hA
 exact ⟨(An rfl rfl),⟨hp2.1,(W.q k2)⟩⟩
structure V129 (EV Q:EP):Prop where
  p17:∀ {R0 R1:RW} {t20:Nat} {t21 t22 b0 b1 b2 b3:Int},(aB R0=true→aB R1=true→(t22 < t21→(0≤t22)∧(t22 < (t20:Int))∧(R1[t22.toNat]?=some [.int .i64 (cIS R1 t22.toNat 0)])∧((cIS R1 t22.toNat 0)≥0→(b0≠0)∧(0≤(Int.tmod (cIS R1 t22.toNat 0) b0))∧((Int.tmod (cIS R1 t22.toNat 0) b0) < (R0.length:Int))∧(R0[(Int.toNat (Int.tmod (cIS R1 t22.toNat 0) b0))]?=some [.int .i64 (cIS R0 (Int.toNat (Int.tmod (cIS R1 t22.toNat 0) b0)) 0)])∧(EV 17 [(List.set R0 (Int.toNat (Int.tmod (cIS R1 t22.toNat 0) b0)) [.int .i64 (IntKind.wrap .i64 ((cIS R0 (Int.toNat (Int.tmod (cIS R1 t22.toNat 0) b0)) 0) + 1))]),R1] [.n t20,.i t21,.i (IntKind.wrap .i64 (t22 + 1)),.i b0,.i b1,.i b2,.i b3]))∧((cIS R1 t22.toNat 0) < 0→EV 17 [R0,R1] [.n t20,.i t21,.i (IntKind.wrap .i64 (t22 + 1)),.i b0,.i b1,.i b2,.i b3]))∧(t22≥t21→Q 0 [R0] []))→EV 17 [R0,R1] [.n t20,.i t21,.i t22,.i b0,.i b1,.i b2,.i b3]
theorem V129.of (W:Wk Tryz.prog Tryz.f129 I129 L129 Q A sg CE CK Dn EV RR):V129 EV Q:=by
 have hA:=W.hA
 refine ⟨?_⟩
 intro R0 R1 t20 t21 t22 b0 b1 b2 b3 h
 refine W.step 80 fun hp=>?_
 have h:=h hp.1 hp.2.1
 cbv
 subst hA
 exact ⟨fun e0=>have j0:=h.1 (ah (op:=.lss) rfl e0);⟨(An j0.1 (An j0.2.1 rfl)),⟨(An rfl j0.2.2.1),⟨fun e1=>have j1:=j0.2.2.2.1 ((ah (op:=.geq) rfl e1));⟨j1.1,⟨(An j1.2.1 (An j1.2.2.1 rfl)),⟨(An rfl j1.2.2.2.1),⟨(An j1.2.1 (An j1.2.2.1 rfl)),⟨(An rfl j1.2.2.2.1),⟨(An (by show R0.length=(List.length (List.set R0 (Int.toNat (Int.tmod (cIS R1 t22.toNat 0) b0)) [.int .i64 (IntKind.wrap .i64 ((cIS R0 (Int.toNat (Int.tmod (cIS R1 t22.toNat 0) b0)) 0) + 1))]));(first | rfl | simp [af] | (simp [af];omega))) (An rfl (by show R0.length=(List.length (List.set R0 (Int.toNat (Int.tmod (cIS R1 t22.toNat 0) b0)) [.int .i64 (IntKind.wrap .i64 ((cIS R0 (Int.toNat (Int.tmod (cIS R1 t22.toNat 0) b0)) 0) + 1))]));(first | rfl | simp [af] | (simp [af];omega))))),⟨(An rfl rfl),⟨((dU hp.1 rfl)),⟨hp.2.1,j1.2.2.2.2⟩⟩⟩⟩⟩⟩⟩⟩⟩,fun e1=>have j1:=j0.2.2.2.2 ((ah (op:=.geq) rfl e1));⟨(An rfl (An rfl rfl)),⟨(An rfl rfl),⟨hp.1,⟨hp.2.1,j1⟩⟩⟩⟩⟩⟩⟩,fun e0=>have j0:=h.2 (ah (op:=.lss) rfl e0);⟨(An rfl (An rfl rfl)),⟨hp.1,(W.q j0)⟩⟩⟩
theorem E129 {a0:RW} {v0 v1 v2 v3:Int} (h:∀ EV,V129 EV Q→(v0≥1→(v0 > 16→Q 0 [[]] [])∧(v0≤16→(0≤v0)∧(v0≤140737488355328)∧((v0 * ((8:Nat):Int))≤140737488355328)∧(EZ G158 [] [.r a0] (fun x rs vs=>(x=0∧∃ Tf SY,rs=[Tf]∧vs=[.n SY]∧(EV 17 [(List.replicate v0.toNat [(AV.int .i64 0)]),Tf] [.n SY,.i (SY:Int),.i 0,.i v0,.i v1,.i v2,.i v3]))))))∧(v0 < 1→Q 0 [[]] [])):EZ G129 [] [.r a0,.i v0,.i v1,.i v2,.i v3] Q:=by
 refine ak.en (I:=I129) (L:=L129) Ld fun A hA CE CK Dn EV RR W hp=>?_
 have h:=h  EV (V129.of W)
 cbv
 refine ⟨imI hA fun e0=>have j0:=h.1 (ah (op:=.lss) hA e0);⟨imI hA fun e1=>have j1:=j0.1 (ah (op:=.gtr) hA e1);⟨ndI hA (An (hA ▸ rfl) (An rfl (hA ▸ rfl))),⟨ndI hA aQ,(W.q j1)⟩⟩,imI hA fun e1=>have j1:=j0.2 (ah (op:=.gtr) hA e1);⟨ndI hA (An j1.1 (An (Int.le_refl _) (An j1.2.1 (hA ▸ j1.2.2.1)))),?_⟩⟩,imI hA fun e0=>have j0:=h.2 (ah (op:=.lss) hA e0);⟨ndI hA (An (hA ▸ rfl) (An rfl (hA ▸ rfl))),⟨ndI hA aQ,(W.q j0)⟩⟩⟩
 refine W.cl j1.2.2.2 ?_
 rintro _ _ _ hp2 (⟨rfl,Tf,SY,rfl,rfl,k2⟩)
 cbv
 subst hA
 exact ⟨rfl,⟨(An (by show v0.toNat=(List.length (List.replicate v0.toNat [(AV.int .i64 0)]));(first | rfl | simp [af] | (simp [af];omega))) (An rfl (by show v0.toNat=(List.length (List.replicate v0.toNat [(AV.int .i64 0)]));(first | rfl | simp [af] | (simp [af];omega))))),⟨(An rfl rfl),⟨((Gy rfl)),⟨hp2.1,k2⟩⟩⟩⟩⟩
structure V131 (EV Q:EP):Prop where
  p17:∀ {R0:RW} {t1:Int} {t13:RW} {t14 t15 b0 b1 b2 b3:Int} {b4:RW} {b5:Int} {b6 b7 b8 b9:RW},(aB R0=true→(t15 < t14→(0≤t15)∧(t13[t15.toNat]?=some (r7 t13 t15.toNat))∧(0≤t1)∧(b8[t1.toNat]?=some (r7 b8 t1.toNat))∧((cIS t13 t15.toNat 0) > (cIS b8 t1.toNat 1)→((R0.length + (List.length (List.take 1 (List.drop 0 [[(AV.int .i64 t15)]]))))≤140737488355328)∧(((R0.length + (List.length (List.take 1 (List.drop 0 [[(AV.int .i64 t15)]])))) * 8)≤140737488355328)∧(EV 17 [(R0++(List.take 1 (List.drop 0 [[(AV.int .i64 t15)]])))] (.i t1::.r t13::.i t14::.i (IntKind.wrap .i64 (t15 + 1))::cL b0 b1 b2 b3 b4 b5 b6 b7 b8 b9 [])))∧((cIS t13 t15.toNat 0)≤(cIS b8 t1.toNat 1)→EV 17 [R0] (.i t1::.r t13::.i t14::.i (IntKind.wrap .i64 (t15 + 1))::cL b0 b1 b2 b3 b4 b5 b6 b7 b8 b9 [])))∧(t15≥t14→Q 0 [R0] []))→EV 17 [R0] (.i t1::.r t13::.i t14::.i t15::cL b0 b1 b2 b3 b4 b5 b6 b7 b8 b9 [])
theorem V131.of (W:Wk Tryz.prog Tryz.f131 I131 L131 Q A sg CE CK Dn EV RR):V131 EV Q:=by
 have hA:=W.hA
 refine ⟨?_⟩
 intro R0 t1 t13 t14 t15 b0 b1 b2 b3 b4 b5 b6 b7 b8 b9 h
 refine W.step 80 fun hp=>?_
 have h:=h hp.1
 cbv
 subst hA
 exact ⟨fun e0=>have j0:=h.1 (ah (op:=.lss) rfl e0);⟨(An j0.1 j0.2.1),⟨(An j0.2.2.1 j0.2.2.2.1),⟨fun e1=>have j1:=j0.2.2.2.2.1 ((ah (op:=.gtr) rfl e1));⟨(An rfl (by show (0 + 1)≤1;(first | rfl | simp [af] | (simp [af];omega)))),⟨(An rfl (An (Nat.le_refl _) (An j1.1 j1.2.1))),⟨(An rfl (An rfl (by show (R0.length + (List.length (List.take 1 (List.drop 0 [[(AV.int .i64 t15)]]))))=(List.length (aP R0 R0.length (List.take 1 (List.drop 0 [[(AV.int .i64 t15)]]))));(first | rfl | simp [af] | (simp [af];omega))))),⟨((fA hp.1 (dw (dA aQ)))),(by show EV 17 [(aP R0 R0.length (List.take 1 (List.drop 0 [[(AV.int .i64 t15)]])))] (.i t1::.r t13::.i t14::.i (IntKind.wrap .i64 (t15 + 1))::cL b0 b1 b2 b3 b4 b5 b6 b7 b8 b9 []);(try simp only [af,Nat.zero_add,Int.toNat_natCast]);exact j1.2.2)⟩⟩⟩⟩,fun e1=>have j1:=j0.2.2.2.2.2 ((ah (op:=.gtr) rfl e1));⟨(An rfl (An rfl rfl)),⟨hp.1,j1⟩⟩⟩⟩⟩,fun e0=>have j0:=h.2 (ah (op:=.lss) rfl e0);⟨(An rfl (An rfl rfl)),⟨hp.1,(W.q j0)⟩⟩⟩
theorem E131 {u0 u1 u2 u3:Int} {u4:RW} {u5:Int} {u6 u7 u8 u9:RW} {a1:Int} (h:∀ EV,V131 EV Q→EZ G128 [] (cL u0 u1 u2 u3 u4 u5 u6 u7 u8 u9 [.i a1]) (fun x rs vs=>(x=0∧∃ SS,rs=[]∧vs=[.b SS]∧((SS=false→Q 0 [[]] [])∧(SS=true→EV 17 [[]] (.i a1::.r u8::.i (u8.length:Int)::.i 0::cL u0 u1 u2 u3 u4 u5 u6 u7 u8 u9 [])))))):EZ G131 [] (cL u0 u1 u2 u3 u4 u5 u6 u7 u8 u9 [.i a1]) Q:=by
 refine ak.en (I:=I131) (L:=L131) La fun A hA CE CK Dn EV RR W hp=>?_
 have h:=h  EV (V131.of W)
 cbv
 refine W.cl h ?_
 rintro _ _ _ hp0 (⟨rfl,SS,rfl,rfl,k0⟩)
 cbv
 subst hA
 exact ⟨fun e1=>have j1:=k0.1 ((notE rfl e1));⟨(An rfl (An rfl rfl)),⟨aQ,(W.q j1)⟩⟩,fun e1=>have j1:=k0.2 ((notE rfl e1));⟨(An rfl (An rfl rfl)),⟨aQ,j1⟩⟩⟩
structure V130 (EV Q:EP):Prop where
  p9:∀ {R0 R1:RW} {t16 t17 d0 d1 d2 d3:Int} {d4:RW} {d5:Int} {d6 d7 d8 d9:RW},(aB R0=true→aB R1=true→(t17 < t16→(0≤t17)∧(t17 < (R0.length:Int))∧(R0[t17.toNat]?=some [.int .i64 (cIS R0 t17.toNat 0)])∧(EZ G128 [] (cL d0 d1 d2 d3 d4 d5 d6 d7 d8 d9 [.i (cIS R0 t17.toNat 0)]) (fun x rs vs=>(x=0∧∃ SX,rs=[]∧vs=[.b SX]∧((SX=false→EV 9 [R0,R1] (.i t16::.i (IntKind.wrap .i64 (t17 + 1))::cL d0 d1 d2 d3 d4 d5 d6 d7 d8 d9 []))∧(SX=true→(0≤(cIS R0 t17.toNat 0))∧(d8[(Int.toNat (cIS R0 t17.toNat 0))]?=some (r7 d8 (Int.toNat (cIS R0 t17.toNat 0))))∧(EZ G129 [] [.r (cRS d8 (Int.toNat (cIS R0 t17.toNat 0)) 6),.i d0,.i d1,.i d2,.i d3] (fun x rs vs=>(x=0∧∃ TZ,rs=[TZ]∧vs=[]∧(EV 29 [R0,R1,TZ] (.i t16::.i t17::.i (TZ.length:Int)::.i 0::cL d0 d1 d2 d3 d4 d5 d6 d7 d8 d9 [])))))))))))∧(t17≥t16→Q 0 [R0,R1] []))→EV 9 [R0,R1] (.i t16::.i t17::cL d0 d1 d2 d3 d4 d5 d6 d7 d8 d9 [])
  p29:∀ {R0 R1 R2:RW} {t16 t17 t34 t35 d0 d1 d2 d3:Int} {d4:RW} {d5:Int} {d6 d7 d8 d9:RW},(aB R0=true→aB R1=true→aB R2=true→(t35 < t34→(0≤t35)∧(t35 < (R2.length:Int))∧(R2[t35.toNat]?=some [.int .i64 (cIS R2 t35.toNat 0)])∧(t35 < (R1.length:Int))∧(R1[t35.toNat]?=some [.bool (cBS R1 t35.toNat 0)])∧((cBS R1 t35.toNat 0)=false→(0≤t35)∧(t35 < (R1.length:Int))∧(R1[t35.toNat]?=some [.bool (cBS R1 t35.toNat 0)])∧(EV 29 [R0,(List.set R1 t35.toNat [.bool (decide ((cIS R2 t35.toNat 0) > 0))]),R2] (.i t16::.i t17::.i t34::.i (IntKind.wrap .i64 (t35 + 1))::cL d0 d1 d2 d3 d4 d5 d6 d7 d8 d9 [])))∧((cBS R1 t35.toNat 0)=true→(0≤t35)∧(t35 < (R1.length:Int))∧(R1[t35.toNat]?=some [.bool (cBS R1 t35.toNat 0)])∧(EV 29 [R0,(List.set R1 t35.toNat [.bool true]),R2] (.i t16::.i t17::.i t34::.i (IntKind.wrap .i64 (t35 + 1))::cL d0 d1 d2 d3 d4 d5 d6 d7 d8 d9 []))))∧(t35≥t34→EV 9 [R0,R1] (.i t16::.i (IntKind.wrap .i64 (t17 + 1))::cL d0 d1 d2 d3 d4 d5 d6 d7 d8 d9 [])))→EV 29 [R0,R1,R2] (.i t16::.i t17::.i t34::.i t35::cL d0 d1 d2 d3 d4 d5 d6 d7 d8 d9 [])
theorem V130.of (W:Wk Tryz.prog Tryz.f130 I130 L130 Q A sg CE CK Dn EV RR):V130 EV Q:=by
 have hA:=W.hA
 refine ⟨?_,?_⟩
 ·intro R0 R1 t16 t17 d0 d1 d2 d3 d4 d5 d6 d7 d8 d9 h
  refine W.step 80 fun hp=>?_
  have h:=h hp.1 hp.2.1
  cbv
  refine ⟨imI hA fun e0=>have j0:=h.1 (ah (op:=.lss) hA e0);⟨ndI hA (An j0.1 (An (hA ▸ j0.2.1) rfl)),⟨ndI hA (An rfl (hA ▸ j0.2.2.1)),?_⟩⟩,imI hA fun e0=>have j0:=h.2 (ah (op:=.lss) hA e0);⟨ndI hA (An rfl (An rfl rfl)),⟨ndI hA hp.1,⟨ndI hA hp.2.1,(W.q j0)⟩⟩⟩⟩
  refine W.cl j0.2.2.2 ?_
  rintro _ _ _ hp1 (⟨rfl,SX,rfl,rfl,k1⟩)
  cbv
  refine ⟨imI hA fun e2=>have j2:=k1.1 (by subst hA;exact (notE rfl e2));⟨ndI hA (An rfl (An rfl rfl)),⟨ndI hA (An rfl (An rfl rfl)),⟨ndI hA hp.1,⟨ndI hA hp.2.1,(hA ▸ j2)⟩⟩⟩⟩,imI hA fun e2=>have j2:=k1.2 (by subst hA;exact (notE rfl e2));⟨ndI hA (An (hA ▸ j2.1) (hA ▸ j2.2.1)),⟨?_,trivial⟩⟩⟩
  refine W.cd j2.2.2 ?_
  rintro _ _ _ hp3 (⟨rfl,TZ,rfl,rfl,k3⟩)
  cbv
  refine W.draw 80 (by rfl) ?_
  cbv
  subst hA
  exact ⟨⟨rfl,⟨(An rfl (An rfl rfl)),⟨(An rfl (An rfl rfl)),⟨(An rfl (An rfl rfl)),⟨hp.1,⟨hp.2.1,⟨hp3.1,k3⟩⟩⟩⟩⟩⟩⟩,trivial⟩
 ·intro R0 R1 R2 t16 t17 t34 t35 d0 d1 d2 d3 d4 d5 d6 d7 d8 d9 h
  refine W.step 80 fun hp=>?_
  have h:=h hp.1 hp.2.1 hp.2.2.1
  cbv
  subst hA
  exact ⟨fun e0=>have j0:=h.1 (ah (op:=.lss) rfl e0);⟨(An j0.1 (An j0.2.1 rfl)),⟨(An rfl j0.2.2.1),⟨(An j0.1 (An j0.2.2.2.1 rfl)),⟨(An rfl j0.2.2.2.2.1),⟨fun e1=>have j1:=j0.2.2.2.2.2.1 e1;⟨(An j1.1 (An j1.2.1 rfl)),⟨(An rfl j1.2.2.1),⟨(An (by show R1.length=(List.length (List.set R1 t35.toNat [.bool (decide ((cIS R2 t35.toNat 0) > 0))]));(first | rfl | simp [af] | (simp [af];omega))) (An rfl (by show R1.length=(List.length (List.set R1 t35.toNat [.bool (decide ((cIS R2 t35.toNat 0) > 0))]));(first | rfl | simp [af] | (simp [af];omega))))),⟨(An rfl (An rfl rfl)),⟨(An rfl (An rfl rfl)),⟨hp.1,⟨((dU hp.2.1 rfl)),⟨hp.2.2.1,j1.2.2.2⟩⟩⟩⟩⟩⟩⟩⟩,fun e1=>have j1:=j0.2.2.2.2.2.2 e1;⟨(An j1.1 (An j1.2.1 rfl)),⟨(An rfl j1.2.2.1),⟨(An (by show R1.length=(List.length (List.set R1 t35.toNat [.bool true]));(first | rfl | simp [af] | (simp [af];omega))) (An rfl (by show R1.length=(List.length (List.set R1 t35.toNat [.bool true]));(first | rfl | simp [af] | (simp [af];omega))))),⟨(An rfl (An rfl rfl)),⟨(An rfl (An rfl rfl)),⟨hp.1,⟨((dU hp.2.1 rfl)),⟨hp.2.2.1,j1.2.2.2⟩⟩⟩⟩⟩⟩⟩⟩⟩⟩⟩⟩⟩,fun e0=>have j0:=h.2 (ah (op:=.lss) rfl e0);⟨(An rfl (An rfl rfl)),⟨(An rfl (An rfl rfl)),⟨hp.1,⟨hp.2.1,j0⟩⟩⟩⟩⟩
theorem E130 {R0:RW} {u0 u1 u2 u3:Int} {u4:RW} {u5:Int} {u6 u7 u8 u9:RW} (h:aB R0=true→∀ EV,V130 EV Q→EZ G129 [] [.r [],.i u0,.i u1,.i u2,.i u3] (fun x rs vs=>(x=0∧∃ SV,rs=[SV]∧vs=[]∧(((SV.length:Int)≤140737488355328)∧(((SV.length:Int) * ((1:Nat):Int))≤140737488355328)∧(EV 9 [R0,(List.replicate SV.length [(AV.bool false)])] (.i (R0.length:Int)::.i 0::cL u0 u1 u2 u3 u4 u5 u6 u7 u8 u9 [])))))):EZ G130 [R0] (cL u0 u1 u2 u3 u4 u5 u6 u7 u8 u9 []) Q:=by
 refine ak.en (I:=I130) (L:=L130) Lc fun A hA CE CK Dn EV RR W hp=>?_
 have h:=h hp.1 EV (V130.of W)
 cbv
 refine W.cl h ?_
 rintro _ _ _ hp0 (⟨rfl,SV,rfl,rfl,k0⟩)
 cbv
 subst hA
 exact ⟨rfl,⟨(An ((Int.natCast_nonneg _)) (An ((Int.le_refl _)) (An k0.1 k0.2.1))),⟨rfl,⟨(An (by show SV.length=(List.length (List.replicate SV.length [(AV.bool false)]));(first | rfl | simp [af] | (simp [af];omega))) (An rfl (by show SV.length=(List.length (List.replicate SV.length [(AV.bool false)]));(first | rfl | simp [af] | (simp [af];omega))))),⟨(An rfl (An rfl rfl)),⟨hp.1,⟨((Gy rfl)),k0.2.2⟩⟩⟩⟩⟩⟩⟩
structure V94 (EV Q:EP):Prop where
  p17:∀ {R0 R1:RW} {t5 t27 t28 b0 b1 b2 b3:Int} {b4:RW} {b5:Int} {b6 b7 b8 b9:RW},(aB R0=true→aB R1=true→EV 19 [R0,R1] (.i t5::.i t27::.i t28::cL b0 b1 b2 b3 b4 b5 b6 b7 b8 b9 []))→EV 17 [R0,R1] (.i t5::.i t27::.i t28::cL b0 b1 b2 b3 b4 b5 b6 b7 b8 b9 [])
  p19:∀ {R0 R1:RW} {t5 t27 t28 b0 b1 b2 b3:Int} {b4:RW} {b5:Int} {b6 b7 b8 b9:RW},(aB R0=true→aB R1=true→(t28 < t27→(0≤t28)∧(t28 < (R1.length:Int))∧(R1[t28.toNat]?=some [.bool (cBS R1 t28.toNat 0)])∧((cBS R1 t28.toNat 0)=true→(0≤t28)∧(t28 < (R0.length:Int))∧(R0[t28.toNat]?=some [.int .i64 (cIS R0 t28.toNat 0)])∧(EV 19 [R0,R1] (.i (IntKind.wrap .i64 (t5 + (arS.mn (cIS R0 t28.toNat 0) b1)))::.i t27::.i (IntKind.wrap .i64 (t28 + 1))::cL b0 b1 b2 b3 b4 b5 b6 b7 b8 b9 [])))∧((cBS R1 t28.toNat 0)=false→EV 19 [R0,R1] (.i t5::.i t27::.i (IntKind.wrap .i64 (t28 + 1))::cL b0 b1 b2 b3 b4 b5 b6 b7 b8 b9 [])))∧(t28≥t27→Q 0 [] [.i t5]))→EV 19 [R0,R1] (.i t5::.i t27::.i t28::cL b0 b1 b2 b3 b4 b5 b6 b7 b8 b9 [])
theorem V94.of (W:Wk Tryz.prog Tryz.f94 I94 L94 Q A sg CE CK Dn EV RR):V94 EV Q:=by
 have hA:=W.hA
 refine ⟨?_,?_⟩
 ·intro R0 R1 t5 t27 t28 b0 b1 b2 b3 b4 b5 b6 b7 b8 b9 h
  refine W.step 80 fun hp=>?_
  have h:=h hp.1 hp.2.1
  cbv
  subst hA
  exact ⟨(An rfl (An rfl rfl)),⟨(An rfl (An rfl rfl)),⟨hp.1,⟨hp.2.1,h⟩⟩⟩⟩
 ·intro R0 R1 t5 t27 t28 b0 b1 b2 b3 b4 b5 b6 b7 b8 b9 h
  refine W.step 80 fun hp=>?_
  have h:=h hp.1 hp.2.1
  cbv
  subst hA
  exact ⟨fun e0=>have j0:=h.1 (ah (op:=.lss) rfl e0);⟨(An j0.1 (An j0.2.1 rfl)),⟨(An rfl j0.2.2.1),⟨fun e1=>have j1:=j0.2.2.2.1 e1;⟨(An j1.1 (An j1.2.1 rfl)),⟨(An rfl j1.2.2.1),⟨(An rfl (An rfl rfl)),⟨(An rfl (An rfl rfl)),⟨hp.1,⟨hp.2.1,j1.2.2.2⟩⟩⟩⟩⟩⟩,fun e1=>have j1:=j0.2.2.2.2 e1;⟨(An rfl (An rfl rfl)),⟨(An rfl (An rfl rfl)),⟨hp.1,⟨hp.2.1,j1⟩⟩⟩⟩⟩⟩⟩,fun e0=>have j0:=h.2 (ah (op:=.lss) rfl e0);(W.q j0)⟩
theorem E94 {u0 u1 u2 u3:Int} {u4:RW} {u5:Int} {u6 u7 u8 u9:RW} {a1:Int} (h:∀ EV,V94 EV Q→EZ G128 [] (cL u0 u1 u2 u3 u4 u5 u6 u7 u8 u9 [.i a1]) (fun x rs vs=>(x=0∧∃ SS,rs=[]∧vs=[.b SS]∧((SS=false→Q 0 [] [.i 0])∧(SS=true→(0≤a1)∧(u8[a1.toNat]?=some (r7 u8 a1.toNat))∧(EZ G129 [] [.r (cRS u8 a1.toNat 6),.i u0,.i u1,.i u2,.i u3] (fun x rs vs=>(x=0∧∃ Tf,rs=[Tf]∧vs=[]∧(EZ G131 [] (cL u0 u1 u2 u3 u4 u5 u6 u7 u8 u9 [.i a1]) (fun x rs vs=>(x=0∧∃ TZ,rs=[TZ]∧vs=[]∧(EZ G130 [TZ] (cL u0 u1 u2 u3 u4 u5 u6 u7 u8 u9 []) (fun x rs vs=>(x=0∧∃ Ve Y4_1,rs=[Ve,Y4_1]∧vs=[]∧(EV 17 [Tf,Y4_1] (.i 0::.i (Y4_1.length:Int)::.i 0::cL u0 u1 u2 u3 u4 u5 u6 u7 u8 u9 [])))))))))))))))):EZ G94 [] (cL u0 u1 u2 u3 u4 u5 u6 u7 u8 u9 [.i a1]) Q:=by
 refine ak.en (I:=I94) (L:=L94) Qn fun A hA CE CK Dn EV RR W hp=>?_
 have h:=h  EV (V94.of W)
 cbv
 refine W.cl h ?_
 rintro _ _ _ hp0 (⟨rfl,SS,rfl,rfl,k0⟩)
 cbv
 refine ⟨imI hA fun e1=>have j1:=k0.1 (by subst hA;exact (notE rfl e1));(W.q j1),imI hA fun e1=>have j1:=k0.2 (by subst hA;exact (notE rfl e1));⟨ndI hA (An j1.1 (hA ▸ j1.2.1)),⟨?_,trivial⟩⟩⟩
 refine W.cd j1.2.2 ?_
 rintro _ _ _ hp2 (⟨rfl,Tf,rfl,rfl,k2⟩)
 cbv
 refine W.draw 80 (by rfl) ?_
 cbv
 refine ⟨?_,trivial⟩
 refine W.cd k2 ?_
 rintro _ _ _ hp3 (⟨rfl,TZ,rfl,rfl,k3⟩)
 cbv
 refine W.draw 80 (by rfl) ?_
 cbv
 refine ⟨⟨ndI hA (An rfl (An rfl rfl)),⟨ndI hA hp3.1,?_⟩⟩,trivial⟩
 refine W.cd k3 ?_
 rintro _ _ _ hp4 (⟨rfl,Ve,Y4_1,rfl,rfl,k4⟩)
 cbv
 refine W.draw 80 (by rfl) ?_
 cbv
 subst hA
 exact ⟨⟨rfl,⟨(An rfl (An rfl rfl)),⟨(An rfl (An rfl rfl)),⟨hp2.1,⟨hp4.2.1,k4⟩⟩⟩⟩⟩,trivial⟩
end Go.Ab
