import Derived.Test.YtlakbkdhdgicfaaGreatQS
import Derived.Test.YtlakbkdhdgicfaaGreatLayE
/- PRINTED BY A PROGRAM (wip/tools/vc.py, AbVc.lean): what is to be shown of each function, from place to place, and that it is enough. -/
namespace Go.Ab
open Go Go.Proofs
set_option linter.unusedVariables false
set_option linter.unusedSimpArgs false
set_option maxRecDepth 100000
set_option maxHeartbeats 0
variable {Q EV RR:EP} {A:Ar} {CE:Nat→Rs→List Lf→EP→Prop} {CK:Nat→Rs→List Lf→Cont→Prop} {Dn:Nat→List Bool→List bf→Nat→List Bool→List AV→List aj→Prop}
theorem E116 {a0 ab0 ab1:Int} (h:∀ EV,VN EV Q→(a0≥ab0→Q 0 [] [.b (decide (a0 > ab1)),.i ab0,.i ab1])∧(a0 < ab0→Q 0 [] [.b true,.i ab0,.i ab1])):EZ G116 [] [.i a0,.i ab0,.i ab1] Q:=by
 refine ak.en (I:=I116) (L:=L116) LD fun A hA CE CK Dn EV RR W hp=>?_
 have h:=h  EV ⟨trivial⟩
 cbv
 subst hA
 exact ⟨fun e0=>have j0:=h.1 (ah (op:=.lss) rfl e0);(W.q j0),fun e0=>have j0:=h.2 (ah (op:=.lss) rfl e0);(W.q j0)⟩
structure V146 (EV Q:EP):Prop where
  p7:∀ {t0:RW} {t7 t8 tb0 tb1:Int},((t8 < t7→(0≤t8)∧(t0[t8.toNat]?=some [.int .i64 (cIS t0 t8.toNat 0)])∧(EZ G116 [] [.i (cIS t0 t8.toNat 0),.i tb0,.i tb1] (fun x rs vs=>(x=0∧∃ SX Vr Uy,rs=[]∧vs=[.b SX,.i Vr,.i Uy]∧((SX=true→Q 0 [] [.i t8,.i Vr,.i Uy])∧(SX=false→EV 7 [] [.r t0,.i t7,.i (IntKind.wrap .i64 (t8 + 1)),.i Vr,.i Uy]))))))∧(t8≥t7→Q 0 [] [.i (-1),.i tb0,.i tb1]))→EV 7 [] [.r t0,.i t7,.i t8,.i tb0,.i tb1]
theorem V146.of (W:Wk Tryz.prog Tryz.f146 I146 L146 Q A sg CE CK Dn EV RR):V146 EV Q:=by
 have hA:=W.hA
 refine ⟨?_⟩
 intro t0 t7 t8 tb0 tb1 h
 refine W.step 80 fun hp=>?_
 cbv
 refine ⟨imI hA fun e0=>have j0:=h.1 (ah (op:=.lss) hA e0);⟨ndI hA (An j0.1 (hA ▸ j0.2.1)),?_⟩,imI hA fun e0=>have j0:=h.2 (ah (op:=.lss) hA e0);(W.q j0)⟩
 refine W.cl j0.2.2 ?_
 rintro _ _ _ hp1 (⟨rfl,SX,Vr,Uy,rfl,rfl,k1⟩)
 cbv
 subst hA
 exact ⟨fun e2=>have j2:=k1.1 e2;(W.q j2),fun e2=>have j2:=k1.2 e2;j2⟩
theorem E146 {a0:RW} {ab0 ab1:Int} (h:∀ EV,V146 EV Q→EV 7 [] [.r a0,.i (a0.length:Int),.i 0,.i ab0,.i ab1]):EZ G146 [] [.r a0,.i ab0,.i ab1] Q:=by
 refine ak.en (I:=I146) (L:=L146) KL fun A hA CE CK Dn EV RR W hp=>?_
 have h:=h  EV (V146.of W)
 cbv
 subst hA
 exact h
theorem E115 {a0:RW} {ab0 ab1:Int} (h:∀ EV,VN EV Q→EZ G146 [] [.r a0,.i ab0,.i ab1] (fun x rs vs=>(x=0∧∃ SS VG VF,rs=[]∧vs=[.i SS,.i VG,.i VF]∧(Q 0 [] [.b (decide (SS≥0)),.i VG,.i VF])))):EZ G115 [] [.r a0,.i ab0,.i ab1] Q:=by
 refine ak.en (I:=I115) (L:=L115) LG fun A hA CE CK Dn EV RR W hp=>?_
 have h:=h  EV ⟨trivial⟩
 cbv
 refine W.cl h ?_
 rintro _ _ _ hp0 (⟨rfl,SS,VG,VF,rfl,rfl,k0⟩)
 cbv
 subst hA
 exact (W.q k0)
theorem E90 {a0 a1:Int} {a2:RW} (h:∀ EV,VN EV Q→EZ G115 [] [.r a2,.i a0,.i a1] (fun x rs vs=>(x=0∧∃ SS VG VF,rs=[]∧vs=[.b SS,.i VG,.i VF]∧(Q 0 [] [.b (!SS)])))):EZ G90 [] [.i a0,.i a1,.r a2] Q:=by
 refine ak.en (I:=I90) (L:=L90) Qr fun A hA CE CK Dn EV RR W hp=>?_
 have h:=h  EV ⟨trivial⟩
 cbv
 refine W.cl h ?_
 rintro _ _ _ hp0 (⟨rfl,SS,VG,VF,rfl,rfl,k0⟩)
 cbv
 subst hA
 exact (W.q k0)
theorem E89 {u0 u1 u2 u3:Int} (h:∀ EV,VN EV Q→EZ G90 [] [.i 1,.i 16,.r (List.take 1 (List.drop 0 [[(AV.int .i64 u0)]]))] (fun x rs vs=>(x=0∧∃ SS,rs=[]∧vs=[.b SS]∧((SS=true→EZ G90 [] [.i 1,.i 4,.r (List.take 1 (List.drop 0 [[(AV.int .i64 u1)]]))] (fun x rs vs=>(x=0∧∃ SY,rs=[]∧vs=[.b SY]∧((SY=true→EZ G90 [] [.i 1,.i 100,.r (List.take 1 (List.drop 0 [[(AV.int .i64 u2)]]))] (fun x rs vs=>(x=0∧∃ Td,rs=[]∧vs=[.b Td]∧((Td=true→EZ G90 [] [.i u2,.i 100,.r (List.take 1 (List.drop 0 [[(AV.int .i64 u3)]]))] (fun x rs vs=>(x=0∧∃ TY,rs=[]∧vs=[.b TY]∧(Q 0 [] [.b TY]))))∧(Td=false→Q 0 [] [.b false])))))∧(SY=false→Q 0 [] [.b false])))))∧(SS=false→Q 0 [] [.b false]))))):EZ G89 [] [.i u0,.i u1,.i u2,.i u3] Q:=by
 refine ak.en (I:=I89) (L:=L89) Qs fun A hA CE CK Dn EV RR W hp=>?_
 have h:=h  EV ⟨trivial⟩
 cbv
 refine ⟨ndI hA (An (An aQ trivial) (An (hA ▸ rfl) trivial)),?_⟩
 refine W.cl h ?_
 rintro _ _ _ hp0 (⟨rfl,SS,rfl,rfl,k0⟩)
 cbv
 refine ⟨imI hA fun e1=>have j1:=k0.1 e1;⟨ndI hA (An (An aQ trivial) (An (hA ▸ rfl) trivial)),?_⟩,imI hA fun e1=>have j1:=k0.2 e1;(W.q j1)⟩
 refine W.cl j1 ?_
 rintro _ _ _ hp2 (⟨rfl,SY,rfl,rfl,k2⟩)
 cbv
 refine ⟨imI hA fun e3=>have j3:=k2.1 e3;⟨ndI hA (An (An aQ trivial) (An (hA ▸ rfl) trivial)),?_⟩,imI hA fun e3=>have j3:=k2.2 e3;(W.q j3)⟩
 refine W.cl j3 ?_
 rintro _ _ _ hp4 (⟨rfl,Td,rfl,rfl,k4⟩)
 cbv
 refine ⟨imI hA fun e5=>have j5:=k4.1 e5;⟨ndI hA (An (An aQ trivial) (An (hA ▸ rfl) trivial)),?_⟩,imI hA fun e5=>have j5:=k4.2 e5;(W.q j5)⟩
 refine W.cl j5 ?_
 rintro _ _ _ hp6 (⟨rfl,TY,rfl,rfl,k6⟩)
 cbv
 subst hA
 exact (W.q k6)
theorem E118 {u0 u1 u2 u3:Int} {u4:RW} {u5:Int} {u6 u7 u8 u9:RW} (h:∀ EV,VN EV Q→Q 0 [] [.i (u4.length:Int),.i u5,.i (u6.length:Int),.i (u7.length:Int)]):EZ G118 [] (cL u0 u1 u2 u3 u4 u5 u6 u7 u8 u9 []) Q:=by
 refine ak.en (I:=I118) (L:=L118) Lu fun A hA CE CK Dn EV RR W hp=>?_
 have h:=h  EV ⟨trivial⟩
 cbv
 subst hA
 exact (W.q h)
theorem E189  (h:∀ EV,VN EV Q→Q 0 [] [.r [[(AV.str (ByteArray.mk (Array.mk []))),(AV.int .i64 (-1))],[(AV.str (ByteArray.mk (Array.mk [99,111,109,112,117,116,101]))),(AV.int .i64 1)],[(AV.str (ByteArray.mk (Array.mk [97,99,99,101,115,115]))),(AV.int .i64 1)],[(AV.str (ByteArray.mk (Array.mk [101,110,116,101,114]))),(AV.int .i64 0)],[(AV.str (ByteArray.mk (Array.mk [101,120,105,116]))),(AV.int .i64 0)],[(AV.str (ByteArray.mk (Array.mk [108,111,99,107]))),(AV.int .i64 1)],[(AV.str (ByteArray.mk (Array.mk [117,110,108,111,99,107]))),(AV.int .i64 1)],[(AV.str (ByteArray.mk (Array.mk [112,117,115,104]))),(AV.int .i64 1)],[(AV.str (ByteArray.mk (Array.mk [112,111,112]))),(AV.int .i64 1)],[(AV.str (ByteArray.mk (Array.mk [115,101,110,100]))),(AV.int .i64 2)],[(AV.str (ByteArray.mk (Array.mk [114,101,99,118]))),(AV.int .i64 1)],[(AV.str (ByteArray.mk (Array.mk [115,101,116]))),(AV.int .i64 2)],[(AV.str (ByteArray.mk (Array.mk [99,108,101,97,114]))),(AV.int .i64 2)],[(AV.str (ByteArray.mk (Array.mk [116,101,115,116]))),(AV.int .i64 2)],[(AV.str (ByteArray.mk (Array.mk [103,105,118,101]))),(AV.int .i64 1)],[(AV.str (ByteArray.mk (Array.mk [116,97,107,101]))),(AV.int .i64 1)]]]):EZ G189 [] [] Q:=by
 refine ak.en (I:=I189) (L:=L189) J3 fun A hA CE CK Dn EV RR W hp=>?_
 have h:=h  EV ⟨trivial⟩
 cbv
 subst hA
 exact (W.q h)
theorem E167 {a0:Int} (h:∀ EV,VN EV Q→EZ G189 [] [] (fun x rs vs=>(x=0∧∃ SS,rs=[]∧vs=[.r SS]∧((a0≥0→(a0≥(SS.length:Int)→Q 0 [] [.i (-1)])∧(a0 < (SS.length:Int)→(0≤a0)∧(SS[a0.toNat]?=some [.str (cSS SS a0.toNat 0),.int .i64 (cIS SS a0.toNat 1)])∧(Q 0 [] [.i (cIS SS a0.toNat 1)])))∧(a0 < 0→Q 0 [] [.i (-1)]))))):EZ G167 [] [.i a0] Q:=by
 refine ak.en (I:=I167) (L:=L167) Kq fun A hA CE CK Dn EV RR W hp=>?_
 have h:=h  EV ⟨trivial⟩
 cbv
 refine W.cl h ?_
 rintro _ _ _ hp0 (⟨rfl,SS,rfl,rfl,k0⟩)
 cbv
 subst hA
 exact ⟨fun e1=>have j1:=k0.1 (ah (op:=.lss) rfl e1);⟨fun e2=>have j2:=j1.1 ((ah (op:=.geq) rfl e2));(W.q j2),fun e2=>have j2:=j1.2 ((ah (op:=.geq) rfl e2));⟨(An j2.1 j2.2.1),(W.q j2.2.2)⟩⟩,fun e1=>have j1:=k0.2 (ah (op:=.lss) rfl e1);(W.q j1)⟩
theorem E190 {a0:Int} (h:∀ EV,VN EV Q→Q 0 [] [.i 0,.i (IntKind.wrap .i64 (a0 - 1))]):EZ G190 [] [.i a0] Q:=by
 refine ak.en (I:=I190) (L:=L190) JZ fun A hA CE CK Dn EV RR W hp=>?_
 have h:=h  EV ⟨trivial⟩
 cbv
 subst hA
 exact (W.q h)
structure V168 (EV Q:EP):Prop where
  p24:∀ {t9:Int} {t16:Bool} {b0 b1 b2 b3 d0 d1 f0 f1 g0 g1:Int},((t16=true→EZ G190 [] [.i b3] (fun x rs vs=>(x=0∧∃ y1a0 y1a1,rs=[]∧vs=[.i y1a0,.i y1a1]∧(Q 0 [] [.i y1a0,.i y1a1,.i f0,.i f1]))))∧(t16=false→(t9=7→EV 32 [] [.i t9,.b true,.i b0,.i b1,.i b2,.i b3,.i d0,.i d1,.i f0,.i f1,.i g0,.i g1])∧(t9≠7→EV 32 [] [.i t9,.b (t9 == 8),.i b0,.i b1,.i b2,.i b3,.i d0,.i d1,.i f0,.i f1,.i g0,.i g1])))→EV 24 [] [.i t9,.b t16,.i b0,.i b1,.i b2,.i b3,.i d0,.i d1,.i f0,.i f1,.i g0,.i g1]
  p32:∀ {t9:Int} {t23:Bool} {b0 b1 b2 b3 d0 d1 f0 f1 g0 g1:Int},((t23=true→Q 0 [] [.i 1,.i 4096,.i f0,.i f1])∧(t23=false→(t9=9→EZ G190 [] [.i b0] (fun x rs vs=>(x=0∧∃ y2a0 y2a1,rs=[]∧vs=[.i y2a0,.i y2a1]∧(Q 0 [] [.i y2a0,.i y2a1,.i g0,.i g1]))))∧(t9≠9→(t9=10→EZ G190 [] [.i b0] (fun x rs vs=>(x=0∧∃ y3a0 y3a1,rs=[]∧vs=[.i y3a0,.i y3a1]∧(Q 0 [] [.i y3a0,.i y3a1,.i f0,.i f1]))))∧(t9≠10→(t9=11→EV 52 [] [.i t9,.b true,.i b0,.i b1,.i b2,.i b3,.i d0,.i d1,.i f0,.i f1,.i g0,.i g1])∧(t9≠11→(t9=12→EV 52 [] [.i t9,.b true,.i b0,.i b1,.i b2,.i b3,.i d0,.i d1,.i f0,.i f1,.i g0,.i g1])∧(t9≠12→EV 52 [] [.i t9,.b (t9 == 13),.i b0,.i b1,.i b2,.i b3,.i d0,.i d1,.i f0,.i f1,.i g0,.i g1]))))))→EV 32 [] [.i t9,.b t23,.i b0,.i b1,.i b2,.i b3,.i d0,.i d1,.i f0,.i f1,.i g0,.i g1]
  p52:∀ {t9:Int} {t40:Bool} {b0 b1 b2 b3 d0 d1 f0 f1 g0 g1:Int},((t40=true→EZ G190 [] [.i b1] (fun x rs vs=>(x=0∧∃ y1a0 y1a1,rs=[]∧vs=[.i y1a0,.i y1a1]∧(Q 0 [] [.i y1a0,.i y1a1,.i g0,.i g1]))))∧(t40=false→(t9=14→EV 60 [] [.b true,.i b0,.i b1,.i b2,.i b3,.i d0,.i d1,.i f0,.i f1])∧(t9≠14→EV 60 [] [.b (t9 == 15),.i b0,.i b1,.i b2,.i b3,.i d0,.i d1,.i f0,.i f1])))→EV 52 [] [.i t9,.b t40,.i b0,.i b1,.i b2,.i b3,.i d0,.i d1,.i f0,.i f1,.i g0,.i g1]
  p60:∀ {t49:Bool} {b0 b1 b2 b3 d0 d1 f0 f1:Int},((t49=true→EZ G190 [] [.i b2] (fun x rs vs=>(x=0∧∃ y1a0 y1a1,rs=[]∧vs=[.i y1a0,.i y1a1]∧(Q 0 [] [.i y1a0,.i y1a1,.i f0,.i f1]))))∧(t49=false→Q 0 [] [.i d0,.i d1,.i f0,.i f1]))→EV 60 [] [.b t49,.i b0,.i b1,.i b2,.i b3,.i d0,.i d1,.i f0,.i f1]
theorem V168.of (W:Wk Tryz.prog Tryz.f168 I168 L168 Q A sg CE CK Dn EV RR):V168 EV Q:=by
 have hA:=W.hA
 refine ⟨?_,?_,?_,?_⟩
 ·intro t9 t16 b0 b1 b2 b3 d0 d1 f0 f1 g0 g1 h
  refine W.step 80 fun hp=>?_
  cbv
  refine ⟨imI hA fun e0=>have j0:=h.1 e0;?_,imI hA fun e0=>have j0:=h.2 e0;⟨imI hA fun e1=>have j1:=j0.1 (ah (op:=.eql) hA e1);j1,imI hA fun e1=>have j1:=j0.2 (ah (op:=.eql) hA e1);(hA ▸ j1)⟩⟩
  refine W.cl j0 ?_
  rintro _ _ _ hp1 (⟨rfl,y1a0,y1a1,rfl,rfl,k1⟩)
  cbv
  subst hA
  exact ⟨⟨⟨⟨(W.q k1),trivial⟩,trivial⟩,⟨⟨⟨(W.q k1),trivial⟩,trivial⟩,trivial⟩⟩,⟨⟨⟨⟨(W.q k1),trivial⟩,trivial⟩,trivial⟩,trivial⟩⟩
 ·intro t9 t23 b0 b1 b2 b3 d0 d1 f0 f1 g0 g1 h
  refine W.step 80 fun hp=>?_
  cbv
  refine ⟨imI hA fun e0=>have j0:=h.1 e0;⟨⟨⟨⟨(W.q j0),trivial⟩,trivial⟩,⟨⟨⟨(W.q j0),trivial⟩,trivial⟩,trivial⟩⟩,⟨⟨⟨⟨(W.q j0),trivial⟩,trivial⟩,trivial⟩,trivial⟩⟩,imI hA fun e0=>have j0:=h.2 e0;⟨imI hA fun e1=>have j1:=j0.1 (ah (op:=.eql) hA e1);⟨?_,trivial⟩,imI hA fun e1=>have j1:=j0.2 (ah (op:=.eql) hA e1);⟨imI hA fun e2=>have j2:=j1.1 (ah (op:=.eql) hA e2);?_,imI hA fun e2=>have j2:=j1.2 (ah (op:=.eql) hA e2);⟨imI hA fun e3=>have j3:=j2.1 (ah (op:=.eql) hA e3);j3,imI hA fun e3=>have j3:=j2.2 (ah (op:=.eql) hA e3);⟨imI hA fun e4=>have j4:=j3.1 (ah (op:=.eql) hA e4);j4,imI hA fun e4=>have j4:=j3.2 (ah (op:=.eql) hA e4);(hA ▸ j4)⟩⟩⟩⟩⟩
  ·refine W.cd j1 ?_
   rintro _ _ _ hp2 (⟨rfl,y2a0,y2a1,rfl,rfl,k2⟩)
   cbv
   refine W.draw 80 (by rfl) ?_
   cbv
   subst hA
   exact ⟨⟨⟨⟨⟨⟨(W.q k2),trivial⟩,trivial⟩,⟨⟨⟨(W.q k2),trivial⟩,trivial⟩,trivial⟩⟩,⟨⟨⟨⟨(W.q k2),trivial⟩,trivial⟩,trivial⟩,trivial⟩⟩,trivial⟩,trivial⟩
  ·refine W.cl j2 ?_
   rintro _ _ _ hp3 (⟨rfl,y3a0,y3a1,rfl,rfl,k3⟩)
   cbv
   subst hA
   exact ⟨⟨⟨⟨(W.q k3),trivial⟩,trivial⟩,⟨⟨⟨(W.q k3),trivial⟩,trivial⟩,trivial⟩⟩,⟨⟨⟨⟨(W.q k3),trivial⟩,trivial⟩,trivial⟩,trivial⟩⟩
 ·intro t9 t40 b0 b1 b2 b3 d0 d1 f0 f1 g0 g1 h
  refine W.step 80 fun hp=>?_
  cbv
  refine ⟨imI hA fun e0=>have j0:=h.1 e0;⟨?_,trivial⟩,imI hA fun e0=>have j0:=h.2 e0;⟨imI hA fun e1=>have j1:=j0.1 (ah (op:=.eql) hA e1);j1,imI hA fun e1=>have j1:=j0.2 (ah (op:=.eql) hA e1);(hA ▸ j1)⟩⟩
  refine W.cd j0 ?_
  rintro _ _ _ hp1 (⟨rfl,y1a0,y1a1,rfl,rfl,k1⟩)
  cbv
  refine W.draw 80 (by rfl) ?_
  cbv
  subst hA
  exact ⟨⟨⟨⟨⟨⟨(W.q k1),trivial⟩,trivial⟩,⟨⟨⟨(W.q k1),trivial⟩,trivial⟩,trivial⟩⟩,⟨⟨⟨⟨(W.q k1),trivial⟩,trivial⟩,trivial⟩,trivial⟩⟩,trivial⟩,trivial⟩
 ·intro t49 b0 b1 b2 b3 d0 d1 f0 f1 h
  refine W.step 80 fun hp=>?_
  cbv
  refine ⟨imI hA fun e0=>have j0:=h.1 e0;?_,imI hA fun e0=>have j0:=h.2 e0;⟨⟨⟨⟨(W.q j0),trivial⟩,trivial⟩,⟨⟨⟨(W.q j0),trivial⟩,trivial⟩,trivial⟩⟩,⟨⟨⟨⟨(W.q j0),trivial⟩,trivial⟩,trivial⟩,trivial⟩⟩⟩
  refine W.cl j0 ?_
  rintro _ _ _ hp1 (⟨rfl,y1a0,y1a1,rfl,rfl,k1⟩)
  cbv
  subst hA
  exact ⟨⟨⟨⟨(W.q k1),trivial⟩,trivial⟩,⟨⟨⟨(W.q k1),trivial⟩,trivial⟩,trivial⟩⟩,⟨⟨⟨⟨(W.q k1),trivial⟩,trivial⟩,trivial⟩,trivial⟩⟩
theorem E168 {u0 u1 u2 u3 a1:Int} (h:∀ EV,V168 EV Q→(a1=1→Q 0 [] [.i 1,.i 1000,.i 0,.i 0])∧(a1≠1→(a1=2→Q 0 [] [.i 0,.i 255,.i 0,.i 0])∧(a1≠2→(a1=5→EV 24 [] [.i a1,.b true,.i u0,.i u1,.i u2,.i u3,.i 0,.i 0,.i 0,.i 0,.i 0,.i 255])∧(a1≠5→EV 24 [] [.i a1,.b (a1 == 6),.i u0,.i u1,.i u2,.i u3,.i 0,.i 0,.i 0,.i 0,.i 0,.i 255])))):EZ G168 [] [.i u0,.i u1,.i u2,.i u3,.i a1] Q:=by
 refine ak.en (I:=I168) (L:=L168) Ko fun A hA CE CK Dn EV RR W hp=>?_
 have h:=h  EV (V168.of W)
 cbv
 subst hA
 exact ⟨fun e0=>have j0:=h.1 (ah (op:=.eql) rfl e0);⟨⟨⟨⟨(W.q j0),trivial⟩,trivial⟩,⟨⟨⟨(W.q j0),trivial⟩,trivial⟩,trivial⟩⟩,⟨⟨⟨⟨(W.q j0),trivial⟩,trivial⟩,trivial⟩,trivial⟩⟩,fun e0=>have j0:=h.2 (ah (op:=.eql) rfl e0);⟨fun e1=>have j1:=j0.1 (ah (op:=.eql) rfl e1);⟨⟨⟨⟨(W.q j1),trivial⟩,trivial⟩,⟨⟨⟨(W.q j1),trivial⟩,trivial⟩,trivial⟩⟩,⟨⟨⟨⟨(W.q j1),trivial⟩,trivial⟩,trivial⟩,trivial⟩⟩,fun e1=>have j1:=j0.2 (ah (op:=.eql) rfl e1);⟨fun e2=>have j2:=j1.1 (ah (op:=.eql) rfl e2);j2,fun e2=>have j2:=j1.2 (ah (op:=.eql) rfl e2);j2⟩⟩⟩
theorem E169 {u0 u1 a1:Int} (h:∀ EV,VN EV Q→(a1≥u0→Q 0 [] [.b (decide (a1≤u1))])∧(a1 < u0→Q 0 [] [.b false])):EZ G169 [] [.i u0,.i u1,.i a1] Q:=by
 refine ak.en (I:=I169) (L:=L169) J9 fun A hA CE CK Dn EV RR W hp=>?_
 have h:=h  EV ⟨trivial⟩
 cbv
 subst hA
 exact ⟨fun e0=>have j0:=h.1 (ah (op:=.geq) rfl e0);(W.q j0),fun e0=>have j0:=h.2 (ah (op:=.geq) rfl e0);(W.q j0)⟩
theorem E147 {u0 u1 u2 v0 v1 v2 v3:Int} (h:∀ EV,VN EV Q→EZ G167 [] [.i u0] (fun x rs vs=>(x=0∧∃ SS,rs=[]∧vs=[.i SS]∧((SS < 0→Q 0 [] [.i 1])∧(SS≥0→EZ G168 [] [.i v0,.i v1,.i v2,.i v3,.i u0] (fun x rs vs=>(x=0∧∃ y2a0 y2a1 y2b0 y2b1,rs=[]∧vs=[.i y2a0,.i y2a1,.i y2b0,.i y2b1]∧(EZ G169 [] [.i y2a0,.i y2a1,.i u1] (fun x rs vs=>(x=0∧∃ S9,rs=[]∧vs=[.b S9]∧((S9=true→EZ G169 [] [.i y2b0,.i y2b1,.i u2] (fun x rs vs=>(x=0∧∃ Uc,rs=[]∧vs=[.b Uc]∧((Uc=false→Q 0 [] [.i 5])∧(Uc=true→Q 0 [] [.i 0])))))∧(S9=false→Q 0 [] [.i 5])))))))))))):EZ G147 [] [.i u0,.i u1,.i u2,.i v0,.i v1,.i v2,.i v3] Q:=by
 refine ak.en (I:=I147) (L:=L147) KJ fun A hA CE CK Dn EV RR W hp=>?_
 have h:=h  EV ⟨trivial⟩
 cbv
 refine W.cl h ?_
 rintro _ _ _ hp0 (⟨rfl,SS,rfl,rfl,k0⟩)
 cbv
 refine ⟨imI hA fun e1=>have j1:=k0.1 (ah (op:=.lss) hA e1);(W.q j1),imI hA fun e1=>have j1:=k0.2 (ah (op:=.lss) hA e1);?_⟩
 refine W.cl j1 ?_
 rintro _ _ _ hp2 (⟨rfl,y2a0,y2a1,y2b0,y2b1,rfl,rfl,k2⟩)
 cbv
 refine W.cl k2 ?_
 rintro _ _ _ hp3 (⟨rfl,S9,rfl,rfl,k3⟩)
 cbv
 refine ⟨imI hA fun e4=>have j4:=k3.1 (by subst hA;exact (notE rfl e4));?_,imI hA fun e4=>have j4:=k3.2 (by subst hA;exact (notE rfl e4));(W.q j4)⟩
 refine W.cl j4 ?_
 rintro _ _ _ hp5 (⟨rfl,Uc,rfl,rfl,k5⟩)
 cbv
 subst hA
 exact ⟨fun e6=>have j6:=k5.1 ((notE rfl e6));(W.q j6),fun e6=>have j6:=k5.2 ((notE rfl e6));(W.q j6)⟩
structure V191a (EV Q:EP):Prop where
  p7:∀ {R0:RW} {t0:Nat} {t1 t7 t8:Int},(aB R0=true→(t8 < t7→(0≤t8)∧(t8 < (t0:Int))∧(R0[t8.toNat]?=some [.int .i64 (cIS R0 t8.toNat 0)])∧(t1=(cIS R0 t8.toNat 0)→Q 0 [R0] [.i t8])∧(t1≠(cIS R0 t8.toNat 0)→EV 7 [R0] [.n t0,.i t1,.i t7,.i (IntKind.wrap .i64 (t8 + 1))]))∧(t8≥t7→Q 0 [R0] [.i (-1)]))→EV 7 [R0] [.n t0,.i t1,.i t7,.i t8]
theorem V191a.of (W:Wk Tryz.prog Tryz.f191 I191a L191a Q A sg CE CK Dn EV RR):V191a EV Q:=by
 have hA:=W.hA
 refine ⟨?_⟩
 intro R0 t0 t1 t7 t8 h
 refine W.step 80 fun hp=>?_
 have h:=h hp.1
 cbv
 subst hA
 exact ⟨fun e0=>have j0:=h.1 (ah (op:=.lss) rfl e0);⟨(An j0.1 (An j0.2.1 rfl)),⟨(An rfl j0.2.2.1),⟨fun e1=>have j1:=j0.2.2.2.1 ((ah (op:=.eql) rfl e1));⟨hp.1,(W.q j1)⟩,fun e1=>have j1:=j0.2.2.2.2 ((ah (op:=.eql) rfl e1));⟨(An rfl rfl),⟨hp.1,j1⟩⟩⟩⟩⟩,fun e0=>have j0:=h.2 (ah (op:=.lss) rfl e0);⟨hp.1,(W.q j0)⟩⟩
theorem E191a {R0:RW} {a0:Nat} {a1:Int} (h:aB R0=true→∀ EV,V191a EV Q→EV 7 [R0] [.n a0,.i a1,.i (a0:Int),.i 0]):EZ G191a [R0] [.n a0,.i a1] Q:=by
 refine ak.en (I:=I191a) (L:=L191a) DN fun A hA CE CK Dn EV RR W hp=>?_
 have h:=h hp.1 EV (V191a.of W)
 cbv
 subst hA
 exact ⟨rfl,⟨(An rfl rfl),⟨hp.1,h⟩⟩⟩
theorem E170a {R0:RW} {a0:Nat} {a1:Int} (h:aB R0=true→∀ EV,VN EV Q→EZ G191a [R0] [.n a0,.i a1] (fun x rs vs=>(x=0∧∃ SV SS,rs=[SV]∧vs=[.i SS]∧(Q 0 [SV] [.b (decide (SS≥0))])))):EZ G170a [R0] [.n a0,.i a1] Q:=by
 refine ak.en (I:=I170a) (L:=L170a) DV fun A hA CE CK Dn EV RR W hp=>?_
 have h:=h hp.1 EV ⟨trivial⟩
 cbv
 refine ⟨ndI hA (An rfl rfl),⟨ndI hA hp.1,?_⟩⟩
 refine W.cl h ?_
 rintro _ _ _ hp0 (⟨rfl,SV,SS,rfl,rfl,k0⟩)
 cbv
 subst hA
 exact ⟨hp0.1,(W.q k0)⟩
theorem E148a {R0:RW} {v0 v1 v2 b0 b1:Int} {b2:Nat} (h:aB R0=true→∀ EV,VN EV Q→(v0=3→((IntKind.wrap .i64 (b0 + 1))≥0→Q 0 [R0] [.b (decide (b1≥0)),.i (IntKind.wrap .i64 (b0 + 1)),.i b1,.n b2])∧((IntKind.wrap .i64 (b0 + 1)) < 0→Q 0 [R0] [.b false,.i (IntKind.wrap .i64 (b0 + 1)),.i b1,.n b2]))∧(v0≠3→(v0=4→((IntKind.wrap .i64 (b0 - 1))≥0→Q 0 [R0] [.b (decide (b1≥0)),.i (IntKind.wrap .i64 (b0 - 1)),.i b1,.n b2])∧((IntKind.wrap .i64 (b0 - 1)) < 0→Q 0 [R0] [.b false,.i (IntKind.wrap .i64 (b0 - 1)),.i b1,.n b2]))∧(v0≠4→(v0=7→(b0≥0→Q 0 [R0] [.b (decide ((IntKind.wrap .i64 (b1 + v1))≥0)),.i b0,.i (IntKind.wrap .i64 (b1 + v1)),.n b2])∧(b0 < 0→Q 0 [R0] [.b false,.i b0,.i (IntKind.wrap .i64 (b1 + v1)),.n b2]))∧(v0≠7→(v0=8→(b0≥0→Q 0 [R0] [.b (decide ((IntKind.wrap .i64 (b1 - v1))≥0)),.i b0,.i (IntKind.wrap .i64 (b1 - v1)),.n b2])∧(b0 < 0→Q 0 [R0] [.b false,.i b0,.i (IntKind.wrap .i64 (b1 - v1)),.n b2]))∧(v0≠8→(v0=5→EZ G170a [R0] [.n b2,.i v1] (fun x rs vs=>(x=0∧∃ TN Uc,rs=[TN]∧vs=[.b Uc]∧((Uc=true→(R0.length=TN.length)∧(Q 0 [TN] [.b false,.i b0,.i b1,.n b2]))∧(Uc=false→(R0.length=TN.length)∧(b2≤TN.length)∧((b2 + (List.length (List.take 1 (List.drop 0 [[(AV.int .i64 v1)]]))))≤140737488355328)∧(((b2 + (List.length (List.take 1 (List.drop 0 [[(AV.int .i64 v1)]])))) * 8)≤140737488355328)∧(b0≥0→Q 0 [(aP TN b2 (List.take 1 (List.drop 0 [[(AV.int .i64 v1)]])))] [.b (decide (b1≥0)),.i b0,.i b1,.n (b2 + (List.length (List.take 1 (List.drop 0 [[(AV.int .i64 v1)]]))))])∧(b0 < 0→Q 0 [(aP TN b2 (List.take 1 (List.drop 0 [[(AV.int .i64 v1)]])))] [.b false,.i b0,.i b1,.n (b2 + (List.length (List.take 1 (List.drop 0 [[(AV.int .i64 v1)]]))))]))))))∧(v0≠5→(v0=6→((IntKind.wrap .i64 ((b2:Int) - 1)) < 0→Q 0 [R0] [.b false,.i b0,.i b1,.n b2])∧((IntKind.wrap .i64 ((b2:Int) - 1))≥0→(0≤(IntKind.wrap .i64 ((b2:Int) - 1)))∧((IntKind.wrap .i64 ((b2:Int) - 1)) < (b2:Int))∧(R0[(Int.toNat (IntKind.wrap .i64 ((b2:Int) - 1)))]?=some [.int .i64 (cIS R0 (Int.toNat (IntKind.wrap .i64 ((b2:Int) - 1))) 0)])∧((cIS R0 (Int.toNat (IntKind.wrap .i64 ((b2:Int) - 1))) 0)≠v1→Q 0 [R0] [.b false,.i b0,.i b1,.n b2])∧((cIS R0 (Int.toNat (IntKind.wrap .i64 ((b2:Int) - 1))) 0)=v1→(0≤(IntKind.wrap .i64 ((b2:Int) - 1)))∧((IntKind.wrap .i64 ((b2:Int) - 1))≤(b2:Int))∧(b0≥0→Q 0 [R0] [.b (decide (b1≥0)),.i b0,.i b1,.n (Int.toNat (IntKind.wrap .i64 ((b2:Int) - 1)))])∧(b0 < 0→Q 0 [R0] [.b false,.i b0,.i b1,.n (Int.toNat (IntKind.wrap .i64 ((b2:Int) - 1)))]))))∧(v0≠6→(b0≥0→Q 0 [R0] [.b (decide (b1≥0)),.i b0,.i b1,.n b2])∧(b0 < 0→Q 0 [R0] [.b false,.i b0,.i b1,.n b2])))))))):EZ G148a [R0] [.i v0,.i v1,.i v2,.i b0,.i b1,.n b2] Q:=by
 refine ak.en (I:=I148a) (L:=L148a) DY fun A hA CE CK Dn EV RR W hp=>?_
 have h:=h hp.1 EV ⟨trivial⟩
 cbv
 refine ⟨imI hA fun e0=>have j0:=h.1 (ah (op:=.eql) hA e0);⟨imI hA fun e1=>have j1:=j0.1 (by subst hA;exact (ah (op:=.geq) rfl e1));⟨ndI hA (An rfl rfl),⟨ndI hA hp.1,(W.q (hA ▸ j1))⟩⟩,imI hA fun e1=>have j1:=j0.2 (by subst hA;exact (ah (op:=.geq) rfl e1));⟨ndI hA (An rfl rfl),⟨ndI hA hp.1,(W.q (hA ▸ j1))⟩⟩⟩,imI hA fun e0=>have j0:=h.2 (ah (op:=.eql) hA e0);⟨imI hA fun e1=>have j1:=j0.1 (ah (op:=.eql) hA e1);⟨imI hA fun e2=>have j2:=j1.1 (by subst hA;exact (ah (op:=.geq) rfl e2));⟨ndI hA (An rfl rfl),⟨ndI hA hp.1,(W.q (hA ▸ j2))⟩⟩,imI hA fun e2=>have j2:=j1.2 (by subst hA;exact (ah (op:=.geq) rfl e2));⟨ndI hA (An rfl rfl),⟨ndI hA hp.1,(W.q (hA ▸ j2))⟩⟩⟩,imI hA fun e1=>have j1:=j0.2 (ah (op:=.eql) hA e1);⟨imI hA fun e2=>have j2:=j1.1 (ah (op:=.eql) hA e2);⟨⟨⟨imI hA fun e3=>have j3:=j2.1 (ah (op:=.geq) hA e3);⟨ndI hA (An rfl rfl),⟨ndI hA hp.1,(W.q (hA ▸ j3))⟩⟩,imI hA fun e3=>have j3:=j2.2 (ah (op:=.geq) hA e3);⟨ndI hA (An rfl rfl),⟨ndI hA hp.1,(W.q (hA ▸ j3))⟩⟩⟩,trivial⟩,trivial⟩,imI hA fun e2=>have j2:=j1.2 (ah (op:=.eql) hA e2);⟨imI hA fun e3=>have j3:=j2.1 (ah (op:=.eql) hA e3);⟨⟨⟨imI hA fun e4=>have j4:=j3.1 (ah (op:=.geq) hA e4);⟨ndI hA (An rfl rfl),⟨ndI hA hp.1,(W.q (hA ▸ j4))⟩⟩,imI hA fun e4=>have j4:=j3.2 (ah (op:=.geq) hA e4);⟨ndI hA (An rfl rfl),⟨ndI hA hp.1,(W.q (hA ▸ j4))⟩⟩⟩,trivial⟩,trivial⟩,imI hA fun e3=>have j3:=j2.2 (ah (op:=.eql) hA e3);⟨imI hA fun e4=>have j4:=j3.1 (ah (op:=.eql) hA e4);⟨⟨ndI hA (An rfl rfl),⟨ndI hA hp.1,?_⟩⟩,trivial⟩,imI hA fun e4=>have j4:=j3.2 (ah (op:=.eql) hA e4);⟨imI hA fun e5=>have j5:=j4.1 (ah (op:=.eql) hA e5);⟨ndI hA rfl,⟨fun e6=>have c6:(IntKind.wrap .i64 ((b2:Int) - 1)) < 0:=(by have q:=(ah (op:=.lss) hA e6);subst hA;exact q);?_,fun e6=>have c6:(IntKind.wrap .i64 ((b2:Int) - 1))≥0:=(by have q:=(ah (op:=.lss) hA e6);subst hA;exact q);?_⟩⟩,imI hA fun e5=>have j5:=j4.2 (ah (op:=.eql) hA e5);⟨imI hA fun e6=>have j6:=j5.1 (ah (op:=.geq) hA e6);⟨ndI hA (An rfl rfl),⟨ndI hA hp.1,(W.q (hA ▸ j6))⟩⟩,imI hA fun e6=>have j6:=j5.2 (ah (op:=.geq) hA e6);⟨ndI hA (An rfl rfl),⟨ndI hA hp.1,(W.q j6)⟩⟩⟩⟩⟩⟩⟩⟩⟩
 ·refine W.cd j4 ?_
  rintro _ _ _ hp5 (⟨rfl,TN,Uc,rfl,rfl,k5⟩)
  cbv
  refine W.draw 80 (by rfl) ?_
  cbv
  refine ⟨imI hA fun e6=>have j6:=k5.1 e6;⟨ndI hA (An (hA ▸ j6.1) rfl),⟨ndI hA hp5.1,(W.q j6.2)⟩⟩,imI hA fun e6=>have j6:=k5.2 e6;⟨⟨⟨⟨ndI hA (An (hA ▸ rfl) (by subst hA;show (0 + 1)≤1;(first | rfl | simp [af] | (simp [af];omega)))),⟨ndI hA (An (hA ▸ j6.1) (An (hA ▸ j6.2.1) (An (hA ▸ j6.2.2.1) (hA ▸ j6.2.2.2.1)))),?_⟩⟩,trivial⟩,trivial⟩,⟨⟨⟨⟨ndI hA (An (hA ▸ rfl) (by subst hA;show (0 + 1)≤1;(first | rfl | simp [af] | (simp [af];omega)))),⟨ndI hA (An (hA ▸ j6.1) (An (hA ▸ j6.2.1) (An (hA ▸ j6.2.2.1) (hA ▸ j6.2.2.2.1)))),?_⟩⟩,trivial⟩,trivial⟩,trivial⟩⟩⟩
  ·refine W.draw 80 (by rfl) ?_
   cbv
   subst hA
   exact ⟨⟨fun e7=>have j7:=j6.2.2.2.2.1 (ah (op:=.geq) rfl e7);⟨(An rfl rfl),⟨((fA hp5.1 (dw (dA aQ)))),(W.q j7)⟩⟩,fun e7=>have j7:=j6.2.2.2.2.2 (ah (op:=.geq) rfl e7);⟨(An rfl rfl),⟨((fA hp5.1 (dw (dA aQ)))),(W.q j7)⟩⟩⟩,trivial⟩
  ·refine W.draw 80 (by rfl) ?_
   cbv
   subst hA
   exact ⟨⟨fun e7=>have j7:=j6.2.2.2.2.1 (ah (op:=.geq) rfl e7);⟨(An rfl rfl),⟨((fA hp5.1 (dw (dA aQ)))),(W.q j7)⟩⟩,fun e7=>have j7:=j6.2.2.2.2.2 (ah (op:=.geq) rfl e7);⟨(An rfl rfl),⟨((fA hp5.1 (dw (dA aQ)))),(W.q j7)⟩⟩⟩,trivial⟩
 ·refine W.draw 80 (by rfl) ?_
  cbv
  subst hA
  exact ⟨(An rfl rfl),⟨hp.1,(W.q (j5.1 c6))⟩⟩
 ·refine W.draw 80 (by rfl) ?_
  cbv
  subst hA
  exact ⟨(An ((j5.2 c6).1) (An ((j5.2 c6).2.1) rfl)),⟨(An rfl ((j5.2 c6).2.2.1)),⟨fun e7=>have j7:=(j5.2 c6).2.2.2.1 ((ah (op:=.neq) rfl e7));⟨(An rfl rfl),⟨hp.1,(W.q j7)⟩⟩,fun e7=>have j7:=(j5.2 c6).2.2.2.2 ((ah (op:=.neq) rfl e7));⟨(An j7.1 (An j7.2.1 rfl)),⟨fun e8=>have j8:=j7.2.2.1 (ah (op:=.geq) rfl e8);⟨(An rfl rfl),⟨hp.1,(W.q j8)⟩⟩,fun e8=>have j8:=j7.2.2.2 (ah (op:=.geq) rfl e8);⟨(An rfl rfl),⟨hp.1,(W.q j8)⟩⟩⟩⟩⟩⟩⟩
structure V117 (EV Q:EP):Prop where
  p24:∀ {R0 t19:RW} {t20 t21 b0 b1 b2 b3 d0 d1:Int} {d2:Nat},(aB R0=true→(t21 < t20→(0≤t21)∧(t19[t21.toNat]?=some (r3 t19 t21.toNat))∧(EZ G147 [] [.i (cIS t19 t21.toNat 0),.i (cIS t19 t21.toNat 1),.i (cIS t19 t21.toNat 2),.i b0,.i b1,.i b2,.i b3] (fun x rs vs=>(x=0∧∃ SX,rs=[]∧vs=[.i SX]∧((SX≠0→Q 0 [] [.i SX])∧(SX=0→EZ G148a [R0] [.i (cIS t19 t21.toNat 0),.i (cIS t19 t21.toNat 1),.i (cIS t19 t21.toNat 2),.i d0,.i d1,.n d2] (fun x rs vs=>(x=0∧∃ TZ S9 Uw Uu Ut,rs=[TZ]∧vs=[.b S9,.i Uw,.i Uu,.n Ut]∧((S9=false→Q 0 [] [.i 9])∧(S9=true→EV 24 [TZ] [.r t19,.i t20,.i (IntKind.wrap .i64 (t21 + 1)),.i b0,.i b1,.i b2,.i b3,.i Uw,.i Uu,.n Ut]))))))))))∧(t21≥t20→(d0≤0→((d2:Int) > 0→Q 0 [] [.i 9])∧((d2:Int)≤0→Q 0 [] [.i 0]))∧(d0 > 0→Q 0 [] [.i 9])))→EV 24 [R0] [.r t19,.i t20,.i t21,.i b0,.i b1,.i b2,.i b3,.i d0,.i d1,.n d2]
theorem V117.of (W:Wk Tryz.prog Tryz.f117 I117 L117 Q A sg CE CK Dn EV RR):V117 EV Q:=by
 have hA:=W.hA
 refine ⟨?_⟩
 intro R0 t19 t20 t21 b0 b1 b2 b3 d0 d1 d2 h
 refine W.step 80 fun hp=>?_
 have h:=h hp.1
 cbv
 refine ⟨imI hA fun e0=>have j0:=h.1 (ah (op:=.lss) hA e0);⟨ndI hA (An j0.1 (hA ▸ j0.2.1)),?_⟩,imI hA fun e0=>have j0:=h.2 (ah (op:=.lss) hA e0);⟨imI hA fun e1=>have j1:=j0.1 (ah (op:=.gtr) hA e1);⟨ndI hA rfl,⟨imI hA fun e2=>have j2:=j1.1 (by subst hA;exact (ah (op:=.gtr) rfl e2));(W.q j2),imI hA fun e2=>have j2:=j1.2 (by subst hA;exact (ah (op:=.gtr) rfl e2));(W.q j2)⟩⟩,imI hA fun e1=>have j1:=j0.2 (ah (op:=.gtr) hA e1);(W.q j1)⟩⟩
 refine W.cl j0.2.2 ?_
 rintro _ _ _ hp1 (⟨rfl,SX,rfl,rfl,k1⟩)
 cbv
 refine ⟨imI hA fun e2=>have j2:=k1.1 (ah (op:=.neq) hA e2);(W.q j2),imI hA fun e2=>have j2:=k1.2 (ah (op:=.neq) hA e2);⟨ndI hA (An rfl rfl),⟨ndI hA hp.1,?_⟩⟩⟩
 refine W.cl j2 ?_
 rintro _ _ _ hp3 (⟨rfl,TZ,S9,Uw,Uu,Ut,rfl,rfl,k3⟩)
 cbv
 subst hA
 exact ⟨fun e4=>have j4:=k3.1 ((notE rfl e4));(W.q j4),fun e4=>have j4:=k3.2 ((notE rfl e4));⟨(An rfl rfl),⟨hp3.1,j4⟩⟩⟩
theorem E117 {a0:RW} {v0 v1 v2 v3:Int} (h:∀ EV,V117 EV Q→((a0.length:Int)=0→Q 0 [] [.i 1])∧((a0.length:Int)≠0→((a0.length:Int) > 64→Q 0 [] [.i 4])∧((a0.length:Int)≤64→EV 24 [[]] [.r a0,.i (a0.length:Int),.i 0,.i v0,.i v1,.i v2,.i v3,.i 0,.i 0,.n 0]))):EZ G117 [] [.r a0,.i v0,.i v1,.i v2,.i v3] Q:=by
 refine ak.en (I:=I117) (L:=L117) LC fun A hA CE CK Dn EV RR W hp=>?_
 have h:=h  EV (V117.of W)
 cbv
 subst hA
 exact ⟨fun e0=>have j0:=h.1 ((ah (op:=.eql) rfl e0));(W.q j0),fun e0=>have j0:=h.2 ((ah (op:=.eql) rfl e0));⟨fun e1=>have j1:=j0.1 ((ah (op:=.gtr) rfl e1));(W.q j1),fun e1=>have j1:=j0.2 ((ah (op:=.gtr) rfl e1));⟨(An rfl rfl),⟨aQ,j1⟩⟩⟩⟩
theorem E119 {u0 u1 u2 b0 b1 b2 b3:Int} {b4:RW} {b5:Int} {b6 b7 b8 b9:RW} {d0 d1 d2 d3 d4 d5:Int} {d6:RW} (h:∀ EV,VN EV Q→(u0=5→(0≤u1)∧(b7[u1.toNat]?=some [.int .i64 (cIS b7 u1.toNat 0)])∧(Q 0 [] (.b (decide ((cIS b7 u1.toNat 0) < d0))::cL b0 b1 b2 b3 b4 b5 b6 b7 b8 b9 [.i d0,.i d1,.i d2,.i d3,.i d4,.i d5,.r d6])))∧(u0≠5→Q 0 [] (.b false::cL b0 b1 b2 b3 b4 b5 b6 b7 b8 b9 [.i d0,.i d1,.i d2,.i d3,.i d4,.i d5,.r d6]))):EZ G119 [] (.i u0::.i u1::.i u2::cL b0 b1 b2 b3 b4 b5 b6 b7 b8 b9 [.i d0,.i d1,.i d2,.i d3,.i d4,.i d5,.r d6]) Q:=by
 refine ak.en (I:=I119) (L:=L119) Lt fun A hA CE CK Dn EV RR W hp=>?_
 have h:=h  EV ⟨trivial⟩
 cbv
 refine ⟨fun e0=>have c0:u0=5:=(by have q:=(ah (op:=.eql) hA e0);subst hA;exact q);?_,fun e0=>have c0:u0≠5:=(by have q:=(ah (op:=.eql) hA e0);subst hA;exact q);?_⟩
 ·refine W.draw 80 (by rfl) ?_
  cbv
  subst hA
  exact ⟨(An (h.1 c0).1 ((h.1 c0).2.1)),(W.q ((h.1 c0).2.2))⟩
 ·refine W.draw 80 (by rfl) ?_
  cbv
  subst hA
  exact (W.q (h.2 c0))
structure V149 (EV Q:EP):Prop where
  p7:∀ {t0:RW} {t7 t8 b0 b1 b2 b3:Int} {b4:RW} {b5:Int} {b6 b7 b8 b9:RW} {d0 d1 d2 d3 d4 d5:Int} {d6:RW},((t8 < t7→(0≤t8)∧(t0[t8.toNat]?=some (r3 t0 t8.toNat))∧(EZ G119 [] (.i (cIS t0 t8.toNat 0)::.i (cIS t0 t8.toNat 1)::.i (cIS t0 t8.toNat 2)::cL b0 b1 b2 b3 b4 b5 b6 b7 b8 b9 [.i d0,.i d1,.i d2,.i d3,.i d4,.i d5,.r d6]) (fun x rs vs=>(x=0∧∃ SX Tj Ti Tu Tt Tq Tn Tm TA Tz Tv TW TV TU TS TR TQ TP,rs=[]∧vs=(.b SX::cL Tj Ti Tu Tt Tq Tn Tm TA Tz Tv [.i TW,.i TV,.i TU,.i TS,.i TR,.i TQ,.r TP])∧((SX=true→Q 0 [] (.i t8::cL Tj Ti Tu Tt Tq Tn Tm TA Tz Tv [.i TW,.i TV,.i TU,.i TS,.i TR,.i TQ,.r TP]))∧(SX=false→EV 7 [] (.r t0::.i t7::.i (IntKind.wrap .i64 (t8 + 1))::cL Tj Ti Tu Tt Tq Tn Tm TA Tz Tv [.i TW,.i TV,.i TU,.i TS,.i TR,.i TQ,.r TP])))))))∧(t8≥t7→Q 0 [] (.i (-1)::cL b0 b1 b2 b3 b4 b5 b6 b7 b8 b9 [.i d0,.i d1,.i d2,.i d3,.i d4,.i d5,.r d6])))→EV 7 [] (.r t0::.i t7::.i t8::cL b0 b1 b2 b3 b4 b5 b6 b7 b8 b9 [.i d0,.i d1,.i d2,.i d3,.i d4,.i d5,.r d6])
theorem V149.of (W:Wk Tryz.prog Tryz.f149 I149 L149 Q A sg CE CK Dn EV RR):V149 EV Q:=by
 have hA:=W.hA
 refine ⟨?_⟩
 intro t0 t7 t8 b0 b1 b2 b3 b4 b5 b6 b7 b8 b9 d0 d1 d2 d3 d4 d5 d6 h
 refine W.step 80 fun hp=>?_
 cbv
 refine ⟨imI hA fun e0=>have j0:=h.1 (ah (op:=.lss) hA e0);⟨ndI hA (An j0.1 (hA ▸ j0.2.1)),?_⟩,imI hA fun e0=>have j0:=h.2 (ah (op:=.lss) hA e0);(W.q j0)⟩
 refine W.cl j0.2.2 ?_
 rintro _ _ _ hp1 (⟨rfl,SX,Tj,Ti,Tu,Tt,Tq,Tn,Tm,TA,Tz,Tv,TW,TV,TU,TS,TR,TQ,TP,rfl,rfl,k1⟩)
 cbv
 subst hA
 exact ⟨fun e2=>have j2:=k1.1 e2;(W.q j2),fun e2=>have j2:=k1.2 e2;j2⟩
theorem E149 {a0:RW} {b0 b1 b2 b3:Int} {b4:RW} {b5:Int} {b6 b7 b8 b9:RW} {d0 d1 d2 d3 d4 d5:Int} {d6:RW} (h:∀ EV,V149 EV Q→EV 7 [] (.r a0::.i (a0.length:Int)::.i 0::cL b0 b1 b2 b3 b4 b5 b6 b7 b8 b9 [.i d0,.i d1,.i d2,.i d3,.i d4,.i d5,.r d6])):EZ G149 [] (.r a0::cL b0 b1 b2 b3 b4 b5 b6 b7 b8 b9 [.i d0,.i d1,.i d2,.i d3,.i d4,.i d5,.r d6]) Q:=by
 refine ak.en (I:=I149) (L:=L149) KI fun A hA CE CK Dn EV RR W hp=>?_
 have h:=h  EV (V149.of W)
 cbv
 subst hA
 exact h
theorem E120 {a0:RW} {b0 b1 b2 b3:Int} {b4:RW} {b5:Int} {b6 b7 b8 b9:RW} {d0 d1 d2 d3 d4 d5:Int} {d6:RW} (h:∀ EV,VN EV Q→EZ G149 [] (.r a0::cL b0 b1 b2 b3 b4 b5 b6 b7 b8 b9 [.i d0,.i d1,.i d2,.i d3,.i d4,.i d5,.r d6]) (fun x rs vs=>(x=0∧∃ SS Ub Ua Vb Va U9 U8 U7 VW VV VU UG UF UE UD UC UB UA,rs=[]∧vs=(.i SS::cL Ub Ua Vb Va U9 U8 U7 VW VV VU [.i UG,.i UF,.i UE,.i UD,.i UC,.i UB,.r UA])∧(Q 0 [] (.b (decide (SS≥0))::cL Ub Ua Vb Va U9 U8 U7 VW VV VU [.i UG,.i UF,.i UE,.i UD,.i UC,.i UB,.r UA]))))):EZ G120 [] (.r a0::cL b0 b1 b2 b3 b4 b5 b6 b7 b8 b9 [.i d0,.i d1,.i d2,.i d3,.i d4,.i d5,.r d6]) Q:=by
 refine ak.en (I:=I120) (L:=L120) Ls fun A hA CE CK Dn EV RR W hp=>?_
 have h:=h  EV ⟨trivial⟩
 cbv
 refine W.cl h ?_
 rintro _ _ _ hp0 (⟨rfl,SS,Ub,Ua,Vb,Va,U9,U8,U7,VW,VV,VU,UG,UF,UE,UD,UC,UB,UA,rfl,rfl,k0⟩)
 cbv
 subst hA
 exact (W.q k0)
theorem E122 {u0 u1 u2 u3 u4 u5:Int} {u6:RW} {b0 b1 b2 b3 b4 b5:Int} {b6:RW} (h:∀ EV,VN EV Q→Q 0 [] [.b (u0 == b0),.i b0,.i b1,.i b2,.i b3,.i b4,.i b5,.r b6]):EZ G122 [] [.i u0,.i u1,.i u2,.i u3,.i u4,.i u5,.r u6,.i b0,.i b1,.i b2,.i b3,.i b4,.i b5,.r b6] Q:=by
 refine ak.en (I:=I122) (L:=L122) Lp fun A hA CE CK Dn EV RR W hp=>?_
 have h:=h  EV ⟨trivial⟩
 cbv
 subst hA
 exact (W.q h)
structure V150 (EV Q:EP):Prop where
  p7:∀ {t0:RW} {t7 t8 b0 b1 b2 b3 b4 b5:Int} {b6:RW},((t8 < t7→(0≤t8)∧(t0[t8.toNat]?=some (r7 t0 t8.toNat))∧(EZ G122 [] [.i (cIS t0 t8.toNat 0),.i (cIS t0 t8.toNat 1),.i (cIS t0 t8.toNat 2),.i (cIS t0 t8.toNat 3),.i (cIS t0 t8.toNat 4),.i (cIS t0 t8.toNat 5),.r (cRS t0 t8.toNat 6),.i b0,.i b1,.i b2,.i b3,.i b4,.i b5,.r b6] (fun x rs vs=>(x=0∧∃ SX Tj Ti Tu Tt Tq Tn Tm,rs=[]∧vs=[.b SX,.i Tj,.i Ti,.i Tu,.i Tt,.i Tq,.i Tn,.r Tm]∧((SX=true→Q 0 [] [.i t8,.i Tj,.i Ti,.i Tu,.i Tt,.i Tq,.i Tn,.r Tm])∧(SX=false→EV 7 [] [.r t0,.i t7,.i (IntKind.wrap .i64 (t8 + 1)),.i Tj,.i Ti,.i Tu,.i Tt,.i Tq,.i Tn,.r Tm]))))))∧(t8≥t7→Q 0 [] [.i (-1),.i b0,.i b1,.i b2,.i b3,.i b4,.i b5,.r b6]))→EV 7 [] [.r t0,.i t7,.i t8,.i b0,.i b1,.i b2,.i b3,.i b4,.i b5,.r b6]
theorem V150.of (W:Wk Tryz.prog Tryz.f150 I150 L150 Q A sg CE CK Dn EV RR):V150 EV Q:=by
 have hA:=W.hA
 refine ⟨?_⟩
 intro t0 t7 t8 b0 b1 b2 b3 b4 b5 b6 h
 refine W.step 80 fun hp=>?_
 cbv
 refine ⟨imI hA fun e0=>have j0:=h.1 (ah (op:=.lss) hA e0);⟨ndI hA (An j0.1 (hA ▸ j0.2.1)),?_⟩,imI hA fun e0=>have j0:=h.2 (ah (op:=.lss) hA e0);(W.q j0)⟩
 refine W.cl j0.2.2 ?_
 rintro _ _ _ hp1 (⟨rfl,SX,Tj,Ti,Tu,Tt,Tq,Tn,Tm,rfl,rfl,k1⟩)
 cbv
 subst hA
 exact ⟨fun e2=>have j2:=k1.1 e2;(W.q j2),fun e2=>have j2:=k1.2 e2;j2⟩
theorem E150 {a0:RW} {b0 b1 b2 b3 b4 b5:Int} {b6:RW} (h:∀ EV,V150 EV Q→EV 7 [] [.r a0,.i (a0.length:Int),.i 0,.i b0,.i b1,.i b2,.i b3,.i b4,.i b5,.r b6]):EZ G150 [] [.r a0,.i b0,.i b1,.i b2,.i b3,.i b4,.i b5,.r b6] Q:=by
 refine ak.en (I:=I150) (L:=L150) KH fun A hA CE CK Dn EV RR W hp=>?_
 have h:=h  EV (V150.of W)
 cbv
 subst hA
 exact h
theorem E121 {a0:RW} {b0 b1 b2 b3 b4 b5:Int} {b6:RW} (h:∀ EV,VN EV Q→EZ G150 [] [.r a0,.i b0,.i b1,.i b2,.i b3,.i b4,.i b5,.r b6] (fun x rs vs=>(x=0∧∃ SS Ub Ua Vb Va U9 U8 U7,rs=[]∧vs=[.i SS,.i Ub,.i Ua,.i Vb,.i Va,.i U9,.i U8,.r U7]∧(Q 0 [] [.b (decide (SS≥0)),.i Ub,.i Ua,.i Vb,.i Va,.i U9,.i U8,.r U7])))):EZ G121 [] [.r a0,.i b0,.i b1,.i b2,.i b3,.i b4,.i b5,.r b6] Q:=by
 refine ak.en (I:=I121) (L:=L121) Lr fun A hA CE CK Dn EV RR W hp=>?_
 have h:=h  EV ⟨trivial⟩
 cbv
 refine W.cl h ?_
 rintro _ _ _ hp0 (⟨rfl,SS,Ub,Ua,Vb,Va,U9,U8,U7,rfl,rfl,k0⟩)
 cbv
 subst hA
 exact (W.q k0)
structure V91 (EV Q:EP):Prop where
  p15:∀ {t2:RW} {t8 b0 b1 b2 b3:Int} {b4:RW} {b5:Int} {b6 b7 b8 b9:RW} {d0 d1 d2 d3 d4 d5:Int} {d6:RW},((t8≠0→Q 0 [] [.i t8])∧(t8=0→EZ G120 [] (.r d6::cL b0 b1 b2 b3 b4 b5 b6 b7 b8 b9 [.i d0,.i d1,.i d2,.i d3,.i d4,.i d5,.r d6]) (fun x rs vs=>(x=0∧∃ SX Tj Ti Tu Tt Tq Tn Tm TA Tz Tv TW TV TU TS TR TQ TP,rs=[]∧vs=(.b SX::cL Tj Ti Tu Tt Tq Tn Tm TA Tz Tv [.i TW,.i TV,.i TU,.i TS,.i TR,.i TQ,.r TP])∧((SX=true→Q 0 [] [.i 9])∧(SX=false→EZ G121 [] [.r t2,.i TW,.i TV,.i TU,.i TS,.i TR,.i TQ,.r TP] (fun x rs vs=>(x=0∧∃ S9 Uw Uu Ut Vm Vl Vk Vj,rs=[]∧vs=[.b S9,.i Uw,.i Uu,.i Ut,.i Vm,.i Vl,.i Vk,.r Vj]∧((S9=true→Q 0 [] [.i 10])∧(S9=false→Q 0 [] [.i 0]))))))))))→EV 15 [] (.r t2::.i t8::cL b0 b1 b2 b3 b4 b5 b6 b7 b8 b9 [.i d0,.i d1,.i d2,.i d3,.i d4,.i d5,.r d6])
theorem V91.of (W:Wk Tryz.prog Tryz.f91 I91 L91 Q A sg CE CK Dn EV RR):V91 EV Q:=by
 have hA:=W.hA
 refine ⟨?_⟩
 intro t2 t8 b0 b1 b2 b3 b4 b5 b6 b7 b8 b9 d0 d1 d2 d3 d4 d5 d6 h
 refine W.step 80 fun hp=>?_
 cbv
 refine ⟨imI hA fun e0=>have j0:=h.1 (ah (op:=.neq) hA e0);(W.q j0),imI hA fun e0=>have j0:=h.2 (ah (op:=.neq) hA e0);?_⟩
 refine W.cl j0 ?_
 rintro _ _ _ hp1 (⟨rfl,SX,Tj,Ti,Tu,Tt,Tq,Tn,Tm,TA,Tz,Tv,TW,TV,TU,TS,TR,TQ,TP,rfl,rfl,k1⟩)
 cbv
 refine ⟨imI hA fun e2=>have j2:=k1.1 e2;(W.q j2),imI hA fun e2=>have j2:=k1.2 e2;?_⟩
 refine W.cl j2 ?_
 rintro _ _ _ hp3 (⟨rfl,S9,Uw,Uu,Ut,Vm,Vl,Vk,Vj,rfl,rfl,k3⟩)
 cbv
 subst hA
 exact ⟨fun e4=>have j4:=k3.1 e4;(W.q j4),fun e4=>have j4:=k3.2 e4;(W.q j4)⟩
theorem E91 {u0 u1 u2 u3:Int} {u4:RW} {u5:Int} {u6 u7 u8 u9:RW} {v0 v1 v2 v3 v4 v5:Int} {v6 a2:RW} (h:∀ EV,V91 EV Q→EZ G90 [] [.i 0,.i 63,.r (List.take 1 (List.drop 0 [[(AV.int .i64 v0)]]))] (fun x rs vs=>(x=0∧∃ SS,rs=[]∧vs=[.b SS]∧((SS=true→EZ G90 [] [.i v0,.i 63,.r (List.take 1 (List.drop 0 [[(AV.int .i64 v1)]]))] (fun x rs vs=>(x=0∧∃ SY,rs=[]∧vs=[.b SY]∧((SY=true→EZ G90 [] [.i 1,.i 1048576,.r (List.take 1 (List.drop 0 [[(AV.int .i64 v2)]]))] (fun x rs vs=>(x=0∧∃ Td,rs=[]∧vs=[.b Td]∧((Td=true→EZ G90 [] [.i 1,.i v2,.r (List.take 1 (List.drop 0 [[(AV.int .i64 v3)]]))] (fun x rs vs=>(x=0∧∃ TY,rs=[]∧vs=[.b TY]∧((TY=true→EZ G90 [] [.i 0,.i 4096,.r (List.take 1 (List.drop 0 [[(AV.int .i64 v4)]]))] (fun x rs vs=>(x=0∧∃ Ul,rs=[]∧vs=[.b Ul]∧((Ul=true→EZ G90 [] [.i 0,.i 1048576,.r (List.take 1 (List.drop 0 [[(AV.int .i64 v5)]]))] (fun x rs vs=>(x=0∧∃ Uo,rs=[]∧vs=[.b Uo]∧((Uo=false→Q 0 [] [.i 5])∧(Uo=true→EZ G118 [] (cL u0 u1 u2 u3 u4 u5 u6 u7 u8 u9 []) (fun x rs vs=>(x=0∧∃ y12a0 y12a1 y12a2 y12a3,rs=[]∧vs=[.i y12a0,.i y12a1,.i y12a2,.i y12a3]∧(EZ G117 [] [.r v6,.i y12a0,.i y12a1,.i y12a2,.i y12a3] (fun x rs vs=>(x=0∧∃ Ui,rs=[]∧vs=[.i Ui]∧(EV 15 [] (.r a2::.i Ui::cL u0 u1 u2 u3 u4 u5 u6 u7 u8 u9 [.i v0,.i v1,.i v2,.i v3,.i v4,.i v5,.r v6]))))))))))))∧(Ul=false→Q 0 [] [.i 5])))))∧(TY=false→Q 0 [] [.i 5])))))∧(Td=false→Q 0 [] [.i 5])))))∧(SY=false→Q 0 [] [.i 5])))))∧(SS=false→Q 0 [] [.i 5]))))):EZ G91 [] (cL u0 u1 u2 u3 u4 u5 u6 u7 u8 u9 [.i v0,.i v1,.i v2,.i v3,.i v4,.i v5,.r v6,.r a2]) Q:=by
 refine ak.en (I:=I91) (L:=L91) Qq fun A hA CE CK Dn EV RR W hp=>?_
 have h:=h  EV (V91.of W)
 cbv
 refine ⟨ndI hA (An (An aQ trivial) (An (hA ▸ rfl) trivial)),?_⟩
 refine W.cl h ?_
 rintro _ _ _ hp0 (⟨rfl,SS,rfl,rfl,k0⟩)
 cbv
 refine ⟨imI hA fun e1=>have j1:=k0.1 e1;⟨ndI hA (An (An aQ trivial) (An (hA ▸ rfl) trivial)),?_⟩,imI hA fun e1=>have j1:=k0.2 e1;(W.q j1)⟩
 refine W.cl j1 ?_
 rintro _ _ _ hp2 (⟨rfl,SY,rfl,rfl,k2⟩)
 cbv
 refine ⟨imI hA fun e3=>have j3:=k2.1 e3;⟨ndI hA (An (An aQ trivial) (An (hA ▸ rfl) trivial)),?_⟩,imI hA fun e3=>have j3:=k2.2 e3;(W.q j3)⟩
 refine W.cl j3 ?_
 rintro _ _ _ hp4 (⟨rfl,Td,rfl,rfl,k4⟩)
 cbv
 refine ⟨imI hA fun e5=>have j5:=k4.1 e5;⟨ndI hA (An (An aQ trivial) (An (hA ▸ rfl) trivial)),?_⟩,imI hA fun e5=>have j5:=k4.2 e5;(W.q j5)⟩
 refine W.cl j5 ?_
 rintro _ _ _ hp6 (⟨rfl,TY,rfl,rfl,k6⟩)
 cbv
 refine ⟨imI hA fun e7=>have j7:=k6.1 e7;⟨ndI hA (An (An aQ trivial) (An (hA ▸ rfl) trivial)),?_⟩,imI hA fun e7=>have j7:=k6.2 e7;(W.q j7)⟩
 refine W.cl j7 ?_
 rintro _ _ _ hp8 (⟨rfl,Ul,rfl,rfl,k8⟩)
 cbv
 refine ⟨imI hA fun e9=>have j9:=k8.1 e9;⟨ndI hA (An (An aQ trivial) (An (hA ▸ rfl) trivial)),?_⟩,imI hA fun e9=>have j9:=k8.2 e9;(W.q j9)⟩
 refine W.cl j9 ?_
 rintro _ _ _ hp10 (⟨rfl,Uo,rfl,rfl,k10⟩)
 cbv
 refine ⟨imI hA fun e11=>have j11:=k10.1 (by subst hA;exact (notE rfl e11));(W.q j11),imI hA fun e11=>have j11:=k10.2 (by subst hA;exact (notE rfl e11));⟨?_,trivial⟩⟩
 refine W.cd j11 ?_
 rintro _ _ _ hp12 (⟨rfl,y12a0,y12a1,y12a2,y12a3,rfl,rfl,k12⟩)
 cbv
 refine W.draw 80 (by rfl) ?_
 cbv
 refine ⟨?_,trivial⟩
 refine W.cd k12 ?_
 rintro _ _ _ hp13 (⟨rfl,Ui,rfl,rfl,k13⟩)
 cbv
 refine W.draw 80 (by rfl) ?_
 cbv
 subst hA
 exact k13
structure V55 (EV Q:EP):Prop where
  p42:∀ {t76:RW} {t77 t78 b0 b1 b2 b3:Int} {b4:RW} {b5:Int} {b6 b7 b8 b9:RW},((t78 < t77→(0≤t78)∧(t76[t78.toNat]?=some (r7 t76 t78.toNat))∧(t78≤(b8.length:Int))∧(EZ G91 [] (cL b0 b1 b2 b3 b4 b5 b6 b7 b8 b9 [.i (cIS t76 t78.toNat 0),.i (cIS t76 t78.toNat 1),.i (cIS t76 t78.toNat 2),.i (cIS t76 t78.toNat 3),.i (cIS t76 t78.toNat 4),.i (cIS t76 t78.toNat 5),.r (cRS t76 t78.toNat 6),.r (List.take t78.toNat b8)]) (fun x rs vs=>(x=0∧∃ SX,rs=[]∧vs=[.i SX]∧((SX≠0→Q 0 [] [.i SX])∧(SX=0→EV 42 [] (.r t76::.i t77::.i (IntKind.wrap .i64 (t78 + 1))::cL b0 b1 b2 b3 b4 b5 b6 b7 b8 b9 [])))))))∧(t78≥t77→Q 0 [] [.i 0]))→EV 42 [] (.r t76::.i t77::.i t78::cL b0 b1 b2 b3 b4 b5 b6 b7 b8 b9 [])
theorem V55.of (W:Wk Tryz.prog Tryz.f55 I55 L55 Q A sg CE CK Dn EV RR):V55 EV Q:=by
 have hA:=W.hA
 refine ⟨?_⟩
 intro t76 t77 t78 b0 b1 b2 b3 b4 b5 b6 b7 b8 b9 h
 refine W.step 80 fun hp=>?_
 cbv
 refine ⟨imI hA fun e0=>have j0:=h.1 (ah (op:=.lss) hA e0);⟨ndI hA (An j0.1 (hA ▸ j0.2.1)),⟨ndI hA (An j0.1 (hA ▸ j0.2.2.1)),⟨?_,trivial⟩⟩⟩,imI hA fun e0=>have j0:=h.2 (ah (op:=.lss) hA e0);(W.q j0)⟩
 refine W.cd j0.2.2.2 ?_
 rintro _ _ _ hp1 (⟨rfl,SX,rfl,rfl,k1⟩)
 cbv
 refine W.draw 80 (by rfl) ?_
 cbv
 subst hA
 exact ⟨fun e2=>have j2:=k1.1 (ah (op:=.neq) rfl e2);(W.q j2),fun e2=>have j2:=k1.2 (ah (op:=.neq) rfl e2);j2⟩
theorem E55 {u0 u1 u2 u3:Int} {u4:RW} {u5:Int} {u6 u7 u8 u9:RW} (h:∀ EV,V55 EV Q→EZ G89 [] [.i u0,.i u1,.i u2,.i u3] (fun x rs vs=>(x=0∧∃ SS,rs=[]∧vs=[.b SS]∧((SS=false→Q 0 [] [.i 5])∧(SS=true→((arS.mx (arS.mx (arS.mx (u4.length:Int) u5) (u6.length:Int)) (u7.length:Int))≤4→((u8.length:Int)≤8→((u9.length:Int) > 8→Q 0 [] [.i 4])∧((u9.length:Int)≤8→((u8.length:Int)≠0→(u5 < 0→Q 0 [] [.i 1])∧(u5≥0→EZ G90 [] [.i 1,.i 8,.r u4] (fun x rs vs=>(x=0∧∃ Ud,rs=[]∧vs=[.b Ud]∧((Ud=true→EZ G90 [] [.i 1,.i 8,.r u6] (fun x rs vs=>(x=0∧∃ Ur,rs=[]∧vs=[.b Ur]∧((Ur=false→Q 0 [] [.i 5])∧(Ur=true→EZ G90 [] [.i 0,.i 63,.r u7] (fun x rs vs=>(x=0∧∃ Vo,rs=[]∧vs=[.b Vo]∧((Vo=true→EZ G90 [] [.i 0,.i (IntKind.wrap .i64 ((u8.length:Int) - 1)),.r u9] (fun x rs vs=>(x=0∧∃ Ui,rs=[]∧vs=[.b Ui]∧((Ui=false→Q 0 [] [.i 5])∧(Ui=true→EV 42 [] (.r u8::.i (u8.length:Int)::.i 0::cL u0 u1 u2 u3 u4 u5 u6 u7 u8 u9 []))))))∧(Vo=false→Q 0 [] [.i 5])))))))))∧(Ud=false→Q 0 [] [.i 5]))))))∧((u8.length:Int)=0→Q 0 [] [.i 1])))∧((u8.length:Int) > 8→Q 0 [] [.i 4]))∧((arS.mx (arS.mx (arS.mx (u4.length:Int) u5) (u6.length:Int)) (u7.length:Int)) > 4→Q 0 [] [.i 4])))))):EZ G55 [] (cL u0 u1 u2 u3 u4 u5 u6 u7 u8 u9 []) Q:=by
 refine ak.en (I:=I55) (L:=L55) QY fun A hA CE CK Dn EV RR W hp=>?_
 have h:=h  EV (V55.of W)
 cbv
 refine W.cl h ?_
 rintro _ _ _ hp0 (⟨rfl,SS,rfl,rfl,k0⟩)
 cbv
 refine ⟨imI hA fun e1=>have j1:=k0.1 (by subst hA;exact (notE rfl e1));(W.q j1),imI hA fun e1=>have j1:=k0.2 (by subst hA;exact (notE rfl e1));⟨imI hA fun e2=>have j2:=j1.1 (by subst hA;exact (ah (op:=.gtr) rfl e2));⟨imI hA fun e3=>have j3:=j2.1 (by subst hA;exact (ah (op:=.gtr) rfl e3));⟨imI hA fun e4=>have j4:=j3.1 (by subst hA;exact (ah (op:=.gtr) rfl e4));(W.q j4),imI hA fun e4=>have j4:=j3.2 (by subst hA;exact (ah (op:=.gtr) rfl e4));⟨imI hA fun e5=>have j5:=j4.1 (by subst hA;exact (ah (op:=.eql) rfl e5));⟨imI hA fun e6=>have j6:=j5.1 (ah (op:=.lss) hA e6);(W.q j6),imI hA fun e6=>have j6:=j5.2 (ah (op:=.lss) hA e6);?_⟩,imI hA fun e5=>have j5:=j4.2 (by subst hA;exact (ah (op:=.eql) rfl e5));(W.q j5)⟩⟩,imI hA fun e3=>have j3:=j2.2 (by subst hA;exact (ah (op:=.gtr) rfl e3));(W.q j3)⟩,imI hA fun e2=>have j2:=j1.2 (by subst hA;exact (ah (op:=.gtr) rfl e2));(W.q j2)⟩⟩
 refine W.cl j6 ?_
 rintro _ _ _ hp7 (⟨rfl,Ud,rfl,rfl,k7⟩)
 cbv
 refine ⟨imI hA fun e8=>have j8:=k7.1 (by subst hA;exact (notE rfl e8));?_,imI hA fun e8=>have j8:=k7.2 (by subst hA;exact (notE rfl e8));(W.q j8)⟩
 refine W.cl j8 ?_
 rintro _ _ _ hp9 (⟨rfl,Ur,rfl,rfl,k9⟩)
 cbv
 refine ⟨imI hA fun e10=>have j10:=k9.1 (by subst hA;exact (notE rfl e10));(W.q j10),imI hA fun e10=>have j10:=k9.2 (by subst hA;exact (notE rfl e10));?_⟩
 refine W.cl j10 ?_
 rintro _ _ _ hp11 (⟨rfl,Vo,rfl,rfl,k11⟩)
 cbv
 refine ⟨imI hA fun e12=>have j12:=k11.1 (by subst hA;exact (notE rfl e12));?_,imI hA fun e12=>have j12:=k11.2 (by subst hA;exact (notE rfl e12));(W.q j12)⟩
 refine W.cl j12 ?_
 rintro _ _ _ hp13 (⟨rfl,Ui,rfl,rfl,k13⟩)
 cbv
 subst hA
 exact ⟨fun e14=>have j14:=k13.1 ((notE rfl e14));(W.q j14),fun e14=>have j14:=k13.2 ((notE rfl e14));j14⟩
structure V15 (EV Q:EP):Prop where
  p7:∀ {t6:RW} {t7 t8 b0 b1 b2 b3:Int} {b4:RW} {b5:Int} {b6 b7 b8 b9:RW},((t8 < t7→(0≤t8)∧(t6[t8.toNat]?=some (r7 t6 t8.toNat))∧(((List.length (cRS t6 t8.toNat 6)):Int) > 80→Q 0 [] [.b false])∧(((List.length (cRS t6 t8.toNat 6)):Int)≤80→EV 7 [] (.r t6::.i t7::.i (IntKind.wrap .i64 (t8 + 1))::cL b0 b1 b2 b3 b4 b5 b6 b7 b8 b9 [])))∧(t8≥t7→((b4.length:Int)≤20→((b6.length:Int)≤20→((b7.length:Int)≤20→((b8.length:Int)≤20→Q 0 [] [.b (decide ((b9.length:Int)≤20))])∧((b8.length:Int) > 20→Q 0 [] [.b false]))∧((b7.length:Int) > 20→Q 0 [] [.b false]))∧((b6.length:Int) > 20→Q 0 [] [.b false]))∧((b4.length:Int) > 20→Q 0 [] [.b false])))→EV 7 [] (.r t6::.i t7::.i t8::cL b0 b1 b2 b3 b4 b5 b6 b7 b8 b9 [])
theorem V15.of (W:Wk Tryz.prog Tryz.f15 I15 L15 Q A sg CE CK Dn EV RR):V15 EV Q:=by
 have hA:=W.hA
 refine ⟨?_⟩
 intro t6 t7 t8 b0 b1 b2 b3 b4 b5 b6 b7 b8 b9 h
 refine W.step 80 fun hp=>?_
 cbv
 subst hA
 exact ⟨fun e0=>have j0:=h.1 (ah (op:=.lss) rfl e0);⟨(An j0.1 j0.2.1),⟨fun e1=>have j1:=j0.2.2.1 ((ah (op:=.gtr) rfl e1));(W.q j1),fun e1=>have j1:=j0.2.2.2 ((ah (op:=.gtr) rfl e1));j1⟩⟩,fun e0=>have j0:=h.2 (ah (op:=.lss) rfl e0);⟨fun e1=>have j1:=j0.1 ((ah (op:=.leq) rfl e1));⟨fun e2=>have j2:=j1.1 ((ah (op:=.leq) rfl e2));⟨fun e3=>have j3:=j2.1 ((ah (op:=.leq) rfl e3));⟨fun e4=>have j4:=j3.1 ((ah (op:=.leq) rfl e4));(W.q j4),fun e4=>have j4:=j3.2 ((ah (op:=.leq) rfl e4));(W.q j4)⟩,fun e3=>have j3:=j2.2 ((ah (op:=.leq) rfl e3));(W.q j3)⟩,fun e2=>have j2:=j1.2 ((ah (op:=.leq) rfl e2));(W.q j2)⟩,fun e1=>have j1:=j0.2 ((ah (op:=.leq) rfl e1));(W.q j1)⟩⟩
theorem E15 {u0 u1 u2 u3:Int} {u4:RW} {u5:Int} {u6 u7 u8 u9:RW} (h:∀ EV,V15 EV Q→EV 7 [] (.r u8::.i (u8.length:Int)::.i 0::cL u0 u1 u2 u3 u4 u5 u6 u7 u8 u9 [])):EZ G15 [] (cL u0 u1 u2 u3 u4 u5 u6 u7 u8 u9 []) Q:=by
 refine ak.en (I:=I15) (L:=L15) Sr fun A hA CE CK Dn EV RR W hp=>?_
 have h:=h  EV (V15.of W)
 cbv
 subst hA
 exact h
theorem E62 {a0 a1 a2:Int} (h:∀ EV,VN EV Q→(a0≥a1→Q 0 [] [.b (decide (a0≤a2))])∧(a0 < a1→Q 0 [] [.b false])):EZ G62 [] [.i a0,.i a1,.i a2] Q:=by
 refine ak.en (I:=I62) (L:=L62) QO fun A hA CE CK Dn EV RR W hp=>?_
 have h:=h  EV ⟨trivial⟩
 cbv
 subst hA
 exact ⟨fun e0=>have j0:=h.1 (ah (op:=.geq) rfl e0);(W.q j0),fun e0=>have j0:=h.2 (ah (op:=.geq) rfl e0);(W.q j0)⟩
structure V63 (EV Q:EP):Prop where
  p7:∀ {t1 t2:Int} {t9:RW} {t10 t11:Int},((t11 < t10→(0≤t11)∧(t9[t11.toNat]?=some [.int .i64 (cIS t9 t11.toNat 0)])∧(EZ G62 [] [.i (cIS t9 t11.toNat 0),.i t1,.i t2] (fun x rs vs=>(x=0∧∃ SX,rs=[]∧vs=[.b SX]∧((SX=false→Q 0 [] [.b false])∧(SX=true→EV 7 [] [.i t1,.i t2,.r t9,.i t10,.i (IntKind.wrap .i64 (t11 + 1))]))))))∧(t11≥t10→Q 0 [] [.b true]))→EV 7 [] [.i t1,.i t2,.r t9,.i t10,.i t11]
theorem V63.of (W:Wk Tryz.prog Tryz.f63 I63 L63 Q A sg CE CK Dn EV RR):V63 EV Q:=by
 have hA:=W.hA
 refine ⟨?_⟩
 intro t1 t2 t9 t10 t11 h
 refine W.step 80 fun hp=>?_
 cbv
 refine ⟨imI hA fun e0=>have j0:=h.1 (ah (op:=.lss) hA e0);⟨ndI hA (An j0.1 (hA ▸ j0.2.1)),?_⟩,imI hA fun e0=>have j0:=h.2 (ah (op:=.lss) hA e0);(W.q j0)⟩
 refine W.cl j0.2.2 ?_
 rintro _ _ _ hp1 (⟨rfl,SX,rfl,rfl,k1⟩)
 cbv
 subst hA
 exact ⟨fun e2=>have j2:=k1.1 ((notE rfl e2));(W.q j2),fun e2=>have j2:=k1.2 ((notE rfl e2));j2⟩
theorem E63 {a0:RW} {a1 a2:Int} (h:∀ EV,V63 EV Q→EV 7 [] [.i a1,.i a2,.r a0,.i (a0.length:Int),.i 0]):EZ G63 [] [.r a0,.i a1,.i a2] Q:=by
 refine ak.en (I:=I63) (L:=L63) QN fun A hA CE CK Dn EV RR W hp=>?_
 have h:=h  EV (V63.of W)
 cbv
 subst hA
 exact h
structure V160 (EV Q:EP):Prop where
  p12:∀ {t0 t3:Int} {t4:Bool},((t4=true→Q 0 [] [.i 0])∧(t4=false→(t3=9→EV 30 [] [.i t0,.b true])∧(t3≠9→(t3=11→EV 30 [] [.i t0,.b true])∧(t3≠11→(t3=12→EV 30 [] [.i t0,.b true])∧(t3≠12→EV 30 [] [.i t0,.b (t3 == 13)])))))→EV 12 [] [.i t0,.i t3,.b t4]
  p30:∀ {t0:Int} {t7:Bool},((t7=true→Q 0 [] [.i 2])∧(t7=false→EV 35 [] [.i t0]))→EV 30 [] [.i t0,.b t7]
  p35:∀ {t0:Int},((t0≥1→(t0 > 15→Q 0 [] [.i (-1)])∧(t0≤15→Q 0 [] [.i 1]))∧(t0 < 1→Q 0 [] [.i (-1)]))→EV 35 [] [.i t0]
theorem V160.of (W:Wk Tryz.prog Tryz.f160 I160 L160 Q A sg CE CK Dn EV RR):V160 EV Q:=by
 have hA:=W.hA
 refine ⟨?_,?_,?_⟩
 ·intro t0 t3 t4 h
  refine W.step 80 fun hp=>?_
  cbv
  subst hA
  exact ⟨fun e0=>have j0:=h.1 e0;(W.q j0),fun e0=>have j0:=h.2 e0;⟨fun e1=>have j1:=j0.1 (ah (op:=.eql) rfl e1);j1,fun e1=>have j1:=j0.2 (ah (op:=.eql) rfl e1);⟨fun e2=>have j2:=j1.1 (ah (op:=.eql) rfl e2);j2,fun e2=>have j2:=j1.2 (ah (op:=.eql) rfl e2);⟨fun e3=>have j3:=j2.1 (ah (op:=.eql) rfl e3);j3,fun e3=>have j3:=j2.2 (ah (op:=.eql) rfl e3);j3⟩⟩⟩⟩
 ·intro t0 t7 h
  refine W.step 80 fun hp=>?_
  cbv
  subst hA
  exact ⟨fun e0=>have j0:=h.1 e0;(W.q j0),fun e0=>have j0:=h.2 e0;j0⟩
 ·intro t0 h
  refine W.step 80 fun hp=>?_
  cbv
  subst hA
  exact ⟨fun e0=>have j0:=h.1 (ah (op:=.lss) rfl e0);⟨fun e1=>have j1:=j0.1 (ah (op:=.gtr) rfl e1);(W.q j1),fun e1=>have j1:=j0.2 (ah (op:=.gtr) rfl e1);(W.q j1)⟩,fun e0=>have j0:=h.2 (ah (op:=.lss) rfl e0);(W.q j0)⟩
theorem E160 {a0:Int} (h:∀ EV,V160 EV Q→(a0=3→EV 12 [] [.i a0,.i a0,.b true])∧(a0≠3→EV 12 [] [.i a0,.i a0,.b (a0 == 4)])):EZ G160 [] [.i a0] Q:=by
 refine ak.en (I:=I160) (L:=L160) Kv fun A hA CE CK Dn EV RR W hp=>?_
 have h:=h  EV (V160.of W)
 cbv
 subst hA
 exact ⟨fun e0=>have j0:=h.1 (ah (op:=.eql) rfl e0);j0,fun e0=>have j0:=h.2 (ah (op:=.eql) rfl e0);j0⟩
theorem E161 {a0 a1 a2:Int} (h:∀ EV,VN EV Q→(a0≥a1→Q 0 [] [.b (decide (a0≤a2))])∧(a0 < a1→Q 0 [] [.b false])):EZ G161 [] [.i a0,.i a1,.i a2] Q:=by
 refine ak.en (I:=I161) (L:=L161) Ku fun A hA CE CK Dn EV RR W hp=>?_
 have h:=h  EV ⟨trivial⟩
 cbv
 subst hA
 exact ⟨fun e0=>have j0:=h.1 (ah (op:=.geq) rfl e0);(W.q j0),fun e0=>have j0:=h.2 (ah (op:=.geq) rfl e0);(W.q j0)⟩
structure V136 (EV Q:EP):Prop where
  p30:∀ {t1 t2 t3 t4:Int} {t12:Bool} {t21:Int} {t32:Bool} {b0 b1 b2:Int},((t32=true→EV 77 [] [.b (b1 == 0),.b t12])∧(t32=false→(t21=5→EV 38 [] [.i t1,.i t2,.i t3,.i t4,.b t12,.i t21,.b true,.i b0,.i b1,.i b2])∧(t21≠5→EV 38 [] [.i t1,.i t2,.i t3,.i t4,.b t12,.i t21,.b (t21 == 6),.i b0,.i b1,.i b2])))→EV 30 [] [.i t1,.i t2,.i t3,.i t4,.b t12,.i t21,.b t32,.i b0,.i b1,.i b2]
  p38:∀ {t1 t2 t3 t4:Int} {t12:Bool} {t21:Int} {t38:Bool} {b0 b1 b2:Int},((t38=true→EZ G161 [] [.i b1,.i 0,.i (IntKind.wrap .i64 (t4 - 1))] (fun x rs vs=>(x=0∧∃ SX,rs=[]∧vs=[.b SX]∧(EV 77 [] [.b SX,.b t12]))))∧(t38=false→(t21=7→EV 46 [] [.i t1,.i t2,.i t3,.b t12,.i t21,.b true,.i b0,.i b1,.i b2])∧(t21≠7→EV 46 [] [.i t1,.i t2,.i t3,.b t12,.i t21,.b (t21 == 8),.i b0,.i b1,.i b2])))→EV 38 [] [.i t1,.i t2,.i t3,.i t4,.b t12,.i t21,.b t38,.i b0,.i b1,.i b2]
  p46:∀ {t1 t2 t3:Int} {t12:Bool} {t21:Int} {t46:Bool} {b0 b1 b2:Int},((t46=true→EZ G161 [] [.i b1,.i 1,.i 4096] (fun x rs vs=>(x=0∧∃ SX,rs=[]∧vs=[.b SX]∧(EV 77 [] [.b SX,.b t12]))))∧(t46=false→(t21=9→EZ G161 [] [.i b1,.i 0,.i (IntKind.wrap .i64 (t1 - 1))] (fun x rs vs=>(x=0∧∃ SY,rs=[]∧vs=[.b SY]∧(EZ G161 [] [.i b2,.i 0,.i 255] (fun x rs vs=>(x=0∧∃ S9,rs=[]∧vs=[.b S9]∧(EV 77 [] [.b SY,.b S9])))))))∧(t21≠9→(t21=10→EZ G161 [] [.i b1,.i 0,.i (IntKind.wrap .i64 (t1 - 1))] (fun x rs vs=>(x=0∧∃ S9,rs=[]∧vs=[.b S9]∧(EV 77 [] [.b S9,.b t12]))))∧(t21≠10→(t21=11→EV 66 [] [.i t2,.i t3,.b t12,.i t21,.b true,.i b0,.i b1,.i b2])∧(t21≠11→(t21=12→EV 66 [] [.i t2,.i t3,.b t12,.i t21,.b true,.i b0,.i b1,.i b2])∧(t21≠12→EV 66 [] [.i t2,.i t3,.b t12,.i t21,.b (t21 == 13),.i b0,.i b1,.i b2]))))))→EV 46 [] [.i t1,.i t2,.i t3,.b t12,.i t21,.b t46,.i b0,.i b1,.i b2]
  p66:∀ {t2 t3:Int} {t12:Bool} {t21:Int} {t69:Bool} {b0 b1 b2:Int},((t69=true→EZ G161 [] [.i b1,.i 0,.i (IntKind.wrap .i64 (t2 - 1))] (fun x rs vs=>(x=0∧∃ SX,rs=[]∧vs=[.b SX]∧(EZ G161 [] [.i b2,.i 0,.i 255] (fun x rs vs=>(x=0∧∃ SY,rs=[]∧vs=[.b SY]∧(EV 77 [] [.b SX,.b SY])))))))∧(t69=false→(t21=14→EV 74 [] [.i t3,.b t12,.b true,.i b0,.i b1,.i b2])∧(t21≠14→EV 74 [] [.i t3,.b t12,.b (t21 == 15),.i b0,.i b1,.i b2])))→EV 66 [] [.i t2,.i t3,.b t12,.i t21,.b t69,.i b0,.i b1,.i b2]
  p74:∀ {t3:Int} {t12 t81:Bool} {b0 b1 b2:Int},((t81=true→EZ G161 [] [.i b1,.i 0,.i (IntKind.wrap .i64 (t3 - 1))] (fun x rs vs=>(x=0∧∃ SX,rs=[]∧vs=[.b SX]∧(EV 77 [] [.b SX,.b t12]))))∧(t81=false→EV 77 [] [.b false,.b t12]))→EV 74 [] [.i t3,.b t12,.b t81,.i b0,.i b1,.i b2]
  p77:∀ {t11 t12:Bool},((t11=true→(t12=false→Q 0 [] [.i 5])∧(t12=true→Q 0 [] [.i 0]))∧(t11=false→Q 0 [] [.i 5]))→EV 77 [] [.b t11,.b t12]
theorem V136.of (W:Wk Tryz.prog Tryz.f136 I136 L136 Q A sg CE CK Dn EV RR):V136 EV Q:=by
 have hA:=W.hA
 refine ⟨?_,?_,?_,?_,?_,?_⟩
 ·intro t1 t2 t3 t4 t12 t21 t32 b0 b1 b2 h
  refine W.step 80 fun hp=>?_
  cbv
  subst hA
  exact ⟨fun e0=>have j0:=h.1 e0;j0,fun e0=>have j0:=h.2 e0;⟨fun e1=>have j1:=j0.1 (ah (op:=.eql) rfl e1);j1,fun e1=>have j1:=j0.2 (ah (op:=.eql) rfl e1);j1⟩⟩
 ·intro t1 t2 t3 t4 t12 t21 t38 b0 b1 b2 h
  refine W.step 80 fun hp=>?_
  cbv
  refine ⟨imI hA fun e0=>have j0:=h.1 e0;?_,imI hA fun e0=>have j0:=h.2 e0;⟨imI hA fun e1=>have j1:=j0.1 (ah (op:=.eql) hA e1);j1,imI hA fun e1=>have j1:=j0.2 (ah (op:=.eql) hA e1);(hA ▸ j1)⟩⟩
  refine W.cl j0 ?_
  rintro _ _ _ hp1 (⟨rfl,SX,rfl,rfl,k1⟩)
  cbv
  subst hA
  exact k1
 ·intro t1 t2 t3 t12 t21 t46 b0 b1 b2 h
  refine W.step 80 fun hp=>?_
  cbv
  refine ⟨imI hA fun e0=>have j0:=h.1 e0;?_,imI hA fun e0=>have j0:=h.2 e0;⟨imI hA fun e1=>have j1:=j0.1 (ah (op:=.eql) hA e1);⟨?_,trivial⟩,imI hA fun e1=>have j1:=j0.2 (ah (op:=.eql) hA e1);⟨imI hA fun e2=>have j2:=j1.1 (ah (op:=.eql) hA e2);?_,imI hA fun e2=>have j2:=j1.2 (ah (op:=.eql) hA e2);⟨imI hA fun e3=>have j3:=j2.1 (ah (op:=.eql) hA e3);j3,imI hA fun e3=>have j3:=j2.2 (ah (op:=.eql) hA e3);⟨imI hA fun e4=>have j4:=j3.1 (ah (op:=.eql) hA e4);j4,imI hA fun e4=>have j4:=j3.2 (ah (op:=.eql) hA e4);(hA ▸ j4)⟩⟩⟩⟩⟩
  ·refine W.cl j0 ?_
   rintro _ _ _ hp1 (⟨rfl,SX,rfl,rfl,k1⟩)
   cbv
   subst hA
   exact k1
  ·refine W.cd j1 ?_
   rintro _ _ _ hp2 (⟨rfl,SY,rfl,rfl,k2⟩)
   cbv
   refine W.draw 80 (by rfl) ?_
   cbv
   refine ⟨?_,trivial⟩
   refine W.cd k2 ?_
   rintro _ _ _ hp3 (⟨rfl,S9,rfl,rfl,k3⟩)
   cbv
   refine W.draw 80 (by rfl) ?_
   cbv
   subst hA
   exact k3
  ·refine W.cl j2 ?_
   rintro _ _ _ hp3 (⟨rfl,S9,rfl,rfl,k3⟩)
   cbv
   subst hA
   exact k3
 ·intro t2 t3 t12 t21 t69 b0 b1 b2 h
  refine W.step 80 fun hp=>?_
  cbv
  refine ⟨imI hA fun e0=>have j0:=h.1 e0;⟨?_,trivial⟩,imI hA fun e0=>have j0:=h.2 e0;⟨imI hA fun e1=>have j1:=j0.1 (ah (op:=.eql) hA e1);j1,imI hA fun e1=>have j1:=j0.2 (ah (op:=.eql) hA e1);(hA ▸ j1)⟩⟩
  refine W.cd j0 ?_
  rintro _ _ _ hp1 (⟨rfl,SX,rfl,rfl,k1⟩)
  cbv
  refine W.draw 80 (by rfl) ?_
  cbv
  refine ⟨?_,trivial⟩
  refine W.cd k1 ?_
  rintro _ _ _ hp2 (⟨rfl,SY,rfl,rfl,k2⟩)
  cbv
  refine W.draw 80 (by rfl) ?_
  cbv
  subst hA
  exact k2
 ·intro t3 t12 t81 b0 b1 b2 h
  refine W.step 80 fun hp=>?_
  cbv
  refine ⟨imI hA fun e0=>have j0:=h.1 e0;?_,imI hA fun e0=>have j0:=h.2 e0;j0⟩
  refine W.cl j0 ?_
  rintro _ _ _ hp1 (⟨rfl,SX,rfl,rfl,k1⟩)
  cbv
  subst hA
  exact k1
 ·intro t11 t12 h
  refine W.step 80 fun hp=>?_
  cbv
  subst hA
  exact ⟨fun e0=>have j0:=h.1 ((notE rfl e0));⟨fun e1=>have j1:=j0.1 ((notE rfl e1));(W.q j1),fun e1=>have j1:=j0.2 ((notE rfl e1));(W.q j1)⟩,fun e0=>have j0:=h.2 ((notE rfl e0));(W.q j0)⟩
theorem E136 {u0 u1 u2 a1 a2 a3 a4:Int} (h:∀ EV,V136 EV Q→EZ G160 [] [.i u0] (fun x rs vs=>(x=0∧∃ SS,rs=[]∧vs=[.i SS]∧((SS < 0→Q 0 [] [.i 1])∧(SS≥0→(u0=1→EZ G161 [] [.i u1,.i 1,.i 1000] (fun x rs vs=>(x=0∧∃ S9,rs=[]∧vs=[.b S9]∧(EV 77 [] [.b S9,.b (u2 == 0)]))))∧(u0≠1→(u0=2→EZ G161 [] [.i u1,.i 0,.i 255] (fun x rs vs=>(x=0∧∃ Td,rs=[]∧vs=[.b Td]∧(EV 77 [] [.b Td,.b (u2 == 0)]))))∧(u0≠2→(u0=3→EV 30 [] [.i a1,.i a2,.i a3,.i a4,.b (u2 == 0),.i u0,.b true,.i u0,.i u1,.i u2])∧(u0≠3→EV 30 [] [.i a1,.i a2,.i a3,.i a4,.b (u2 == 0),.i u0,.b (u0 == 4),.i u0,.i u1,.i u2])))))))):EZ G136 [] [.i u0,.i u1,.i u2,.i a1,.i a2,.i a3,.i a4] Q:=by
 refine ak.en (I:=I136) (L:=L136) KU fun A hA CE CK Dn EV RR W hp=>?_
 have h:=h  EV (V136.of W)
 cbv
 refine W.cl h ?_
 rintro _ _ _ hp0 (⟨rfl,SS,rfl,rfl,k0⟩)
 cbv
 refine ⟨imI hA fun e1=>have j1:=k0.1 (ah (op:=.lss) hA e1);(W.q j1),imI hA fun e1=>have j1:=k0.2 (ah (op:=.lss) hA e1);⟨imI hA fun e2=>have j2:=j1.1 (ah (op:=.eql) hA e2);?_,imI hA fun e2=>have j2:=j1.2 (ah (op:=.eql) hA e2);⟨imI hA fun e3=>have j3:=j2.1 (ah (op:=.eql) hA e3);?_,imI hA fun e3=>have j3:=j2.2 (ah (op:=.eql) hA e3);⟨imI hA fun e4=>have j4:=j3.1 (ah (op:=.eql) hA e4);(hA ▸ j4),imI hA fun e4=>have j4:=j3.2 (ah (op:=.eql) hA e4);(hA ▸ j4)⟩⟩⟩⟩
 ·refine W.cl j2 ?_
  rintro _ _ _ hp3 (⟨rfl,S9,rfl,rfl,k3⟩)
  cbv
  subst hA
  exact k3
 ·refine W.cl j3 ?_
  rintro _ _ _ hp4 (⟨rfl,Td,rfl,rfl,k4⟩)
  cbv
  subst hA
  exact k4
structure V137 (EV Q:EP):Prop where
  p11:∀ {R0:RW} {t1:Bool} {t5 t6:Int} {t7:Nat} {t12:RW} {t13 t14:Int},(aB R0=true→(t14 < t13→(0≤t14)∧(t12[t14.toNat]?=some (r3 t12 t14.toNat))∧((cIS t12 t14.toNat 0)=3→EV 81 [R0] [.b t1,.i (IntKind.wrap .i64 (t5 + 1)),.i t6,.n t7,.r t12,.i t13,.i t14])∧((cIS t12 t14.toNat 0)≠3→((cIS t12 t14.toNat 0)=4→EV 81 [R0] [.b t1,.i (IntKind.wrap .i64 (t5 - 1)),.i t6,.n t7,.r t12,.i t13,.i t14])∧((cIS t12 t14.toNat 0)≠4→((cIS t12 t14.toNat 0)=5→EV 41 [R0] [.b t1,.i t5,.i t6,.n t7,.r t12,.i t13,.i t14,.n t7,.i (t7:Int),.i 0,.i (cIS t12 t14.toNat 0),.i (cIS t12 t14.toNat 1),.i (cIS t12 t14.toNat 2)])∧((cIS t12 t14.toNat 0)≠5→((cIS t12 t14.toNat 0)=6→((t7:Int)=0→Q 0 [] [.b false])∧((t7:Int)≠0→(0≤(IntKind.wrap .i64 ((t7:Int) - 1)))∧((IntKind.wrap .i64 ((t7:Int) - 1)) < (t7:Int))∧(R0[(Int.toNat (IntKind.wrap .i64 ((t7:Int) - 1)))]?=some [.int .i64 (cIS R0 (Int.toNat (IntKind.wrap .i64 ((t7:Int) - 1))) 0)])∧((cIS R0 (Int.toNat (IntKind.wrap .i64 ((t7:Int) - 1))) 0)≠(cIS t12 t14.toNat 1)→Q 0 [] [.b false])∧((cIS R0 (Int.toNat (IntKind.wrap .i64 ((t7:Int) - 1))) 0)=(cIS t12 t14.toNat 1)→(0≤(IntKind.wrap .i64 ((t7:Int) - 1)))∧((IntKind.wrap .i64 ((t7:Int) - 1))≤(t7:Int))∧(EV 81 [R0] [.b t1,.i t5,.i t6,.n (Int.toNat (IntKind.wrap .i64 ((t7:Int) - 1))),.r t12,.i t13,.i t14]))))∧((cIS t12 t14.toNat 0)≠6→((cIS t12 t14.toNat 0)=7→EV 81 [R0] [.b t1,.i t5,.i (IntKind.wrap .i64 (t6 + (cIS t12 t14.toNat 1))),.n t7,.r t12,.i t13,.i t14])∧((cIS t12 t14.toNat 0)≠7→((cIS t12 t14.toNat 0)=8→EV 81 [R0] [.b t1,.i t5,.i (IntKind.wrap .i64 (t6 - (cIS t12 t14.toNat 1))),.n t7,.r t12,.i t13,.i t14])∧((cIS t12 t14.toNat 0)≠8→EV 81 [R0] [.b t1,.i t5,.i t6,.n t7,.r t12,.i t13,.i t14])))))))∧(t14≥t13→(t1=true→(t5=0→Q 0 [] [.b ((t7:Int) == 0)])∧(t5≠0→Q 0 [] [.b false]))∧(t1=false→Q 0 [] [.b true])))→EV 11 [R0] [.b t1,.i t5,.i t6,.n t7,.r t12,.i t13,.i t14]
  p41:∀ {R0:RW} {t1:Bool} {t5 t6:Int} {t7:Nat} {t12:RW} {t13 t14:Int} {t30:Nat} {t31 t32 d0 d1 d2:Int},(aB R0=true→(t32 < t31→(0≤t32)∧(t32 < (t30:Int))∧(R0[t32.toNat]?=some [.int .i64 (cIS R0 t32.toNat 0)])∧((cIS R0 t32.toNat 0)=d1→Q 0 [] [.b false])∧((cIS R0 t32.toNat 0)≠d1→EV 41 [R0] [.b t1,.i t5,.i t6,.n t7,.r t12,.i t13,.i t14,.n t30,.i t31,.i (IntKind.wrap .i64 (t32 + 1)),.i d0,.i d1,.i d2]))∧(t32≥t31→(t7≤R0.length)∧((t7 + (List.length (List.take 1 (List.drop 0 [[(AV.int .i64 d1)]]))))≤140737488355328)∧(((t7 + (List.length (List.take 1 (List.drop 0 [[(AV.int .i64 d1)]])))) * 8)≤140737488355328)∧(EV 81 [(aP R0 t7 (List.take 1 (List.drop 0 [[(AV.int .i64 d1)]])))] [.b t1,.i t5,.i t6,.n (t7 + (List.length (List.take 1 (List.drop 0 [[(AV.int .i64 d1)]])))),.r t12,.i t13,.i t14])))→EV 41 [R0] [.b t1,.i t5,.i t6,.n t7,.r t12,.i t13,.i t14,.n t30,.i t31,.i t32,.i d0,.i d1,.i d2]
  p81:∀ {R0:RW} {t1:Bool} {t5 t6:Int} {t7:Nat} {t12:RW} {t13 t14:Int},(aB R0=true→(t5≥0→(t6 < 0→Q 0 [] [.b false])∧(t6≥0→EV 11 [R0] [.b t1,.i t5,.i t6,.n t7,.r t12,.i t13,.i (IntKind.wrap .i64 (t14 + 1))]))∧(t5 < 0→Q 0 [] [.b false]))→EV 81 [R0] [.b t1,.i t5,.i t6,.n t7,.r t12,.i t13,.i t14]
theorem V137.of (W:Wk Tryz.prog Tryz.f137 I137 L137 Q A sg CE CK Dn EV RR):V137 EV Q:=by
 have hA:=W.hA
 refine ⟨?_,?_,?_⟩
 ·intro R0 t1 t5 t6 t7 t12 t13 t14 h
  refine W.step 80 fun hp=>?_
  have h:=h hp.1
  cbv
  refine ⟨imI hA fun e0=>have j0:=h.1 (ah (op:=.lss) hA e0);⟨ndI hA (An j0.1 (hA ▸ j0.2.1)),⟨imI hA fun e1=>have j1:=j0.2.2.1 (by subst hA;exact (ah (op:=.eql) rfl e1));⟨ndI hA (An rfl rfl),⟨ndI hA hp.1,(hA ▸ j1)⟩⟩,imI hA fun e1=>have j1:=j0.2.2.2 (by subst hA;exact (ah (op:=.eql) rfl e1));⟨imI hA fun e2=>have j2:=j1.1 (by subst hA;exact (ah (op:=.eql) rfl e2));⟨ndI hA (An rfl rfl),⟨ndI hA hp.1,(hA ▸ j2)⟩⟩,imI hA fun e2=>have j2:=j1.2 (by subst hA;exact (ah (op:=.eql) rfl e2));⟨imI hA fun e3=>have j3:=j2.1 (by subst hA;exact (ah (op:=.eql) rfl e3));⟨ndI hA rfl,⟨ndI hA (An rfl rfl),⟨ndI hA (An rfl rfl),⟨ndI hA hp.1,(hA ▸ j3)⟩⟩⟩⟩,imI hA fun e3=>have j3:=j2.2 (by subst hA;exact (ah (op:=.eql) rfl e3));⟨imI hA fun e4=>have j4:=j3.1 (by subst hA;exact (ah (op:=.eql) rfl e4));⟨ndI hA rfl,⟨fun e5=>have c5:(t7:Int)=0:=(by have q:=(ah (op:=.eql) hA e5);subst hA;exact q);?_,fun e5=>have c5:(t7:Int)≠0:=(by have q:=(ah (op:=.eql) hA e5);subst hA;exact q);?_⟩⟩,imI hA fun e4=>have j4:=j3.2 (by subst hA;exact (ah (op:=.eql) rfl e4));⟨imI hA fun e5=>have j5:=j4.1 (by subst hA;exact (ah (op:=.eql) rfl e5));⟨ndI hA (An rfl rfl),⟨ndI hA hp.1,(hA ▸ j5)⟩⟩,imI hA fun e5=>have j5:=j4.2 (by subst hA;exact (ah (op:=.eql) rfl e5));⟨imI hA fun e6=>have j6:=j5.1 (by subst hA;exact (ah (op:=.eql) rfl e6));⟨ndI hA (An rfl rfl),⟨ndI hA hp.1,(hA ▸ j6)⟩⟩,imI hA fun e6=>have j6:=j5.2 (by subst hA;exact (ah (op:=.eql) rfl e6));⟨ndI hA (An rfl rfl),⟨ndI hA hp.1,j6⟩⟩⟩⟩⟩⟩⟩⟩⟩,imI hA fun e0=>have j0:=h.2 (ah (op:=.lss) hA e0);⟨imI hA fun e1=>have j1:=j0.1 (by subst hA;exact (notE rfl e1));⟨imI hA fun e2=>have j2:=j1.1 (ah (op:=.eql) hA e2);⟨ndI hA rfl,(W.q (hA ▸ j2))⟩,imI hA fun e2=>have j2:=j1.2 (ah (op:=.eql) hA e2);(W.q j2)⟩,imI hA fun e1=>have j1:=j0.2 (by subst hA;exact (notE rfl e1));(W.q j1)⟩⟩
  ·refine W.draw 80 (by rfl) ?_
   cbv
   subst hA
   exact (W.q (j4.1 c5))
  ·refine W.draw 80 (by rfl) ?_
   cbv
   subst hA
   exact ⟨rfl,⟨(An ((j4.2 c5).1) (An ((j4.2 c5).2.1) rfl)),⟨(An rfl ((j4.2 c5).2.2.1)),⟨fun e6=>have j6:=(j4.2 c5).2.2.2.1 ((ah (op:=.neq) rfl e6));(W.q j6),fun e6=>have j6:=(j4.2 c5).2.2.2.2 ((ah (op:=.neq) rfl e6));⟨rfl,⟨(An j6.1 (An j6.2.1 rfl)),⟨(An rfl rfl),⟨hp.1,j6.2.2⟩⟩⟩⟩⟩⟩⟩⟩
 ·intro R0 t1 t5 t6 t7 t12 t13 t14 t30 t31 t32 d0 d1 d2 h
  refine W.step 80 fun hp=>?_
  have h:=h hp.1
  cbv
  subst hA
  exact ⟨fun e0=>have j0:=h.1 (ah (op:=.lss) rfl e0);⟨(An j0.1 (An j0.2.1 rfl)),⟨(An rfl j0.2.2.1),⟨fun e1=>have j1:=j0.2.2.2.1 ((ah (op:=.eql) rfl e1));(W.q j1),fun e1=>have j1:=j0.2.2.2.2 ((ah (op:=.eql) rfl e1));⟨(An rfl rfl),⟨(An rfl rfl),⟨hp.1,j1⟩⟩⟩⟩⟩⟩,fun e0=>have j0:=h.2 (ah (op:=.lss) rfl e0);⟨(An rfl (by show (0 + 1)≤1;(first | rfl | simp [af] | (simp [af];omega)))),⟨(An rfl (An j0.1 (An j0.2.1 j0.2.2.1))),⟨(An rfl rfl),⟨((fA hp.1 (dw (dA aQ)))),j0.2.2.2⟩⟩⟩⟩⟩
 ·intro R0 t1 t5 t6 t7 t12 t13 t14 h
  refine W.step 80 fun hp=>?_
  have h:=h hp.1
  cbv
  subst hA
  exact ⟨fun e0=>have j0:=h.1 (ah (op:=.lss) rfl e0);⟨fun e1=>have j1:=j0.1 (ah (op:=.lss) rfl e1);(W.q j1),fun e1=>have j1:=j0.2 (ah (op:=.lss) rfl e1);⟨(An rfl rfl),⟨hp.1,j1⟩⟩⟩,fun e0=>have j0:=h.2 (ah (op:=.lss) rfl e0);(W.q j0)⟩
theorem E137 {a0:RW} {a1:Bool} (h:∀ EV,V137 EV Q→EV 11 [[]] [.b a1,.i 0,.i 0,.n 0,.r a0,.i (a0.length:Int),.i 0]):EZ G137 [] [.r a0,.b a1] Q:=by
 refine ak.en (I:=I137) (L:=L137) KT fun A hA CE CK Dn EV RR W hp=>?_
 have h:=h  EV (V137.of W)
 cbv
 subst hA
 exact ⟨(An rfl rfl),⟨aQ,h⟩⟩
structure V100 (EV Q:EP):Prop where
  p23:∀ {t0:RW} {t1 t2 t3 t4:Int} {t20:RW} {t21 t22:Int},((t22 < t21→(0≤t22)∧(t20[t22.toNat]?=some (r3 t20 t22.toNat))∧(EZ G136 [] [.i (cIS t20 t22.toNat 0),.i (cIS t20 t22.toNat 1),.i (cIS t20 t22.toNat 2),.i t1,.i t2,.i t3,.i t4] (fun x rs vs=>(x=0∧∃ SX,rs=[]∧vs=[.i SX]∧((SX≠0→Q 0 [] [.i SX])∧(SX=0→(0≤(IntKind.wrap .i64 (t22 + 1)))∧((IntKind.wrap .i64 (t22 + 1))≤(t0.length:Int))∧(EZ G137 [] [.r (List.take (Int.toNat (IntKind.wrap .i64 (t22 + 1))) t0),.b false] (fun x rs vs=>(x=0∧∃ S9,rs=[]∧vs=[.b S9]∧((S9=false→Q 0 [] [.i 9])∧(S9=true→EV 23 [] [.r t0,.i t1,.i t2,.i t3,.i t4,.r t20,.i t21,.i (IntKind.wrap .i64 (t22 + 1))])))))))))))∧(t22≥t21→EZ G137 [] [.r t0,.b true] (fun x rs vs=>(x=0∧∃ SX,rs=[]∧vs=[.b SX]∧((SX=false→Q 0 [] [.i 9])∧(SX=true→Q 0 [] [.i 0]))))))→EV 23 [] [.r t0,.i t1,.i t2,.i t3,.i t4,.r t20,.i t21,.i t22]
theorem V100.of (W:Wk Tryz.prog Tryz.f100 I100 L100 Q A sg CE CK Dn EV RR):V100 EV Q:=by
 have hA:=W.hA
 refine ⟨?_⟩
 intro t0 t1 t2 t3 t4 t20 t21 t22 h
 refine W.step 80 fun hp=>?_
 cbv
 refine ⟨imI hA fun e0=>have j0:=h.1 (ah (op:=.lss) hA e0);⟨ndI hA (An j0.1 (hA ▸ j0.2.1)),?_⟩,imI hA fun e0=>have j0:=h.2 (ah (op:=.lss) hA e0);?_⟩
 ·refine W.cl j0.2.2 ?_
  rintro _ _ _ hp1 (⟨rfl,SX,rfl,rfl,k1⟩)
  cbv
  refine ⟨imI hA fun e2=>have j2:=k1.1 (ah (op:=.neq) hA e2);(W.q j2),imI hA fun e2=>have j2:=k1.2 (ah (op:=.neq) hA e2);⟨ndI hA (An (hA ▸ j2.1) (hA ▸ j2.2.1)),?_⟩⟩
  refine W.cl j2.2.2 ?_
  rintro _ _ _ hp3 (⟨rfl,S9,rfl,rfl,k3⟩)
  cbv
  subst hA
  exact ⟨fun e4=>have j4:=k3.1 ((notE rfl e4));(W.q j4),fun e4=>have j4:=k3.2 ((notE rfl e4));j4⟩
 ·refine W.cl j0 ?_
  rintro _ _ _ hp1 (⟨rfl,SX,rfl,rfl,k1⟩)
  cbv
  subst hA
  exact ⟨fun e2=>have j2:=k1.1 ((notE rfl e2));(W.q j2),fun e2=>have j2:=k1.2 ((notE rfl e2));(W.q j2)⟩
theorem E100 {a0:RW} {a1 a2 a3 a4:Int} (h:∀ EV,V100 EV Q→((a0.length:Int)=0→Q 0 [] [.i 1])∧((a0.length:Int)≠0→((a0.length:Int) > 64→Q 0 [] [.i 4])∧((a0.length:Int)≤64→EV 23 [] [.r a0,.i a1,.i a2,.i a3,.i a4,.r a0,.i (a0.length:Int),.i 0]))):EZ G100 [] [.r a0,.i a1,.i a2,.i a3,.i a4] Q:=by
 refine ak.en (I:=I100) (L:=L100) LZ fun A hA CE CK Dn EV RR W hp=>?_
 have h:=h  EV (V100.of W)
 cbv
 subst hA
 exact ⟨fun e0=>have j0:=h.1 ((ah (op:=.eql) rfl e0));(W.q j0),fun e0=>have j0:=h.2 ((ah (op:=.eql) rfl e0));⟨fun e1=>have j1:=j0.1 ((ah (op:=.gtr) rfl e1));(W.q j1),fun e1=>have j1:=j0.2 ((ah (op:=.gtr) rfl e1));j1⟩⟩
structure V64 (EV Q:EP):Prop where
  p25:∀ {t1:Int} {t67:RW} {t68 t69 b0 b1 b2 b3:Int} {b4:RW} {b5:Int} {b6 b7 b8 b9:RW} {d0 d1 d2 d3 d4 d5:Int} {d6:RW},((t69 < t68→(0≤t69)∧(t67[t69.toNat]?=some (r3 t67 t69.toNat))∧((cIS t67 t69.toNat 0)=5→(0≤(cIS t67 t69.toNat 1))∧(b7[(Int.toNat (cIS t67 t69.toNat 1))]?=some [.int .i64 (cIS b7 (Int.toNat (cIS t67 t69.toNat 1)) 0)])∧((cIS b7 (Int.toNat (cIS t67 t69.toNat 1)) 0) < d0→Q 0 [] [.i 9])∧((cIS b7 (Int.toNat (cIS t67 t69.toNat 1)) 0)≥d0→EV 25 [] (.i t1::.r t67::.i t68::.i (IntKind.wrap .i64 (t69 + 1))::cL b0 b1 b2 b3 b4 b5 b6 b7 b8 b9 [.i d0,.i d1,.i d2,.i d3,.i d4,.i d5,.r d6])))∧((cIS t67 t69.toNat 0)≠5→EV 25 [] (.i t1::.r t67::.i t68::.i (IntKind.wrap .i64 (t69 + 1))::cL b0 b1 b2 b3 b4 b5 b6 b7 b8 b9 [.i d0,.i d1,.i d2,.i d3,.i d4,.i d5,.r d6])))∧(t69≥t68→EV 48 [] (.i t1::.i 0::cL b0 b1 b2 b3 b4 b5 b6 b7 b8 b9 [.i d0,.i d1,.i d2,.i d3,.i d4,.i d5,.r d6])))→EV 25 [] (.i t1::.r t67::.i t68::.i t69::cL b0 b1 b2 b3 b4 b5 b6 b7 b8 b9 [.i d0,.i d1,.i d2,.i d3,.i d4,.i d5,.r d6])
  p48:∀ {t1 t10 b0 b1 b2 b3:Int} {b4:RW} {b5:Int} {b6 b7 b8 b9:RW} {d0 d1 d2 d3 d4 d5:Int} {d6:RW},((t10 < t1→(0≤t10)∧(b8[t10.toNat]?=some (r7 b8 t10.toNat))∧((cIS b8 t10.toNat 0)=d0→Q 0 [] [.i 10])∧((cIS b8 t10.toNat 0)≠d0→EV 48 [] (.i t1::.i (IntKind.wrap .i64 (t10 + 1))::cL b0 b1 b2 b3 b4 b5 b6 b7 b8 b9 [.i d0,.i d1,.i d2,.i d3,.i d4,.i d5,.r d6])))∧(t10≥t1→Q 0 [] [.i 0]))→EV 48 [] (.i t1::.i t10::cL b0 b1 b2 b3 b4 b5 b6 b7 b8 b9 [.i d0,.i d1,.i d2,.i d3,.i d4,.i d5,.r d6])
theorem V64.of (W:Wk Tryz.prog Tryz.f64 I64 L64 Q A sg CE CK Dn EV RR):V64 EV Q:=by
 have hA:=W.hA
 refine ⟨?_,?_⟩
 ·intro t1 t67 t68 t69 b0 b1 b2 b3 b4 b5 b6 b7 b8 b9 d0 d1 d2 d3 d4 d5 d6 h
  refine W.step 80 fun hp=>?_
  cbv
  refine ⟨imI hA fun e0=>have j0:=h.1 (ah (op:=.lss) hA e0);⟨ndI hA (An j0.1 (hA ▸ j0.2.1)),⟨fun e1=>have c1:(cIS t67 t69.toNat 0)=5:=(by have q:=(ah (op:=.eql) hA e1);subst hA;exact q);?_,fun e1=>have c1:(cIS t67 t69.toNat 0)≠5:=(by have q:=(ah (op:=.eql) hA e1);subst hA;exact q);?_⟩⟩,imI hA fun e0=>have j0:=h.2 (ah (op:=.lss) hA e0);j0⟩
  ·refine W.draw 80 (by rfl) ?_
   cbv
   subst hA
   exact ⟨(An ((j0.2.2.1 c1).1) ((j0.2.2.1 c1).2.1)),⟨fun e2=>have j2:=(j0.2.2.1 c1).2.2.1 ((ah (op:=.lss) rfl e2));(W.q j2),fun e2=>have j2:=(j0.2.2.1 c1).2.2.2 ((ah (op:=.lss) rfl e2));j2⟩⟩
  ·refine W.draw 80 (by rfl) ?_
   cbv
   subst hA
   exact ((j0.2.2.2 c1))
 ·intro t1 t10 b0 b1 b2 b3 b4 b5 b6 b7 b8 b9 d0 d1 d2 d3 d4 d5 d6 h
  refine W.step 80 fun hp=>?_
  cbv
  subst hA
  exact ⟨fun e0=>have j0:=h.1 (ah (op:=.lss) rfl e0);⟨(An j0.1 j0.2.1),⟨fun e1=>have j1:=j0.2.2.1 ((ah (op:=.eql) rfl e1));(W.q j1),fun e1=>have j1:=j0.2.2.2 ((ah (op:=.eql) rfl e1));j1⟩⟩,fun e0=>have j0:=h.2 (ah (op:=.lss) rfl e0);(W.q j0)⟩
theorem E64 {u0 u1 u2 u3:Int} {u4:RW} {u5:Int} {u6 u7 u8 u9:RW} {a1 z0 z1 z2 z3 z4 z5:Int} {z6:RW} (h:∀ EV,V64 EV Q→EZ G62 [] [.i z0,.i 0,.i 63] (fun x rs vs=>(x=0∧∃ SS,rs=[]∧vs=[.b SS]∧((SS=true→EZ G62 [] [.i z1,.i z0,.i 63] (fun x rs vs=>(x=0∧∃ SY,rs=[]∧vs=[.b SY]∧((SY=true→EZ G62 [] [.i z2,.i 1,.i 1048576] (fun x rs vs=>(x=0∧∃ Td,rs=[]∧vs=[.b Td]∧((Td=true→EZ G62 [] [.i z3,.i 1,.i z2] (fun x rs vs=>(x=0∧∃ TY,rs=[]∧vs=[.b TY]∧((TY=true→EZ G62 [] [.i z4,.i 0,.i 4096] (fun x rs vs=>(x=0∧∃ Ul,rs=[]∧vs=[.b Ul]∧((Ul=true→EZ G62 [] [.i z5,.i 0,.i 1048576] (fun x rs vs=>(x=0∧∃ Uo,rs=[]∧vs=[.b Uo]∧((Uo=false→Q 0 [] [.i 5])∧(Uo=true→EZ G100 [] [.r z6,.i (u4.length:Int),.i u5,.i (u6.length:Int),.i (u7.length:Int)] (fun x rs vs=>(x=0∧∃ Uz,rs=[]∧vs=[.i Uz]∧((Uz≠0→Q 0 [] [.i Uz])∧(Uz=0→EV 25 [] (.i a1::.r z6::.i (z6.length:Int)::.i 0::cL u0 u1 u2 u3 u4 u5 u6 u7 u8 u9 [.i z0,.i z1,.i z2,.i z3,.i z4,.i z5,.r z6]))))))))))∧(Ul=false→Q 0 [] [.i 5])))))∧(TY=false→Q 0 [] [.i 5])))))∧(Td=false→Q 0 [] [.i 5])))))∧(SY=false→Q 0 [] [.i 5])))))∧(SS=false→Q 0 [] [.i 5]))))):EZ G64 [] (cL u0 u1 u2 u3 u4 u5 u6 u7 u8 u9 [.i a1,.i z0,.i z1,.i z2,.i z3,.i z4,.i z5,.r z6]) Q:=by
 refine ak.en (I:=I64) (L:=L64) QM fun A hA CE CK Dn EV RR W hp=>?_
 have h:=h  EV (V64.of W)
 cbv
 refine W.cl h ?_
 rintro _ _ _ hp0 (⟨rfl,SS,rfl,rfl,k0⟩)
 cbv
 refine ⟨imI hA fun e1=>have j1:=k0.1 (by subst hA;exact (notE rfl e1));?_,imI hA fun e1=>have j1:=k0.2 (by subst hA;exact (notE rfl e1));(W.q j1)⟩
 refine W.cl j1 ?_
 rintro _ _ _ hp2 (⟨rfl,SY,rfl,rfl,k2⟩)
 cbv
 refine ⟨imI hA fun e3=>have j3:=k2.1 (by subst hA;exact (notE rfl e3));?_,imI hA fun e3=>have j3:=k2.2 (by subst hA;exact (notE rfl e3));(W.q j3)⟩
 refine W.cl j3 ?_
 rintro _ _ _ hp4 (⟨rfl,Td,rfl,rfl,k4⟩)
 cbv
 refine ⟨imI hA fun e5=>have j5:=k4.1 (by subst hA;exact (notE rfl e5));?_,imI hA fun e5=>have j5:=k4.2 (by subst hA;exact (notE rfl e5));(W.q j5)⟩
 refine W.cl j5 ?_
 rintro _ _ _ hp6 (⟨rfl,TY,rfl,rfl,k6⟩)
 cbv
 refine ⟨imI hA fun e7=>have j7:=k6.1 (by subst hA;exact (notE rfl e7));?_,imI hA fun e7=>have j7:=k6.2 (by subst hA;exact (notE rfl e7));(W.q j7)⟩
 refine W.cl j7 ?_
 rintro _ _ _ hp8 (⟨rfl,Ul,rfl,rfl,k8⟩)
 cbv
 refine ⟨imI hA fun e9=>have j9:=k8.1 (by subst hA;exact (notE rfl e9));?_,imI hA fun e9=>have j9:=k8.2 (by subst hA;exact (notE rfl e9));(W.q j9)⟩
 refine W.cl j9 ?_
 rintro _ _ _ hp10 (⟨rfl,Uo,rfl,rfl,k10⟩)
 cbv
 refine ⟨imI hA fun e11=>have j11:=k10.1 (by subst hA;exact (notE rfl e11));(W.q j11),imI hA fun e11=>have j11:=k10.2 (by subst hA;exact (notE rfl e11));?_⟩
 refine W.cl j11 ?_
 rintro _ _ _ hp12 (⟨rfl,Uz,rfl,rfl,k12⟩)
 cbv
 subst hA
 exact ⟨fun e13=>have j13:=k12.1 (ah (op:=.neq) rfl e13);(W.q j13),fun e13=>have j13:=k12.2 (ah (op:=.neq) rfl e13);j13⟩
structure V18 (EV Q:EP):Prop where
  p41:∀ {t102:RW} {t103 t104 b0 b1 b2 b3:Int} {b4:RW} {b5:Int} {b6 b7 b8 b9:RW},((t104 < t103→(0≤t104)∧(t102[t104.toNat]?=some (r7 t102 t104.toNat))∧(EZ G64 [] (cL b0 b1 b2 b3 b4 b5 b6 b7 b8 b9 [.i t104,.i (cIS t102 t104.toNat 0),.i (cIS t102 t104.toNat 1),.i (cIS t102 t104.toNat 2),.i (cIS t102 t104.toNat 3),.i (cIS t102 t104.toNat 4),.i (cIS t102 t104.toNat 5),.r (cRS t102 t104.toNat 6)]) (fun x rs vs=>(x=0∧∃ SX,rs=[]∧vs=[.i SX]∧((SX≠0→Q 0 [] [.i SX])∧(SX=0→EV 41 [] (.r t102::.i t103::.i (IntKind.wrap .i64 (t104 + 1))::cL b0 b1 b2 b3 b4 b5 b6 b7 b8 b9 [])))))))∧(t104≥t103→Q 0 [] [.i 0]))→EV 41 [] (.r t102::.i t103::.i t104::cL b0 b1 b2 b3 b4 b5 b6 b7 b8 b9 [])
theorem V18.of (W:Wk Tryz.prog Tryz.f18 I18 L18 Q A sg CE CK Dn EV RR):V18 EV Q:=by
 have hA:=W.hA
 refine ⟨?_⟩
 intro t102 t103 t104 b0 b1 b2 b3 b4 b5 b6 b7 b8 b9 h
 refine W.step 80 fun hp=>?_
 cbv
 refine ⟨imI hA fun e0=>have j0:=h.1 (ah (op:=.lss) hA e0);⟨ndI hA (An j0.1 (hA ▸ j0.2.1)),?_⟩,imI hA fun e0=>have j0:=h.2 (ah (op:=.lss) hA e0);(W.q j0)⟩
 refine W.cl j0.2.2 ?_
 rintro _ _ _ hp1 (⟨rfl,SX,rfl,rfl,k1⟩)
 cbv
 subst hA
 exact ⟨fun e2=>have j2:=k1.1 (ah (op:=.neq) rfl e2);(W.q j2),fun e2=>have j2:=k1.2 (ah (op:=.neq) rfl e2);j2⟩
theorem E18 {u0 u1 u2 u3:Int} {u4:RW} {u5:Int} {u6 u7 u8 u9:RW} (h:∀ EV,V18 EV Q→EZ G62 [] [.i u0,.i 1,.i 16] (fun x rs vs=>(x=0∧∃ SS,rs=[]∧vs=[.b SS]∧((SS=true→EZ G62 [] [.i u1,.i 1,.i 4] (fun x rs vs=>(x=0∧∃ SY,rs=[]∧vs=[.b SY]∧((SY=true→EZ G62 [] [.i u2,.i 1,.i 100] (fun x rs vs=>(x=0∧∃ Td,rs=[]∧vs=[.b Td]∧((Td=true→EZ G62 [] [.i u3,.i u2,.i 100] (fun x rs vs=>(x=0∧∃ TY,rs=[]∧vs=[.b TY]∧((TY=false→Q 0 [] [.i 5])∧(TY=true→((u4.length:Int)≤4→(u5≤4→((u6.length:Int)≤4→((u7.length:Int)≤4→((u8.length:Int)≤8→((u9.length:Int) > 8→Q 0 [] [.i 4])∧((u9.length:Int)≤8→((u8.length:Int)≠0→(u5 < 0→Q 0 [] [.i 1])∧(u5≥0→EZ G63 [] [.r u4,.i 1,.i 8] (fun x rs vs=>(x=0∧∃ Vs,rs=[]∧vs=[.b Vs]∧((Vs=true→EZ G63 [] [.r u6,.i 1,.i 8] (fun x rs vs=>(x=0∧∃ WT,rs=[]∧vs=[.b WT]∧((WT=true→EZ G63 [] [.r u7,.i 0,.i 63] (fun x rs vs=>(x=0∧∃ WS,rs=[]∧vs=[.b WS]∧((WS=true→EZ G63 [] [.r u9,.i 0,.i (IntKind.wrap .i64 ((u8.length:Int) - 1))] (fun x rs vs=>(x=0∧∃ WR,rs=[]∧vs=[.b WR]∧((WR=false→Q 0 [] [.i 5])∧(WR=true→EV 41 [] (.r u8::.i (u8.length:Int)::.i 0::cL u0 u1 u2 u3 u4 u5 u6 u7 u8 u9 []))))))∧(WS=false→Q 0 [] [.i 5])))))∧(WT=false→Q 0 [] [.i 5])))))∧(Vs=false→Q 0 [] [.i 5]))))))∧((u8.length:Int)=0→Q 0 [] [.i 1])))∧((u8.length:Int) > 8→Q 0 [] [.i 4]))∧((u7.length:Int) > 4→Q 0 [] [.i 4]))∧((u6.length:Int) > 4→Q 0 [] [.i 4]))∧(u5 > 4→Q 0 [] [.i 4]))∧((u4.length:Int) > 4→Q 0 [] [.i 4]))))))∧(Td=false→Q 0 [] [.i 5])))))∧(SY=false→Q 0 [] [.i 5])))))∧(SS=false→Q 0 [] [.i 5]))))):EZ G18 [] (cL u0 u1 u2 u3 u4 u5 u6 u7 u8 u9 []) Q:=by
 refine ak.en (I:=I18) (L:=L18) Sj fun A hA CE CK Dn EV RR W hp=>?_
 have h:=h  EV (V18.of W)
 cbv
 refine W.cl h ?_
 rintro _ _ _ hp0 (⟨rfl,SS,rfl,rfl,k0⟩)
 cbv
 refine ⟨imI hA fun e1=>have j1:=k0.1 (by subst hA;exact (notE rfl e1));?_,imI hA fun e1=>have j1:=k0.2 (by subst hA;exact (notE rfl e1));(W.q j1)⟩
 refine W.cl j1 ?_
 rintro _ _ _ hp2 (⟨rfl,SY,rfl,rfl,k2⟩)
 cbv
 refine ⟨imI hA fun e3=>have j3:=k2.1 (by subst hA;exact (notE rfl e3));?_,imI hA fun e3=>have j3:=k2.2 (by subst hA;exact (notE rfl e3));(W.q j3)⟩
 refine W.cl j3 ?_
 rintro _ _ _ hp4 (⟨rfl,Td,rfl,rfl,k4⟩)
 cbv
 refine ⟨imI hA fun e5=>have j5:=k4.1 (by subst hA;exact (notE rfl e5));?_,imI hA fun e5=>have j5:=k4.2 (by subst hA;exact (notE rfl e5));(W.q j5)⟩
 refine W.cl j5 ?_
 rintro _ _ _ hp6 (⟨rfl,TY,rfl,rfl,k6⟩)
 cbv
 refine ⟨imI hA fun e7=>have j7:=k6.1 (by subst hA;exact (notE rfl e7));(W.q j7),imI hA fun e7=>have j7:=k6.2 (by subst hA;exact (notE rfl e7));⟨imI hA fun e8=>have j8:=j7.1 (by subst hA;exact (ah (op:=.gtr) rfl e8));⟨imI hA fun e9=>have j9:=j8.1 (ah (op:=.gtr) hA e9);⟨imI hA fun e10=>have j10:=j9.1 (by subst hA;exact (ah (op:=.gtr) rfl e10));⟨imI hA fun e11=>have j11:=j10.1 (by subst hA;exact (ah (op:=.gtr) rfl e11));⟨imI hA fun e12=>have j12:=j11.1 (by subst hA;exact (ah (op:=.gtr) rfl e12));⟨imI hA fun e13=>have j13:=j12.1 (by subst hA;exact (ah (op:=.gtr) rfl e13));(W.q j13),imI hA fun e13=>have j13:=j12.2 (by subst hA;exact (ah (op:=.gtr) rfl e13));⟨imI hA fun e14=>have j14:=j13.1 (by subst hA;exact (ah (op:=.eql) rfl e14));⟨imI hA fun e15=>have j15:=j14.1 (ah (op:=.lss) hA e15);(W.q j15),imI hA fun e15=>have j15:=j14.2 (ah (op:=.lss) hA e15);?_⟩,imI hA fun e14=>have j14:=j13.2 (by subst hA;exact (ah (op:=.eql) rfl e14));(W.q j14)⟩⟩,imI hA fun e12=>have j12:=j11.2 (by subst hA;exact (ah (op:=.gtr) rfl e12));(W.q j12)⟩,imI hA fun e11=>have j11:=j10.2 (by subst hA;exact (ah (op:=.gtr) rfl e11));(W.q j11)⟩,imI hA fun e10=>have j10:=j9.2 (by subst hA;exact (ah (op:=.gtr) rfl e10));(W.q j10)⟩,imI hA fun e9=>have j9:=j8.2 (ah (op:=.gtr) hA e9);(W.q j9)⟩,imI hA fun e8=>have j8:=j7.2 (by subst hA;exact (ah (op:=.gtr) rfl e8));(W.q j8)⟩⟩
 refine W.cl j15 ?_
 rintro _ _ _ hp16 (⟨rfl,Vs,rfl,rfl,k16⟩)
 cbv
 refine ⟨imI hA fun e17=>have j17:=k16.1 (by subst hA;exact (notE rfl e17));?_,imI hA fun e17=>have j17:=k16.2 (by subst hA;exact (notE rfl e17));(W.q j17)⟩
 refine W.cl j17 ?_
 rintro _ _ _ hp18 (⟨rfl,WT,rfl,rfl,k18⟩)
 cbv
 refine ⟨imI hA fun e19=>have j19:=k18.1 (by subst hA;exact (notE rfl e19));?_,imI hA fun e19=>have j19:=k18.2 (by subst hA;exact (notE rfl e19));(W.q j19)⟩
 refine W.cl j19 ?_
 rintro _ _ _ hp20 (⟨rfl,WS,rfl,rfl,k20⟩)
 cbv
 refine ⟨imI hA fun e21=>have j21:=k20.1 (by subst hA;exact (notE rfl e21));?_,imI hA fun e21=>have j21:=k20.2 (by subst hA;exact (notE rfl e21));(W.q j21)⟩
 refine W.cl j21 ?_
 rintro _ _ _ hp22 (⟨rfl,WR,rfl,rfl,k22⟩)
 cbv
 subst hA
 exact ⟨fun e23=>have j23:=k22.1 ((notE rfl e23));(W.q j23),fun e23=>have j23:=k22.2 ((notE rfl e23));j23⟩
structure V20 (EV Q:EP):Prop where
  p7:∀ {t6:RW} {t7 t8:Int},((t8 < t7→(0≤t8)∧(t6[t8.toNat]?=some (r7 t6 t8.toNat))∧((cIS t6 t8.toNat 2)≤1500→(((List.length (cRS t6 t8.toNat 6)):Int) > 30→Q 0 [] [.b false])∧(((List.length (cRS t6 t8.toNat 6)):Int)≤30→EV 7 [] [.r t6,.i t7,.i (IntKind.wrap .i64 (t8 + 1))]))∧((cIS t6 t8.toNat 2) > 1500→Q 0 [] [.b false]))∧(t8≥t7→Q 0 [] [.b true]))→EV 7 [] [.r t6,.i t7,.i t8]
theorem V20.of (W:Wk Tryz.prog Tryz.f20 I20 L20 Q A sg CE CK Dn EV RR):V20 EV Q:=by
 have hA:=W.hA
 refine ⟨?_⟩
 intro t6 t7 t8 h
 refine W.step 80 fun hp=>?_
 cbv
 subst hA
 exact ⟨fun e0=>have j0:=h.1 (ah (op:=.lss) rfl e0);⟨(An j0.1 j0.2.1),⟨fun e1=>have j1:=j0.2.2.1 ((ah (op:=.gtr) rfl e1));⟨fun e2=>have j2:=j1.1 ((ah (op:=.gtr) rfl e2));(W.q j2),fun e2=>have j2:=j1.2 ((ah (op:=.gtr) rfl e2));j2⟩,fun e1=>have j1:=j0.2.2.2 ((ah (op:=.gtr) rfl e1));(W.q j1)⟩⟩,fun e0=>have j0:=h.2 (ah (op:=.lss) rfl e0);(W.q j0)⟩
theorem E20 {u0 u1 u2 u3:Int} {u4:RW} {u5:Int} {u6 u7 u8 u9:RW} (h:∀ EV,V20 EV Q→EV 7 [] [.r u8,.i (u8.length:Int),.i 0]):EZ G20 [] (cL u0 u1 u2 u3 u4 u5 u6 u7 u8 u9 []) Q:=by
 refine ak.en (I:=I20) (L:=L20) RZ fun A hA CE CK Dn EV RR W hp=>?_
 have h:=h  EV (V20.of W)
 cbv
 subst hA
 exact h
end Go.Ab
