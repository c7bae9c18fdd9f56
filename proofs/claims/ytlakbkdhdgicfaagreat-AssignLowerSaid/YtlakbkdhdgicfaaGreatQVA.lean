import Derived.Test.YtlakbkdhdgicfaaGreatQS
import Derived.Test.YtlakbkdhdgicfaaGreatLayE
/- PRINTED BY A PROGRAM (wip/tools/vc.py, AbVc.lean): what is to be shown of each function, from place to place, and that it is enough. -/
namespace Go.Ab
open Go Go.Proofs
set_option linter.unusedVariables false
set_option linter.unusedSimpArgs false
set_option maxRecDepth 100000
set_option maxHeartbeats 0
variable {Q EV RR : EP} {A : Ar} {CE : Nat → Rs → List Lf → EP → Prop} {CK : Nat → Rs → List Lf → Cont → Prop} {Dn : Nat → List Bool → List bf → Nat → List Bool → List AV → List aj → Prop}

-- 116: signalbox/conf.within$1
structure V116 (EV Q : EP) : Prop where
  none : True

theorem E116 {a0 ab0 ab1 : Int} (h : ∀ EV, V116 EV Q → (a0 ≥ ab0 → Q 0 [] [.b (decide (a0 > ab1)), .i ab0, .i ab1]) ∧ (a0 < ab0 → Q 0 [] [.b true, .i ab0, .i ab1])) : EZ G116 [] [.i a0, .i ab0, .i ab1] Q := by
 refine ak.en (I := I116) (L := L116) LD fun A hA CE CK Dn EV RR W hp => ?_
 have h := h  EV ⟨trivial⟩
 cbv
 subst hA
 exact ⟨fun e0 => have j0 := h.1 (ah (op := .lss) rfl e0); (W.q j0), fun e0 => have j0 := h.2 (ah (op := .lss) rfl e0); (W.q j0)⟩

-- 146: slices.IndexFunc[[]int,int]
structure V146 (EV Q : EP) : Prop where
  p7 : ∀ {t0 : RW} {t7 t8 tb0 tb1 : Int}, ((t8 < t7 → (0 ≤ t8) ∧ (t0[t8.toNat]? = some [.int .i64 (cIS t0 t8.toNat 0)]) ∧ (EZ G116 [] [.i (cIS t0 t8.toNat 0), .i tb0, .i tb1] (fun x rs vs => (x = 0 ∧ ∃ y1_0 y1_b0 y1_b1, rs = [] ∧ vs = [.b y1_0, .i y1_b0, .i y1_b1] ∧ ((y1_0 = true → Q 0 [] [.i t8, .i y1_b0, .i y1_b1]) ∧ (y1_0 = false → EV 7 [] [.r t0, .i t7, .i (IntKind.wrap .i64 (t8 + 1)), .i y1_b0, .i y1_b1])))))) ∧ (t8 ≥ t7 → Q 0 [] [.i (-1), .i tb0, .i tb1])) → EV 7 [] [.r t0, .i t7, .i t8, .i tb0, .i tb1]

theorem V146.of (W : Wk Tryz.prog Tryz.f146 I146 L146 Q A sg CE CK Dn EV RR) : V146 EV Q := by
 have hA := W.hA
 refine ⟨?_⟩
 intro t0 t7 t8 tb0 tb1 h
 refine W.step 80 fun hp => ?_
 cbv
 refine ⟨imI hA fun e0 => have j0 := h.1 (ah (op := .lss) hA e0); ⟨ndI hA (An j0.1 (hA ▸ j0.2.1)), ?_⟩, imI hA fun e0 => have j0 := h.2 (ah (op := .lss) hA e0); (W.q j0)⟩
 refine W.cl j0.2.2 ?_
 rintro _ _ _ hp1 (⟨rfl, y1_0, y1_b0, y1_b1, rfl, rfl, k1⟩)
 cbv
 subst hA
 exact ⟨fun e2 => have j2 := k1.1 e2; (W.q j2), fun e2 => have j2 := k1.2 e2; j2⟩

theorem E146 {a0 : RW} {ab0 ab1 : Int} (h : ∀ EV, V146 EV Q → EV 7 [] [.r a0, .i (a0.length : Int), .i 0, .i ab0, .i ab1]) : EZ G146 [] [.r a0, .i ab0, .i ab1] Q := by
 refine ak.en (I := I146) (L := L146) KL fun A hA CE CK Dn EV RR W hp => ?_
 have h := h  EV (V146.of W)
 cbv
 subst hA
 exact h

-- 115: slices.ContainsFunc[[]int,int]
structure V115 (EV Q : EP) : Prop where
  none : True

theorem E115 {a0 : RW} {ab0 ab1 : Int} (h : ∀ EV, V115 EV Q → EZ G146 [] [.r a0, .i ab0, .i ab1] (fun x rs vs => (x = 0 ∧ ∃ y0_0 y0_b0 y0_b1, rs = [] ∧ vs = [.i y0_0, .i y0_b0, .i y0_b1] ∧ (Q 0 [] [.b (decide (y0_0 ≥ 0)), .i y0_b0, .i y0_b1])))) : EZ G115 [] [.r a0, .i ab0, .i ab1] Q := by
 refine ak.en (I := I115) (L := L115) LG fun A hA CE CK Dn EV RR W hp => ?_
 have h := h  EV ⟨trivial⟩
 cbv
 refine W.cl h ?_
 rintro _ _ _ hp0 (⟨rfl, y0_0, y0_b0, y0_b1, rfl, rfl, k0⟩)
 cbv
 subst hA
 exact (W.q k0)

-- 90: signalbox/conf.within
structure V90 (EV Q : EP) : Prop where
  none : True

theorem E90 {a0 a1 : Int} {a2 : RW} (h : ∀ EV, V90 EV Q → EZ G115 [] [.r a2, .i a0, .i a1] (fun x rs vs => (x = 0 ∧ ∃ y0_0 y0_b0 y0_b1, rs = [] ∧ vs = [.b y0_0, .i y0_b0, .i y0_b1] ∧ (Q 0 [] [.b (!y0_0)])))) : EZ G90 [] [.i a0, .i a1, .r a2] Q := by
 refine ak.en (I := I90) (L := L90) Qr fun A hA CE CK Dn EV RR W hp => ?_
 have h := h  EV ⟨trivial⟩
 cbv
 refine W.cl h ?_
 rintro _ _ _ hp0 (⟨rfl, y0_0, y0_b0, y0_b1, rfl, rfl, k0⟩)
 cbv
 subst hA
 exact (W.q k0)

-- 89: signalbox/conf.machine
structure V89 (EV Q : EP) : Prop where
  none : True

theorem E89 {u0 u1 u2 u3 : Int} (h : ∀ EV, V89 EV Q → EZ G90 [] [.i 1, .i 16, .r (List.take 1 (List.drop 0 [[(AV.int .i64 u0)]]))] (fun x rs vs => (x = 0 ∧ ∃ y0_0, rs = [] ∧ vs = [.b y0_0] ∧ ((y0_0 = true → EZ G90 [] [.i 1, .i 4, .r (List.take 1 (List.drop 0 [[(AV.int .i64 u1)]]))] (fun x rs vs => (x = 0 ∧ ∃ y2_0, rs = [] ∧ vs = [.b y2_0] ∧ ((y2_0 = true → EZ G90 [] [.i 1, .i 100, .r (List.take 1 (List.drop 0 [[(AV.int .i64 u2)]]))] (fun x rs vs => (x = 0 ∧ ∃ y4_0, rs = [] ∧ vs = [.b y4_0] ∧ ((y4_0 = true → EZ G90 [] [.i u2, .i 100, .r (List.take 1 (List.drop 0 [[(AV.int .i64 u3)]]))] (fun x rs vs => (x = 0 ∧ ∃ y6_0, rs = [] ∧ vs = [.b y6_0] ∧ (Q 0 [] [.b y6_0])))) ∧ (y4_0 = false → Q 0 [] [.b false]))))) ∧ (y2_0 = false → Q 0 [] [.b false]))))) ∧ (y0_0 = false → Q 0 [] [.b false]))))) : EZ G89 [] [.i u0, .i u1, .i u2, .i u3] Q := by
 refine ak.en (I := I89) (L := L89) Qs fun A hA CE CK Dn EV RR W hp => ?_
 have h := h  EV ⟨trivial⟩
 cbv
 refine ⟨ndI hA (An (An aQ trivial) (An (hA ▸ rfl) trivial)), ?_⟩
 refine W.cl h ?_
 rintro _ _ _ hp0 (⟨rfl, y0_0, rfl, rfl, k0⟩)
 cbv
 refine ⟨imI hA fun e1 => have j1 := k0.1 e1; ⟨ndI hA (An (An aQ trivial) (An (hA ▸ rfl) trivial)), ?_⟩, imI hA fun e1 => have j1 := k0.2 e1; (W.q j1)⟩
 refine W.cl j1 ?_
 rintro _ _ _ hp2 (⟨rfl, y2_0, rfl, rfl, k2⟩)
 cbv
 refine ⟨imI hA fun e3 => have j3 := k2.1 e3; ⟨ndI hA (An (An aQ trivial) (An (hA ▸ rfl) trivial)), ?_⟩, imI hA fun e3 => have j3 := k2.2 e3; (W.q j3)⟩
 refine W.cl j3 ?_
 rintro _ _ _ hp4 (⟨rfl, y4_0, rfl, rfl, k4⟩)
 cbv
 refine ⟨imI hA fun e5 => have j5 := k4.1 e5; ⟨ndI hA (An (An aQ trivial) (An (hA ▸ rfl) trivial)), ?_⟩, imI hA fun e5 => have j5 := k4.2 e5; (W.q j5)⟩
 refine W.cl j5 ?_
 rintro _ _ _ hp6 (⟨rfl, y6_0, rfl, rfl, k6⟩)
 cbv
 subst hA
 exact (W.q k6)

-- 118: signalbox/conf.Room
structure V118 (EV Q : EP) : Prop where
  none : True

theorem E118 {u0 u1 u2 u3 : Int} {u4 : RW} {u5 : Int} {u6 u7 u8 u9 : RW} (h : ∀ EV, V118 EV Q → Q 0 [] [.i (u4.length : Int), .i u5, .i (u6.length : Int), .i (u7.length : Int)]) : EZ G118 [] [.i u0, .i u1, .i u2, .i u3, .r u4, .i u5, .r u6, .r u7, .r u8, .r u9] Q := by
 refine ak.en (I := I118) (L := L118) Lu fun A hA CE CK Dn EV RR W hp => ?_
 have h := h  EV ⟨trivial⟩
 cbv
 subst hA
 exact (W.q h)

-- 189: signalbox/prog.kinds
structure V189 (EV Q : EP) : Prop where
  none : True

theorem E189  (h : ∀ EV, V189 EV Q → Q 0 [] [.r [[(AV.str (ByteArray.mk (Array.mk []))), (AV.int .i64 (-1))], [(AV.str (ByteArray.mk (Array.mk [99, 111, 109, 112, 117, 116, 101]))), (AV.int .i64 1)], [(AV.str (ByteArray.mk (Array.mk [97, 99, 99, 101, 115, 115]))), (AV.int .i64 1)], [(AV.str (ByteArray.mk (Array.mk [101, 110, 116, 101, 114]))), (AV.int .i64 0)], [(AV.str (ByteArray.mk (Array.mk [101, 120, 105, 116]))), (AV.int .i64 0)], [(AV.str (ByteArray.mk (Array.mk [108, 111, 99, 107]))), (AV.int .i64 1)], [(AV.str (ByteArray.mk (Array.mk [117, 110, 108, 111, 99, 107]))), (AV.int .i64 1)], [(AV.str (ByteArray.mk (Array.mk [112, 117, 115, 104]))), (AV.int .i64 1)], [(AV.str (ByteArray.mk (Array.mk [112, 111, 112]))), (AV.int .i64 1)], [(AV.str (ByteArray.mk (Array.mk [115, 101, 110, 100]))), (AV.int .i64 2)], [(AV.str (ByteArray.mk (Array.mk [114, 101, 99, 118]))), (AV.int .i64 1)], [(AV.str (ByteArray.mk (Array.mk [115, 101, 116]))), (AV.int .i64 2)], [(AV.str (ByteArray.mk (Array.mk [99, 108, 101, 97, 114]))), (AV.int .i64 2)], [(AV.str (ByteArray.mk (Array.mk [116, 101, 115, 116]))), (AV.int .i64 2)], [(AV.str (ByteArray.mk (Array.mk [103, 105, 118, 101]))), (AV.int .i64 1)], [(AV.str (ByteArray.mk (Array.mk [116, 97, 107, 101]))), (AV.int .i64 1)]]]) : EZ G189 [] [] Q := by
 refine ak.en (I := I189) (L := L189) J3 fun A hA CE CK Dn EV RR W hp => ?_
 have h := h  EV ⟨trivial⟩
 cbv
 subst hA
 exact (W.q h)

-- 167: signalbox/prog.Numbers
structure V167 (EV Q : EP) : Prop where
  none : True

theorem E167 {a0 : Int} (h : ∀ EV, V167 EV Q → EZ G189 [] [] (fun x rs vs => (x = 0 ∧ ∃ y0_0, rs = [] ∧ vs = [.r y0_0] ∧ ((a0 ≥ 0 → (a0 ≥ (y0_0.length : Int) → Q 0 [] [.i (-1)]) ∧ (a0 < (y0_0.length : Int) → (0 ≤ a0) ∧ (y0_0[a0.toNat]? = some [.str (cSS y0_0 a0.toNat 0), .int .i64 (cIS y0_0 a0.toNat 1)]) ∧ (Q 0 [] [.i (cIS y0_0 a0.toNat 1)]))) ∧ (a0 < 0 → Q 0 [] [.i (-1)]))))) : EZ G167 [] [.i a0] Q := by
 refine ak.en (I := I167) (L := L167) Kq fun A hA CE CK Dn EV RR W hp => ?_
 have h := h  EV ⟨trivial⟩
 cbv
 refine W.cl h ?_
 rintro _ _ _ hp0 (⟨rfl, y0_0, rfl, rfl, k0⟩)
 cbv
 subst hA
 exact ⟨fun e1 => have j1 := k0.1 (ah (op := .lss) rfl e1); ⟨fun e2 => have j2 := j1.1 ((ah (op := .geq) rfl e2)); (W.q j2), fun e2 => have j2 := j1.2 ((ah (op := .geq) rfl e2)); ⟨(An j2.1 j2.2.1), (W.q j2.2.2)⟩⟩, fun e1 => have j1 := k0.2 (ah (op := .lss) rfl e1); (W.q j1)⟩

-- 190: (signalbox/prog.Room).spans$1
structure V190 (EV Q : EP) : Prop where
  none : True

theorem E190 {a0 : Int} (h : ∀ EV, V190 EV Q → Q 0 [] [.i 0, .i (IntKind.wrap .i64 (a0 - 1))]) : EZ G190 [] [.i a0] Q := by
 refine ak.en (I := I190) (L := L190) JZ fun A hA CE CK Dn EV RR W hp => ?_
 have h := h  EV ⟨trivial⟩
 cbv
 subst hA
 exact (W.q h)

-- 168: (signalbox/prog.Room).spans DRAWN
structure V168 (EV Q : EP) : Prop where
  p24 : ∀ {t9 : Int} {t16 : Bool} {b0 b1 b2 b3 d0 d1 f0 f1 g0 g1 : Int}, ((t16 = true → EZ G190 [] [.i b3] (fun x rs vs => (x = 0 ∧ ∃ y1a0 y1a1, rs = [] ∧ vs = [.i y1a0, .i y1a1] ∧ (Q 0 [] [.i y1a0, .i y1a1, .i f0, .i f1])))) ∧ (t16 = false → (t9 = 7 → EV 32 [] [.i t9, .b true, .i b0, .i b1, .i b2, .i b3, .i d0, .i d1, .i f0, .i f1, .i g0, .i g1]) ∧ (t9 ≠ 7 → EV 32 [] [.i t9, .b (t9 == 8), .i b0, .i b1, .i b2, .i b3, .i d0, .i d1, .i f0, .i f1, .i g0, .i g1]))) → EV 24 [] [.i t9, .b t16, .i b0, .i b1, .i b2, .i b3, .i d0, .i d1, .i f0, .i f1, .i g0, .i g1]
  p32 : ∀ {t9 : Int} {t23 : Bool} {b0 b1 b2 b3 d0 d1 f0 f1 g0 g1 : Int}, ((t23 = true → Q 0 [] [.i 1, .i 4096, .i f0, .i f1]) ∧ (t23 = false → (t9 = 9 → EZ G190 [] [.i b0] (fun x rs vs => (x = 0 ∧ ∃ y2a0 y2a1, rs = [] ∧ vs = [.i y2a0, .i y2a1] ∧ (Q 0 [] [.i y2a0, .i y2a1, .i g0, .i g1])))) ∧ (t9 ≠ 9 → (t9 = 10 → EZ G190 [] [.i b0] (fun x rs vs => (x = 0 ∧ ∃ y3a0 y3a1, rs = [] ∧ vs = [.i y3a0, .i y3a1] ∧ (Q 0 [] [.i y3a0, .i y3a1, .i f0, .i f1])))) ∧ (t9 ≠ 10 → (t9 = 11 → EV 52 [] [.i t9, .b true, .i b0, .i b1, .i b2, .i b3, .i d0, .i d1, .i f0, .i f1, .i g0, .i g1]) ∧ (t9 ≠ 11 → (t9 = 12 → EV 52 [] [.i t9, .b true, .i b0, .i b1, .i b2, .i b3, .i d0, .i d1, .i f0, .i f1, .i g0, .i g1]) ∧ (t9 ≠ 12 → EV 52 [] [.i t9, .b (t9 == 13), .i b0, .i b1, .i b2, .i b3, .i d0, .i d1, .i f0, .i f1, .i g0, .i g1])))))) → EV 32 [] [.i t9, .b t23, .i b0, .i b1, .i b2, .i b3, .i d0, .i d1, .i f0, .i f1, .i g0, .i g1]
  p52 : ∀ {t9 : Int} {t40 : Bool} {b0 b1 b2 b3 d0 d1 f0 f1 g0 g1 : Int}, ((t40 = true → EZ G190 [] [.i b1] (fun x rs vs => (x = 0 ∧ ∃ y1a0 y1a1, rs = [] ∧ vs = [.i y1a0, .i y1a1] ∧ (Q 0 [] [.i y1a0, .i y1a1, .i g0, .i g1])))) ∧ (t40 = false → (t9 = 14 → EV 60 [] [.b true, .i b0, .i b1, .i b2, .i b3, .i d0, .i d1, .i f0, .i f1]) ∧ (t9 ≠ 14 → EV 60 [] [.b (t9 == 15), .i b0, .i b1, .i b2, .i b3, .i d0, .i d1, .i f0, .i f1]))) → EV 52 [] [.i t9, .b t40, .i b0, .i b1, .i b2, .i b3, .i d0, .i d1, .i f0, .i f1, .i g0, .i g1]
  p60 : ∀ {t49 : Bool} {b0 b1 b2 b3 d0 d1 f0 f1 : Int}, ((t49 = true → EZ G190 [] [.i b2] (fun x rs vs => (x = 0 ∧ ∃ y1a0 y1a1, rs = [] ∧ vs = [.i y1a0, .i y1a1] ∧ (Q 0 [] [.i y1a0, .i y1a1, .i f0, .i f1])))) ∧ (t49 = false → Q 0 [] [.i d0, .i d1, .i f0, .i f1])) → EV 60 [] [.b t49, .i b0, .i b1, .i b2, .i b3, .i d0, .i d1, .i f0, .i f1]

theorem V168.of (W : Wk Tryz.prog Tryz.f168 I168 L168 Q A sg CE CK Dn EV RR) : V168 EV Q := by
 have hA := W.hA
 refine ⟨?_, ?_, ?_, ?_⟩
 ·intro t9 t16 b0 b1 b2 b3 d0 d1 f0 f1 g0 g1 h
  refine W.step 80 fun hp => ?_
  cbv
  refine ⟨imI hA fun e0 => have j0 := h.1 e0; ?_, imI hA fun e0 => have j0 := h.2 e0; ⟨imI hA fun e1 => have j1 := j0.1 (ah (op := .eql) hA e1); j1, imI hA fun e1 => have j1 := j0.2 (ah (op := .eql) hA e1); (hA ▸ j1)⟩⟩
  refine W.cl j0 ?_
  rintro _ _ _ hp1 (⟨rfl, y1a0, y1a1, rfl, rfl, k1⟩)
  cbv
  subst hA
  exact ⟨⟨⟨⟨(W.q k1), trivial⟩, trivial⟩, ⟨⟨⟨(W.q k1), trivial⟩, trivial⟩, trivial⟩⟩, ⟨⟨⟨⟨(W.q k1), trivial⟩, trivial⟩, trivial⟩, trivial⟩⟩
 ·intro t9 t23 b0 b1 b2 b3 d0 d1 f0 f1 g0 g1 h
  refine W.step 80 fun hp => ?_
  cbv
  refine ⟨imI hA fun e0 => have j0 := h.1 e0; ⟨⟨⟨⟨(W.q j0), trivial⟩, trivial⟩, ⟨⟨⟨(W.q j0), trivial⟩, trivial⟩, trivial⟩⟩, ⟨⟨⟨⟨(W.q j0), trivial⟩, trivial⟩, trivial⟩, trivial⟩⟩, imI hA fun e0 => have j0 := h.2 e0; ⟨imI hA fun e1 => have j1 := j0.1 (ah (op := .eql) hA e1); ⟨?_, trivial⟩, imI hA fun e1 => have j1 := j0.2 (ah (op := .eql) hA e1); ⟨imI hA fun e2 => have j2 := j1.1 (ah (op := .eql) hA e2); ?_, imI hA fun e2 => have j2 := j1.2 (ah (op := .eql) hA e2); ⟨imI hA fun e3 => have j3 := j2.1 (ah (op := .eql) hA e3); j3, imI hA fun e3 => have j3 := j2.2 (ah (op := .eql) hA e3); ⟨imI hA fun e4 => have j4 := j3.1 (ah (op := .eql) hA e4); j4, imI hA fun e4 => have j4 := j3.2 (ah (op := .eql) hA e4); (hA ▸ j4)⟩⟩⟩⟩⟩
  ·refine W.cd j1 ?_
   rintro _ _ _ hp2 (⟨rfl, y2a0, y2a1, rfl, rfl, k2⟩)
   cbv
   refine W.draw 80 (by rfl) ?_
   cbv
   subst hA
   exact ⟨⟨⟨⟨⟨⟨(W.q k2), trivial⟩, trivial⟩, ⟨⟨⟨(W.q k2), trivial⟩, trivial⟩, trivial⟩⟩, ⟨⟨⟨⟨(W.q k2), trivial⟩, trivial⟩, trivial⟩, trivial⟩⟩, trivial⟩, trivial⟩
  ·refine W.cl j2 ?_
   rintro _ _ _ hp3 (⟨rfl, y3a0, y3a1, rfl, rfl, k3⟩)
   cbv
   subst hA
   exact ⟨⟨⟨⟨(W.q k3), trivial⟩, trivial⟩, ⟨⟨⟨(W.q k3), trivial⟩, trivial⟩, trivial⟩⟩, ⟨⟨⟨⟨(W.q k3), trivial⟩, trivial⟩, trivial⟩, trivial⟩⟩
 ·intro t9 t40 b0 b1 b2 b3 d0 d1 f0 f1 g0 g1 h
  refine W.step 80 fun hp => ?_
  cbv
  refine ⟨imI hA fun e0 => have j0 := h.1 e0; ⟨?_, trivial⟩, imI hA fun e0 => have j0 := h.2 e0; ⟨imI hA fun e1 => have j1 := j0.1 (ah (op := .eql) hA e1); j1, imI hA fun e1 => have j1 := j0.2 (ah (op := .eql) hA e1); (hA ▸ j1)⟩⟩
  refine W.cd j0 ?_
  rintro _ _ _ hp1 (⟨rfl, y1a0, y1a1, rfl, rfl, k1⟩)
  cbv
  refine W.draw 80 (by rfl) ?_
  cbv
  subst hA
  exact ⟨⟨⟨⟨⟨⟨(W.q k1), trivial⟩, trivial⟩, ⟨⟨⟨(W.q k1), trivial⟩, trivial⟩, trivial⟩⟩, ⟨⟨⟨⟨(W.q k1), trivial⟩, trivial⟩, trivial⟩, trivial⟩⟩, trivial⟩, trivial⟩
 ·intro t49 b0 b1 b2 b3 d0 d1 f0 f1 h
  refine W.step 80 fun hp => ?_
  cbv
  refine ⟨imI hA fun e0 => have j0 := h.1 e0; ?_, imI hA fun e0 => have j0 := h.2 e0; ⟨⟨⟨⟨(W.q j0), trivial⟩, trivial⟩, ⟨⟨⟨(W.q j0), trivial⟩, trivial⟩, trivial⟩⟩, ⟨⟨⟨⟨(W.q j0), trivial⟩, trivial⟩, trivial⟩, trivial⟩⟩⟩
  refine W.cl j0 ?_
  rintro _ _ _ hp1 (⟨rfl, y1a0, y1a1, rfl, rfl, k1⟩)
  cbv
  subst hA
  exact ⟨⟨⟨⟨(W.q k1), trivial⟩, trivial⟩, ⟨⟨⟨(W.q k1), trivial⟩, trivial⟩, trivial⟩⟩, ⟨⟨⟨⟨(W.q k1), trivial⟩, trivial⟩, trivial⟩, trivial⟩⟩

theorem E168 {u0 u1 u2 u3 a1 : Int} (h : ∀ EV, V168 EV Q → (a1 = 1 → Q 0 [] [.i 1, .i 1000, .i 0, .i 0]) ∧ (a1 ≠ 1 → (a1 = 2 → Q 0 [] [.i 0, .i 255, .i 0, .i 0]) ∧ (a1 ≠ 2 → (a1 = 5 → EV 24 [] [.i a1, .b true, .i u0, .i u1, .i u2, .i u3, .i 0, .i 0, .i 0, .i 0, .i 0, .i 255]) ∧ (a1 ≠ 5 → EV 24 [] [.i a1, .b (a1 == 6), .i u0, .i u1, .i u2, .i u3, .i 0, .i 0, .i 0, .i 0, .i 0, .i 255])))) : EZ G168 [] [.i u0, .i u1, .i u2, .i u3, .i a1] Q := by
 refine ak.en (I := I168) (L := L168) Ko fun A hA CE CK Dn EV RR W hp => ?_
 have h := h  EV (V168.of W)
 cbv
 subst hA
 exact ⟨fun e0 => have j0 := h.1 (ah (op := .eql) rfl e0); ⟨⟨⟨⟨(W.q j0), trivial⟩, trivial⟩, ⟨⟨⟨(W.q j0), trivial⟩, trivial⟩, trivial⟩⟩, ⟨⟨⟨⟨(W.q j0), trivial⟩, trivial⟩, trivial⟩, trivial⟩⟩, fun e0 => have j0 := h.2 (ah (op := .eql) rfl e0); ⟨fun e1 => have j1 := j0.1 (ah (op := .eql) rfl e1); ⟨⟨⟨⟨(W.q j1), trivial⟩, trivial⟩, ⟨⟨⟨(W.q j1), trivial⟩, trivial⟩, trivial⟩⟩, ⟨⟨⟨⟨(W.q j1), trivial⟩, trivial⟩, trivial⟩, trivial⟩⟩, fun e1 => have j1 := j0.2 (ah (op := .eql) rfl e1); ⟨fun e2 => have j2 := j1.1 (ah (op := .eql) rfl e2); j2, fun e2 => have j2 := j1.2 (ah (op := .eql) rfl e2); j2⟩⟩⟩

-- 169: (signalbox/prog.span).has
structure V169 (EV Q : EP) : Prop where
  none : True

theorem E169 {u0 u1 a1 : Int} (h : ∀ EV, V169 EV Q → (a1 ≥ u0 → Q 0 [] [.b (decide (a1 ≤ u1))]) ∧ (a1 < u0 → Q 0 [] [.b false])) : EZ G169 [] [.i u0, .i u1, .i a1] Q := by
 refine ak.en (I := I169) (L := L169) J9 fun A hA CE CK Dn EV RR W hp => ?_
 have h := h  EV ⟨trivial⟩
 cbv
 subst hA
 exact ⟨fun e0 => have j0 := h.1 (ah (op := .geq) rfl e0); (W.q j0), fun e0 => have j0 := h.2 (ah (op := .geq) rfl e0); (W.q j0)⟩

-- 147: signalbox/prog.Op
structure V147 (EV Q : EP) : Prop where
  none : True

theorem E147 {u0 u1 u2 v0 v1 v2 v3 : Int} (h : ∀ EV, V147 EV Q → EZ G167 [] [.i u0] (fun x rs vs => (x = 0 ∧ ∃ y0_0, rs = [] ∧ vs = [.i y0_0] ∧ ((y0_0 < 0 → Q 0 [] [.i 1]) ∧ (y0_0 ≥ 0 → EZ G168 [] [.i v0, .i v1, .i v2, .i v3, .i u0] (fun x rs vs => (x = 0 ∧ ∃ y2a0 y2a1 y2b0 y2b1, rs = [] ∧ vs = [.i y2a0, .i y2a1, .i y2b0, .i y2b1] ∧ (EZ G169 [] [.i y2a0, .i y2a1, .i u1] (fun x rs vs => (x = 0 ∧ ∃ y3_0, rs = [] ∧ vs = [.b y3_0] ∧ ((y3_0 = true → EZ G169 [] [.i y2b0, .i y2b1, .i u2] (fun x rs vs => (x = 0 ∧ ∃ y5_0, rs = [] ∧ vs = [.b y5_0] ∧ ((y5_0 = false → Q 0 [] [.i 5]) ∧ (y5_0 = true → Q 0 [] [.i 0]))))) ∧ (y3_0 = false → Q 0 [] [.i 5])))))))))))) : EZ G147 [] [.i u0, .i u1, .i u2, .i v0, .i v1, .i v2, .i v3] Q := by
 refine ak.en (I := I147) (L := L147) KJ fun A hA CE CK Dn EV RR W hp => ?_
 have h := h  EV ⟨trivial⟩
 cbv
 refine W.cl h ?_
 rintro _ _ _ hp0 (⟨rfl, y0_0, rfl, rfl, k0⟩)
 cbv
 refine ⟨imI hA fun e1 => have j1 := k0.1 (ah (op := .lss) hA e1); (W.q j1), imI hA fun e1 => have j1 := k0.2 (ah (op := .lss) hA e1); ?_⟩
 refine W.cl j1 ?_
 rintro _ _ _ hp2 (⟨rfl, y2a0, y2a1, y2b0, y2b1, rfl, rfl, k2⟩)
 cbv
 refine W.cl k2 ?_
 rintro _ _ _ hp3 (⟨rfl, y3_0, rfl, rfl, k3⟩)
 cbv
 refine ⟨imI hA fun e4 => have j4 := k3.1 (notE hA e4); ?_, imI hA fun e4 => have j4 := k3.2 (notE hA e4); (W.q j4)⟩
 refine W.cl j4 ?_
 rintro _ _ _ hp5 (⟨rfl, y5_0, rfl, rfl, k5⟩)
 cbv
 subst hA
 exact ⟨fun e6 => have j6 := k5.1 (notE rfl e6); (W.q j6), fun e6 => have j6 := k5.2 (notE rfl e6); (W.q j6)⟩

-- 191: slices.Index[[]int,int]
structure V191a (EV Q : EP) : Prop where
  p7 : ∀ {R0 : RW} {t0 : Nat} {t1 t7 t8 : Int}, (aB R0 = true → (t8 < t7 → (0 ≤ t8) ∧ (t8 < (t0 : Int)) ∧ (R0[t8.toNat]? = some [.int .i64 (cIS R0 t8.toNat 0)]) ∧ (t1 = (cIS R0 t8.toNat 0) → Q 0 [R0] [.i t8]) ∧ (t1 ≠ (cIS R0 t8.toNat 0) → EV 7 [R0] [.n t0, .i t1, .i t7, .i (IntKind.wrap .i64 (t8 + 1))])) ∧ (t8 ≥ t7 → Q 0 [R0] [.i (-1)])) → EV 7 [R0] [.n t0, .i t1, .i t7, .i t8]

theorem V191a.of (W : Wk Tryz.prog Tryz.f191 I191a L191a Q A sg CE CK Dn EV RR) : V191a EV Q := by
 have hA := W.hA
 refine ⟨?_⟩
 intro R0 t0 t1 t7 t8 h
 refine W.step 80 fun hp => ?_
 have h := h hp.1
 cbv
 subst hA
 exact ⟨fun e0 => have j0 := h.1 (ah (op := .lss) rfl e0); ⟨(An j0.1 (An j0.2.1 rfl)), ⟨(An rfl j0.2.2.1), ⟨fun e1 => have j1 := j0.2.2.2.1 ((ah (op := .eql) rfl e1)); ⟨hp.1, (W.q j1)⟩, fun e1 => have j1 := j0.2.2.2.2 ((ah (op := .eql) rfl e1)); ⟨(An rfl rfl), ⟨hp.1, j1⟩⟩⟩⟩⟩, fun e0 => have j0 := h.2 (ah (op := .lss) rfl e0); ⟨hp.1, (W.q j0)⟩⟩

theorem E191a {R0 : RW} {a0 : Nat} {a1 : Int} (h : aB R0 = true → ∀ EV, V191a EV Q → EV 7 [R0] [.n a0, .i a1, .i (a0 : Int), .i 0]) : EZ G191a [R0] [.n a0, .i a1] Q := by
 refine ak.en (I := I191a) (L := L191a) DN fun A hA CE CK Dn EV RR W hp => ?_
 have h := h hp.1 EV (V191a.of W)
 cbv
 subst hA
 exact ⟨rfl, ⟨(An rfl rfl), ⟨hp.1, h⟩⟩⟩

-- 170a: slices.Contains[[]int,int]
structure V170a (EV Q : EP) : Prop where
  none : True

theorem E170a {R0 : RW} {a0 : Nat} {a1 : Int} (h : aB R0 = true → ∀ EV, V170a EV Q → EZ G191a [R0] [.n a0, .i a1] (fun x rs vs => (x = 0 ∧ ∃ Y0_0 y0_0, rs = [Y0_0] ∧ vs = [.i y0_0] ∧ (Q 0 [Y0_0] [.b (decide (y0_0 ≥ 0))])))) : EZ G170a [R0] [.n a0, .i a1] Q := by
 refine ak.en (I := I170a) (L := L170a) DV fun A hA CE CK Dn EV RR W hp => ?_
 have h := h hp.1 EV ⟨trivial⟩
 cbv
 refine ⟨ndI hA (An rfl rfl), ⟨ndI hA hp.1, ?_⟩⟩
 refine W.cl h ?_
 rintro _ _ _ hp0 (⟨rfl, Y0_0, y0_0, rfl, rfl, k0⟩)
 cbv
 subst hA
 exact ⟨hp0.1, (W.q k0)⟩

-- 148a: (*signalbox/prog.nest).step DRAWN
structure V148a (EV Q : EP) : Prop where
  none : True

theorem E148a {R0 : RW} {v0 v1 v2 b0 b1 : Int} {b2 : Nat} (h : aB R0 = true → ∀ EV, V148a EV Q → (v0 = 3 → ((IntKind.wrap .i64 (b0 + 1)) ≥ 0 → Q 0 [R0] [.b (decide (b1 ≥ 0)), .i (IntKind.wrap .i64 (b0 + 1)), .i b1, .n b2]) ∧ ((IntKind.wrap .i64 (b0 + 1)) < 0 → Q 0 [R0] [.b false, .i (IntKind.wrap .i64 (b0 + 1)), .i b1, .n b2])) ∧ (v0 ≠ 3 → (v0 = 4 → ((IntKind.wrap .i64 (b0 - 1)) ≥ 0 → Q 0 [R0] [.b (decide (b1 ≥ 0)), .i (IntKind.wrap .i64 (b0 - 1)), .i b1, .n b2]) ∧ ((IntKind.wrap .i64 (b0 - 1)) < 0 → Q 0 [R0] [.b false, .i (IntKind.wrap .i64 (b0 - 1)), .i b1, .n b2])) ∧ (v0 ≠ 4 → (v0 = 7 → (b0 ≥ 0 → Q 0 [R0] [.b (decide ((IntKind.wrap .i64 (b1 + v1)) ≥ 0)), .i b0, .i (IntKind.wrap .i64 (b1 + v1)), .n b2]) ∧ (b0 < 0 → Q 0 [R0] [.b false, .i b0, .i (IntKind.wrap .i64 (b1 + v1)), .n b2])) ∧ (v0 ≠ 7 → (v0 = 8 → (b0 ≥ 0 → Q 0 [R0] [.b (decide ((IntKind.wrap .i64 (b1 - v1)) ≥ 0)), .i b0, .i (IntKind.wrap .i64 (b1 - v1)), .n b2]) ∧ (b0 < 0 → Q 0 [R0] [.b false, .i b0, .i (IntKind.wrap .i64 (b1 - v1)), .n b2])) ∧ (v0 ≠ 8 → (v0 = 5 → EZ G170a [R0] [.n b2, .i v1] (fun x rs vs => (x = 0 ∧ ∃ Y5_0 y5_0, rs = [Y5_0] ∧ vs = [.b y5_0] ∧ ((y5_0 = true → (R0.length = Y5_0.length) ∧ (Q 0 [Y5_0] [.b false, .i b0, .i b1, .n b2])) ∧ (y5_0 = false → (R0.length = Y5_0.length) ∧ (b2 ≤ Y5_0.length) ∧ ((b2 + (List.length (List.take 1 (List.drop 0 [[(AV.int .i64 v1)]])))) ≤ 140737488355328) ∧ (((b2 + (List.length (List.take 1 (List.drop 0 [[(AV.int .i64 v1)]])))) * 8) ≤ 140737488355328) ∧ (b0 ≥ 0 → Q 0 [(aP Y5_0 b2 (List.take 1 (List.drop 0 [[(AV.int .i64 v1)]])))] [.b (decide (b1 ≥ 0)), .i b0, .i b1, .n (b2 + (List.length (List.take 1 (List.drop 0 [[(AV.int .i64 v1)]]))))]) ∧ (b0 < 0 → Q 0 [(aP Y5_0 b2 (List.take 1 (List.drop 0 [[(AV.int .i64 v1)]])))] [.b false, .i b0, .i b1, .n (b2 + (List.length (List.take 1 (List.drop 0 [[(AV.int .i64 v1)]]))))])))))) ∧ (v0 ≠ 5 → (v0 = 6 → ((IntKind.wrap .i64 ((b2 : Int) - 1)) < 0 → Q 0 [R0] [.b false, .i b0, .i b1, .n b2]) ∧ ((IntKind.wrap .i64 ((b2 : Int) - 1)) ≥ 0 → (0 ≤ (IntKind.wrap .i64 ((b2 : Int) - 1))) ∧ ((IntKind.wrap .i64 ((b2 : Int) - 1)) < (b2 : Int)) ∧ (R0[(Int.toNat (IntKind.wrap .i64 ((b2 : Int) - 1)))]? = some [.int .i64 (cIS R0 (Int.toNat (IntKind.wrap .i64 ((b2 : Int) - 1))) 0)]) ∧ ((cIS R0 (Int.toNat (IntKind.wrap .i64 ((b2 : Int) - 1))) 0) ≠ v1 → Q 0 [R0] [.b false, .i b0, .i b1, .n b2]) ∧ ((cIS R0 (Int.toNat (IntKind.wrap .i64 ((b2 : Int) - 1))) 0) = v1 → (0 ≤ (IntKind.wrap .i64 ((b2 : Int) - 1))) ∧ ((IntKind.wrap .i64 ((b2 : Int) - 1)) ≤ (b2 : Int)) ∧ (b0 ≥ 0 → Q 0 [R0] [.b (decide (b1 ≥ 0)), .i b0, .i b1, .n (Int.toNat (IntKind.wrap .i64 ((b2 : Int) - 1)))]) ∧ (b0 < 0 → Q 0 [R0] [.b false, .i b0, .i b1, .n (Int.toNat (IntKind.wrap .i64 ((b2 : Int) - 1)))])))) ∧ (v0 ≠ 6 → (b0 ≥ 0 → Q 0 [R0] [.b (decide (b1 ≥ 0)), .i b0, .i b1, .n b2]) ∧ (b0 < 0 → Q 0 [R0] [.b false, .i b0, .i b1, .n b2])))))))) : EZ G148a [R0] [.i v0, .i v1, .i v2, .i b0, .i b1, .n b2] Q := by
 refine ak.en (I := I148a) (L := L148a) DY fun A hA CE CK Dn EV RR W hp => ?_
 have h := h hp.1 EV ⟨trivial⟩
 cbv
 refine ⟨imI hA fun e0 => have j0 := h.1 (ah (op := .eql) hA e0); ⟨imI hA fun e1 => have j1 := j0.1 (by subst hA; exact (ah (op := .geq) rfl e1)); ⟨ndI hA (An rfl rfl), ⟨ndI hA hp.1, (W.q (hA ▸ j1))⟩⟩, imI hA fun e1 => have j1 := j0.2 (by subst hA; exact (ah (op := .geq) rfl e1)); ⟨ndI hA (An rfl rfl), ⟨ndI hA hp.1, (W.q (hA ▸ j1))⟩⟩⟩, imI hA fun e0 => have j0 := h.2 (ah (op := .eql) hA e0); ⟨imI hA fun e1 => have j1 := j0.1 (ah (op := .eql) hA e1); ⟨imI hA fun e2 => have j2 := j1.1 (by subst hA; exact (ah (op := .geq) rfl e2)); ⟨ndI hA (An rfl rfl), ⟨ndI hA hp.1, (W.q (hA ▸ j2))⟩⟩, imI hA fun e2 => have j2 := j1.2 (by subst hA; exact (ah (op := .geq) rfl e2)); ⟨ndI hA (An rfl rfl), ⟨ndI hA hp.1, (W.q (hA ▸ j2))⟩⟩⟩, imI hA fun e1 => have j1 := j0.2 (ah (op := .eql) hA e1); ⟨imI hA fun e2 => have j2 := j1.1 (ah (op := .eql) hA e2); ⟨⟨⟨imI hA fun e3 => have j3 := j2.1 (ah (op := .geq) hA e3); ⟨ndI hA (An rfl rfl), ⟨ndI hA hp.1, (W.q (hA ▸ j3))⟩⟩, imI hA fun e3 => have j3 := j2.2 (ah (op := .geq) hA e3); ⟨ndI hA (An rfl rfl), ⟨ndI hA hp.1, (W.q (hA ▸ j3))⟩⟩⟩, trivial⟩, trivial⟩, imI hA fun e2 => have j2 := j1.2 (ah (op := .eql) hA e2); ⟨imI hA fun e3 => have j3 := j2.1 (ah (op := .eql) hA e3); ⟨⟨⟨imI hA fun e4 => have j4 := j3.1 (ah (op := .geq) hA e4); ⟨ndI hA (An rfl rfl), ⟨ndI hA hp.1, (W.q (hA ▸ j4))⟩⟩, imI hA fun e4 => have j4 := j3.2 (ah (op := .geq) hA e4); ⟨ndI hA (An rfl rfl), ⟨ndI hA hp.1, (W.q (hA ▸ j4))⟩⟩⟩, trivial⟩, trivial⟩, imI hA fun e3 => have j3 := j2.2 (ah (op := .eql) hA e3); ⟨imI hA fun e4 => have j4 := j3.1 (ah (op := .eql) hA e4); ⟨⟨ndI hA (An rfl rfl), ⟨ndI hA hp.1, ?_⟩⟩, trivial⟩, imI hA fun e4 => have j4 := j3.2 (ah (op := .eql) hA e4); ⟨imI hA fun e5 => have j5 := j4.1 (ah (op := .eql) hA e5); ⟨ndI hA rfl, ⟨fun e6 => have c6 : (IntKind.wrap .i64 ((b2 : Int) - 1)) < 0 := (by have q := (ah (op := .lss) hA e6); subst hA; exact q); ?_, fun e6 => have c6 : (IntKind.wrap .i64 ((b2 : Int) - 1)) ≥ 0 := (by have q := (ah (op := .lss) hA e6); subst hA; exact q); ?_⟩⟩, imI hA fun e5 => have j5 := j4.2 (ah (op := .eql) hA e5); ⟨imI hA fun e6 => have j6 := j5.1 (ah (op := .geq) hA e6); ⟨ndI hA (An rfl rfl), ⟨ndI hA hp.1, (W.q (hA ▸ j6))⟩⟩, imI hA fun e6 => have j6 := j5.2 (ah (op := .geq) hA e6); ⟨ndI hA (An rfl rfl), ⟨ndI hA hp.1, (W.q j6)⟩⟩⟩⟩⟩⟩⟩⟩⟩
 ·refine W.cd j4 ?_
  rintro _ _ _ hp5 (⟨rfl, Y5_0, y5_0, rfl, rfl, k5⟩)
  cbv
  refine W.draw 80 (by rfl) ?_
  cbv
  refine ⟨imI hA fun e6 => have j6 := k5.1 e6; ⟨ndI hA (An (hA ▸ j6.1) rfl), ⟨ndI hA hp5.1, (W.q j6.2)⟩⟩, imI hA fun e6 => have j6 := k5.2 e6; ⟨⟨⟨⟨ndI hA (An (hA ▸ rfl) (by subst hA; show (0 + 1) ≤ 1; (first | rfl | simp [af] | (simp [af]; omega)))), ⟨ndI hA (An (hA ▸ j6.1) (An (hA ▸ j6.2.1) (An (hA ▸ j6.2.2.1) (hA ▸ j6.2.2.2.1)))), ?_⟩⟩, trivial⟩, trivial⟩, ⟨⟨⟨⟨ndI hA (An (hA ▸ rfl) (by subst hA; show (0 + 1) ≤ 1; (first | rfl | simp [af] | (simp [af]; omega)))), ⟨ndI hA (An (hA ▸ j6.1) (An (hA ▸ j6.2.1) (An (hA ▸ j6.2.2.1) (hA ▸ j6.2.2.2.1)))), ?_⟩⟩, trivial⟩, trivial⟩, trivial⟩⟩⟩
  ·refine W.draw 80 (by rfl) ?_
   cbv
   subst hA
   exact ⟨⟨fun e7 => have j7 := j6.2.2.2.2.1 (ah (op := .geq) rfl e7); ⟨(An rfl rfl), ⟨((fA hp5.1 (dw (dA aQ)))), (W.q j7)⟩⟩, fun e7 => have j7 := j6.2.2.2.2.2 (ah (op := .geq) rfl e7); ⟨(An rfl rfl), ⟨((fA hp5.1 (dw (dA aQ)))), (W.q j7)⟩⟩⟩, trivial⟩
  ·refine W.draw 80 (by rfl) ?_
   cbv
   subst hA
   exact ⟨⟨fun e7 => have j7 := j6.2.2.2.2.1 (ah (op := .geq) rfl e7); ⟨(An rfl rfl), ⟨((fA hp5.1 (dw (dA aQ)))), (W.q j7)⟩⟩, fun e7 => have j7 := j6.2.2.2.2.2 (ah (op := .geq) rfl e7); ⟨(An rfl rfl), ⟨((fA hp5.1 (dw (dA aQ)))), (W.q j7)⟩⟩⟩, trivial⟩
 ·refine W.draw 80 (by rfl) ?_
  cbv
  subst hA
  exact ⟨(An rfl rfl), ⟨hp.1, (W.q (j5.1 c6))⟩⟩
 ·refine W.draw 80 (by rfl) ?_
  cbv
  subst hA
  exact ⟨(An ((j5.2 c6).1) (An ((j5.2 c6).2.1) rfl)), ⟨(An rfl ((j5.2 c6).2.2.1)), ⟨fun e7 => have j7 := (j5.2 c6).2.2.2.1 ((ah (op := .neq) rfl e7)); ⟨(An rfl rfl), ⟨hp.1, (W.q j7)⟩⟩, fun e7 => have j7 := (j5.2 c6).2.2.2.2 ((ah (op := .neq) rfl e7)); ⟨(An j7.1 (An j7.2.1 rfl)), ⟨fun e8 => have j8 := j7.2.2.1 (ah (op := .geq) rfl e8); ⟨(An rfl rfl), ⟨hp.1, (W.q j8)⟩⟩, fun e8 => have j8 := j7.2.2.2 (ah (op := .geq) rfl e8); ⟨(An rfl rfl), ⟨hp.1, (W.q j8)⟩⟩⟩⟩⟩⟩⟩

-- 117: signalbox/prog.Check
structure V117 (EV Q : EP) : Prop where
  p24 : ∀ {R0 t19 : RW} {t20 t21 b0 b1 b2 b3 d0 d1 : Int} {d2 : Nat}, (aB R0 = true → (t21 < t20 → (0 ≤ t21) ∧ (t19[t21.toNat]? = some (r3 t19 t21.toNat)) ∧ (EZ G147 [] [.i (cIS t19 t21.toNat 0), .i (cIS t19 t21.toNat 1), .i (cIS t19 t21.toNat 2), .i b0, .i b1, .i b2, .i b3] (fun x rs vs => (x = 0 ∧ ∃ y1_0, rs = [] ∧ vs = [.i y1_0] ∧ ((y1_0 ≠ 0 → Q 0 [] [.i y1_0]) ∧ (y1_0 = 0 → EZ G148a [R0] [.i (cIS t19 t21.toNat 0), .i (cIS t19 t21.toNat 1), .i (cIS t19 t21.toNat 2), .i d0, .i d1, .n d2] (fun x rs vs => (x = 0 ∧ ∃ Y3_0 y3_0 y3_b0_0 y3_b0_1 y3_b0_2, rs = [Y3_0] ∧ vs = [.b y3_0, .i y3_b0_0, .i y3_b0_1, .n y3_b0_2] ∧ ((y3_0 = false → Q 0 [] [.i 9]) ∧ (y3_0 = true → EV 24 [Y3_0] [.r t19, .i t20, .i (IntKind.wrap .i64 (t21 + 1)), .i b0, .i b1, .i b2, .i b3, .i y3_b0_0, .i y3_b0_1, .n y3_b0_2])))))))))) ∧ (t21 ≥ t20 → (d0 ≤ 0 → ((d2 : Int) > 0 → Q 0 [] [.i 9]) ∧ ((d2 : Int) ≤ 0 → Q 0 [] [.i 0])) ∧ (d0 > 0 → Q 0 [] [.i 9]))) → EV 24 [R0] [.r t19, .i t20, .i t21, .i b0, .i b1, .i b2, .i b3, .i d0, .i d1, .n d2]

theorem V117.of (W : Wk Tryz.prog Tryz.f117 I117 L117 Q A sg CE CK Dn EV RR) : V117 EV Q := by
 have hA := W.hA
 refine ⟨?_⟩
 intro R0 t19 t20 t21 b0 b1 b2 b3 d0 d1 d2 h
 refine W.step 80 fun hp => ?_
 have h := h hp.1
 cbv
 refine ⟨imI hA fun e0 => have j0 := h.1 (ah (op := .lss) hA e0); ⟨ndI hA (An j0.1 (hA ▸ j0.2.1)), ?_⟩, imI hA fun e0 => have j0 := h.2 (ah (op := .lss) hA e0); ⟨imI hA fun e1 => have j1 := j0.1 (ah (op := .gtr) hA e1); ⟨ndI hA rfl, ⟨imI hA fun e2 => have j2 := j1.1 (by subst hA; exact (ah (op := .gtr) rfl e2)); (W.q j2), imI hA fun e2 => have j2 := j1.2 (by subst hA; exact (ah (op := .gtr) rfl e2)); (W.q j2)⟩⟩, imI hA fun e1 => have j1 := j0.2 (ah (op := .gtr) hA e1); (W.q j1)⟩⟩
 refine W.cl j0.2.2 ?_
 rintro _ _ _ hp1 (⟨rfl, y1_0, rfl, rfl, k1⟩)
 cbv
 refine ⟨imI hA fun e2 => have j2 := k1.1 (ah (op := .neq) hA e2); (W.q j2), imI hA fun e2 => have j2 := k1.2 (ah (op := .neq) hA e2); ⟨ndI hA (An rfl rfl), ⟨ndI hA hp.1, ?_⟩⟩⟩
 refine W.cl j2 ?_
 rintro _ _ _ hp3 (⟨rfl, Y3_0, y3_0, y3_b0_0, y3_b0_1, y3_b0_2, rfl, rfl, k3⟩)
 cbv
 subst hA
 exact ⟨fun e4 => have j4 := k3.1 (notE rfl e4); (W.q j4), fun e4 => have j4 := k3.2 (notE rfl e4); ⟨(An rfl rfl), ⟨hp3.1, j4⟩⟩⟩

theorem E117 {a0 : RW} {v0 v1 v2 v3 : Int} (h : ∀ EV, V117 EV Q → ((a0.length : Int) = 0 → Q 0 [] [.i 1]) ∧ ((a0.length : Int) ≠ 0 → ((a0.length : Int) > 64 → Q 0 [] [.i 4]) ∧ ((a0.length : Int) ≤ 64 → EV 24 [[]] [.r a0, .i (a0.length : Int), .i 0, .i v0, .i v1, .i v2, .i v3, .i 0, .i 0, .n 0]))) : EZ G117 [] [.r a0, .i v0, .i v1, .i v2, .i v3] Q := by
 refine ak.en (I := I117) (L := L117) LC fun A hA CE CK Dn EV RR W hp => ?_
 have h := h  EV (V117.of W)
 cbv
 subst hA
 exact ⟨fun e0 => have j0 := h.1 ((ah (op := .eql) rfl e0)); (W.q j0), fun e0 => have j0 := h.2 ((ah (op := .eql) rfl e0)); ⟨fun e1 => have j1 := j0.1 ((ah (op := .gtr) rfl e1)); (W.q j1), fun e1 => have j1 := j0.2 ((ah (op := .gtr) rfl e1)); ⟨(An rfl rfl), ⟨aQ, j1⟩⟩⟩⟩

-- 119: signalbox/conf.task$1 DRAWN
structure V119 (EV Q : EP) : Prop where
  none : True

theorem E119 {u0 u1 u2 b0 b1 b2 b3 : Int} {b4 : RW} {b5 : Int} {b6 b7 b8 b9 : RW} {d0 d1 d2 d3 d4 d5 : Int} {d6 : RW} (h : ∀ EV, V119 EV Q → (u0 = 5 → (0 ≤ u1) ∧ (b7[u1.toNat]? = some [.int .i64 (cIS b7 u1.toNat 0)]) ∧ (Q 0 [] [.b (decide ((cIS b7 u1.toNat 0) < d0)), .i b0, .i b1, .i b2, .i b3, .r b4, .i b5, .r b6, .r b7, .r b8, .r b9, .i d0, .i d1, .i d2, .i d3, .i d4, .i d5, .r d6])) ∧ (u0 ≠ 5 → Q 0 [] [.b false, .i b0, .i b1, .i b2, .i b3, .r b4, .i b5, .r b6, .r b7, .r b8, .r b9, .i d0, .i d1, .i d2, .i d3, .i d4, .i d5, .r d6])) : EZ G119 [] [.i u0, .i u1, .i u2, .i b0, .i b1, .i b2, .i b3, .r b4, .i b5, .r b6, .r b7, .r b8, .r b9, .i d0, .i d1, .i d2, .i d3, .i d4, .i d5, .r d6] Q := by
 refine ak.en (I := I119) (L := L119) Lt fun A hA CE CK Dn EV RR W hp => ?_
 have h := h  EV ⟨trivial⟩
 cbv
 refine ⟨fun e0 => have c0 : u0 = 5 := (by have q := (ah (op := .eql) hA e0); subst hA; exact q); ?_, fun e0 => have c0 : u0 ≠ 5 := (by have q := (ah (op := .eql) hA e0); subst hA; exact q); ?_⟩
 ·refine W.draw 80 (by rfl) ?_
  cbv
  subst hA
  exact ⟨(An (h.1 c0).1 ((h.1 c0).2.1)), (W.q ((h.1 c0).2.2))⟩
 ·refine W.draw 80 (by rfl) ?_
  cbv
  subst hA
  exact (W.q (h.2 c0))

-- 149: slices.IndexFunc[[]signalbox/api.Op,signalbox/api.Op]
structure V149 (EV Q : EP) : Prop where
  p7 : ∀ {t0 : RW} {t7 t8 b0 b1 b2 b3 : Int} {b4 : RW} {b5 : Int} {b6 b7 b8 b9 : RW} {d0 d1 d2 d3 d4 d5 : Int} {d6 : RW}, ((t8 < t7 → (0 ≤ t8) ∧ (t0[t8.toNat]? = some (r3 t0 t8.toNat)) ∧ (EZ G119 [] [.i (cIS t0 t8.toNat 0), .i (cIS t0 t8.toNat 1), .i (cIS t0 t8.toNat 2), .i b0, .i b1, .i b2, .i b3, .r b4, .i b5, .r b6, .r b7, .r b8, .r b9, .i d0, .i d1, .i d2, .i d3, .i d4, .i d5, .r d6] (fun x rs vs => (x = 0 ∧ ∃ y1_0 y1_b0_0 y1_b0_1 y1_b0_2 y1_b0_3 y1_b0_4 y1_b0_5 y1_b0_6 y1_b0_7 y1_b0_8 y1_b0_9 y1_b1_0 y1_b1_1 y1_b1_2 y1_b1_3 y1_b1_4 y1_b1_5 y1_b1_6, rs = [] ∧ vs = [.b y1_0, .i y1_b0_0, .i y1_b0_1, .i y1_b0_2, .i y1_b0_3, .r y1_b0_4, .i y1_b0_5, .r y1_b0_6, .r y1_b0_7, .r y1_b0_8, .r y1_b0_9, .i y1_b1_0, .i y1_b1_1, .i y1_b1_2, .i y1_b1_3, .i y1_b1_4, .i y1_b1_5, .r y1_b1_6] ∧ ((y1_0 = true → Q 0 [] [.i t8, .i y1_b0_0, .i y1_b0_1, .i y1_b0_2, .i y1_b0_3, .r y1_b0_4, .i y1_b0_5, .r y1_b0_6, .r y1_b0_7, .r y1_b0_8, .r y1_b0_9, .i y1_b1_0, .i y1_b1_1, .i y1_b1_2, .i y1_b1_3, .i y1_b1_4, .i y1_b1_5, .r y1_b1_6]) ∧ (y1_0 = false → EV 7 [] [.r t0, .i t7, .i (IntKind.wrap .i64 (t8 + 1)), .i y1_b0_0, .i y1_b0_1, .i y1_b0_2, .i y1_b0_3, .r y1_b0_4, .i y1_b0_5, .r y1_b0_6, .r y1_b0_7, .r y1_b0_8, .r y1_b0_9, .i y1_b1_0, .i y1_b1_1, .i y1_b1_2, .i y1_b1_3, .i y1_b1_4, .i y1_b1_5, .r y1_b1_6])))))) ∧ (t8 ≥ t7 → Q 0 [] [.i (-1), .i b0, .i b1, .i b2, .i b3, .r b4, .i b5, .r b6, .r b7, .r b8, .r b9, .i d0, .i d1, .i d2, .i d3, .i d4, .i d5, .r d6])) → EV 7 [] [.r t0, .i t7, .i t8, .i b0, .i b1, .i b2, .i b3, .r b4, .i b5, .r b6, .r b7, .r b8, .r b9, .i d0, .i d1, .i d2, .i d3, .i d4, .i d5, .r d6]

theorem V149.of (W : Wk Tryz.prog Tryz.f149 I149 L149 Q A sg CE CK Dn EV RR) : V149 EV Q := by
 have hA := W.hA
 refine ⟨?_⟩
 intro t0 t7 t8 b0 b1 b2 b3 b4 b5 b6 b7 b8 b9 d0 d1 d2 d3 d4 d5 d6 h
 refine W.step 80 fun hp => ?_
 cbv
 refine ⟨imI hA fun e0 => have j0 := h.1 (ah (op := .lss) hA e0); ⟨ndI hA (An j0.1 (hA ▸ j0.2.1)), ?_⟩, imI hA fun e0 => have j0 := h.2 (ah (op := .lss) hA e0); (W.q j0)⟩
 refine W.cl j0.2.2 ?_
 rintro _ _ _ hp1 (⟨rfl, y1_0, y1_b0_0, y1_b0_1, y1_b0_2, y1_b0_3, y1_b0_4, y1_b0_5, y1_b0_6, y1_b0_7, y1_b0_8, y1_b0_9, y1_b1_0, y1_b1_1, y1_b1_2, y1_b1_3, y1_b1_4, y1_b1_5, y1_b1_6, rfl, rfl, k1⟩)
 cbv
 subst hA
 exact ⟨fun e2 => have j2 := k1.1 e2; (W.q j2), fun e2 => have j2 := k1.2 e2; j2⟩

theorem E149 {a0 : RW} {b0 b1 b2 b3 : Int} {b4 : RW} {b5 : Int} {b6 b7 b8 b9 : RW} {d0 d1 d2 d3 d4 d5 : Int} {d6 : RW} (h : ∀ EV, V149 EV Q → EV 7 [] [.r a0, .i (a0.length : Int), .i 0, .i b0, .i b1, .i b2, .i b3, .r b4, .i b5, .r b6, .r b7, .r b8, .r b9, .i d0, .i d1, .i d2, .i d3, .i d4, .i d5, .r d6]) : EZ G149 [] [.r a0, .i b0, .i b1, .i b2, .i b3, .r b4, .i b5, .r b6, .r b7, .r b8, .r b9, .i d0, .i d1, .i d2, .i d3, .i d4, .i d5, .r d6] Q := by
 refine ak.en (I := I149) (L := L149) KI fun A hA CE CK Dn EV RR W hp => ?_
 have h := h  EV (V149.of W)
 cbv
 subst hA
 exact h

-- 120: slices.ContainsFunc[[]signalbox/api.Op,signalbox/api.Op]
structure V120 (EV Q : EP) : Prop where
  none : True

theorem E120 {a0 : RW} {b0 b1 b2 b3 : Int} {b4 : RW} {b5 : Int} {b6 b7 b8 b9 : RW} {d0 d1 d2 d3 d4 d5 : Int} {d6 : RW} (h : ∀ EV, V120 EV Q → EZ G149 [] [.r a0, .i b0, .i b1, .i b2, .i b3, .r b4, .i b5, .r b6, .r b7, .r b8, .r b9, .i d0, .i d1, .i d2, .i d3, .i d4, .i d5, .r d6] (fun x rs vs => (x = 0 ∧ ∃ y0_0 y0_b0_0 y0_b0_1 y0_b0_2 y0_b0_3 y0_b0_4 y0_b0_5 y0_b0_6 y0_b0_7 y0_b0_8 y0_b0_9 y0_b1_0 y0_b1_1 y0_b1_2 y0_b1_3 y0_b1_4 y0_b1_5 y0_b1_6, rs = [] ∧ vs = [.i y0_0, .i y0_b0_0, .i y0_b0_1, .i y0_b0_2, .i y0_b0_3, .r y0_b0_4, .i y0_b0_5, .r y0_b0_6, .r y0_b0_7, .r y0_b0_8, .r y0_b0_9, .i y0_b1_0, .i y0_b1_1, .i y0_b1_2, .i y0_b1_3, .i y0_b1_4, .i y0_b1_5, .r y0_b1_6] ∧ (Q 0 [] [.b (decide (y0_0 ≥ 0)), .i y0_b0_0, .i y0_b0_1, .i y0_b0_2, .i y0_b0_3, .r y0_b0_4, .i y0_b0_5, .r y0_b0_6, .r y0_b0_7, .r y0_b0_8, .r y0_b0_9, .i y0_b1_0, .i y0_b1_1, .i y0_b1_2, .i y0_b1_3, .i y0_b1_4, .i y0_b1_5, .r y0_b1_6])))) : EZ G120 [] [.r a0, .i b0, .i b1, .i b2, .i b3, .r b4, .i b5, .r b6, .r b7, .r b8, .r b9, .i d0, .i d1, .i d2, .i d3, .i d4, .i d5, .r d6] Q := by
 refine ak.en (I := I120) (L := L120) Ls fun A hA CE CK Dn EV RR W hp => ?_
 have h := h  EV ⟨trivial⟩
 cbv
 refine W.cl h ?_
 rintro _ _ _ hp0 (⟨rfl, y0_0, y0_b0_0, y0_b0_1, y0_b0_2, y0_b0_3, y0_b0_4, y0_b0_5, y0_b0_6, y0_b0_7, y0_b0_8, y0_b0_9, y0_b1_0, y0_b1_1, y0_b1_2, y0_b1_3, y0_b1_4, y0_b1_5, y0_b1_6, rfl, rfl, k0⟩)
 cbv
 subst hA
 exact (W.q k0)

-- 122: signalbox/conf.task$2
structure V122 (EV Q : EP) : Prop where
  none : True

theorem E122 {u0 u1 u2 u3 u4 u5 : Int} {u6 : RW} {b0 b1 b2 b3 b4 b5 : Int} {b6 : RW} (h : ∀ EV, V122 EV Q → Q 0 [] [.b (u0 == b0), .i b0, .i b1, .i b2, .i b3, .i b4, .i b5, .r b6]) : EZ G122 [] [.i u0, .i u1, .i u2, .i u3, .i u4, .i u5, .r u6, .i b0, .i b1, .i b2, .i b3, .i b4, .i b5, .r b6] Q := by
 refine ak.en (I := I122) (L := L122) Lp fun A hA CE CK Dn EV RR W hp => ?_
 have h := h  EV ⟨trivial⟩
 cbv
 subst hA
 exact (W.q h)

-- 150: slices.IndexFunc[[]signalbox/api.Task,signalbox/api.Task]
structure V150 (EV Q : EP) : Prop where
  p7 : ∀ {t0 : RW} {t7 t8 b0 b1 b2 b3 b4 b5 : Int} {b6 : RW}, ((t8 < t7 → (0 ≤ t8) ∧ (t0[t8.toNat]? = some (r7 t0 t8.toNat)) ∧ (EZ G122 [] [.i (cIS t0 t8.toNat 0), .i (cIS t0 t8.toNat 1), .i (cIS t0 t8.toNat 2), .i (cIS t0 t8.toNat 3), .i (cIS t0 t8.toNat 4), .i (cIS t0 t8.toNat 5), .r (cRS t0 t8.toNat 6), .i b0, .i b1, .i b2, .i b3, .i b4, .i b5, .r b6] (fun x rs vs => (x = 0 ∧ ∃ y1_0 y1_b0_0 y1_b0_1 y1_b0_2 y1_b0_3 y1_b0_4 y1_b0_5 y1_b0_6, rs = [] ∧ vs = [.b y1_0, .i y1_b0_0, .i y1_b0_1, .i y1_b0_2, .i y1_b0_3, .i y1_b0_4, .i y1_b0_5, .r y1_b0_6] ∧ ((y1_0 = true → Q 0 [] [.i t8, .i y1_b0_0, .i y1_b0_1, .i y1_b0_2, .i y1_b0_3, .i y1_b0_4, .i y1_b0_5, .r y1_b0_6]) ∧ (y1_0 = false → EV 7 [] [.r t0, .i t7, .i (IntKind.wrap .i64 (t8 + 1)), .i y1_b0_0, .i y1_b0_1, .i y1_b0_2, .i y1_b0_3, .i y1_b0_4, .i y1_b0_5, .r y1_b0_6])))))) ∧ (t8 ≥ t7 → Q 0 [] [.i (-1), .i b0, .i b1, .i b2, .i b3, .i b4, .i b5, .r b6])) → EV 7 [] [.r t0, .i t7, .i t8, .i b0, .i b1, .i b2, .i b3, .i b4, .i b5, .r b6]

theorem V150.of (W : Wk Tryz.prog Tryz.f150 I150 L150 Q A sg CE CK Dn EV RR) : V150 EV Q := by
 have hA := W.hA
 refine ⟨?_⟩
 intro t0 t7 t8 b0 b1 b2 b3 b4 b5 b6 h
 refine W.step 80 fun hp => ?_
 cbv
 refine ⟨imI hA fun e0 => have j0 := h.1 (ah (op := .lss) hA e0); ⟨ndI hA (An j0.1 (hA ▸ j0.2.1)), ?_⟩, imI hA fun e0 => have j0 := h.2 (ah (op := .lss) hA e0); (W.q j0)⟩
 refine W.cl j0.2.2 ?_
 rintro _ _ _ hp1 (⟨rfl, y1_0, y1_b0_0, y1_b0_1, y1_b0_2, y1_b0_3, y1_b0_4, y1_b0_5, y1_b0_6, rfl, rfl, k1⟩)
 cbv
 subst hA
 exact ⟨fun e2 => have j2 := k1.1 e2; (W.q j2), fun e2 => have j2 := k1.2 e2; j2⟩

theorem E150 {a0 : RW} {b0 b1 b2 b3 b4 b5 : Int} {b6 : RW} (h : ∀ EV, V150 EV Q → EV 7 [] [.r a0, .i (a0.length : Int), .i 0, .i b0, .i b1, .i b2, .i b3, .i b4, .i b5, .r b6]) : EZ G150 [] [.r a0, .i b0, .i b1, .i b2, .i b3, .i b4, .i b5, .r b6] Q := by
 refine ak.en (I := I150) (L := L150) KH fun A hA CE CK Dn EV RR W hp => ?_
 have h := h  EV (V150.of W)
 cbv
 subst hA
 exact h

-- 121: slices.ContainsFunc[[]signalbox/api.Task,signalbox/api.Task]
structure V121 (EV Q : EP) : Prop where
  none : True

theorem E121 {a0 : RW} {b0 b1 b2 b3 b4 b5 : Int} {b6 : RW} (h : ∀ EV, V121 EV Q → EZ G150 [] [.r a0, .i b0, .i b1, .i b2, .i b3, .i b4, .i b5, .r b6] (fun x rs vs => (x = 0 ∧ ∃ y0_0 y0_b0_0 y0_b0_1 y0_b0_2 y0_b0_3 y0_b0_4 y0_b0_5 y0_b0_6, rs = [] ∧ vs = [.i y0_0, .i y0_b0_0, .i y0_b0_1, .i y0_b0_2, .i y0_b0_3, .i y0_b0_4, .i y0_b0_5, .r y0_b0_6] ∧ (Q 0 [] [.b (decide (y0_0 ≥ 0)), .i y0_b0_0, .i y0_b0_1, .i y0_b0_2, .i y0_b0_3, .i y0_b0_4, .i y0_b0_5, .r y0_b0_6])))) : EZ G121 [] [.r a0, .i b0, .i b1, .i b2, .i b3, .i b4, .i b5, .r b6] Q := by
 refine ak.en (I := I121) (L := L121) Lr fun A hA CE CK Dn EV RR W hp => ?_
 have h := h  EV ⟨trivial⟩
 cbv
 refine W.cl h ?_
 rintro _ _ _ hp0 (⟨rfl, y0_0, y0_b0_0, y0_b0_1, y0_b0_2, y0_b0_3, y0_b0_4, y0_b0_5, y0_b0_6, rfl, rfl, k0⟩)
 cbv
 subst hA
 exact (W.q k0)

-- 91: signalbox/conf.task DRAWN
structure V91 (EV Q : EP) : Prop where
  p15 : ∀ {t2 : RW} {t8 b0 b1 b2 b3 : Int} {b4 : RW} {b5 : Int} {b6 b7 b8 b9 : RW} {d0 d1 d2 d3 d4 d5 : Int} {d6 : RW}, ((t8 ≠ 0 → Q 0 [] [.i t8]) ∧ (t8 = 0 → EZ G120 [] [.r d6, .i b0, .i b1, .i b2, .i b3, .r b4, .i b5, .r b6, .r b7, .r b8, .r b9, .i d0, .i d1, .i d2, .i d3, .i d4, .i d5, .r d6] (fun x rs vs => (x = 0 ∧ ∃ y1_0 y1_b0_0 y1_b0_1 y1_b0_2 y1_b0_3 y1_b0_4 y1_b0_5 y1_b0_6 y1_b0_7 y1_b0_8 y1_b0_9 y1_b1_0 y1_b1_1 y1_b1_2 y1_b1_3 y1_b1_4 y1_b1_5 y1_b1_6, rs = [] ∧ vs = [.b y1_0, .i y1_b0_0, .i y1_b0_1, .i y1_b0_2, .i y1_b0_3, .r y1_b0_4, .i y1_b0_5, .r y1_b0_6, .r y1_b0_7, .r y1_b0_8, .r y1_b0_9, .i y1_b1_0, .i y1_b1_1, .i y1_b1_2, .i y1_b1_3, .i y1_b1_4, .i y1_b1_5, .r y1_b1_6] ∧ ((y1_0 = true → Q 0 [] [.i 9]) ∧ (y1_0 = false → EZ G121 [] [.r t2, .i y1_b1_0, .i y1_b1_1, .i y1_b1_2, .i y1_b1_3, .i y1_b1_4, .i y1_b1_5, .r y1_b1_6] (fun x rs vs => (x = 0 ∧ ∃ y3_0 y3_b0_0 y3_b0_1 y3_b0_2 y3_b0_3 y3_b0_4 y3_b0_5 y3_b0_6, rs = [] ∧ vs = [.b y3_0, .i y3_b0_0, .i y3_b0_1, .i y3_b0_2, .i y3_b0_3, .i y3_b0_4, .i y3_b0_5, .r y3_b0_6] ∧ ((y3_0 = true → Q 0 [] [.i 10]) ∧ (y3_0 = false → Q 0 [] [.i 0])))))))))) → EV 15 [] [.r t2, .i t8, .i b0, .i b1, .i b2, .i b3, .r b4, .i b5, .r b6, .r b7, .r b8, .r b9, .i d0, .i d1, .i d2, .i d3, .i d4, .i d5, .r d6]

theorem V91.of (W : Wk Tryz.prog Tryz.f91 I91 L91 Q A sg CE CK Dn EV RR) : V91 EV Q := by
 have hA := W.hA
 refine ⟨?_⟩
 intro t2 t8 b0 b1 b2 b3 b4 b5 b6 b7 b8 b9 d0 d1 d2 d3 d4 d5 d6 h
 refine W.step 80 fun hp => ?_
 cbv
 refine ⟨imI hA fun e0 => have j0 := h.1 (ah (op := .neq) hA e0); (W.q j0), imI hA fun e0 => have j0 := h.2 (ah (op := .neq) hA e0); ?_⟩
 refine W.cl j0 ?_
 rintro _ _ _ hp1 (⟨rfl, y1_0, y1_b0_0, y1_b0_1, y1_b0_2, y1_b0_3, y1_b0_4, y1_b0_5, y1_b0_6, y1_b0_7, y1_b0_8, y1_b0_9, y1_b1_0, y1_b1_1, y1_b1_2, y1_b1_3, y1_b1_4, y1_b1_5, y1_b1_6, rfl, rfl, k1⟩)
 cbv
 refine ⟨imI hA fun e2 => have j2 := k1.1 e2; (W.q j2), imI hA fun e2 => have j2 := k1.2 e2; ?_⟩
 refine W.cl j2 ?_
 rintro _ _ _ hp3 (⟨rfl, y3_0, y3_b0_0, y3_b0_1, y3_b0_2, y3_b0_3, y3_b0_4, y3_b0_5, y3_b0_6, rfl, rfl, k3⟩)
 cbv
 subst hA
 exact ⟨fun e4 => have j4 := k3.1 e4; (W.q j4), fun e4 => have j4 := k3.2 e4; (W.q j4)⟩

theorem E91 {u0 u1 u2 u3 : Int} {u4 : RW} {u5 : Int} {u6 u7 u8 u9 : RW} {v0 v1 v2 v3 v4 v5 : Int} {v6 a2 : RW} (h : ∀ EV, V91 EV Q → EZ G90 [] [.i 0, .i 63, .r (List.take 1 (List.drop 0 [[(AV.int .i64 v0)]]))] (fun x rs vs => (x = 0 ∧ ∃ y0_0, rs = [] ∧ vs = [.b y0_0] ∧ ((y0_0 = true → EZ G90 [] [.i v0, .i 63, .r (List.take 1 (List.drop 0 [[(AV.int .i64 v1)]]))] (fun x rs vs => (x = 0 ∧ ∃ y2_0, rs = [] ∧ vs = [.b y2_0] ∧ ((y2_0 = true → EZ G90 [] [.i 1, .i 1048576, .r (List.take 1 (List.drop 0 [[(AV.int .i64 v2)]]))] (fun x rs vs => (x = 0 ∧ ∃ y4_0, rs = [] ∧ vs = [.b y4_0] ∧ ((y4_0 = true → EZ G90 [] [.i 1, .i v2, .r (List.take 1 (List.drop 0 [[(AV.int .i64 v3)]]))] (fun x rs vs => (x = 0 ∧ ∃ y6_0, rs = [] ∧ vs = [.b y6_0] ∧ ((y6_0 = true → EZ G90 [] [.i 0, .i 4096, .r (List.take 1 (List.drop 0 [[(AV.int .i64 v4)]]))] (fun x rs vs => (x = 0 ∧ ∃ y8_0, rs = [] ∧ vs = [.b y8_0] ∧ ((y8_0 = true → EZ G90 [] [.i 0, .i 1048576, .r (List.take 1 (List.drop 0 [[(AV.int .i64 v5)]]))] (fun x rs vs => (x = 0 ∧ ∃ y10_0, rs = [] ∧ vs = [.b y10_0] ∧ ((y10_0 = false → Q 0 [] [.i 5]) ∧ (y10_0 = true → EZ G118 [] [.i u0, .i u1, .i u2, .i u3, .r u4, .i u5, .r u6, .r u7, .r u8, .r u9] (fun x rs vs => (x = 0 ∧ ∃ y12a0 y12a1 y12a2 y12a3, rs = [] ∧ vs = [.i y12a0, .i y12a1, .i y12a2, .i y12a3] ∧ (EZ G117 [] [.r v6, .i y12a0, .i y12a1, .i y12a2, .i y12a3] (fun x rs vs => (x = 0 ∧ ∃ y13_0, rs = [] ∧ vs = [.i y13_0] ∧ (EV 15 [] [.r a2, .i y13_0, .i u0, .i u1, .i u2, .i u3, .r u4, .i u5, .r u6, .r u7, .r u8, .r u9, .i v0, .i v1, .i v2, .i v3, .i v4, .i v5, .r v6]))))))))))) ∧ (y8_0 = false → Q 0 [] [.i 5]))))) ∧ (y6_0 = false → Q 0 [] [.i 5]))))) ∧ (y4_0 = false → Q 0 [] [.i 5]))))) ∧ (y2_0 = false → Q 0 [] [.i 5]))))) ∧ (y0_0 = false → Q 0 [] [.i 5]))))) : EZ G91 [] [.i u0, .i u1, .i u2, .i u3, .r u4, .i u5, .r u6, .r u7, .r u8, .r u9, .i v0, .i v1, .i v2, .i v3, .i v4, .i v5, .r v6, .r a2] Q := by
 refine ak.en (I := I91) (L := L91) Qq fun A hA CE CK Dn EV RR W hp => ?_
 have h := h  EV (V91.of W)
 cbv
 refine ⟨ndI hA (An (An aQ trivial) (An (hA ▸ rfl) trivial)), ?_⟩
 refine W.cl h ?_
 rintro _ _ _ hp0 (⟨rfl, y0_0, rfl, rfl, k0⟩)
 cbv
 refine ⟨imI hA fun e1 => have j1 := k0.1 e1; ⟨ndI hA (An (An aQ trivial) (An (hA ▸ rfl) trivial)), ?_⟩, imI hA fun e1 => have j1 := k0.2 e1; (W.q j1)⟩
 refine W.cl j1 ?_
 rintro _ _ _ hp2 (⟨rfl, y2_0, rfl, rfl, k2⟩)
 cbv
 refine ⟨imI hA fun e3 => have j3 := k2.1 e3; ⟨ndI hA (An (An aQ trivial) (An (hA ▸ rfl) trivial)), ?_⟩, imI hA fun e3 => have j3 := k2.2 e3; (W.q j3)⟩
 refine W.cl j3 ?_
 rintro _ _ _ hp4 (⟨rfl, y4_0, rfl, rfl, k4⟩)
 cbv
 refine ⟨imI hA fun e5 => have j5 := k4.1 e5; ⟨ndI hA (An (An aQ trivial) (An (hA ▸ rfl) trivial)), ?_⟩, imI hA fun e5 => have j5 := k4.2 e5; (W.q j5)⟩
 refine W.cl j5 ?_
 rintro _ _ _ hp6 (⟨rfl, y6_0, rfl, rfl, k6⟩)
 cbv
 refine ⟨imI hA fun e7 => have j7 := k6.1 e7; ⟨ndI hA (An (An aQ trivial) (An (hA ▸ rfl) trivial)), ?_⟩, imI hA fun e7 => have j7 := k6.2 e7; (W.q j7)⟩
 refine W.cl j7 ?_
 rintro _ _ _ hp8 (⟨rfl, y8_0, rfl, rfl, k8⟩)
 cbv
 refine ⟨imI hA fun e9 => have j9 := k8.1 e9; ⟨ndI hA (An (An aQ trivial) (An (hA ▸ rfl) trivial)), ?_⟩, imI hA fun e9 => have j9 := k8.2 e9; (W.q j9)⟩
 refine W.cl j9 ?_
 rintro _ _ _ hp10 (⟨rfl, y10_0, rfl, rfl, k10⟩)
 cbv
 refine ⟨imI hA fun e11 => have j11 := k10.1 (notE hA e11); (W.q j11), imI hA fun e11 => have j11 := k10.2 (notE hA e11); ⟨?_, trivial⟩⟩
 refine W.cd j11 ?_
 rintro _ _ _ hp12 (⟨rfl, y12a0, y12a1, y12a2, y12a3, rfl, rfl, k12⟩)
 cbv
 refine W.draw 80 (by rfl) ?_
 cbv
 refine ⟨?_, trivial⟩
 refine W.cd k12 ?_
 rintro _ _ _ hp13 (⟨rfl, y13_0, rfl, rfl, k13⟩)
 cbv
 refine W.draw 80 (by rfl) ?_
 cbv
 subst hA
 exact k13

-- 55: signalbox/conf.Check DRAWN
structure V55 (EV Q : EP) : Prop where
  p42 : ∀ {t76 : RW} {t77 t78 b0 b1 b2 b3 : Int} {b4 : RW} {b5 : Int} {b6 b7 b8 b9 : RW}, ((t78 < t77 → (0 ≤ t78) ∧ (t76[t78.toNat]? = some (r7 t76 t78.toNat)) ∧ (t78 ≤ (b8.length : Int)) ∧ (EZ G91 [] [.i b0, .i b1, .i b2, .i b3, .r b4, .i b5, .r b6, .r b7, .r b8, .r b9, .i (cIS t76 t78.toNat 0), .i (cIS t76 t78.toNat 1), .i (cIS t76 t78.toNat 2), .i (cIS t76 t78.toNat 3), .i (cIS t76 t78.toNat 4), .i (cIS t76 t78.toNat 5), .r (cRS t76 t78.toNat 6), .r (List.take t78.toNat b8)] (fun x rs vs => (x = 0 ∧ ∃ y1_0, rs = [] ∧ vs = [.i y1_0] ∧ ((y1_0 ≠ 0 → Q 0 [] [.i y1_0]) ∧ (y1_0 = 0 → EV 42 [] [.r t76, .i t77, .i (IntKind.wrap .i64 (t78 + 1)), .i b0, .i b1, .i b2, .i b3, .r b4, .i b5, .r b6, .r b7, .r b8, .r b9])))))) ∧ (t78 ≥ t77 → Q 0 [] [.i 0])) → EV 42 [] [.r t76, .i t77, .i t78, .i b0, .i b1, .i b2, .i b3, .r b4, .i b5, .r b6, .r b7, .r b8, .r b9]

theorem V55.of (W : Wk Tryz.prog Tryz.f55 I55 L55 Q A sg CE CK Dn EV RR) : V55 EV Q := by
 have hA := W.hA
 refine ⟨?_⟩
 intro t76 t77 t78 b0 b1 b2 b3 b4 b5 b6 b7 b8 b9 h
 refine W.step 80 fun hp => ?_
 cbv
 refine ⟨imI hA fun e0 => have j0 := h.1 (ah (op := .lss) hA e0); ⟨ndI hA (An j0.1 (hA ▸ j0.2.1)), ⟨ndI hA (An j0.1 (hA ▸ j0.2.2.1)), ⟨?_, trivial⟩⟩⟩, imI hA fun e0 => have j0 := h.2 (ah (op := .lss) hA e0); (W.q j0)⟩
 refine W.cd j0.2.2.2 ?_
 rintro _ _ _ hp1 (⟨rfl, y1_0, rfl, rfl, k1⟩)
 cbv
 refine W.draw 80 (by rfl) ?_
 cbv
 subst hA
 exact ⟨fun e2 => have j2 := k1.1 (ah (op := .neq) rfl e2); (W.q j2), fun e2 => have j2 := k1.2 (ah (op := .neq) rfl e2); j2⟩

theorem E55 {u0 u1 u2 u3 : Int} {u4 : RW} {u5 : Int} {u6 u7 u8 u9 : RW} (h : ∀ EV, V55 EV Q → EZ G89 [] [.i u0, .i u1, .i u2, .i u3] (fun x rs vs => (x = 0 ∧ ∃ y0_0, rs = [] ∧ vs = [.b y0_0] ∧ ((y0_0 = false → Q 0 [] [.i 5]) ∧ (y0_0 = true → ((arS.mx (arS.mx (arS.mx (u4.length : Int) u5) (u6.length : Int)) (u7.length : Int)) ≤ 4 → ((u8.length : Int) ≤ 8 → ((u9.length : Int) > 8 → Q 0 [] [.i 4]) ∧ ((u9.length : Int) ≤ 8 → ((u8.length : Int) ≠ 0 → (u5 < 0 → Q 0 [] [.i 1]) ∧ (u5 ≥ 0 → EZ G90 [] [.i 1, .i 8, .r u4] (fun x rs vs => (x = 0 ∧ ∃ y7_0, rs = [] ∧ vs = [.b y7_0] ∧ ((y7_0 = true → EZ G90 [] [.i 1, .i 8, .r u6] (fun x rs vs => (x = 0 ∧ ∃ y9_0, rs = [] ∧ vs = [.b y9_0] ∧ ((y9_0 = false → Q 0 [] [.i 5]) ∧ (y9_0 = true → EZ G90 [] [.i 0, .i 63, .r u7] (fun x rs vs => (x = 0 ∧ ∃ y11_0, rs = [] ∧ vs = [.b y11_0] ∧ ((y11_0 = true → EZ G90 [] [.i 0, .i (IntKind.wrap .i64 ((u8.length : Int) - 1)), .r u9] (fun x rs vs => (x = 0 ∧ ∃ y13_0, rs = [] ∧ vs = [.b y13_0] ∧ ((y13_0 = false → Q 0 [] [.i 5]) ∧ (y13_0 = true → EV 42 [] [.r u8, .i (u8.length : Int), .i 0, .i u0, .i u1, .i u2, .i u3, .r u4, .i u5, .r u6, .r u7, .r u8, .r u9]))))) ∧ (y11_0 = false → Q 0 [] [.i 5]))))))))) ∧ (y7_0 = false → Q 0 [] [.i 5])))))) ∧ ((u8.length : Int) = 0 → Q 0 [] [.i 1]))) ∧ ((u8.length : Int) > 8 → Q 0 [] [.i 4])) ∧ ((arS.mx (arS.mx (arS.mx (u4.length : Int) u5) (u6.length : Int)) (u7.length : Int)) > 4 → Q 0 [] [.i 4])))))) : EZ G55 [] [.i u0, .i u1, .i u2, .i u3, .r u4, .i u5, .r u6, .r u7, .r u8, .r u9] Q := by
 refine ak.en (I := I55) (L := L55) QY fun A hA CE CK Dn EV RR W hp => ?_
 have h := h  EV (V55.of W)
 cbv
 refine W.cl h ?_
 rintro _ _ _ hp0 (⟨rfl, y0_0, rfl, rfl, k0⟩)
 cbv
 refine ⟨imI hA fun e1 => have j1 := k0.1 (notE hA e1); (W.q j1), imI hA fun e1 => have j1 := k0.2 (notE hA e1); ⟨imI hA fun e2 => have j2 := j1.1 (by subst hA; exact (ah (op := .gtr) rfl e2)); ⟨imI hA fun e3 => have j3 := j2.1 (by subst hA; exact (ah (op := .gtr) rfl e3)); ⟨imI hA fun e4 => have j4 := j3.1 (by subst hA; exact (ah (op := .gtr) rfl e4)); (W.q j4), imI hA fun e4 => have j4 := j3.2 (by subst hA; exact (ah (op := .gtr) rfl e4)); ⟨imI hA fun e5 => have j5 := j4.1 (by subst hA; exact (ah (op := .eql) rfl e5)); ⟨imI hA fun e6 => have j6 := j5.1 (ah (op := .lss) hA e6); (W.q j6), imI hA fun e6 => have j6 := j5.2 (ah (op := .lss) hA e6); ?_⟩, imI hA fun e5 => have j5 := j4.2 (by subst hA; exact (ah (op := .eql) rfl e5)); (W.q j5)⟩⟩, imI hA fun e3 => have j3 := j2.2 (by subst hA; exact (ah (op := .gtr) rfl e3)); (W.q j3)⟩, imI hA fun e2 => have j2 := j1.2 (by subst hA; exact (ah (op := .gtr) rfl e2)); (W.q j2)⟩⟩
 refine W.cl j6 ?_
 rintro _ _ _ hp7 (⟨rfl, y7_0, rfl, rfl, k7⟩)
 cbv
 refine ⟨imI hA fun e8 => have j8 := k7.1 (notE hA e8); ?_, imI hA fun e8 => have j8 := k7.2 (notE hA e8); (W.q j8)⟩
 refine W.cl j8 ?_
 rintro _ _ _ hp9 (⟨rfl, y9_0, rfl, rfl, k9⟩)
 cbv
 refine ⟨imI hA fun e10 => have j10 := k9.1 (notE hA e10); (W.q j10), imI hA fun e10 => have j10 := k9.2 (notE hA e10); ?_⟩
 refine W.cl j10 ?_
 rintro _ _ _ hp11 (⟨rfl, y11_0, rfl, rfl, k11⟩)
 cbv
 refine ⟨imI hA fun e12 => have j12 := k11.1 (notE hA e12); ?_, imI hA fun e12 => have j12 := k11.2 (notE hA e12); (W.q j12)⟩
 refine W.cl j12 ?_
 rintro _ _ _ hp13 (⟨rfl, y13_0, rfl, rfl, k13⟩)
 cbv
 subst hA
 exact ⟨fun e14 => have j14 := k13.1 (notE rfl e14); (W.q j14), fun e14 => have j14 := k13.2 (notE rfl e14); j14⟩

-- 15: signalbox/signalboxref07.Few
structure V15 (EV Q : EP) : Prop where
  p7 : ∀ {t6 : RW} {t7 t8 b0 b1 b2 b3 : Int} {b4 : RW} {b5 : Int} {b6 b7 b8 b9 : RW}, ((t8 < t7 → (0 ≤ t8) ∧ (t6[t8.toNat]? = some (r7 t6 t8.toNat)) ∧ (((List.length (cRS t6 t8.toNat 6)) : Int) > 80 → Q 0 [] [.b false]) ∧ (((List.length (cRS t6 t8.toNat 6)) : Int) ≤ 80 → EV 7 [] [.r t6, .i t7, .i (IntKind.wrap .i64 (t8 + 1)), .i b0, .i b1, .i b2, .i b3, .r b4, .i b5, .r b6, .r b7, .r b8, .r b9])) ∧ (t8 ≥ t7 → ((b4.length : Int) ≤ 20 → ((b6.length : Int) ≤ 20 → ((b7.length : Int) ≤ 20 → ((b8.length : Int) ≤ 20 → Q 0 [] [.b (decide ((b9.length : Int) ≤ 20))]) ∧ ((b8.length : Int) > 20 → Q 0 [] [.b false])) ∧ ((b7.length : Int) > 20 → Q 0 [] [.b false])) ∧ ((b6.length : Int) > 20 → Q 0 [] [.b false])) ∧ ((b4.length : Int) > 20 → Q 0 [] [.b false]))) → EV 7 [] [.r t6, .i t7, .i t8, .i b0, .i b1, .i b2, .i b3, .r b4, .i b5, .r b6, .r b7, .r b8, .r b9]

theorem V15.of (W : Wk Tryz.prog Tryz.f15 I15 L15 Q A sg CE CK Dn EV RR) : V15 EV Q := by
 have hA := W.hA
 refine ⟨?_⟩
 intro t6 t7 t8 b0 b1 b2 b3 b4 b5 b6 b7 b8 b9 h
 refine W.step 80 fun hp => ?_
 cbv
 subst hA
 exact ⟨fun e0 => have j0 := h.1 (ah (op := .lss) rfl e0); ⟨(An j0.1 j0.2.1), ⟨fun e1 => have j1 := j0.2.2.1 ((ah (op := .gtr) rfl e1)); (W.q j1), fun e1 => have j1 := j0.2.2.2 ((ah (op := .gtr) rfl e1)); j1⟩⟩, fun e0 => have j0 := h.2 (ah (op := .lss) rfl e0); ⟨fun e1 => have j1 := j0.1 ((ah (op := .leq) rfl e1)); ⟨fun e2 => have j2 := j1.1 ((ah (op := .leq) rfl e2)); ⟨fun e3 => have j3 := j2.1 ((ah (op := .leq) rfl e3)); ⟨fun e4 => have j4 := j3.1 ((ah (op := .leq) rfl e4)); (W.q j4), fun e4 => have j4 := j3.2 ((ah (op := .leq) rfl e4)); (W.q j4)⟩, fun e3 => have j3 := j2.2 ((ah (op := .leq) rfl e3)); (W.q j3)⟩, fun e2 => have j2 := j1.2 ((ah (op := .leq) rfl e2)); (W.q j2)⟩, fun e1 => have j1 := j0.2 ((ah (op := .leq) rfl e1)); (W.q j1)⟩⟩

theorem E15 {u0 u1 u2 u3 : Int} {u4 : RW} {u5 : Int} {u6 u7 u8 u9 : RW} (h : ∀ EV, V15 EV Q → EV 7 [] [.r u8, .i (u8.length : Int), .i 0, .i u0, .i u1, .i u2, .i u3, .r u4, .i u5, .r u6, .r u7, .r u8, .r u9]) : EZ G15 [] [.i u0, .i u1, .i u2, .i u3, .r u4, .i u5, .r u6, .r u7, .r u8, .r u9] Q := by
 refine ak.en (I := I15) (L := L15) Sr fun A hA CE CK Dn EV RR W hp => ?_
 have h := h  EV (V15.of W)
 cbv
 subst hA
 exact h

-- 62: signalbox/signalboxref07.in
structure V20 (EV Q : EP) : Prop where
  p7 : ∀ {t6 : RW} {t7 t8 : Int}, ((t8 < t7 → (0 ≤ t8) ∧ (t6[t8.toNat]? = some (r7 t6 t8.toNat)) ∧ ((cIS t6 t8.toNat 2) ≤ 1500 → (((List.length (cRS t6 t8.toNat 6)) : Int) > 30 → Q 0 [] [.b false]) ∧ (((List.length (cRS t6 t8.toNat 6)) : Int) ≤ 30 → EV 7 [] [.r t6, .i t7, .i (IntKind.wrap .i64 (t8 + 1))])) ∧ ((cIS t6 t8.toNat 2) > 1500 → Q 0 [] [.b false])) ∧ (t8 ≥ t7 → Q 0 [] [.b true])) → EV 7 [] [.r t6, .i t7, .i t8]

theorem V20.of (W : Wk Tryz.prog Tryz.f20 I20 L20 Q A sg CE CK Dn EV RR) : V20 EV Q := by
 have hA := W.hA
 refine ⟨?_⟩
 intro t6 t7 t8 h
 refine W.step 80 fun hp => ?_
 cbv
 subst hA
 exact ⟨fun e0 => have j0 := h.1 (ah (op := .lss) rfl e0); ⟨(An j0.1 j0.2.1), ⟨fun e1 => have j1 := j0.2.2.1 ((ah (op := .gtr) rfl e1)); ⟨fun e2 => have j2 := j1.1 ((ah (op := .gtr) rfl e2)); (W.q j2), fun e2 => have j2 := j1.2 ((ah (op := .gtr) rfl e2)); j2⟩, fun e1 => have j1 := j0.2.2.2 ((ah (op := .gtr) rfl e1)); (W.q j1)⟩⟩, fun e0 => have j0 := h.2 (ah (op := .lss) rfl e0); (W.q j0)⟩

theorem E20 {u0 u1 u2 u3 : Int} {u4 : RW} {u5 : Int} {u6 u7 u8 u9 : RW} (h : ∀ EV, V20 EV Q → EV 7 [] [.r u8, .i (u8.length : Int), .i 0]) : EZ G20 [] [.i u0, .i u1, .i u2, .i u3, .r u4, .i u5, .r u6, .r u7, .r u8, .r u9] Q := by
 refine ak.en (I := I20) (L := L20) RZ fun A hA CE CK Dn EV RR W hp => ?_
 have h := h  EV (V20.of W)
 cbv
 subst hA
 exact h

end Go.Ab
