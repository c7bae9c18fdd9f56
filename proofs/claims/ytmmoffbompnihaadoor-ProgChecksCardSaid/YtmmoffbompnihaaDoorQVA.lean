import Derived.Test.YtmmoffbompnihaaDoorQS
import Derived.Test.YtmmoffbompnihaaDoorLayG
/- PRINTED BY A PROGRAM (wip/tools/vc.py, AbVc.lean): what is to be shown of each function, from place to place, and that it is enough. -/
namespace Go.Ab
open Go Go.Proofs
set_option linter.unusedVariables false
set_option linter.unusedSimpArgs false
set_option maxRecDepth 100000
set_option maxHeartbeats 0
variable {Q EV RR : EP} {A : Ar} {CE : Nat → Rs → List Lf → EP → Prop} {CK : Nat → Rs → List Lf → Cont → Prop} {Dn : Nat → List Bool → List AItem → Nat → List Bool → List AV → List ABlk → Prop}

-- 34: signalbox/signalboxlaw06.few
structure V34 (EV Q : EP) : Prop where
  none : True

theorem E34 {a0 : RW} (h : ∀ EV, V34 EV Q → Q 0 [] [.b (decide ((a0.length : Int) ≤ 80))]) : EZ G34 [] [.r a0] Q := by
 refine Inst.en (I := I34) (L := L34) F34_at fun A hA CE CK Dn EV RR W hp => ?_
 have h := h  EV ⟨trivial⟩
 cbv
 subst hA
 exact (W.q h)

-- 77: signalbox/prog.kinds
structure V77 (EV Q : EP) : Prop where
  none : True

theorem E77  (h : ∀ EV, V77 EV Q → Q 0 [] [.r [[(AV.str (ByteArray.mk (Array.mk []))), (AV.int .i64 (-1))], [(AV.str (ByteArray.mk (Array.mk [99, 111, 109, 112, 117, 116, 101]))), (AV.int .i64 1)], [(AV.str (ByteArray.mk (Array.mk [97, 99, 99, 101, 115, 115]))), (AV.int .i64 1)], [(AV.str (ByteArray.mk (Array.mk [101, 110, 116, 101, 114]))), (AV.int .i64 0)], [(AV.str (ByteArray.mk (Array.mk [101, 120, 105, 116]))), (AV.int .i64 0)], [(AV.str (ByteArray.mk (Array.mk [108, 111, 99, 107]))), (AV.int .i64 1)], [(AV.str (ByteArray.mk (Array.mk [117, 110, 108, 111, 99, 107]))), (AV.int .i64 1)], [(AV.str (ByteArray.mk (Array.mk [112, 117, 115, 104]))), (AV.int .i64 1)], [(AV.str (ByteArray.mk (Array.mk [112, 111, 112]))), (AV.int .i64 1)], [(AV.str (ByteArray.mk (Array.mk [115, 101, 110, 100]))), (AV.int .i64 2)], [(AV.str (ByteArray.mk (Array.mk [114, 101, 99, 118]))), (AV.int .i64 1)], [(AV.str (ByteArray.mk (Array.mk [115, 101, 116]))), (AV.int .i64 2)], [(AV.str (ByteArray.mk (Array.mk [99, 108, 101, 97, 114]))), (AV.int .i64 2)], [(AV.str (ByteArray.mk (Array.mk [116, 101, 115, 116]))), (AV.int .i64 2)], [(AV.str (ByteArray.mk (Array.mk [103, 105, 118, 101]))), (AV.int .i64 1)], [(AV.str (ByteArray.mk (Array.mk [116, 97, 107, 101]))), (AV.int .i64 1)]]]) : EZ G77 [] [] Q := by
 refine Inst.en (I := I77) (L := L77) F77_at fun A hA CE CK Dn EV RR W hp => ?_
 have h := h  EV ⟨trivial⟩
 cbv
 subst hA
 exact (W.q h)

-- 37: signalbox/prog.Numbers
structure V37 (EV Q : EP) : Prop where
  none : True

theorem E37 {a0 : Int} (h : ∀ EV, V37 EV Q → EZ G77 [] [] (fun x rs vs => (x = 0 ∧ ∃ y0_0, rs = [] ∧ vs = [.r y0_0] ∧ ((a0 ≥ 0 → (a0 ≥ (y0_0.length : Int) → Q 0 [] [.i (-1)]) ∧ (a0 < (y0_0.length : Int) → (0 ≤ a0) ∧ (y0_0[a0.toNat]? = some [.str (cSS y0_0 a0.toNat 0), .int .i64 (cIS y0_0 a0.toNat 1)]) ∧ (Q 0 [] [.i (cIS y0_0 a0.toNat 1)]))) ∧ (a0 < 0 → Q 0 [] [.i (-1)]))))) : EZ G37 [] [.i a0] Q := by
 refine Inst.en (I := I37) (L := L37) F37_at fun A hA CE CK Dn EV RR W hp => ?_
 have h := h  EV ⟨trivial⟩
 cbv
 refine W.cl h ?_
 rintro _ _ _ hp0 (⟨rfl, y0_0, rfl, rfl, k0⟩)
 cbv
 subst hA
 exact ⟨fun e1 => have j1 := k0.1 (cmpE (op := .lss) rfl e1); ⟨fun e2 => have j2 := j1.1 ((cmpE (op := .geq) rfl e2)); (W.q j2), fun e2 => have j2 := j1.2 ((cmpE (op := .geq) rfl e2)); ⟨(An j2.1 j2.2.1), (W.q j2.2.2)⟩⟩, fun e1 => have j1 := k0.2 (cmpE (op := .lss) rfl e1); (W.q j1)⟩

-- 98: (signalbox/prog.Room).spans$1
structure V98 (EV Q : EP) : Prop where
  none : True

theorem E98 {a0 : Int} (h : ∀ EV, V98 EV Q → Q 0 [] [.i 0, .i (IntKind.wrap .i64 (a0 - 1))]) : EZ G98 [] [.i a0] Q := by
 refine Inst.en (I := I98) (L := L98) F98_at fun A hA CE CK Dn EV RR W hp => ?_
 have h := h  EV ⟨trivial⟩
 cbv
 subst hA
 exact (W.q h)

-- 74: (signalbox/prog.Room).spans DRAWN
structure V74 (EV Q : EP) : Prop where
  p24 : ∀ {t9 : Int} {t16 : Bool} {b0 b1 b2 b3 d0 d1 f0 f1 g0 g1 : Int}, ((t16 = true → EZ G98 [] [.i b3] (fun x rs vs => (x = 0 ∧ ∃ y1a0 y1a1, rs = [] ∧ vs = [.i y1a0, .i y1a1] ∧ (Q 0 [] [.i y1a0, .i y1a1, .i f0, .i f1])))) ∧ (t16 = false → (t9 = 7 → EV 32 [] [.i t9, .b true, .i b0, .i b1, .i b2, .i b3, .i d0, .i d1, .i f0, .i f1, .i g0, .i g1]) ∧ (t9 ≠ 7 → EV 32 [] [.i t9, .b (t9 == 8), .i b0, .i b1, .i b2, .i b3, .i d0, .i d1, .i f0, .i f1, .i g0, .i g1]))) → EV 24 [] [.i t9, .b t16, .i b0, .i b1, .i b2, .i b3, .i d0, .i d1, .i f0, .i f1, .i g0, .i g1]
  p32 : ∀ {t9 : Int} {t23 : Bool} {b0 b1 b2 b3 d0 d1 f0 f1 g0 g1 : Int}, ((t23 = true → Q 0 [] [.i 1, .i 4096, .i f0, .i f1]) ∧ (t23 = false → (t9 = 9 → EZ G98 [] [.i b0] (fun x rs vs => (x = 0 ∧ ∃ y2a0 y2a1, rs = [] ∧ vs = [.i y2a0, .i y2a1] ∧ (Q 0 [] [.i y2a0, .i y2a1, .i g0, .i g1])))) ∧ (t9 ≠ 9 → (t9 = 10 → EZ G98 [] [.i b0] (fun x rs vs => (x = 0 ∧ ∃ y3a0 y3a1, rs = [] ∧ vs = [.i y3a0, .i y3a1] ∧ (Q 0 [] [.i y3a0, .i y3a1, .i f0, .i f1])))) ∧ (t9 ≠ 10 → (t9 = 11 → EV 52 [] [.i t9, .b true, .i b0, .i b1, .i b2, .i b3, .i d0, .i d1, .i f0, .i f1, .i g0, .i g1]) ∧ (t9 ≠ 11 → (t9 = 12 → EV 52 [] [.i t9, .b true, .i b0, .i b1, .i b2, .i b3, .i d0, .i d1, .i f0, .i f1, .i g0, .i g1]) ∧ (t9 ≠ 12 → EV 52 [] [.i t9, .b (t9 == 13), .i b0, .i b1, .i b2, .i b3, .i d0, .i d1, .i f0, .i f1, .i g0, .i g1])))))) → EV 32 [] [.i t9, .b t23, .i b0, .i b1, .i b2, .i b3, .i d0, .i d1, .i f0, .i f1, .i g0, .i g1]
  p52 : ∀ {t9 : Int} {t40 : Bool} {b0 b1 b2 b3 d0 d1 f0 f1 g0 g1 : Int}, ((t40 = true → EZ G98 [] [.i b1] (fun x rs vs => (x = 0 ∧ ∃ y1a0 y1a1, rs = [] ∧ vs = [.i y1a0, .i y1a1] ∧ (Q 0 [] [.i y1a0, .i y1a1, .i g0, .i g1])))) ∧ (t40 = false → (t9 = 14 → EV 60 [] [.b true, .i b0, .i b1, .i b2, .i b3, .i d0, .i d1, .i f0, .i f1]) ∧ (t9 ≠ 14 → EV 60 [] [.b (t9 == 15), .i b0, .i b1, .i b2, .i b3, .i d0, .i d1, .i f0, .i f1]))) → EV 52 [] [.i t9, .b t40, .i b0, .i b1, .i b2, .i b3, .i d0, .i d1, .i f0, .i f1, .i g0, .i g1]
  p60 : ∀ {t49 : Bool} {b0 b1 b2 b3 d0 d1 f0 f1 : Int}, ((t49 = true → EZ G98 [] [.i b2] (fun x rs vs => (x = 0 ∧ ∃ y1a0 y1a1, rs = [] ∧ vs = [.i y1a0, .i y1a1] ∧ (Q 0 [] [.i y1a0, .i y1a1, .i f0, .i f1])))) ∧ (t49 = false → Q 0 [] [.i d0, .i d1, .i f0, .i f1])) → EV 60 [] [.b t49, .i b0, .i b1, .i b2, .i b3, .i d0, .i d1, .i f0, .i f1]

theorem V74.of (W : Wk Tryd.prog Tryd.f74 I74 L74 Q A sg CE CK Dn EV RR) : V74 EV Q := by
 have hA := W.hA
 refine ⟨?_, ?_, ?_, ?_⟩
 ·intro t9 t16 b0 b1 b2 b3 d0 d1 f0 f1 g0 g1 h
  refine W.step 80 fun hp => ?_
  cbv
  refine ⟨imI hA fun e0 => have j0 := h.1 e0; ?_, imI hA fun e0 => have j0 := h.2 e0; ⟨imI hA fun e1 => have j1 := j0.1 (cmpE (op := .eql) hA e1); j1, imI hA fun e1 => have j1 := j0.2 (cmpE (op := .eql) hA e1); (hA ▸ j1)⟩⟩
  refine W.cl j0 ?_
  rintro _ _ _ hp1 (⟨rfl, y1a0, y1a1, rfl, rfl, k1⟩)
  cbv
  subst hA
  exact ⟨⟨⟨⟨(W.q k1), trivial⟩, trivial⟩, ⟨⟨⟨(W.q k1), trivial⟩, trivial⟩, trivial⟩⟩, ⟨⟨⟨⟨(W.q k1), trivial⟩, trivial⟩, trivial⟩, trivial⟩⟩
 ·intro t9 t23 b0 b1 b2 b3 d0 d1 f0 f1 g0 g1 h
  refine W.step 80 fun hp => ?_
  cbv
  refine ⟨imI hA fun e0 => have j0 := h.1 e0; ⟨⟨⟨⟨(W.q j0), trivial⟩, trivial⟩, ⟨⟨⟨(W.q j0), trivial⟩, trivial⟩, trivial⟩⟩, ⟨⟨⟨⟨(W.q j0), trivial⟩, trivial⟩, trivial⟩, trivial⟩⟩, imI hA fun e0 => have j0 := h.2 e0; ⟨imI hA fun e1 => have j1 := j0.1 (cmpE (op := .eql) hA e1); ⟨?_, trivial⟩, imI hA fun e1 => have j1 := j0.2 (cmpE (op := .eql) hA e1); ⟨imI hA fun e2 => have j2 := j1.1 (cmpE (op := .eql) hA e2); ?_, imI hA fun e2 => have j2 := j1.2 (cmpE (op := .eql) hA e2); ⟨imI hA fun e3 => have j3 := j2.1 (cmpE (op := .eql) hA e3); j3, imI hA fun e3 => have j3 := j2.2 (cmpE (op := .eql) hA e3); ⟨imI hA fun e4 => have j4 := j3.1 (cmpE (op := .eql) hA e4); j4, imI hA fun e4 => have j4 := j3.2 (cmpE (op := .eql) hA e4); (hA ▸ j4)⟩⟩⟩⟩⟩
  ·refine W.cd j1 ?_
   rintro _ _ _ hp2 (⟨rfl, y2a0, y2a1, rfl, rfl, k2⟩)
   cbv
   refine W.draw 80 (by rfl) ?_
   cbv
   subst hA
   exact ⟨⟨⟨⟨⟨⟨(W.q k2), trivial⟩, trivial⟩, ⟨⟨⟨(W.q k2), trivial⟩, trivial⟩, trivial⟩⟩, ⟨⟨⟨⟨(W.q k2), trivial⟩, trivial⟩, trivial⟩, trivial⟩⟩, trivial⟩, trivial⟩
  ·refine W.cl j2 ?_
   rintro _ _ _ hp3 (⟨rfl, y3a0, y3a1, rfl, rfl, k3⟩)
   cbv
   subst hA
   exact ⟨⟨⟨⟨(W.q k3), trivial⟩, trivial⟩, ⟨⟨⟨(W.q k3), trivial⟩, trivial⟩, trivial⟩⟩, ⟨⟨⟨⟨(W.q k3), trivial⟩, trivial⟩, trivial⟩, trivial⟩⟩
 ·intro t9 t40 b0 b1 b2 b3 d0 d1 f0 f1 g0 g1 h
  refine W.step 80 fun hp => ?_
  cbv
  refine ⟨imI hA fun e0 => have j0 := h.1 e0; ⟨?_, trivial⟩, imI hA fun e0 => have j0 := h.2 e0; ⟨imI hA fun e1 => have j1 := j0.1 (cmpE (op := .eql) hA e1); j1, imI hA fun e1 => have j1 := j0.2 (cmpE (op := .eql) hA e1); (hA ▸ j1)⟩⟩
  refine W.cd j0 ?_
  rintro _ _ _ hp1 (⟨rfl, y1a0, y1a1, rfl, rfl, k1⟩)
  cbv
  refine W.draw 80 (by rfl) ?_
  cbv
  subst hA
  exact ⟨⟨⟨⟨⟨⟨(W.q k1), trivial⟩, trivial⟩, ⟨⟨⟨(W.q k1), trivial⟩, trivial⟩, trivial⟩⟩, ⟨⟨⟨⟨(W.q k1), trivial⟩, trivial⟩, trivial⟩, trivial⟩⟩, trivial⟩, trivial⟩
 ·intro t49 b0 b1 b2 b3 d0 d1 f0 f1 h
  refine W.step 80 fun hp => ?_
  cbv
  refine ⟨imI hA fun e0 => have j0 := h.1 e0; ?_, imI hA fun e0 => have j0 := h.2 e0; ⟨⟨⟨⟨(W.q j0), trivial⟩, trivial⟩, ⟨⟨⟨(W.q j0), trivial⟩, trivial⟩, trivial⟩⟩, ⟨⟨⟨⟨(W.q j0), trivial⟩, trivial⟩, trivial⟩, trivial⟩⟩⟩
  refine W.cl j0 ?_
  rintro _ _ _ hp1 (⟨rfl, y1a0, y1a1, rfl, rfl, k1⟩)
  cbv
  subst hA
  exact ⟨⟨⟨⟨(W.q k1), trivial⟩, trivial⟩, ⟨⟨⟨(W.q k1), trivial⟩, trivial⟩, trivial⟩⟩, ⟨⟨⟨⟨(W.q k1), trivial⟩, trivial⟩, trivial⟩, trivial⟩⟩

theorem E74 {u0 u1 u2 u3 a1 : Int} (h : ∀ EV, V74 EV Q → (a1 = 1 → Q 0 [] [.i 1, .i 1000, .i 0, .i 0]) ∧ (a1 ≠ 1 → (a1 = 2 → Q 0 [] [.i 0, .i 255, .i 0, .i 0]) ∧ (a1 ≠ 2 → (a1 = 5 → EV 24 [] [.i a1, .b true, .i u0, .i u1, .i u2, .i u3, .i 0, .i 0, .i 0, .i 0, .i 0, .i 255]) ∧ (a1 ≠ 5 → EV 24 [] [.i a1, .b (a1 == 6), .i u0, .i u1, .i u2, .i u3, .i 0, .i 0, .i 0, .i 0, .i 0, .i 255])))) : EZ G74 [] [.i u0, .i u1, .i u2, .i u3, .i a1] Q := by
 refine Inst.en (I := I74) (L := L74) F74_at fun A hA CE CK Dn EV RR W hp => ?_
 have h := h  EV (V74.of W)
 cbv
 subst hA
 exact ⟨fun e0 => have j0 := h.1 (cmpE (op := .eql) rfl e0); ⟨⟨⟨⟨(W.q j0), trivial⟩, trivial⟩, ⟨⟨⟨(W.q j0), trivial⟩, trivial⟩, trivial⟩⟩, ⟨⟨⟨⟨(W.q j0), trivial⟩, trivial⟩, trivial⟩, trivial⟩⟩, fun e0 => have j0 := h.2 (cmpE (op := .eql) rfl e0); ⟨fun e1 => have j1 := j0.1 (cmpE (op := .eql) rfl e1); ⟨⟨⟨⟨(W.q j1), trivial⟩, trivial⟩, ⟨⟨⟨(W.q j1), trivial⟩, trivial⟩, trivial⟩⟩, ⟨⟨⟨⟨(W.q j1), trivial⟩, trivial⟩, trivial⟩, trivial⟩⟩, fun e1 => have j1 := j0.2 (cmpE (op := .eql) rfl e1); ⟨fun e2 => have j2 := j1.1 (cmpE (op := .eql) rfl e2); j2, fun e2 => have j2 := j1.2 (cmpE (op := .eql) rfl e2); j2⟩⟩⟩

-- 75: (signalbox/prog.span).has
structure V75 (EV Q : EP) : Prop where
  none : True

theorem E75 {u0 u1 a1 : Int} (h : ∀ EV, V75 EV Q → (a1 ≥ u0 → Q 0 [] [.b (decide (a1 ≤ u1))]) ∧ (a1 < u0 → Q 0 [] [.b false])) : EZ G75 [] [.i u0, .i u1, .i a1] Q := by
 refine Inst.en (I := I75) (L := L75) F75_at fun A hA CE CK Dn EV RR W hp => ?_
 have h := h  EV ⟨trivial⟩
 cbv
 subst hA
 exact ⟨fun e0 => have j0 := h.1 (cmpE (op := .geq) rfl e0); (W.q j0), fun e0 => have j0 := h.2 (cmpE (op := .geq) rfl e0); (W.q j0)⟩

-- 35: signalbox/prog.Op
structure V35 (EV Q : EP) : Prop where
  none : True

theorem E35 {u0 u1 u2 v0 v1 v2 v3 : Int} (h : ∀ EV, V35 EV Q → EZ G37 [] [.i u0] (fun x rs vs => (x = 0 ∧ ∃ y0_0, rs = [] ∧ vs = [.i y0_0] ∧ ((y0_0 < 0 → Q 0 [] [.i 1]) ∧ (y0_0 ≥ 0 → EZ G74 [] [.i v0, .i v1, .i v2, .i v3, .i u0] (fun x rs vs => (x = 0 ∧ ∃ y2a0 y2a1 y2b0 y2b1, rs = [] ∧ vs = [.i y2a0, .i y2a1, .i y2b0, .i y2b1] ∧ (EZ G75 [] [.i y2a0, .i y2a1, .i u1] (fun x rs vs => (x = 0 ∧ ∃ y3_0, rs = [] ∧ vs = [.b y3_0] ∧ ((y3_0 = true → EZ G75 [] [.i y2b0, .i y2b1, .i u2] (fun x rs vs => (x = 0 ∧ ∃ y5_0, rs = [] ∧ vs = [.b y5_0] ∧ ((y5_0 = false → Q 0 [] [.i 5]) ∧ (y5_0 = true → Q 0 [] [.i 0]))))) ∧ (y3_0 = false → Q 0 [] [.i 5])))))))))))) : EZ G35 [] [.i u0, .i u1, .i u2, .i v0, .i v1, .i v2, .i v3] Q := by
 refine Inst.en (I := I35) (L := L35) F35_at fun A hA CE CK Dn EV RR W hp => ?_
 have h := h  EV ⟨trivial⟩
 cbv
 refine W.cl h ?_
 rintro _ _ _ hp0 (⟨rfl, y0_0, rfl, rfl, k0⟩)
 cbv
 refine ⟨imI hA fun e1 => have j1 := k0.1 (cmpE (op := .lss) hA e1); (W.q j1), imI hA fun e1 => have j1 := k0.2 (cmpE (op := .lss) hA e1); ?_⟩
 refine W.cl j1 ?_
 rintro _ _ _ hp2 (⟨rfl, y2a0, y2a1, y2b0, y2b1, rfl, rfl, k2⟩)
 cbv
 refine W.cl k2 ?_
 rintro _ _ _ hp3 (⟨rfl, y3_0, rfl, rfl, k3⟩)
 cbv
 refine ⟨imI hA fun e4 => have j4 := k3.1 (by subst hA; exact (notE rfl e4)); ?_, imI hA fun e4 => have j4 := k3.2 (by subst hA; exact (notE rfl e4)); (W.q j4)⟩
 refine W.cl j4 ?_
 rintro _ _ _ hp5 (⟨rfl, y5_0, rfl, rfl, k5⟩)
 cbv
 subst hA
 exact ⟨fun e6 => have j6 := k5.1 ((notE rfl e6)); (W.q j6), fun e6 => have j6 := k5.2 ((notE rfl e6)); (W.q j6)⟩

-- 38: signalbox/signalboxref06.Numbers
structure V38 (EV Q : EP) : Prop where
  p12 : ∀ {t0 t3 : Int} {t4 : Bool}, ((t4 = true → Q 0 [] [.i 0]) ∧ (t4 = false → (t3 = 9 → EV 30 [] [.i t0, .b true]) ∧ (t3 ≠ 9 → (t3 = 11 → EV 30 [] [.i t0, .b true]) ∧ (t3 ≠ 11 → (t3 = 12 → EV 30 [] [.i t0, .b true]) ∧ (t3 ≠ 12 → EV 30 [] [.i t0, .b (t3 == 13)]))))) → EV 12 [] [.i t0, .i t3, .b t4]
  p30 : ∀ {t0 : Int} {t7 : Bool}, ((t7 = true → Q 0 [] [.i 2]) ∧ (t7 = false → EV 35 [] [.i t0])) → EV 30 [] [.i t0, .b t7]
  p35 : ∀ {t0 : Int}, ((t0 ≥ 1 → (t0 > 15 → Q 0 [] [.i (-1)]) ∧ (t0 ≤ 15 → Q 0 [] [.i 1])) ∧ (t0 < 1 → Q 0 [] [.i (-1)])) → EV 35 [] [.i t0]

theorem V38.of (W : Wk Tryd.prog Tryd.f38 I38 L38 Q A sg CE CK Dn EV RR) : V38 EV Q := by
 have hA := W.hA
 refine ⟨?_, ?_, ?_⟩
 ·intro t0 t3 t4 h
  refine W.step 80 fun hp => ?_
  cbv
  subst hA
  exact ⟨fun e0 => have j0 := h.1 e0; (W.q j0), fun e0 => have j0 := h.2 e0; ⟨fun e1 => have j1 := j0.1 (cmpE (op := .eql) rfl e1); j1, fun e1 => have j1 := j0.2 (cmpE (op := .eql) rfl e1); ⟨fun e2 => have j2 := j1.1 (cmpE (op := .eql) rfl e2); j2, fun e2 => have j2 := j1.2 (cmpE (op := .eql) rfl e2); ⟨fun e3 => have j3 := j2.1 (cmpE (op := .eql) rfl e3); j3, fun e3 => have j3 := j2.2 (cmpE (op := .eql) rfl e3); j3⟩⟩⟩⟩
 ·intro t0 t7 h
  refine W.step 80 fun hp => ?_
  cbv
  subst hA
  exact ⟨fun e0 => have j0 := h.1 e0; (W.q j0), fun e0 => have j0 := h.2 e0; j0⟩
 ·intro t0 h
  refine W.step 80 fun hp => ?_
  cbv
  subst hA
  exact ⟨fun e0 => have j0 := h.1 (cmpE (op := .lss) rfl e0); ⟨fun e1 => have j1 := j0.1 (cmpE (op := .gtr) rfl e1); (W.q j1), fun e1 => have j1 := j0.2 (cmpE (op := .gtr) rfl e1); (W.q j1)⟩, fun e0 => have j0 := h.2 (cmpE (op := .lss) rfl e0); (W.q j0)⟩

theorem E38 {a0 : Int} (h : ∀ EV, V38 EV Q → (a0 = 3 → EV 12 [] [.i a0, .i a0, .b true]) ∧ (a0 ≠ 3 → EV 12 [] [.i a0, .i a0, .b (a0 == 4)])) : EZ G38 [] [.i a0] Q := by
 refine Inst.en (I := I38) (L := L38) F38_at fun A hA CE CK Dn EV RR W hp => ?_
 have h := h  EV (V38.of W)
 cbv
 subst hA
 exact ⟨fun e0 => have j0 := h.1 (cmpE (op := .eql) rfl e0); j0, fun e0 => have j0 := h.2 (cmpE (op := .eql) rfl e0); j0⟩

-- 76: signalbox/signalboxref06.in
structure V76 (EV Q : EP) : Prop where
  none : True

theorem E76 {a0 a1 a2 : Int} (h : ∀ EV, V76 EV Q → (a0 ≥ a1 → Q 0 [] [.b (decide (a0 ≤ a2))]) ∧ (a0 < a1 → Q 0 [] [.b false])) : EZ G76 [] [.i a0, .i a1, .i a2] Q := by
 refine Inst.en (I := I76) (L := L76) F76_at fun A hA CE CK Dn EV RR W hp => ?_
 have h := h  EV ⟨trivial⟩
 cbv
 subst hA
 exact ⟨fun e0 => have j0 := h.1 (cmpE (op := .geq) rfl e0); (W.q j0), fun e0 => have j0 := h.2 (cmpE (op := .geq) rfl e0); (W.q j0)⟩

-- 36: signalbox/signalboxref06.Op DRAWN
structure V36 (EV Q : EP) : Prop where
  p30 : ∀ {t1 t2 t3 t4 : Int} {t12 : Bool} {t21 : Int} {t32 : Bool} {b0 b1 b2 : Int}, ((t32 = true → EV 77 [] [.b (b1 == 0), .b t12]) ∧ (t32 = false → (t21 = 5 → EV 38 [] [.i t1, .i t2, .i t3, .i t4, .b t12, .i t21, .b true, .i b0, .i b1, .i b2]) ∧ (t21 ≠ 5 → EV 38 [] [.i t1, .i t2, .i t3, .i t4, .b t12, .i t21, .b (t21 == 6), .i b0, .i b1, .i b2]))) → EV 30 [] [.i t1, .i t2, .i t3, .i t4, .b t12, .i t21, .b t32, .i b0, .i b1, .i b2]
  p38 : ∀ {t1 t2 t3 t4 : Int} {t12 : Bool} {t21 : Int} {t38 : Bool} {b0 b1 b2 : Int}, ((t38 = true → EZ G76 [] [.i b1, .i 0, .i (IntKind.wrap .i64 (t4 - 1))] (fun x rs vs => (x = 0 ∧ ∃ y1_0, rs = [] ∧ vs = [.b y1_0] ∧ (EV 77 [] [.b y1_0, .b t12])))) ∧ (t38 = false → (t21 = 7 → EV 46 [] [.i t1, .i t2, .i t3, .b t12, .i t21, .b true, .i b0, .i b1, .i b2]) ∧ (t21 ≠ 7 → EV 46 [] [.i t1, .i t2, .i t3, .b t12, .i t21, .b (t21 == 8), .i b0, .i b1, .i b2]))) → EV 38 [] [.i t1, .i t2, .i t3, .i t4, .b t12, .i t21, .b t38, .i b0, .i b1, .i b2]
  p46 : ∀ {t1 t2 t3 : Int} {t12 : Bool} {t21 : Int} {t46 : Bool} {b0 b1 b2 : Int}, ((t46 = true → EZ G76 [] [.i b1, .i 1, .i 4096] (fun x rs vs => (x = 0 ∧ ∃ y1_0, rs = [] ∧ vs = [.b y1_0] ∧ (EV 77 [] [.b y1_0, .b t12])))) ∧ (t46 = false → (t21 = 9 → EZ G76 [] [.i b1, .i 0, .i (IntKind.wrap .i64 (t1 - 1))] (fun x rs vs => (x = 0 ∧ ∃ y2_0, rs = [] ∧ vs = [.b y2_0] ∧ (EZ G76 [] [.i b2, .i 0, .i 255] (fun x rs vs => (x = 0 ∧ ∃ y3_0, rs = [] ∧ vs = [.b y3_0] ∧ (EV 77 [] [.b y2_0, .b y3_0]))))))) ∧ (t21 ≠ 9 → (t21 = 10 → EZ G76 [] [.i b1, .i 0, .i (IntKind.wrap .i64 (t1 - 1))] (fun x rs vs => (x = 0 ∧ ∃ y3_0, rs = [] ∧ vs = [.b y3_0] ∧ (EV 77 [] [.b y3_0, .b t12])))) ∧ (t21 ≠ 10 → (t21 = 11 → EV 66 [] [.i t2, .i t3, .b t12, .i t21, .b true, .i b0, .i b1, .i b2]) ∧ (t21 ≠ 11 → (t21 = 12 → EV 66 [] [.i t2, .i t3, .b t12, .i t21, .b true, .i b0, .i b1, .i b2]) ∧ (t21 ≠ 12 → EV 66 [] [.i t2, .i t3, .b t12, .i t21, .b (t21 == 13), .i b0, .i b1, .i b2])))))) → EV 46 [] [.i t1, .i t2, .i t3, .b t12, .i t21, .b t46, .i b0, .i b1, .i b2]
  p66 : ∀ {t2 t3 : Int} {t12 : Bool} {t21 : Int} {t69 : Bool} {b0 b1 b2 : Int}, ((t69 = true → EZ G76 [] [.i b1, .i 0, .i (IntKind.wrap .i64 (t2 - 1))] (fun x rs vs => (x = 0 ∧ ∃ y1_0, rs = [] ∧ vs = [.b y1_0] ∧ (EZ G76 [] [.i b2, .i 0, .i 255] (fun x rs vs => (x = 0 ∧ ∃ y2_0, rs = [] ∧ vs = [.b y2_0] ∧ (EV 77 [] [.b y1_0, .b y2_0]))))))) ∧ (t69 = false → (t21 = 14 → EV 74 [] [.i t3, .b t12, .b true, .i b0, .i b1, .i b2]) ∧ (t21 ≠ 14 → EV 74 [] [.i t3, .b t12, .b (t21 == 15), .i b0, .i b1, .i b2]))) → EV 66 [] [.i t2, .i t3, .b t12, .i t21, .b t69, .i b0, .i b1, .i b2]
  p74 : ∀ {t3 : Int} {t12 t81 : Bool} {b0 b1 b2 : Int}, ((t81 = true → EZ G76 [] [.i b1, .i 0, .i (IntKind.wrap .i64 (t3 - 1))] (fun x rs vs => (x = 0 ∧ ∃ y1_0, rs = [] ∧ vs = [.b y1_0] ∧ (EV 77 [] [.b y1_0, .b t12])))) ∧ (t81 = false → EV 77 [] [.b false, .b t12])) → EV 74 [] [.i t3, .b t12, .b t81, .i b0, .i b1, .i b2]
  p77 : ∀ {t11 t12 : Bool}, ((t11 = true → (t12 = false → Q 0 [] [.i 5]) ∧ (t12 = true → Q 0 [] [.i 0])) ∧ (t11 = false → Q 0 [] [.i 5])) → EV 77 [] [.b t11, .b t12]

theorem V36.of (W : Wk Tryd.prog Tryd.f36 I36 L36 Q A sg CE CK Dn EV RR) : V36 EV Q := by
 have hA := W.hA
 refine ⟨?_, ?_, ?_, ?_, ?_, ?_⟩
 ·intro t1 t2 t3 t4 t12 t21 t32 b0 b1 b2 h
  refine W.step 80 fun hp => ?_
  cbv
  subst hA
  exact ⟨fun e0 => have j0 := h.1 e0; j0, fun e0 => have j0 := h.2 e0; ⟨fun e1 => have j1 := j0.1 (cmpE (op := .eql) rfl e1); j1, fun e1 => have j1 := j0.2 (cmpE (op := .eql) rfl e1); j1⟩⟩
 ·intro t1 t2 t3 t4 t12 t21 t38 b0 b1 b2 h
  refine W.step 80 fun hp => ?_
  cbv
  refine ⟨imI hA fun e0 => have j0 := h.1 e0; ?_, imI hA fun e0 => have j0 := h.2 e0; ⟨imI hA fun e1 => have j1 := j0.1 (cmpE (op := .eql) hA e1); j1, imI hA fun e1 => have j1 := j0.2 (cmpE (op := .eql) hA e1); (hA ▸ j1)⟩⟩
  refine W.cl j0 ?_
  rintro _ _ _ hp1 (⟨rfl, y1_0, rfl, rfl, k1⟩)
  cbv
  subst hA
  exact k1
 ·intro t1 t2 t3 t12 t21 t46 b0 b1 b2 h
  refine W.step 80 fun hp => ?_
  cbv
  refine ⟨imI hA fun e0 => have j0 := h.1 e0; ?_, imI hA fun e0 => have j0 := h.2 e0; ⟨imI hA fun e1 => have j1 := j0.1 (cmpE (op := .eql) hA e1); ⟨?_, trivial⟩, imI hA fun e1 => have j1 := j0.2 (cmpE (op := .eql) hA e1); ⟨imI hA fun e2 => have j2 := j1.1 (cmpE (op := .eql) hA e2); ?_, imI hA fun e2 => have j2 := j1.2 (cmpE (op := .eql) hA e2); ⟨imI hA fun e3 => have j3 := j2.1 (cmpE (op := .eql) hA e3); j3, imI hA fun e3 => have j3 := j2.2 (cmpE (op := .eql) hA e3); ⟨imI hA fun e4 => have j4 := j3.1 (cmpE (op := .eql) hA e4); j4, imI hA fun e4 => have j4 := j3.2 (cmpE (op := .eql) hA e4); (hA ▸ j4)⟩⟩⟩⟩⟩
  ·refine W.cl j0 ?_
   rintro _ _ _ hp1 (⟨rfl, y1_0, rfl, rfl, k1⟩)
   cbv
   subst hA
   exact k1
  ·refine W.cd j1 ?_
   rintro _ _ _ hp2 (⟨rfl, y2_0, rfl, rfl, k2⟩)
   cbv
   refine W.draw 80 (by rfl) ?_
   cbv
   refine ⟨?_, trivial⟩
   refine W.cd k2 ?_
   rintro _ _ _ hp3 (⟨rfl, y3_0, rfl, rfl, k3⟩)
   cbv
   refine W.draw 80 (by rfl) ?_
   cbv
   subst hA
   exact k3
  ·refine W.cl j2 ?_
   rintro _ _ _ hp3 (⟨rfl, y3_0, rfl, rfl, k3⟩)
   cbv
   subst hA
   exact k3
 ·intro t2 t3 t12 t21 t69 b0 b1 b2 h
  refine W.step 80 fun hp => ?_
  cbv
  refine ⟨imI hA fun e0 => have j0 := h.1 e0; ⟨?_, trivial⟩, imI hA fun e0 => have j0 := h.2 e0; ⟨imI hA fun e1 => have j1 := j0.1 (cmpE (op := .eql) hA e1); j1, imI hA fun e1 => have j1 := j0.2 (cmpE (op := .eql) hA e1); (hA ▸ j1)⟩⟩
  refine W.cd j0 ?_
  rintro _ _ _ hp1 (⟨rfl, y1_0, rfl, rfl, k1⟩)
  cbv
  refine W.draw 80 (by rfl) ?_
  cbv
  refine ⟨?_, trivial⟩
  refine W.cd k1 ?_
  rintro _ _ _ hp2 (⟨rfl, y2_0, rfl, rfl, k2⟩)
  cbv
  refine W.draw 80 (by rfl) ?_
  cbv
  subst hA
  exact k2
 ·intro t3 t12 t81 b0 b1 b2 h
  refine W.step 80 fun hp => ?_
  cbv
  refine ⟨imI hA fun e0 => have j0 := h.1 e0; ?_, imI hA fun e0 => have j0 := h.2 e0; j0⟩
  refine W.cl j0 ?_
  rintro _ _ _ hp1 (⟨rfl, y1_0, rfl, rfl, k1⟩)
  cbv
  subst hA
  exact k1
 ·intro t11 t12 h
  refine W.step 80 fun hp => ?_
  cbv
  subst hA
  exact ⟨fun e0 => have j0 := h.1 ((notE rfl e0)); ⟨fun e1 => have j1 := j0.1 ((notE rfl e1)); (W.q j1), fun e1 => have j1 := j0.2 ((notE rfl e1)); (W.q j1)⟩, fun e0 => have j0 := h.2 ((notE rfl e0)); (W.q j0)⟩

theorem E36 {u0 u1 u2 a1 a2 a3 a4 : Int} (h : ∀ EV, V36 EV Q → EZ G38 [] [.i u0] (fun x rs vs => (x = 0 ∧ ∃ y0_0, rs = [] ∧ vs = [.i y0_0] ∧ ((y0_0 < 0 → Q 0 [] [.i 1]) ∧ (y0_0 ≥ 0 → (u0 = 1 → EZ G76 [] [.i u1, .i 1, .i 1000] (fun x rs vs => (x = 0 ∧ ∃ y3_0, rs = [] ∧ vs = [.b y3_0] ∧ (EV 77 [] [.b y3_0, .b (u2 == 0)])))) ∧ (u0 ≠ 1 → (u0 = 2 → EZ G76 [] [.i u1, .i 0, .i 255] (fun x rs vs => (x = 0 ∧ ∃ y4_0, rs = [] ∧ vs = [.b y4_0] ∧ (EV 77 [] [.b y4_0, .b (u2 == 0)])))) ∧ (u0 ≠ 2 → (u0 = 3 → EV 30 [] [.i a1, .i a2, .i a3, .i a4, .b (u2 == 0), .i u0, .b true, .i u0, .i u1, .i u2]) ∧ (u0 ≠ 3 → EV 30 [] [.i a1, .i a2, .i a3, .i a4, .b (u2 == 0), .i u0, .b (u0 == 4), .i u0, .i u1, .i u2])))))))) : EZ G36 [] [.i u0, .i u1, .i u2, .i a1, .i a2, .i a3, .i a4] Q := by
 refine Inst.en (I := I36) (L := L36) F36_at fun A hA CE CK Dn EV RR W hp => ?_
 have h := h  EV (V36.of W)
 cbv
 refine W.cl h ?_
 rintro _ _ _ hp0 (⟨rfl, y0_0, rfl, rfl, k0⟩)
 cbv
 refine ⟨imI hA fun e1 => have j1 := k0.1 (cmpE (op := .lss) hA e1); (W.q j1), imI hA fun e1 => have j1 := k0.2 (cmpE (op := .lss) hA e1); ⟨imI hA fun e2 => have j2 := j1.1 (cmpE (op := .eql) hA e2); ?_, imI hA fun e2 => have j2 := j1.2 (cmpE (op := .eql) hA e2); ⟨imI hA fun e3 => have j3 := j2.1 (cmpE (op := .eql) hA e3); ?_, imI hA fun e3 => have j3 := j2.2 (cmpE (op := .eql) hA e3); ⟨imI hA fun e4 => have j4 := j3.1 (cmpE (op := .eql) hA e4); (hA ▸ j4), imI hA fun e4 => have j4 := j3.2 (cmpE (op := .eql) hA e4); (hA ▸ j4)⟩⟩⟩⟩
 ·refine W.cl j2 ?_
  rintro _ _ _ hp3 (⟨rfl, y3_0, rfl, rfl, k3⟩)
  cbv
  subst hA
  exact k3
 ·refine W.cl j3 ?_
  rintro _ _ _ hp4 (⟨rfl, y4_0, rfl, rfl, k4⟩)
  cbv
  subst hA
  exact k4

-- 122: slices.Index[[]int,int]
structure V122a (EV Q : EP) : Prop where
  p7 : ∀ {R0 : RW} {t0 : Nat} {t1 t7 t8 : Int}, (pursS R0 = true → (t8 < t7 → (0 ≤ t8) ∧ (t8 < (t0 : Int)) ∧ (R0[t8.toNat]? = some [.int .i64 (cIS R0 t8.toNat 0)]) ∧ (t1 = (cIS R0 t8.toNat 0) → Q 0 [R0] [.i t8]) ∧ (t1 ≠ (cIS R0 t8.toNat 0) → EV 7 [R0] [.n t0, .i t1, .i t7, .i (IntKind.wrap .i64 (t8 + 1))])) ∧ (t8 ≥ t7 → Q 0 [R0] [.i (-1)])) → EV 7 [R0] [.n t0, .i t1, .i t7, .i t8]

theorem V122a.of (W : Wk Tryd.prog Tryd.f122 I122a L122a Q A sg CE CK Dn EV RR) : V122a EV Q := by
 have hA := W.hA
 refine ⟨?_⟩
 intro R0 t0 t1 t7 t8 h
 refine W.step 80 fun hp => ?_
 have h := h hp.1
 cbv
 subst hA
 exact ⟨fun e0 => have j0 := h.1 (cmpE (op := .lss) rfl e0); ⟨(An j0.1 (An j0.2.1 rfl)), ⟨(An rfl j0.2.2.1), ⟨fun e1 => have j1 := j0.2.2.2.1 ((cmpE (op := .eql) rfl e1)); ⟨hp.1, (W.q j1)⟩, fun e1 => have j1 := j0.2.2.2.2 ((cmpE (op := .eql) rfl e1)); ⟨(An rfl rfl), ⟨hp.1, j1⟩⟩⟩⟩⟩, fun e0 => have j0 := h.2 (cmpE (op := .lss) rfl e0); ⟨hp.1, (W.q j0)⟩⟩

theorem E122a {R0 : RW} {a0 : Nat} {a1 : Int} (h : pursS R0 = true → ∀ EV, V122a EV Q → EV 7 [R0] [.n a0, .i a1, .i (a0 : Int), .i 0]) : EZ G122a [R0] [.n a0, .i a1] Q := by
 refine Inst.en (I := I122a) (L := L122a) F122_at fun A hA CE CK Dn EV RR W hp => ?_
 have h := h hp.1 EV (V122a.of W)
 cbv
 subst hA
 exact ⟨rfl, ⟨(An rfl rfl), ⟨hp.1, h⟩⟩⟩

-- 99a: slices.Contains[[]int,int]
structure V99a (EV Q : EP) : Prop where
  none : True

theorem E99a {R0 : RW} {a0 : Nat} {a1 : Int} (h : pursS R0 = true → ∀ EV, V99a EV Q → EZ G122a [R0] [.n a0, .i a1] (fun x rs vs => (x = 0 ∧ ∃ Y0_0 y0_0, rs = [Y0_0] ∧ vs = [.i y0_0] ∧ (Q 0 [Y0_0] [.b (decide (y0_0 ≥ 0))])))) : EZ G99a [R0] [.n a0, .i a1] Q := by
 refine Inst.en (I := I99a) (L := L99a) F99_at fun A hA CE CK Dn EV RR W hp => ?_
 have h := h hp.1 EV ⟨trivial⟩
 cbv
 refine ⟨ndI hA (An rfl rfl), ⟨ndI hA hp.1, ?_⟩⟩
 refine W.cl h ?_
 rintro _ _ _ hp0 (⟨rfl, Y0_0, y0_0, rfl, rfl, k0⟩)
 cbv
 subst hA
 exact ⟨hp0.1, (W.q k0)⟩

-- 78a: (*signalbox/prog.nest).step DRAWN
structure V78a (EV Q : EP) : Prop where
  none : True

theorem E78a {R0 : RW} {v0 v1 v2 b0 b1 : Int} {b2 : Nat} (h : pursS R0 = true → ∀ EV, V78a EV Q → (v0 = 3 → ((IntKind.wrap .i64 (b0 + 1)) ≥ 0 → Q 0 [R0] [.b (decide (b1 ≥ 0)), .i (IntKind.wrap .i64 (b0 + 1)), .i b1, .n b2]) ∧ ((IntKind.wrap .i64 (b0 + 1)) < 0 → Q 0 [R0] [.b false, .i (IntKind.wrap .i64 (b0 + 1)), .i b1, .n b2])) ∧ (v0 ≠ 3 → (v0 = 4 → ((IntKind.wrap .i64 (b0 - 1)) ≥ 0 → Q 0 [R0] [.b (decide (b1 ≥ 0)), .i (IntKind.wrap .i64 (b0 - 1)), .i b1, .n b2]) ∧ ((IntKind.wrap .i64 (b0 - 1)) < 0 → Q 0 [R0] [.b false, .i (IntKind.wrap .i64 (b0 - 1)), .i b1, .n b2])) ∧ (v0 ≠ 4 → (v0 = 7 → (b0 ≥ 0 → Q 0 [R0] [.b (decide ((IntKind.wrap .i64 (b1 + v1)) ≥ 0)), .i b0, .i (IntKind.wrap .i64 (b1 + v1)), .n b2]) ∧ (b0 < 0 → Q 0 [R0] [.b false, .i b0, .i (IntKind.wrap .i64 (b1 + v1)), .n b2])) ∧ (v0 ≠ 7 → (v0 = 8 → (b0 ≥ 0 → Q 0 [R0] [.b (decide ((IntKind.wrap .i64 (b1 - v1)) ≥ 0)), .i b0, .i (IntKind.wrap .i64 (b1 - v1)), .n b2]) ∧ (b0 < 0 → Q 0 [R0] [.b false, .i b0, .i (IntKind.wrap .i64 (b1 - v1)), .n b2])) ∧ (v0 ≠ 8 → (v0 = 5 → EZ G99a [R0] [.n b2, .i v1] (fun x rs vs => (x = 0 ∧ ∃ Y5_0 y5_0, rs = [Y5_0] ∧ vs = [.b y5_0] ∧ ((y5_0 = true → (R0.length = Y5_0.length) ∧ (Q 0 [Y5_0] [.b false, .i b0, .i b1, .n b2])) ∧ (y5_0 = false → (R0.length = Y5_0.length) ∧ (b2 ≤ Y5_0.length) ∧ ((b2 + (List.length (List.take 1 (List.drop 0 [[(AV.int .i64 v1)]])))) ≤ 140737488355328) ∧ (((b2 + (List.length (List.take 1 (List.drop 0 [[(AV.int .i64 v1)]])))) * 8) ≤ 140737488355328) ∧ (b0 ≥ 0 → Q 0 [(rappS Y5_0 b2 (List.take 1 (List.drop 0 [[(AV.int .i64 v1)]])))] [.b (decide (b1 ≥ 0)), .i b0, .i b1, .n (b2 + (List.length (List.take 1 (List.drop 0 [[(AV.int .i64 v1)]]))))]) ∧ (b0 < 0 → Q 0 [(rappS Y5_0 b2 (List.take 1 (List.drop 0 [[(AV.int .i64 v1)]])))] [.b false, .i b0, .i b1, .n (b2 + (List.length (List.take 1 (List.drop 0 [[(AV.int .i64 v1)]]))))])))))) ∧ (v0 ≠ 5 → (v0 = 6 → ((IntKind.wrap .i64 ((b2 : Int) - 1)) < 0 → Q 0 [R0] [.b false, .i b0, .i b1, .n b2]) ∧ ((IntKind.wrap .i64 ((b2 : Int) - 1)) ≥ 0 → (0 ≤ (IntKind.wrap .i64 ((b2 : Int) - 1))) ∧ ((IntKind.wrap .i64 ((b2 : Int) - 1)) < (b2 : Int)) ∧ (R0[(Int.toNat (IntKind.wrap .i64 ((b2 : Int) - 1)))]? = some [.int .i64 (cIS R0 (Int.toNat (IntKind.wrap .i64 ((b2 : Int) - 1))) 0)]) ∧ ((cIS R0 (Int.toNat (IntKind.wrap .i64 ((b2 : Int) - 1))) 0) ≠ v1 → Q 0 [R0] [.b false, .i b0, .i b1, .n b2]) ∧ ((cIS R0 (Int.toNat (IntKind.wrap .i64 ((b2 : Int) - 1))) 0) = v1 → (0 ≤ (IntKind.wrap .i64 ((b2 : Int) - 1))) ∧ ((IntKind.wrap .i64 ((b2 : Int) - 1)) ≤ (b2 : Int)) ∧ (b0 ≥ 0 → Q 0 [R0] [.b (decide (b1 ≥ 0)), .i b0, .i b1, .n (Int.toNat (IntKind.wrap .i64 ((b2 : Int) - 1)))]) ∧ (b0 < 0 → Q 0 [R0] [.b false, .i b0, .i b1, .n (Int.toNat (IntKind.wrap .i64 ((b2 : Int) - 1)))])))) ∧ (v0 ≠ 6 → (b0 ≥ 0 → Q 0 [R0] [.b (decide (b1 ≥ 0)), .i b0, .i b1, .n b2]) ∧ (b0 < 0 → Q 0 [R0] [.b false, .i b0, .i b1, .n b2])))))))) : EZ G78a [R0] [.i v0, .i v1, .i v2, .i b0, .i b1, .n b2] Q := by
 refine Inst.en (I := I78a) (L := L78a) F78_at fun A hA CE CK Dn EV RR W hp => ?_
 have h := h hp.1 EV ⟨trivial⟩
 cbv
 refine ⟨imI hA fun e0 => have j0 := h.1 (cmpE (op := .eql) hA e0); ⟨imI hA fun e1 => have j1 := j0.1 (by subst hA; exact (cmpE (op := .geq) rfl e1)); ⟨ndI hA (An rfl rfl), ⟨ndI hA hp.1, (W.q (hA ▸ j1))⟩⟩, imI hA fun e1 => have j1 := j0.2 (by subst hA; exact (cmpE (op := .geq) rfl e1)); ⟨ndI hA (An rfl rfl), ⟨ndI hA hp.1, (W.q (hA ▸ j1))⟩⟩⟩, imI hA fun e0 => have j0 := h.2 (cmpE (op := .eql) hA e0); ⟨imI hA fun e1 => have j1 := j0.1 (cmpE (op := .eql) hA e1); ⟨imI hA fun e2 => have j2 := j1.1 (by subst hA; exact (cmpE (op := .geq) rfl e2)); ⟨ndI hA (An rfl rfl), ⟨ndI hA hp.1, (W.q (hA ▸ j2))⟩⟩, imI hA fun e2 => have j2 := j1.2 (by subst hA; exact (cmpE (op := .geq) rfl e2)); ⟨ndI hA (An rfl rfl), ⟨ndI hA hp.1, (W.q (hA ▸ j2))⟩⟩⟩, imI hA fun e1 => have j1 := j0.2 (cmpE (op := .eql) hA e1); ⟨imI hA fun e2 => have j2 := j1.1 (cmpE (op := .eql) hA e2); ⟨⟨⟨imI hA fun e3 => have j3 := j2.1 (cmpE (op := .geq) hA e3); ⟨ndI hA (An rfl rfl), ⟨ndI hA hp.1, (W.q (hA ▸ j3))⟩⟩, imI hA fun e3 => have j3 := j2.2 (cmpE (op := .geq) hA e3); ⟨ndI hA (An rfl rfl), ⟨ndI hA hp.1, (W.q (hA ▸ j3))⟩⟩⟩, trivial⟩, trivial⟩, imI hA fun e2 => have j2 := j1.2 (cmpE (op := .eql) hA e2); ⟨imI hA fun e3 => have j3 := j2.1 (cmpE (op := .eql) hA e3); ⟨⟨⟨imI hA fun e4 => have j4 := j3.1 (cmpE (op := .geq) hA e4); ⟨ndI hA (An rfl rfl), ⟨ndI hA hp.1, (W.q (hA ▸ j4))⟩⟩, imI hA fun e4 => have j4 := j3.2 (cmpE (op := .geq) hA e4); ⟨ndI hA (An rfl rfl), ⟨ndI hA hp.1, (W.q (hA ▸ j4))⟩⟩⟩, trivial⟩, trivial⟩, imI hA fun e3 => have j3 := j2.2 (cmpE (op := .eql) hA e3); ⟨imI hA fun e4 => have j4 := j3.1 (cmpE (op := .eql) hA e4); ⟨⟨ndI hA (An rfl rfl), ⟨ndI hA hp.1, ?_⟩⟩, trivial⟩, imI hA fun e4 => have j4 := j3.2 (cmpE (op := .eql) hA e4); ⟨imI hA fun e5 => have j5 := j4.1 (cmpE (op := .eql) hA e5); ⟨ndI hA rfl, ⟨fun e6 => have c6 : (IntKind.wrap .i64 ((b2 : Int) - 1)) < 0 := (by have q := (cmpE (op := .lss) hA e6); subst hA; exact q); ?_, fun e6 => have c6 : (IntKind.wrap .i64 ((b2 : Int) - 1)) ≥ 0 := (by have q := (cmpE (op := .lss) hA e6); subst hA; exact q); ?_⟩⟩, imI hA fun e5 => have j5 := j4.2 (cmpE (op := .eql) hA e5); ⟨imI hA fun e6 => have j6 := j5.1 (cmpE (op := .geq) hA e6); ⟨ndI hA (An rfl rfl), ⟨ndI hA hp.1, (W.q (hA ▸ j6))⟩⟩, imI hA fun e6 => have j6 := j5.2 (cmpE (op := .geq) hA e6); ⟨ndI hA (An rfl rfl), ⟨ndI hA hp.1, (W.q j6)⟩⟩⟩⟩⟩⟩⟩⟩⟩
 ·refine W.cd j4 ?_
  rintro _ _ _ hp5 (⟨rfl, Y5_0, y5_0, rfl, rfl, k5⟩)
  cbv
  refine W.draw 80 (by rfl) ?_
  cbv
  refine ⟨imI hA fun e6 => have j6 := k5.1 e6; ⟨ndI hA (An (hA ▸ j6.1) rfl), ⟨ndI hA hp5.1, (W.q j6.2)⟩⟩, imI hA fun e6 => have j6 := k5.2 e6; ⟨⟨⟨⟨ndI hA (An (hA ▸ rfl) (by subst hA; show (0 + 1) ≤ 1; (first | rfl | simp [rappS_end] | (simp [rappS_end]; omega)))), ⟨ndI hA (An (hA ▸ j6.1) (An (hA ▸ j6.2.1) (An (hA ▸ j6.2.2.1) (hA ▸ j6.2.2.2.1)))), ?_⟩⟩, trivial⟩, trivial⟩, ⟨⟨⟨⟨ndI hA (An (hA ▸ rfl) (by subst hA; show (0 + 1) ≤ 1; (first | rfl | simp [rappS_end] | (simp [rappS_end]; omega)))), ⟨ndI hA (An (hA ▸ j6.1) (An (hA ▸ j6.2.1) (An (hA ▸ j6.2.2.1) (hA ▸ j6.2.2.2.1)))), ?_⟩⟩, trivial⟩, trivial⟩, trivial⟩⟩⟩
  ·refine W.draw 80 (by rfl) ?_
   cbv
   subst hA
   exact ⟨⟨fun e7 => have j7 := j6.2.2.2.2.1 (cmpE (op := .geq) rfl e7); ⟨(An rfl rfl), ⟨((vapp hp5.1 (vtake (vdrop vpur)))), (W.q j7)⟩⟩, fun e7 => have j7 := j6.2.2.2.2.2 (cmpE (op := .geq) rfl e7); ⟨(An rfl rfl), ⟨((vapp hp5.1 (vtake (vdrop vpur)))), (W.q j7)⟩⟩⟩, trivial⟩
  ·refine W.draw 80 (by rfl) ?_
   cbv
   subst hA
   exact ⟨⟨fun e7 => have j7 := j6.2.2.2.2.1 (cmpE (op := .geq) rfl e7); ⟨(An rfl rfl), ⟨((vapp hp5.1 (vtake (vdrop vpur)))), (W.q j7)⟩⟩, fun e7 => have j7 := j6.2.2.2.2.2 (cmpE (op := .geq) rfl e7); ⟨(An rfl rfl), ⟨((vapp hp5.1 (vtake (vdrop vpur)))), (W.q j7)⟩⟩⟩, trivial⟩
 ·refine W.draw 80 (by rfl) ?_
  cbv
  subst hA
  exact ⟨(An rfl rfl), ⟨hp.1, (W.q (j5.1 c6))⟩⟩
 ·refine W.draw 80 (by rfl) ?_
  cbv
  subst hA
  exact ⟨(An ((j5.2 c6).1) (An ((j5.2 c6).2.1) rfl)), ⟨(An rfl ((j5.2 c6).2.2.1)), ⟨fun e7 => have j7 := (j5.2 c6).2.2.2.1 ((cmpE (op := .neq) rfl e7)); ⟨(An rfl rfl), ⟨hp.1, (W.q j7)⟩⟩, fun e7 => have j7 := (j5.2 c6).2.2.2.2 ((cmpE (op := .neq) rfl e7)); ⟨(An j7.1 (An j7.2.1 rfl)), ⟨fun e8 => have j8 := j7.2.2.1 (cmpE (op := .geq) rfl e8); ⟨(An rfl rfl), ⟨hp.1, (W.q j8)⟩⟩, fun e8 => have j8 := j7.2.2.2 (cmpE (op := .geq) rfl e8); ⟨(An rfl rfl), ⟨hp.1, (W.q j8)⟩⟩⟩⟩⟩⟩⟩

-- 39: signalbox/prog.Check
structure V39 (EV Q : EP) : Prop where
  p24 : ∀ {R0 t19 : RW} {t20 t21 b0 b1 b2 b3 d0 d1 : Int} {d2 : Nat}, (pursS R0 = true → (t21 < t20 → (0 ≤ t21) ∧ (t19[t21.toNat]? = some (r3 t19 t21.toNat)) ∧ (EZ G35 [] [.i (cIS t19 t21.toNat 0), .i (cIS t19 t21.toNat 1), .i (cIS t19 t21.toNat 2), .i b0, .i b1, .i b2, .i b3] (fun x rs vs => (x = 0 ∧ ∃ y1_0, rs = [] ∧ vs = [.i y1_0] ∧ ((y1_0 ≠ 0 → Q 0 [] [.i y1_0]) ∧ (y1_0 = 0 → EZ G78a [R0] [.i (cIS t19 t21.toNat 0), .i (cIS t19 t21.toNat 1), .i (cIS t19 t21.toNat 2), .i d0, .i d1, .n d2] (fun x rs vs => (x = 0 ∧ ∃ Y3_0 y3_0 y3_b0_0 y3_b0_1 y3_b0_2, rs = [Y3_0] ∧ vs = [.b y3_0, .i y3_b0_0, .i y3_b0_1, .n y3_b0_2] ∧ ((y3_0 = false → Q 0 [] [.i 9]) ∧ (y3_0 = true → EV 24 [Y3_0] [.r t19, .i t20, .i (IntKind.wrap .i64 (t21 + 1)), .i b0, .i b1, .i b2, .i b3, .i y3_b0_0, .i y3_b0_1, .n y3_b0_2])))))))))) ∧ (t21 ≥ t20 → (d0 ≤ 0 → ((d2 : Int) > 0 → Q 0 [] [.i 9]) ∧ ((d2 : Int) ≤ 0 → Q 0 [] [.i 0])) ∧ (d0 > 0 → Q 0 [] [.i 9]))) → EV 24 [R0] [.r t19, .i t20, .i t21, .i b0, .i b1, .i b2, .i b3, .i d0, .i d1, .n d2]

theorem V39.of (W : Wk Tryd.prog Tryd.f39 I39 L39 Q A sg CE CK Dn EV RR) : V39 EV Q := by
 have hA := W.hA
 refine ⟨?_⟩
 intro R0 t19 t20 t21 b0 b1 b2 b3 d0 d1 d2 h
 refine W.step 80 fun hp => ?_
 have h := h hp.1
 cbv
 refine ⟨imI hA fun e0 => have j0 := h.1 (cmpE (op := .lss) hA e0); ⟨ndI hA (An j0.1 (hA ▸ j0.2.1)), ?_⟩, imI hA fun e0 => have j0 := h.2 (cmpE (op := .lss) hA e0); ⟨imI hA fun e1 => have j1 := j0.1 (cmpE (op := .gtr) hA e1); ⟨ndI hA rfl, ⟨imI hA fun e2 => have j2 := j1.1 (by subst hA; exact (cmpE (op := .gtr) rfl e2)); (W.q j2), imI hA fun e2 => have j2 := j1.2 (by subst hA; exact (cmpE (op := .gtr) rfl e2)); (W.q j2)⟩⟩, imI hA fun e1 => have j1 := j0.2 (cmpE (op := .gtr) hA e1); (W.q j1)⟩⟩
 refine W.cl j0.2.2 ?_
 rintro _ _ _ hp1 (⟨rfl, y1_0, rfl, rfl, k1⟩)
 cbv
 refine ⟨imI hA fun e2 => have j2 := k1.1 (cmpE (op := .neq) hA e2); (W.q j2), imI hA fun e2 => have j2 := k1.2 (cmpE (op := .neq) hA e2); ⟨ndI hA (An rfl rfl), ⟨ndI hA hp.1, ?_⟩⟩⟩
 refine W.cl j2 ?_
 rintro _ _ _ hp3 (⟨rfl, Y3_0, y3_0, y3_b0_0, y3_b0_1, y3_b0_2, rfl, rfl, k3⟩)
 cbv
 subst hA
 exact ⟨fun e4 => have j4 := k3.1 ((notE rfl e4)); (W.q j4), fun e4 => have j4 := k3.2 ((notE rfl e4)); ⟨(An rfl rfl), ⟨hp3.1, j4⟩⟩⟩

theorem E39 {a0 : RW} {v0 v1 v2 v3 : Int} (h : ∀ EV, V39 EV Q → ((a0.length : Int) = 0 → Q 0 [] [.i 1]) ∧ ((a0.length : Int) ≠ 0 → ((a0.length : Int) > 64 → Q 0 [] [.i 4]) ∧ ((a0.length : Int) ≤ 64 → EV 24 [[]] [.r a0, .i (a0.length : Int), .i 0, .i v0, .i v1, .i v2, .i v3, .i 0, .i 0, .n 0]))) : EZ G39 [] [.r a0, .i v0, .i v1, .i v2, .i v3] Q := by
 refine Inst.en (I := I39) (L := L39) F39_at fun A hA CE CK Dn EV RR W hp => ?_
 have h := h  EV (V39.of W)
 cbv
 subst hA
 exact ⟨fun e0 => have j0 := h.1 ((cmpE (op := .eql) rfl e0)); (W.q j0), fun e0 => have j0 := h.2 ((cmpE (op := .eql) rfl e0)); ⟨fun e1 => have j1 := j0.1 ((cmpE (op := .gtr) rfl e1)); (W.q j1), fun e1 => have j1 := j0.2 ((cmpE (op := .gtr) rfl e1)); ⟨(An rfl rfl), ⟨vpur, j1⟩⟩⟩⟩

-- 79: signalbox/signalboxref06.Nest DRAWN
structure V79 (EV Q : EP) : Prop where
  p11 : ∀ {R0 : RW} {t1 : Bool} {t5 t6 : Int} {t7 : Nat} {t12 : RW} {t13 t14 : Int}, (pursS R0 = true → (t14 < t13 → (0 ≤ t14) ∧ (t12[t14.toNat]? = some (r3 t12 t14.toNat)) ∧ ((cIS t12 t14.toNat 0) = 3 → EV 81 [R0] [.b t1, .i (IntKind.wrap .i64 (t5 + 1)), .i t6, .n t7, .r t12, .i t13, .i t14]) ∧ ((cIS t12 t14.toNat 0) ≠ 3 → ((cIS t12 t14.toNat 0) = 4 → EV 81 [R0] [.b t1, .i (IntKind.wrap .i64 (t5 - 1)), .i t6, .n t7, .r t12, .i t13, .i t14]) ∧ ((cIS t12 t14.toNat 0) ≠ 4 → ((cIS t12 t14.toNat 0) = 5 → EV 41 [R0] [.b t1, .i t5, .i t6, .n t7, .r t12, .i t13, .i t14, .n t7, .i (t7 : Int), .i 0, .i (cIS t12 t14.toNat 0), .i (cIS t12 t14.toNat 1), .i (cIS t12 t14.toNat 2)]) ∧ ((cIS t12 t14.toNat 0) ≠ 5 → ((cIS t12 t14.toNat 0) = 6 → ((t7 : Int) = 0 → Q 0 [] [.b false]) ∧ ((t7 : Int) ≠ 0 → (0 ≤ (IntKind.wrap .i64 ((t7 : Int) - 1))) ∧ ((IntKind.wrap .i64 ((t7 : Int) - 1)) < (t7 : Int)) ∧ (R0[(Int.toNat (IntKind.wrap .i64 ((t7 : Int) - 1)))]? = some [.int .i64 (cIS R0 (Int.toNat (IntKind.wrap .i64 ((t7 : Int) - 1))) 0)]) ∧ ((cIS R0 (Int.toNat (IntKind.wrap .i64 ((t7 : Int) - 1))) 0) ≠ (cIS t12 t14.toNat 1) → Q 0 [] [.b false]) ∧ ((cIS R0 (Int.toNat (IntKind.wrap .i64 ((t7 : Int) - 1))) 0) = (cIS t12 t14.toNat 1) → (0 ≤ (IntKind.wrap .i64 ((t7 : Int) - 1))) ∧ ((IntKind.wrap .i64 ((t7 : Int) - 1)) ≤ (t7 : Int)) ∧ (EV 81 [R0] [.b t1, .i t5, .i t6, .n (Int.toNat (IntKind.wrap .i64 ((t7 : Int) - 1))), .r t12, .i t13, .i t14])))) ∧ ((cIS t12 t14.toNat 0) ≠ 6 → ((cIS t12 t14.toNat 0) = 7 → EV 81 [R0] [.b t1, .i t5, .i (IntKind.wrap .i64 (t6 + (cIS t12 t14.toNat 1))), .n t7, .r t12, .i t13, .i t14]) ∧ ((cIS t12 t14.toNat 0) ≠ 7 → ((cIS t12 t14.toNat 0) = 8 → EV 81 [R0] [.b t1, .i t5, .i (IntKind.wrap .i64 (t6 - (cIS t12 t14.toNat 1))), .n t7, .r t12, .i t13, .i t14]) ∧ ((cIS t12 t14.toNat 0) ≠ 8 → EV 81 [R0] [.b t1, .i t5, .i t6, .n t7, .r t12, .i t13, .i t14]))))))) ∧ (t14 ≥ t13 → (t1 = true → (t5 = 0 → Q 0 [] [.b ((t7 : Int) == 0)]) ∧ (t5 ≠ 0 → Q 0 [] [.b false])) ∧ (t1 = false → Q 0 [] [.b true]))) → EV 11 [R0] [.b t1, .i t5, .i t6, .n t7, .r t12, .i t13, .i t14]
  p41 : ∀ {R0 : RW} {t1 : Bool} {t5 t6 : Int} {t7 : Nat} {t12 : RW} {t13 t14 : Int} {t30 : Nat} {t31 t32 d0 d1 d2 : Int}, (pursS R0 = true → (t32 < t31 → (0 ≤ t32) ∧ (t32 < (t30 : Int)) ∧ (R0[t32.toNat]? = some [.int .i64 (cIS R0 t32.toNat 0)]) ∧ ((cIS R0 t32.toNat 0) = d1 → Q 0 [] [.b false]) ∧ ((cIS R0 t32.toNat 0) ≠ d1 → EV 41 [R0] [.b t1, .i t5, .i t6, .n t7, .r t12, .i t13, .i t14, .n t30, .i t31, .i (IntKind.wrap .i64 (t32 + 1)), .i d0, .i d1, .i d2])) ∧ (t32 ≥ t31 → (t7 ≤ R0.length) ∧ ((t7 + (List.length (List.take 1 (List.drop 0 [[(AV.int .i64 d1)]])))) ≤ 140737488355328) ∧ (((t7 + (List.length (List.take 1 (List.drop 0 [[(AV.int .i64 d1)]])))) * 8) ≤ 140737488355328) ∧ (EV 81 [(rappS R0 t7 (List.take 1 (List.drop 0 [[(AV.int .i64 d1)]])))] [.b t1, .i t5, .i t6, .n (t7 + (List.length (List.take 1 (List.drop 0 [[(AV.int .i64 d1)]])))), .r t12, .i t13, .i t14]))) → EV 41 [R0] [.b t1, .i t5, .i t6, .n t7, .r t12, .i t13, .i t14, .n t30, .i t31, .i t32, .i d0, .i d1, .i d2]
  p81 : ∀ {R0 : RW} {t1 : Bool} {t5 t6 : Int} {t7 : Nat} {t12 : RW} {t13 t14 : Int}, (pursS R0 = true → (t5 ≥ 0 → (t6 < 0 → Q 0 [] [.b false]) ∧ (t6 ≥ 0 → EV 11 [R0] [.b t1, .i t5, .i t6, .n t7, .r t12, .i t13, .i (IntKind.wrap .i64 (t14 + 1))])) ∧ (t5 < 0 → Q 0 [] [.b false])) → EV 81 [R0] [.b t1, .i t5, .i t6, .n t7, .r t12, .i t13, .i t14]

theorem V79.of (W : Wk Tryd.prog Tryd.f79 I79 L79 Q A sg CE CK Dn EV RR) : V79 EV Q := by
 have hA := W.hA
 refine ⟨?_, ?_, ?_⟩
 ·intro R0 t1 t5 t6 t7 t12 t13 t14 h
  refine W.step 80 fun hp => ?_
  have h := h hp.1
  cbv
  refine ⟨imI hA fun e0 => have j0 := h.1 (cmpE (op := .lss) hA e0); ⟨ndI hA (An j0.1 (hA ▸ j0.2.1)), ⟨imI hA fun e1 => have j1 := j0.2.2.1 (by subst hA; exact (cmpE (op := .eql) rfl e1)); ⟨ndI hA (An rfl rfl), ⟨ndI hA hp.1, (hA ▸ j1)⟩⟩, imI hA fun e1 => have j1 := j0.2.2.2 (by subst hA; exact (cmpE (op := .eql) rfl e1)); ⟨imI hA fun e2 => have j2 := j1.1 (by subst hA; exact (cmpE (op := .eql) rfl e2)); ⟨ndI hA (An rfl rfl), ⟨ndI hA hp.1, (hA ▸ j2)⟩⟩, imI hA fun e2 => have j2 := j1.2 (by subst hA; exact (cmpE (op := .eql) rfl e2)); ⟨imI hA fun e3 => have j3 := j2.1 (by subst hA; exact (cmpE (op := .eql) rfl e3)); ⟨ndI hA rfl, ⟨ndI hA (An rfl rfl), ⟨ndI hA (An rfl rfl), ⟨ndI hA hp.1, (hA ▸ j3)⟩⟩⟩⟩, imI hA fun e3 => have j3 := j2.2 (by subst hA; exact (cmpE (op := .eql) rfl e3)); ⟨imI hA fun e4 => have j4 := j3.1 (by subst hA; exact (cmpE (op := .eql) rfl e4)); ⟨ndI hA rfl, ⟨fun e5 => have c5 : (t7 : Int) = 0 := (by have q := (cmpE (op := .eql) hA e5); subst hA; exact q); ?_, fun e5 => have c5 : (t7 : Int) ≠ 0 := (by have q := (cmpE (op := .eql) hA e5); subst hA; exact q); ?_⟩⟩, imI hA fun e4 => have j4 := j3.2 (by subst hA; exact (cmpE (op := .eql) rfl e4)); ⟨imI hA fun e5 => have j5 := j4.1 (by subst hA; exact (cmpE (op := .eql) rfl e5)); ⟨ndI hA (An rfl rfl), ⟨ndI hA hp.1, (hA ▸ j5)⟩⟩, imI hA fun e5 => have j5 := j4.2 (by subst hA; exact (cmpE (op := .eql) rfl e5)); ⟨imI hA fun e6 => have j6 := j5.1 (by subst hA; exact (cmpE (op := .eql) rfl e6)); ⟨ndI hA (An rfl rfl), ⟨ndI hA hp.1, (hA ▸ j6)⟩⟩, imI hA fun e6 => have j6 := j5.2 (by subst hA; exact (cmpE (op := .eql) rfl e6)); ⟨ndI hA (An rfl rfl), ⟨ndI hA hp.1, j6⟩⟩⟩⟩⟩⟩⟩⟩⟩, imI hA fun e0 => have j0 := h.2 (cmpE (op := .lss) hA e0); ⟨imI hA fun e1 => have j1 := j0.1 (by subst hA; exact (notE rfl e1)); ⟨imI hA fun e2 => have j2 := j1.1 (cmpE (op := .eql) hA e2); ⟨ndI hA rfl, (W.q (hA ▸ j2))⟩, imI hA fun e2 => have j2 := j1.2 (cmpE (op := .eql) hA e2); (W.q j2)⟩, imI hA fun e1 => have j1 := j0.2 (by subst hA; exact (notE rfl e1)); (W.q j1)⟩⟩
  ·refine W.draw 80 (by rfl) ?_
   cbv
   subst hA
   exact (W.q (j4.1 c5))
  ·refine W.draw 80 (by rfl) ?_
   cbv
   subst hA
   exact ⟨rfl, ⟨(An ((j4.2 c5).1) (An ((j4.2 c5).2.1) rfl)), ⟨(An rfl ((j4.2 c5).2.2.1)), ⟨fun e6 => have j6 := (j4.2 c5).2.2.2.1 ((cmpE (op := .neq) rfl e6)); (W.q j6), fun e6 => have j6 := (j4.2 c5).2.2.2.2 ((cmpE (op := .neq) rfl e6)); ⟨rfl, ⟨(An j6.1 (An j6.2.1 rfl)), ⟨(An rfl rfl), ⟨hp.1, j6.2.2⟩⟩⟩⟩⟩⟩⟩⟩
 ·intro R0 t1 t5 t6 t7 t12 t13 t14 t30 t31 t32 d0 d1 d2 h
  refine W.step 80 fun hp => ?_
  have h := h hp.1
  cbv
  subst hA
  exact ⟨fun e0 => have j0 := h.1 (cmpE (op := .lss) rfl e0); ⟨(An j0.1 (An j0.2.1 rfl)), ⟨(An rfl j0.2.2.1), ⟨fun e1 => have j1 := j0.2.2.2.1 ((cmpE (op := .eql) rfl e1)); (W.q j1), fun e1 => have j1 := j0.2.2.2.2 ((cmpE (op := .eql) rfl e1)); ⟨(An rfl rfl), ⟨(An rfl rfl), ⟨hp.1, j1⟩⟩⟩⟩⟩⟩, fun e0 => have j0 := h.2 (cmpE (op := .lss) rfl e0); ⟨(An rfl (by show (0 + 1) ≤ 1; (first | rfl | simp [rappS_end] | (simp [rappS_end]; omega)))), ⟨(An rfl (An j0.1 (An j0.2.1 j0.2.2.1))), ⟨(An rfl rfl), ⟨((vapp hp.1 (vtake (vdrop vpur)))), j0.2.2.2⟩⟩⟩⟩⟩
 ·intro R0 t1 t5 t6 t7 t12 t13 t14 h
  refine W.step 80 fun hp => ?_
  have h := h hp.1
  cbv
  subst hA
  exact ⟨fun e0 => have j0 := h.1 (cmpE (op := .lss) rfl e0); ⟨fun e1 => have j1 := j0.1 (cmpE (op := .lss) rfl e1); (W.q j1), fun e1 => have j1 := j0.2 (cmpE (op := .lss) rfl e1); ⟨(An rfl rfl), ⟨hp.1, j1⟩⟩⟩, fun e0 => have j0 := h.2 (cmpE (op := .lss) rfl e0); (W.q j0)⟩

theorem E79 {a0 : RW} {a1 : Bool} (h : ∀ EV, V79 EV Q → EV 11 [[]] [.b a1, .i 0, .i 0, .n 0, .r a0, .i (a0.length : Int), .i 0]) : EZ G79 [] [.r a0, .b a1] Q := by
 refine Inst.en (I := I79) (L := L79) F79_at fun A hA CE CK Dn EV RR W hp => ?_
 have h := h  EV (V79.of W)
 cbv
 subst hA
 exact ⟨(An rfl rfl), ⟨vpur, h⟩⟩

-- 40: signalbox/signalboxref06.Check
structure V40 (EV Q : EP) : Prop where
  p23 : ∀ {t0 : RW} {t1 t2 t3 t4 : Int} {t20 : RW} {t21 t22 : Int}, ((t22 < t21 → (0 ≤ t22) ∧ (t20[t22.toNat]? = some (r3 t20 t22.toNat)) ∧ (EZ G36 [] [.i (cIS t20 t22.toNat 0), .i (cIS t20 t22.toNat 1), .i (cIS t20 t22.toNat 2), .i t1, .i t2, .i t3, .i t4] (fun x rs vs => (x = 0 ∧ ∃ y1_0, rs = [] ∧ vs = [.i y1_0] ∧ ((y1_0 ≠ 0 → Q 0 [] [.i y1_0]) ∧ (y1_0 = 0 → (0 ≤ (IntKind.wrap .i64 (t22 + 1))) ∧ ((IntKind.wrap .i64 (t22 + 1)) ≤ (t0.length : Int)) ∧ (EZ G79 [] [.r (List.take (Int.toNat (IntKind.wrap .i64 (t22 + 1))) t0), .b false] (fun x rs vs => (x = 0 ∧ ∃ y3_0, rs = [] ∧ vs = [.b y3_0] ∧ ((y3_0 = false → Q 0 [] [.i 9]) ∧ (y3_0 = true → EV 23 [] [.r t0, .i t1, .i t2, .i t3, .i t4, .r t20, .i t21, .i (IntKind.wrap .i64 (t22 + 1))]))))))))))) ∧ (t22 ≥ t21 → EZ G79 [] [.r t0, .b true] (fun x rs vs => (x = 0 ∧ ∃ y1_0, rs = [] ∧ vs = [.b y1_0] ∧ ((y1_0 = false → Q 0 [] [.i 9]) ∧ (y1_0 = true → Q 0 [] [.i 0])))))) → EV 23 [] [.r t0, .i t1, .i t2, .i t3, .i t4, .r t20, .i t21, .i t22]

theorem V40.of (W : Wk Tryd.prog Tryd.f40 I40 L40 Q A sg CE CK Dn EV RR) : V40 EV Q := by
 have hA := W.hA
 refine ⟨?_⟩
 intro t0 t1 t2 t3 t4 t20 t21 t22 h
 refine W.step 80 fun hp => ?_
 cbv
 refine ⟨imI hA fun e0 => have j0 := h.1 (cmpE (op := .lss) hA e0); ⟨ndI hA (An j0.1 (hA ▸ j0.2.1)), ?_⟩, imI hA fun e0 => have j0 := h.2 (cmpE (op := .lss) hA e0); ?_⟩
 ·refine W.cl j0.2.2 ?_
  rintro _ _ _ hp1 (⟨rfl, y1_0, rfl, rfl, k1⟩)
  cbv
  refine ⟨imI hA fun e2 => have j2 := k1.1 (cmpE (op := .neq) hA e2); (W.q j2), imI hA fun e2 => have j2 := k1.2 (cmpE (op := .neq) hA e2); ⟨ndI hA (An (hA ▸ j2.1) (hA ▸ j2.2.1)), ?_⟩⟩
  refine W.cl j2.2.2 ?_
  rintro _ _ _ hp3 (⟨rfl, y3_0, rfl, rfl, k3⟩)
  cbv
  subst hA
  exact ⟨fun e4 => have j4 := k3.1 ((notE rfl e4)); (W.q j4), fun e4 => have j4 := k3.2 ((notE rfl e4)); j4⟩
 ·refine W.cl j0 ?_
  rintro _ _ _ hp1 (⟨rfl, y1_0, rfl, rfl, k1⟩)
  cbv
  subst hA
  exact ⟨fun e2 => have j2 := k1.1 ((notE rfl e2)); (W.q j2), fun e2 => have j2 := k1.2 ((notE rfl e2)); (W.q j2)⟩

theorem E40 {a0 : RW} {a1 a2 a3 a4 : Int} (h : ∀ EV, V40 EV Q → ((a0.length : Int) = 0 → Q 0 [] [.i 1]) ∧ ((a0.length : Int) ≠ 0 → ((a0.length : Int) > 64 → Q 0 [] [.i 4]) ∧ ((a0.length : Int) ≤ 64 → EV 23 [] [.r a0, .i a1, .i a2, .i a3, .i a4, .r a0, .i (a0.length : Int), .i 0]))) : EZ G40 [] [.r a0, .i a1, .i a2, .i a3, .i a4] Q := by
 refine Inst.en (I := I40) (L := L40) F40_at fun A hA CE CK Dn EV RR W hp => ?_
 have h := h  EV (V40.of W)
 cbv
 subst hA
 exact ⟨fun e0 => have j0 := h.1 ((cmpE (op := .eql) rfl e0)); (W.q j0), fun e0 => have j0 := h.2 ((cmpE (op := .eql) rfl e0)); ⟨fun e1 => have j1 := j0.1 ((cmpE (op := .gtr) rfl e1)); (W.q j1), fun e1 => have j1 := j0.2 ((cmpE (op := .gtr) rfl e1)); j1⟩⟩

-- 9: signalbox/signalboxlaw06.ProgChecks DRAWN
structure V9 (EV Q : EP) : Prop where
  p23 : ∀ {t0 t22 : RW} {t23 t24 b0 b1 b2 b3 : Int}, ((t24 < t23 → (0 ≤ t24) ∧ (t22[t24.toNat]? = some [.int .i64 (cIS t22 t24.toNat 0)]) ∧ ((cIS t22 t24.toNat 0) ≥ (-1000) → ((cIS t22 t24.toNat 0) > 1000 → Q 0 [] [.b true]) ∧ ((cIS t22 t24.toNat 0) ≤ 1000 → EV 23 [] [.r t0, .r t22, .i t23, .i (IntKind.wrap .i64 (t24 + 1)), .i b0, .i b1, .i b2, .i b3])) ∧ ((cIS t22 t24.toNat 0) < (-1000) → Q 0 [] [.b true])) ∧ (t24 ≥ t23 → EV 46 [] [.r t0, .r t0, .i (t0.length : Int), .i 0, .i b0, .i b1, .i b2, .i b3])) → EV 23 [] [.r t0, .r t22, .i t23, .i t24, .i b0, .i b1, .i b2, .i b3]
  p46 : ∀ {t0 t35 : RW} {t36 t37 b0 b1 b2 b3 : Int}, ((t37 < t36 → (0 ≤ t37) ∧ (t35[t37.toNat]? = some (r3 t35 t37.toNat)) ∧ (EZ G35 [] [.i (cIS t35 t37.toNat 0), .i (cIS t35 t37.toNat 1), .i (cIS t35 t37.toNat 2), .i b0, .i b1, .i b2, .i b3] (fun x rs vs => (x = 0 ∧ ∃ y1_0, rs = [] ∧ vs = [.i y1_0] ∧ (EZ G36 [] [.i (cIS t35 t37.toNat 0), .i (cIS t35 t37.toNat 1), .i (cIS t35 t37.toNat 2), .i b0, .i b1, .i b2, .i b3] (fun x rs vs => (x = 0 ∧ ∃ y2_0, rs = [] ∧ vs = [.i y2_0] ∧ ((y1_0 ≠ y2_0 → EV 58 [] [.r t0, .r t35, .i t36, .i t37, .b true, .i b0, .i b1, .i b2, .i b3]) ∧ (y1_0 = y2_0 → EZ G37 [] [.i (cIS t35 t37.toNat 0)] (fun x rs vs => (x = 0 ∧ ∃ y4_0, rs = [] ∧ vs = [.i y4_0] ∧ (EZ G38 [] [.i (cIS t35 t37.toNat 0)] (fun x rs vs => (x = 0 ∧ ∃ y5_0, rs = [] ∧ vs = [.i y5_0] ∧ (EV 58 [] [.r t0, .r t35, .i t36, .i t37, .b (y4_0 != y5_0), .i b0, .i b1, .i b2, .i b3]))))))))))))))) ∧ (t37 ≥ t36 → EZ G39 [] [.r t0, .i b0, .i b1, .i b2, .i b3] (fun x rs vs => (x = 0 ∧ ∃ y1_0, rs = [] ∧ vs = [.i y1_0] ∧ (EZ G40 [] [.r t0, .i b0, .i b1, .i b2, .i b3] (fun x rs vs => (x = 0 ∧ ∃ y2_0, rs = [] ∧ vs = [.i y2_0] ∧ (Q 0 [] [.b (y1_0 == y2_0)])))))))) → EV 46 [] [.r t0, .r t35, .i t36, .i t37, .i b0, .i b1, .i b2, .i b3]
  p58 : ∀ {t0 t35 : RW} {t36 t37 : Int} {t63 : Bool} {b0 b1 b2 b3 : Int}, ((t63 = true → Q 0 [] [.b false]) ∧ (t63 = false → EV 46 [] [.r t0, .r t35, .i t36, .i (IntKind.wrap .i64 (t37 + 1)), .i b0, .i b1, .i b2, .i b3])) → EV 58 [] [.r t0, .r t35, .i t36, .i t37, .b t63, .i b0, .i b1, .i b2, .i b3]

theorem V9.of (W : Wk Tryd.prog Tryd.f9 I9 L9 Q A sg CE CK Dn EV RR) : V9 EV Q := by
 have hA := W.hA
 refine ⟨?_, ?_, ?_⟩
 ·intro t0 t22 t23 t24 b0 b1 b2 b3 h
  refine W.step 80 fun hp => ?_
  cbv
  subst hA
  exact ⟨fun e0 => have j0 := h.1 (cmpE (op := .lss) rfl e0); ⟨(An j0.1 j0.2.1), ⟨fun e1 => have j1 := j0.2.2.1 ((cmpE (op := .lss) rfl e1)); ⟨fun e2 => have j2 := j1.1 ((cmpE (op := .gtr) rfl e2)); (W.q j2), fun e2 => have j2 := j1.2 ((cmpE (op := .gtr) rfl e2)); j2⟩, fun e1 => have j1 := j0.2.2.2 ((cmpE (op := .lss) rfl e1)); (W.q j1)⟩⟩, fun e0 => have j0 := h.2 (cmpE (op := .lss) rfl e0); j0⟩
 ·intro t0 t35 t36 t37 b0 b1 b2 b3 h
  refine W.step 80 fun hp => ?_
  cbv
  refine ⟨imI hA fun e0 => have j0 := h.1 (cmpE (op := .lss) hA e0); ⟨ndI hA (An j0.1 (hA ▸ j0.2.1)), ⟨?_, trivial⟩⟩, imI hA fun e0 => have j0 := h.2 (cmpE (op := .lss) hA e0); ⟨?_, trivial⟩⟩
  ·refine W.cd j0.2.2 ?_
   rintro _ _ _ hp1 (⟨rfl, y1_0, rfl, rfl, k1⟩)
   cbv
   refine W.draw 80 (by rfl) ?_
   cbv
   refine ⟨?_, trivial⟩
   refine W.cd k1 ?_
   rintro _ _ _ hp2 (⟨rfl, y2_0, rfl, rfl, k2⟩)
   cbv
   refine W.draw 80 (by rfl) ?_
   cbv
   refine ⟨fun e3 => have c3 : y1_0 ≠ y2_0 := (by have q := (cmpE (op := .neq) hA e3); subst hA; exact q); ?_, fun e3 => have c3 : y1_0 = y2_0 := (by have q := (cmpE (op := .neq) hA e3); subst hA; exact q); ?_⟩
   ·refine W.draw 80 (by rfl) ?_
    cbv
    subst hA
    exact ⟨⟨(k2.1 c3), trivial⟩, trivial⟩
   ·refine W.draw 80 (by rfl) ?_
    cbv
    refine ⟨?_, trivial⟩
    refine W.cd (k2.2 c3) ?_
    rintro _ _ _ hp4 (⟨rfl, y4_0, rfl, rfl, k4⟩)
    cbv
    refine W.draw 80 (by rfl) ?_
    cbv
    refine ⟨?_, trivial⟩
    refine W.cd k4 ?_
    rintro _ _ _ hp5 (⟨rfl, y5_0, rfl, rfl, k5⟩)
    cbv
    refine W.draw 80 (by rfl) ?_
    cbv
    subst hA
    exact k5
  ·refine W.cd j0 ?_
   rintro _ _ _ hp1 (⟨rfl, y1_0, rfl, rfl, k1⟩)
   cbv
   refine W.draw 80 (by rfl) ?_
   cbv
   refine ⟨?_, trivial⟩
   refine W.cd k1 ?_
   rintro _ _ _ hp2 (⟨rfl, y2_0, rfl, rfl, k2⟩)
   cbv
   refine W.draw 80 (by rfl) ?_
   cbv
   subst hA
   exact (W.q k2)
 ·intro t0 t35 t36 t37 t63 b0 b1 b2 b3 h
  refine W.step 80 fun hp => ?_
  cbv
  subst hA
  exact ⟨fun e0 => have j0 := h.1 e0; (W.q j0), fun e0 => have j0 := h.2 e0; j0⟩

theorem E9 {a0 : RW} {v0 v1 v2 v3 : Int} (h : ∀ EV, V9 EV Q → EZ G33 [] [] (fun x rs vs => (x = 0 ∧ ∃ y0_0, rs = [] ∧ vs = [.b y0_0] ∧ ((y0_0 = false → Q 0 [] [.b false]) ∧ (y0_0 = true → EZ G34 [] [.r a0] (fun x rs vs => (x = 0 ∧ ∃ y2_0, rs = [] ∧ vs = [.b y2_0] ∧ ((y2_0 = false → Q 0 [] [.b true]) ∧ (y2_0 = true → EV 23 [] [.r a0, .r [[(AV.int .i64 v0)], [(AV.int .i64 v1)], [(AV.int .i64 v2)], [(AV.int .i64 v3)]], .i 4, .i 0, .i v0, .i v1, .i v2, .i v3]))))))))) : EZ G9 [] [.r a0, .i v0, .i v1, .i v2, .i v3] Q := by
 refine Inst.en (I := I9) (L := L9) F9_at fun A hA CE CK Dn EV RR W hp => ?_
 have h := h  EV (V9.of W)
 cbv
 refine W.cl h ?_
 rintro _ _ _ hp0 (⟨rfl, y0_0, rfl, rfl, k0⟩)
 cbv
 refine ⟨imI hA fun e1 => have j1 := k0.1 (by subst hA; exact (notE rfl e1)); (W.q j1), imI hA fun e1 => have j1 := k0.2 (by subst hA; exact (notE rfl e1)); ?_⟩
 refine W.cl j1 ?_
 rintro _ _ _ hp2 (⟨rfl, y2_0, rfl, rfl, k2⟩)
 cbv
 subst hA
 exact ⟨fun e3 => have j3 := k2.1 ((notE rfl e3)); (W.q j3), fun e3 => have j3 := k2.2 ((notE rfl e3)); j3⟩

end Go.Ab
