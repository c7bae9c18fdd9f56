import Derived.Test.YtmmoffbompnihaaDoorQS
import Derived.Test.YtmmoffbompnihaaDoorLayG
/- PRINTED BY A PROGRAM (wip/tools/vc.py, AbVc.lean): what is to be shown of each function, from place to place, and that it is enough. -/
namespace Go.Ab
open Go Go.Proofs
set_option linter.unusedVariables false
set_option linter.unusedSimpArgs false
set_option maxRecDepth 100000
set_option maxHeartbeats 0
variable {Q EV RR : EP} {A : Ar} {CE : Nat → Rs → List Lf → EP → Prop} {CK : Nat → Rs → List Lf → Cont → Prop} {Dn : Nat → List Bool → List AItem → Nat → List Bool → List AV → List ABlk → Prop}

-- 34: signalbox/signalboxlaw06.few
structure V34 (EV Q : EP) : Prop where
  none : True

theorem E34 {a0 : RW} (h : ∀ EV, V34 EV Q → Q 0 [] [.b (decide ((a0.length : Int) ≤ 80))]) : EZ G34 [] [.r a0] Q := by
 refine Inst.en (I := I34) (L := L34) F34_at fun A hA CE CK Dn EV RR W hp => ?_
 have h := h  EV ⟨trivial⟩
 cbv
 subst hA
 exact (W.q h)

-- 77: signalbox/prog.kinds
structure V77 (EV Q : EP) : Prop where
  none : True

theorem E77  (h : ∀ EV, V77 EV Q → Q 0 [] [.r [[(AV.str (ByteArray.mk (Array.mk []))), (AV.int .i64 (-1))], [(AV.str (ByteArray.mk (Array.mk [99, 111, 109, 112, 117, 116, 101]))), (AV.int .i64 1)], [(AV.str (ByteArray.mk (Array.mk [97, 99, 99, 101, 115, 115]))), (AV.int .i64 1)], [(AV.str (ByteArray.mk (Array.mk [101, 110, 116, 101, 114]))), (AV.int .i64 0)], [(AV.str (ByteArray.mk (Array.mk [101, 120, 105, 116]))), (AV.int .i64 0)], [(AV.str (ByteArray.mk (Array.mk [108, 111, 99, 107]))), (AV.int .i64 1)], [(AV.str (ByteArray.mk (Array.mk [117, 110, 108, 111, 99, 107]))), (AV.int .i64 1)], [(AV.str (ByteArray.mk (Array.mk [112, 117, 115, 104]))), (AV.int .i64 1)], [(AV.str (ByteArray.mk (Array.mk [112, 111, 112]))), (AV.int .i64 1)], [(AV.str (ByteArray.mk (Array.mk [115, 101, 110, 100]))), (AV.int .i64 2)], [(AV.str (ByteArray.mk (Array.mk [114, 101, 99, 118]))), (AV.int .i64 1)], [(AV.str (ByteArray.mk (Array.mk [115, 101, 116]))), (AV.int .i64 2)], [(AV.str (ByteArray.mk (Array.mk [99, 108, 101, 97, 114]))), (AV.int .i64 2)], [(AV.str (ByteArray.mk (Array.mk [116, 101, 115, 116]))), (AV.int .i64 2)], [(AV.str (ByteArray.mk (Array.mk [103, 105, 118, 101]))), (AV.int .i64 1)], [(AV.str (ByteArray.mk (Array.mk [116, 97, 107, 101]))), (AV.int .i64 1)]]]) : EZ G77 [] [] Q := by
 refine Inst.en (I := I77) (L := L77) F77_at fun A hA CE CK Dn EV RR W hp => ?_
 have h := h  EV ⟨trivial⟩
 cbv
 subst hA
 exact (W.q h)

-- 37: signalbox/prog.Numbers
structure V37 (EV Q : EP) : Prop where
  none : True

theorem E37 {a0 : Int} (h : ∀ EV, V37 EV Q → EZ G77 [] [] (fun x rs vs => (x = 0 ∧ ∃ y0_0, rs = [] ∧ vs = [.r y0_0] ∧ ((a0 ≥ 0 → (a0 ≥ (y0_0.length : Int) → Q 0 [] [.i (-1)]) ∧ (a0 < (y0_0.length : Int) → (0 ≤ a0) ∧ (y0_0[a0.toNat]? = some [.str (cSS y0_0 a0.toNat 0), .int .i64 (cIS y0_0 a0.toNat 1)]) ∧ (Q 0 [] [.i (cIS y0_0 a0.toNat 1)]))) ∧ (a0 < 0 → Q 0 [] [.i (-1)]))))) : EZ G37 [] [.i a0] Q := by
 refine Inst.en (I := I37) (L := L37) F37_at fun A hA CE CK Dn EV RR W hp => ?_
 have h := h  EV ⟨trivial⟩
 cbv
 refine W.cl h ?_
 rintro _ _ _ hp0 (⟨rfl, y0_0, rfl, rfl, k0⟩)
 cbv
 subst hA
 exact ⟨fun e1 => have j1 := k0.1 (cmpE (op := .lss) rfl e1); ⟨fun e2 => have j2 := j1.1 ((cmpE (op := .geq) rfl e2)); (W.q j2), fun e2 => have j2 := j1.2 ((cmpE (op := .geq) rfl e2)); ⟨(An j2.1 j2.2.1), (W.q j2.2.2)⟩⟩, fun e1 => have j1 := k0.2 (cmpE (op := .lss) rfl e1); (W.q j1)⟩

-- 98: (signalbox/prog.Room).spans$1
structure V38 (EV Q : EP) : Prop where
  p12 : ∀ {t0 t3 : Int} {t4 : Bool}, ((t4 = true → Q 0 [] [.i 0]) ∧ (t4 = false → (t3 = 9 → EV 30 [] [.i t0, .b true]) ∧ (t3 ≠ 9 → (t3 = 11 → EV 30 [] [.i t0, .b true]) ∧ (t3 ≠ 11 → (t3 = 12 → EV 30 [] [.i t0, .b true]) ∧ (t3 ≠ 12 → EV 30 [] [.i t0, .b (t3 == 13)]))))) → EV 12 [] [.i t0, .i t3, .b t4]
  p30 : ∀ {t0 : Int} {t7 : Bool}, ((t7 = true → Q 0 [] [.i 2]) ∧ (t7 = false → EV 35 [] [.i t0])) → EV 30 [] [.i t0, .b t7]
  p35 : ∀ {t0 : Int}, ((t0 ≥ 1 → (t0 > 15 → Q 0 [] [.i (-1)]) ∧ (t0 ≤ 15 → Q 0 [] [.i 1])) ∧ (t0 < 1 → Q 0 [] [.i (-1)])) → EV 35 [] [.i t0]

theorem V38.of (W : Wk Tryd.prog Tryd.f38 I38 L38 Q A sg CE CK Dn EV RR) : V38 EV Q := by
 have hA := W.hA
 refine ⟨?_, ?_, ?_⟩
 ·intro t0 t3 t4 h
  refine W.step 80 fun hp => ?_
  cbv
  subst hA
  exact ⟨fun e0 => have j0 := h.1 e0; (W.q j0), fun e0 => have j0 := h.2 e0; ⟨fun e1 => have j1 := j0.1 (cmpE (op := .eql) rfl e1); j1, fun e1 => have j1 := j0.2 (cmpE (op := .eql) rfl e1); ⟨fun e2 => have j2 := j1.1 (cmpE (op := .eql) rfl e2); j2, fun e2 => have j2 := j1.2 (cmpE (op := .eql) rfl e2); ⟨fun e3 => have j3 := j2.1 (cmpE (op := .eql) rfl e3); j3, fun e3 => have j3 := j2.2 (cmpE (op := .eql) rfl e3); j3⟩⟩⟩⟩
 ·intro t0 t7 h
  refine W.step 80 fun hp => ?_
  cbv
  subst hA
  exact ⟨fun e0 => have j0 := h.1 e0; (W.q j0), fun e0 => have j0 := h.2 e0; j0⟩
 ·intro t0 h
  refine W.step 80 fun hp => ?_
  cbv
  subst hA
  exact ⟨fun e0 => have j0 := h.1 (cmpE (op := .lss) rfl e0); ⟨fun e1 => have j1 := j0.1 (cmpE (op := .gtr) rfl e1); (W.q j1), fun e1 => have j1 := j0.2 (cmpE (op := .gtr) rfl e1); (W.q j1)⟩, fun e0 => have j0 := h.2 (cmpE (op := .lss) rfl e0); (W.q j0)⟩

theorem E38 {a0 : Int} (h : ∀ EV, V38 EV Q → (a0 = 3 → EV 12 [] [.i a0, .i a0, .b true]) ∧ (a0 ≠ 3 → EV 12 [] [.i a0, .i a0, .b (a0 == 4)])) : EZ G38 [] [.i a0] Q := by
 refine Inst.en (I := I38) (L := L38) F38_at fun A hA CE CK Dn EV RR W hp => ?_
 have h := h  EV (V38.of W)
 cbv
 subst hA
 exact ⟨fun e0 => have j0 := h.1 (cmpE (op := .eql) rfl e0); j0, fun e0 => have j0 := h.2 (cmpE (op := .eql) rfl e0); j0⟩

-- 76: signalbox/signalboxref06.in
end Go.Ab
