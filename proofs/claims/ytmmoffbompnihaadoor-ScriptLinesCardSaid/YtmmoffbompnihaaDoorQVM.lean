import Derived.Test.YtmmoffbompnihaaDoorQSC
import Derived.Test.YtmmoffbompnihaaDoorLayG
/- PRINTED BY A PROGRAM (wip/tools/vc.py, AbVc.lean): what is to be shown of each function, from place to place, and that it is enough. -/
namespace Go.Ab
open Go Go.Proofs
set_option linter.unusedVariables false
set_option linter.unusedSimpArgs false
set_option maxRecDepth 100000
set_option maxHeartbeats 0
variable {Q EV RR : EP} {A : Ar} {CE : Nat → Rs → List Lf → EP → Prop} {CK : Nat → Rs → List Lf → Cont → Prop} {Dn : Nat → List Bool → List AItem → Nat → List Bool → List AV → List ABlk → Prop}

theorem s3 (W : Wk Tryd.prog Tryd.f26 I26 L26 Q A sg CE CK Dn EV RR) {x0 x1 x2 : ByteArray} {k b0 b1 b2 b3 b4 d0 d1 d2 d3 d4 : Int} (h : (EZ G70 [] [.s x0] (fun x rs vs => (x = 0 ∧ ∃ n0 ok, rs = [] ∧ vs = [.i n0, .b ok] ∧ ((ok = false → Q 0 [] [.i 0, .i 0, .i 0, .i 0, .i 0, .b false]) ∧ (ok = true → (EZ G70 [] [.s x2] (fun x rs vs => (x = 0 ∧ ∃ n2 ok, rs = [] ∧ vs = [.i n2, .b ok] ∧ ((ok = false → Q 0 [] [.i 0, .i 0, .i 0, .i 0, .i 0, .b false]) ∧ (ok = true → Q 0 [] [.i n0, .i d1, .i n2, .i d3, .i d4, .b true]))))))))))) :
    EV 26 [] [.r [[.str x0], [.str x1], [.str x2]], .i k, .i b0, .i b1, .i b2, .i b3, .i b4, .i d0, .i d1, .i d2, .i d3, .i d4] := by
  have hA := W.hA
  have f0 : A.rlen [[AV.str x0], [AV.str x1], [AV.str x2]] = 3 := by subst hA; rfl
  have f1 : A.rlen [[AV.bptr 1 0], [AV.nilp], [AV.bptr 1 2], [AV.bptr 1 3], [AV.bptr 1 4]] = 5 := by subst hA; rfl
  have f2 : A.ofN 3 = 3 := by subst hA; rfl
  have f3 : A.ofN 5 = 5 := by subst hA; rfl
  have f4 : A.tn 0 = 0 := by subst hA; rfl
  have f5 : A.tn 1 = 1 := by subst hA; rfl
  have f6 : A.tn 2 = 2 := by subst hA; rfl
  have f7 : A.tn 3 = 3 := by subst hA; rfl
  have f8 : A.adz 0 0 = 0 := by subst hA; rfl
  have f9 : A.adz 0 1 = 1 := by subst hA; rfl
  have f10 : A.adz 0 2 = 2 := by subst hA; rfl
  have f11 : A.cmp .lss 0 3 = true := by subst hA; rfl
  have f12 : A.cmp .lss 1 3 = true := by subst hA; rfl
  have f13 : A.cmp .lss 2 3 = true := by subst hA; rfl
  have f14 : A.cmp .lss 3 3 = false := by subst hA; rfl
  have f15 : A.cmp .eql 0 1 = false := by subst hA; rfl
  have f16 : A.cmp .eql 1 1 = true := by subst hA; rfl
  have f17 : A.cmp .eql 2 1 = false := by subst hA; rfl
  have f18 : A.iop .add .i64 0 1 = 1 := by subst hA; rfl
  have f19 : A.iop .add .i64 1 1 = 2 := by subst hA; rfl
  have f20 : A.iop .add .i64 2 1 = 3 := by subst hA; rfl
  have f21 : A.cX [[AV.bptr 1 0], [AV.nilp], [AV.bptr 1 2], [AV.bptr 1 3], [AV.bptr 1 4]] 0 = [AV.bptr 1 0] := by subst hA; rfl
  have f22 : A.cX [[AV.bptr 1 0], [AV.nilp], [AV.bptr 1 2], [AV.bptr 1 3], [AV.bptr 1 4]] 1 = [AV.nilp] := by subst hA; rfl
  have f23 : A.cX [[AV.bptr 1 0], [AV.nilp], [AV.bptr 1 2], [AV.bptr 1 3], [AV.bptr 1 4]] 2 = [AV.bptr 1 2] := by subst hA; rfl
  have f24 : A.cS [[AV.str x0], [AV.str x1], [AV.str x2]] 0 0 = x0 := by subst hA; rfl
  have f25 : A.cS [[AV.str x0], [AV.str x1], [AV.str x2]] 1 0 = x1 := by subst hA; rfl
  have f26 : A.cS [[AV.str x0], [AV.str x1], [AV.str x2]] 2 0 = x2 := by subst hA; rfl
  obtain ⟨im, him⟩ : ∃ f, f = A.im := ⟨_, rfl⟩
  have g0 : ∀ P : Prop, im true true P = P := by
    intro P
    rw [him]
    subst hA
    show (true = true → P) = _
    simp
  have g1 : ∀ P : Prop, im false true P = True := by
    intro P
    rw [him]
    subst hA
    show (false = true → P) = _
    simp
  have g2 : ∀ P : Prop, im true false P = True := by
    intro P
    rw [him]
    subst hA
    show (true = false → P) = _
    simp
  have g3 : ∀ P : Prop, im false false P = P := by
    intro P
    rw [him]
    subst hA
    show (false = false → P) = _
    simp
  refine W.step 300 fun hp => ?_
  cbv at f0 f1 f2 f3 f4 f5 f6 f7 f8 f9 f10 f11 f12 f13 f14 f15 f16 f17 f18 f19 f20 f21 f22 f23 f24 f25 f26 him ⊢
  iterate 4 (try (simp only [f0, f1, f2, f3, f4, f5, f6, f7, f8, f9, f10, f11, f12, f13, f14, f15, f16, f17, f18, f19, f20, f21, f22, f23, f24, f25, f26, ← him, g0, g1, g2, g3, and_true, true_and]; cbv))
  repeat (refine ⟨ndI hA (by simp [Cnd.holds]), ?_⟩)
  refine W.cl h ?_
  rintro _ _ _ hp0 ⟨rfl, n0, ok0, rfl, rfl, k0⟩
  cbv
  refine ⟨imI hA fun e => W.q (k0.1 (notE hA e)), imI hA fun e0 => ?_⟩
  have j0 := k0.2 (notE hA e0)
  iterate 4 (try (simp only [f0, f1, f2, f3, f4, f5, f6, f7, f8, f9, f10, f11, f12, f13, f14, f15, f16, f17, f18, f19, f20, f21, f22, f23, f24, f25, f26, ← him, g0, g1, g2, g3, and_true, true_and]; cbv))
  repeat (refine ⟨ndI hA (by simp [Cnd.holds]), ?_⟩)
  refine W.cl j0 ?_
  rintro _ _ _ hp2 ⟨rfl, n2, ok2, rfl, rfl, k2⟩
  cbv
  refine ⟨imI hA fun e => W.q (k2.1 (notE hA e)), imI hA fun e2 => ?_⟩
  have j2 := k2.2 (notE hA e2)
  iterate 4 (try (simp only [f0, f1, f2, f3, f4, f5, f6, f7, f8, f9, f10, f11, f12, f13, f14, f15, f16, f17, f18, f19, f20, f21, f22, f23, f24, f25, f26, ← him, g0, g1, g2, g3, and_true, true_and]; cbv))
  repeat (refine ⟨ndI hA (by simp [Cnd.holds]), ?_⟩)
  exact W.q j2
theorem s5 (W : Wk Tryd.prog Tryd.f26 I26 L26 Q A sg CE CK Dn EV RR) {x0 x1 x2 x3 x4 : ByteArray} {k b0 b1 b2 b3 b4 d0 d1 d2 d3 d4 : Int} (h : (EZ G70 [] [.s x0] (fun x rs vs => (x = 0 ∧ ∃ n0 ok, rs = [] ∧ vs = [.i n0, .b ok] ∧ ((ok = false → Q 0 [] [.i 0, .i 0, .i 0, .i 0, .i 0, .b false]) ∧ (ok = true → (EZ G70 [] [.s x2] (fun x rs vs => (x = 0 ∧ ∃ n2 ok, rs = [] ∧ vs = [.i n2, .b ok] ∧ ((ok = false → Q 0 [] [.i 0, .i 0, .i 0, .i 0, .i 0, .b false]) ∧ (ok = true → (EZ G70 [] [.s x3] (fun x rs vs => (x = 0 ∧ ∃ n3 ok, rs = [] ∧ vs = [.i n3, .b ok] ∧ ((ok = false → Q 0 [] [.i 0, .i 0, .i 0, .i 0, .i 0, .b false]) ∧ (ok = true → (EZ G70 [] [.s x4] (fun x rs vs => (x = 0 ∧ ∃ n4 ok, rs = [] ∧ vs = [.i n4, .b ok] ∧ ((ok = false → Q 0 [] [.i 0, .i 0, .i 0, .i 0, .i 0, .b false]) ∧ (ok = true → Q 0 [] [.i n0, .i d1, .i n2, .i n3, .i n4, .b true]))))))))))))))))))))) :
    EV 26 [] [.r [[.str x0], [.str x1], [.str x2], [.str x3], [.str x4]], .i k, .i b0, .i b1, .i b2, .i b3, .i b4, .i d0, .i d1, .i d2, .i d3, .i d4] := by
  have hA := W.hA
  have f0 : A.rlen [[AV.str x0], [AV.str x1], [AV.str x2], [AV.str x3], [AV.str x4]] = 5 := by subst hA; rfl
  have f1 : A.rlen [[AV.bptr 1 0], [AV.nilp], [AV.bptr 1 2], [AV.bptr 1 3], [AV.bptr 1 4]] = 5 := by subst hA; rfl
  have f2 : A.ofN 5 = 5 := by subst hA; rfl
  have f3 : A.tn 0 = 0 := by subst hA; rfl
  have f4 : A.tn 1 = 1 := by subst hA; rfl
  have f5 : A.tn 2 = 2 := by subst hA; rfl
  have f6 : A.tn 3 = 3 := by subst hA; rfl
  have f7 : A.tn 4 = 4 := by subst hA; rfl
  have f8 : A.tn 5 = 5 := by subst hA; rfl
  have f9 : A.adz 0 0 = 0 := by subst hA; rfl
  have f10 : A.adz 0 1 = 1 := by subst hA; rfl
  have f11 : A.adz 0 2 = 2 := by subst hA; rfl
  have f12 : A.adz 0 3 = 3 := by subst hA; rfl
  have f13 : A.adz 0 4 = 4 := by subst hA; rfl
  have f14 : A.cmp .lss 0 5 = true := by subst hA; rfl
  have f15 : A.cmp .lss 1 5 = true := by subst hA; rfl
  have f16 : A.cmp .lss 2 5 = true := by subst hA; rfl
  have f17 : A.cmp .lss 3 5 = true := by subst hA; rfl
  have f18 : A.cmp .lss 4 5 = true := by subst hA; rfl
  have f19 : A.cmp .lss 5 5 = false := by subst hA; rfl
  have f20 : A.cmp .eql 0 1 = false := by subst hA; rfl
  have f21 : A.cmp .eql 1 1 = true := by subst hA; rfl
  have f22 : A.cmp .eql 2 1 = false := by subst hA; rfl
  have f23 : A.cmp .eql 3 1 = false := by subst hA; rfl
  have f24 : A.cmp .eql 4 1 = false := by subst hA; rfl
  have f25 : A.iop .add .i64 0 1 = 1 := by subst hA; rfl
  have f26 : A.iop .add .i64 1 1 = 2 := by subst hA; rfl
  have f27 : A.iop .add .i64 2 1 = 3 := by subst hA; rfl
  have f28 : A.iop .add .i64 3 1 = 4 := by subst hA; rfl
  have f29 : A.iop .add .i64 4 1 = 5 := by subst hA; rfl
  have f30 : A.cX [[AV.bptr 1 0], [AV.nilp], [AV.bptr 1 2], [AV.bptr 1 3], [AV.bptr 1 4]] 0 = [AV.bptr 1 0] := by subst hA; rfl
  have f31 : A.cX [[AV.bptr 1 0], [AV.nilp], [AV.bptr 1 2], [AV.bptr 1 3], [AV.bptr 1 4]] 1 = [AV.nilp] := by subst hA; rfl
  have f32 : A.cX [[AV.bptr 1 0], [AV.nilp], [AV.bptr 1 2], [AV.bptr 1 3], [AV.bptr 1 4]] 2 = [AV.bptr 1 2] := by subst hA; rfl
  have f33 : A.cX [[AV.bptr 1 0], [AV.nilp], [AV.bptr 1 2], [AV.bptr 1 3], [AV.bptr 1 4]] 3 = [AV.bptr 1 3] := by subst hA; rfl
  have f34 : A.cX [[AV.bptr 1 0], [AV.nilp], [AV.bptr 1 2], [AV.bptr 1 3], [AV.bptr 1 4]] 4 = [AV.bptr 1 4] := by subst hA; rfl
  have f35 : A.cS [[AV.str x0], [AV.str x1], [AV.str x2], [AV.str x3], [AV.str x4]] 0 0 = x0 := by subst hA; rfl
  have f36 : A.cS [[AV.str x0], [AV.str x1], [AV.str x2], [AV.str x3], [AV.str x4]] 1 0 = x1 := by subst hA; rfl
  have f37 : A.cS [[AV.str x0], [AV.str x1], [AV.str x2], [AV.str x3], [AV.str x4]] 2 0 = x2 := by subst hA; rfl
  have f38 : A.cS [[AV.str x0], [AV.str x1], [AV.str x2], [AV.str x3], [AV.str x4]] 3 0 = x3 := by subst hA; rfl
  have f39 : A.cS [[AV.str x0], [AV.str x1], [AV.str x2], [AV.str x3], [AV.str x4]] 4 0 = x4 := by subst hA; rfl
  obtain ⟨im, him⟩ : ∃ f, f = A.im := ⟨_, rfl⟩
  have g0 : ∀ P : Prop, im true true P = P := by
    intro P
    rw [him]
    subst hA
    show (true = true → P) = _
    simp
  have g1 : ∀ P : Prop, im false true P = True := by
    intro P
    rw [him]
    subst hA
    show (false = true → P) = _
    simp
  have g2 : ∀ P : Prop, im true false P = True := by
    intro P
    rw [him]
    subst hA
    show (true = false → P) = _
    simp
  have g3 : ∀ P : Prop, im false false P = P := by
    intro P
    rw [him]
    subst hA
    show (false = false → P) = _
    simp
  refine W.step 300 fun hp => ?_
  cbv at f0 f1 f2 f3 f4 f5 f6 f7 f8 f9 f10 f11 f12 f13 f14 f15 f16 f17 f18 f19 f20 f21 f22 f23 f24 f25 f26 f27 f28 f29 f30 f31 f32 f33 f34 f35 f36 f37 f38 f39 him ⊢
  iterate 4 (try (simp only [f0, f1, f2, f3, f4, f5, f6, f7, f8, f9, f10, f11, f12, f13, f14, f15, f16, f17, f18, f19, f20, f21, f22, f23, f24, f25, f26, f27, f28, f29, f30, f31, f32, f33, f34, f35, f36, f37, f38, f39, ← him, g0, g1, g2, g3, and_true, true_and]; cbv))
  repeat (refine ⟨ndI hA (by simp [Cnd.holds]), ?_⟩)
  refine W.cl h ?_
  rintro _ _ _ hp0 ⟨rfl, n0, ok0, rfl, rfl, k0⟩
  cbv
  refine ⟨imI hA fun e => W.q (k0.1 (notE hA e)), imI hA fun e0 => ?_⟩
  have j0 := k0.2 (notE hA e0)
  iterate 4 (try (simp only [f0, f1, f2, f3, f4, f5, f6, f7, f8, f9, f10, f11, f12, f13, f14, f15, f16, f17, f18, f19, f20, f21, f22, f23, f24, f25, f26, f27, f28, f29, f30, f31, f32, f33, f34, f35, f36, f37, f38, f39, ← him, g0, g1, g2, g3, and_true, true_and]; cbv))
  repeat (refine ⟨ndI hA (by simp [Cnd.holds]), ?_⟩)
  refine W.cl j0 ?_
  rintro _ _ _ hp2 ⟨rfl, n2, ok2, rfl, rfl, k2⟩
  cbv
  refine ⟨imI hA fun e => W.q (k2.1 (notE hA e)), imI hA fun e2 => ?_⟩
  have j2 := k2.2 (notE hA e2)
  iterate 4 (try (simp only [f0, f1, f2, f3, f4, f5, f6, f7, f8, f9, f10, f11, f12, f13, f14, f15, f16, f17, f18, f19, f20, f21, f22, f23, f24, f25, f26, f27, f28, f29, f30, f31, f32, f33, f34, f35, f36, f37, f38, f39, ← him, g0, g1, g2, g3, and_true, true_and]; cbv))
  repeat (refine ⟨ndI hA (by simp [Cnd.holds]), ?_⟩)
  refine W.cl j2 ?_
  rintro _ _ _ hp3 ⟨rfl, n3, ok3, rfl, rfl, k3⟩
  cbv
  refine ⟨imI hA fun e => W.q (k3.1 (notE hA e)), imI hA fun e3 => ?_⟩
  have j3 := k3.2 (notE hA e3)
  iterate 4 (try (simp only [f0, f1, f2, f3, f4, f5, f6, f7, f8, f9, f10, f11, f12, f13, f14, f15, f16, f17, f18, f19, f20, f21, f22, f23, f24, f25, f26, f27, f28, f29, f30, f31, f32, f33, f34, f35, f36, f37, f38, f39, ← him, g0, g1, g2, g3, and_true, true_and]; cbv))
  repeat (refine ⟨ndI hA (by simp [Cnd.holds]), ?_⟩)
  refine W.cl j3 ?_
  rintro _ _ _ hp4 ⟨rfl, n4, ok4, rfl, rfl, k4⟩
  cbv
  refine ⟨imI hA fun e => W.q (k4.1 (notE hA e)), imI hA fun e4 => ?_⟩
  have j4 := k4.2 (notE hA e4)
  iterate 4 (try (simp only [f0, f1, f2, f3, f4, f5, f6, f7, f8, f9, f10, f11, f12, f13, f14, f15, f16, f17, f18, f19, f20, f21, f22, f23, f24, f25, f26, f27, f28, f29, f30, f31, f32, f33, f34, f35, f36, f37, f38, f39, ← him, g0, g1, g2, g3, and_true, true_and]; cbv))
  repeat (refine ⟨ndI hA (by simp [Cnd.holds]), ?_⟩)
  exact W.q j4
-- 26: signalbox/script.Parse
structure V26 (EV Q : EP) : Prop where
  p14 : ∀ {t4 : RW} {t5 b0 b1 b2 b3 b4 : Int}, ((t5 ≥ 1 → EZ G64 [] [.i t5] (fun x rs vs => (x = 0 ∧ ∃ y1_0, rs = [] ∧ vs = [.i y1_0] ∧ (((t4.length : Int) ≠ y1_0 → Q 0 [] [.i 0, .i 0, .i 0, .i 0, .i 0, .b false]) ∧ ((t4.length : Int) = y1_0 → EV 26 [] [.r t4, .i t5, .i b0, .i b1, .i b2, .i b3, .i b4, .i 0, .i t5, .i 0, .i 0, .i 0]))))) ∧ (t5 < 1 → Q 0 [] [.i 0, .i 0, .i 0, .i 0, .i 0, .b false])) → EV 14 [] [.r t4, .i t5, .i b0, .i b1, .i b2, .i b3, .i b4]
  p26a : ∀ {x0 x1 x2 : ByteArray} {k b0 b1 b2 b3 b4 d0 d1 d2 d3 d4 : Int}, (EZ G70 [] [.s x0] (fun x rs vs => (x = 0 ∧ ∃ n0 ok, rs = [] ∧ vs = [.i n0, .b ok] ∧ ((ok = false → Q 0 [] [.i 0, .i 0, .i 0, .i 0, .i 0, .b false]) ∧ (ok = true → (EZ G70 [] [.s x2] (fun x rs vs => (x = 0 ∧ ∃ n2 ok, rs = [] ∧ vs = [.i n2, .b ok] ∧ ((ok = false → Q 0 [] [.i 0, .i 0, .i 0, .i 0, .i 0, .b false]) ∧ (ok = true → Q 0 [] [.i n0, .i d1, .i n2, .i d3, .i d4, .b true])))))))))) → EV 26 [] [.r [[.str x0], [.str x1], [.str x2]], .i k, .i b0, .i b1, .i b2, .i b3, .i b4, .i d0, .i d1, .i d2, .i d3, .i d4]
  p26b : ∀ {x0 x1 x2 x3 x4 : ByteArray} {k b0 b1 b2 b3 b4 d0 d1 d2 d3 d4 : Int}, (EZ G70 [] [.s x0] (fun x rs vs => (x = 0 ∧ ∃ n0 ok, rs = [] ∧ vs = [.i n0, .b ok] ∧ ((ok = false → Q 0 [] [.i 0, .i 0, .i 0, .i 0, .i 0, .b false]) ∧ (ok = true → (EZ G70 [] [.s x2] (fun x rs vs => (x = 0 ∧ ∃ n2 ok, rs = [] ∧ vs = [.i n2, .b ok] ∧ ((ok = false → Q 0 [] [.i 0, .i 0, .i 0, .i 0, .i 0, .b false]) ∧ (ok = true → (EZ G70 [] [.s x3] (fun x rs vs => (x = 0 ∧ ∃ n3 ok, rs = [] ∧ vs = [.i n3, .b ok] ∧ ((ok = false → Q 0 [] [.i 0, .i 0, .i 0, .i 0, .i 0, .b false]) ∧ (ok = true → (EZ G70 [] [.s x4] (fun x rs vs => (x = 0 ∧ ∃ n4 ok, rs = [] ∧ vs = [.i n4, .b ok] ∧ ((ok = false → Q 0 [] [.i 0, .i 0, .i 0, .i 0, .i 0, .b false]) ∧ (ok = true → Q 0 [] [.i n0, .i d1, .i n2, .i n3, .i n4, .b true])))))))))))))))))))) → EV 26 [] [.r [[.str x0], [.str x1], [.str x2], [.str x3], [.str x4]], .i k, .i b0, .i b1, .i b2, .i b3, .i b4, .i d0, .i d1, .i d2, .i d3, .i d4]

theorem V26.of (W : Wk Tryd.prog Tryd.f26 I26 L26 Q A sg CE CK Dn EV RR) : V26 EV Q := by
 have hA := W.hA
 refine ⟨?_, ?_, ?_⟩
 ·intro t4 t5 b0 b1 b2 b3 b4 h
  refine W.step 80 fun hp => ?_
  cbv
  refine ⟨imI hA fun e0 => have j0 := h.1 (cmpE (op := .lss) hA e0); ?_, imI hA fun e0 => have j0 := h.2 (cmpE (op := .lss) hA e0); (W.q j0)⟩
  refine W.cl j0 ?_
  rintro _ _ _ hp1 (⟨rfl, y1_0, rfl, rfl, k1⟩)
  cbv
  subst hA
  exact ⟨fun e2 => have j2 := k1.1 ((cmpE (op := .neq) rfl e2)); (W.q j2), fun e2 => have j2 := k1.2 ((cmpE (op := .neq) rfl e2)); j2⟩
 ·exact fun h => s3 W h
 ·exact fun h => s5 W h

theorem E26 {a0 : ByteArray} (h : ∀ EV, V26 EV Q → EZ G52 [] [.s a0, .s (ByteArray.mk (Array.mk [32]))] (fun x rs vs => (x = 0 ∧ ∃ y0_0, rs = [] ∧ vs = [.r y0_0] ∧ (((y0_0.length : Int) < 3 → Q 0 [] [.i 0, .i 0, .i 0, .i 0, .i 0, .b false]) ∧ ((y0_0.length : Int) ≥ 3 → ((0 : Int) ≤ 1) ∧ (y0_0[(Int.toNat 1)]? = some [.str (cSS y0_0 (Int.toNat 1) 0)]) ∧ (EZ G62 [] [] (fun x rs vs => (x = 0 ∧ ∃ y2_0, rs = [] ∧ vs = [.r y2_0] ∧ (EZ G53 [] [.r y2_0, .s (cSS y0_0 (Int.toNat 1) 0)] (fun x rs vs => (x = 0 ∧ ∃ y3_0, rs = [] ∧ vs = [.i y3_0] ∧ (EV 14 [] [.r y0_0, .i y3_0, .i 0, .i 0, .i 0, .i 0, .i 0])))))))))))) : EZ G26 [] [.s a0] Q := by
 refine Inst.en (I := I26) (L := L26) F26_at fun A hA CE CK Dn EV RR W hp => ?_
 have h := h  EV (V26.of W)
 cbv
 refine W.cl h ?_
 rintro _ _ _ hp0 (⟨rfl, y0_0, rfl, rfl, k0⟩)
 cbv
 refine ⟨imI hA fun e1 => have j1 := k0.1 (by subst hA; exact (cmpE (op := .lss) rfl e1)); (W.q j1), imI hA fun e1 => have j1 := k0.2 (by subst hA; exact (cmpE (op := .lss) rfl e1)); ⟨ndI hA (An j1.1 (hA ▸ j1.2.1)), ⟨?_, trivial⟩⟩⟩
 refine W.cd j1.2.2 ?_
 rintro _ _ _ hp2 (⟨rfl, y2_0, rfl, rfl, k2⟩)
 cbv
 refine W.draw 80 (by rfl) ?_
 cbv
 refine ⟨?_, trivial⟩
 refine W.cd k2 ?_
 rintro _ _ _ hp3 (⟨rfl, y3_0, rfl, rfl, k3⟩)
 cbv
 refine W.draw 80 (by rfl) ?_
 cbv
 subst hA
 exact k3

end Go.Ab
