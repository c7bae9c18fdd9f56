/- PRINTED BY A PROGRAM (wip/tools/vc.py, AbVc.lean): what is to be shown of each function, from place to place, and that it is enough. -/
import Derived.Test.YtdmpiondalhonaaPkS
import Derived.Test.YtdmpiondalhonaaAbV0
namespace Go.Ab
open Go Go.Proofs
set_option linter.unusedVariables false
set_option linter.unusedSimpArgs false
set_option maxRecDepth 100000

-- 33: signalbox/signalboxref44.Right
section
structure V33 (EV Q : Nat → Rs → List Lf → Prop) : Prop where
  p7 : ∀ {t0 : List (List AV)} {t1 : Int} {t7 : List (List AV)} {t8 : Int} {t9 : Int}, (
    (t9 < t8 →
      ((0 : Int) ≤ t9) ∧
      (t7[(Int.toNat t9)]? = some [(AV.int .i64 (cIS t7 (Int.toNat t9) 0))]) ∧
      ((cIS t7 (Int.toNat t9) 0) ≥ (1 : Int) →
        ((cIS t7 (Int.toNat t9) 0) > t1 →
          Q 0 [] [(Lf.b false)]) ∧
        ((cIS t7 (Int.toNat t9) 0) ≤ t1 →
          EV 7 [] [(Lf.r t0), (Lf.i t1), (Lf.r t7), (Lf.i t8), (Lf.i (IntKind.wrap .i64 (t9 + (1 : Int))))])) ∧
      ((cIS t7 (Int.toNat t9) 0) < (1 : Int) →
        Q 0 [] [(Lf.b false)])) ∧
    (t9 ≥ t8 →
      ((((List.length t0) : Nat) : Int) ≤ (4096 : Int) →
        (t1 ≥ (1 : Int) →
          Q 0 [] [(Lf.b (decide (t1 ≤ (1048576 : Int))))]) ∧
        (t1 < (1 : Int) →
          Q 0 [] [(Lf.b false)])) ∧
      ((((List.length t0) : Nat) : Int) > (4096 : Int) →
        Q 0 [] [(Lf.b false)]))) →
    EV 7 [] [.r t0, .i t1, .r t7, .i t8, .i t9]

set_option maxHeartbeats 0 in
theorem V33.of {Q : Nat → Rs → List Lf → Prop} {A : Ar} {CE : Nat → Rs → List Lf → (Nat → Rs → List Lf → Prop) → Prop} {CK : Nat → Rs → List Lf → Cont → Prop} {Dn : Nat → List Bool → List AItem → Nat → List Bool → List AV → List ABlk → Prop} {EV RR : Nat → Rs → List Lf → Prop} (W : Wk Try.prog Try.f33 I33 L33 Q A sg CE CK Dn EV RR) : V33 EV Q := by
  have hA := W.hA
  refine ⟨?_⟩
  · intro t0 t1 t7 t8 t9 h
    refine W.step 80 fun hp => ?_
    cbv
    refine ⟨imI hA fun e0 => have c0 : t9 < t8 := (by have q := (cmpE (op := .lss) hA e0); subst hA; exact q); ⟨ndI hA (And.intro (by subst hA; exact (h.1 c0).1) (by subst hA; exact (h.1 c0).2.1)), ⟨imI hA fun e1 => have c1 : (cIS t7 (Int.toNat t9) 0) ≥ (1 : Int) := (by have q := (cmpE (op := .lss) hA e1); subst hA; exact q); ⟨imI hA fun e2 => have c2 : (cIS t7 (Int.toNat t9) 0) > t1 := (by have q := (cmpE (op := .gtr) hA e2); subst hA; exact q); (by rw [W.rr]; exact (by subst hA; exact (((h.1 c0).2.2.1 c1).1 c2))), imI hA fun e2 => have c2 : (cIS t7 (Int.toNat t9) 0) ≤ t1 := (by have q := (cmpE (op := .gtr) hA e2); subst hA; exact q); (by subst hA; exact (((h.1 c0).2.2.1 c1).2 c2))⟩, imI hA fun e1 => have c1 : (cIS t7 (Int.toNat t9) 0) < (1 : Int) := (by have q := (cmpE (op := .lss) hA e1); subst hA; exact q); (by rw [W.rr]; exact (by subst hA; exact ((h.1 c0).2.2.2 c1)))⟩⟩, imI hA fun e0 => have c0 : t9 ≥ t8 := (by have q := (cmpE (op := .lss) hA e0); subst hA; exact q); ⟨imI hA fun e1 => have c1 : (((List.length t0) : Nat) : Int) ≤ (4096 : Int) := (by have q := (cmpE (op := .leq) hA e1); subst hA; exact q); ⟨imI hA fun e2 => have c2 : t1 ≥ (1 : Int) := (by have q := (cmpE (op := .geq) hA e2); subst hA; exact q); (by rw [W.rr]; exact (by subst hA; exact (((h.2 c0).1 c1).1 c2))), imI hA fun e2 => have c2 : t1 < (1 : Int) := (by have q := (cmpE (op := .geq) hA e2); subst hA; exact q); (by rw [W.rr]; exact (by subst hA; exact (((h.2 c0).1 c1).2 c2)))⟩, imI hA fun e1 => have c1 : (((List.length t0) : Nat) : Int) > (4096 : Int) := (by have q := (cmpE (op := .leq) hA e1); subst hA; exact q); (by rw [W.rr]; exact (by subst hA; exact ((h.2 c0).2 c1)))⟩⟩

end
set_option maxHeartbeats 0 in
/-- To enter. -/
theorem E33 {Q : Nat → Rs → List Lf → Prop} {a0 : List (List AV)} {a1 : Int} (h : ∀ EV : Nat → Rs → List Lf → Prop, V33 EV Q →
    EV 7 [] [(Lf.r a0), (Lf.i a1), (Lf.r a0), (Lf.i (((List.length a0) : Nat) : Int)), (Lf.i (0 : Int))]) :
    EC Try.prog G33 [] [.r a0, .i a1] Q := by
  obtain ⟨A, hA⟩ : ∃ A, A = arS := ⟨_, rfl⟩
  refine Inst.enter (I := I33) hA mixed F33_at sg L33 80 rfl fun CE CK Dn EV RR W hp => ?_
  have h := h  EV (V33.of W)
  cbv
  refine (by subst hA; exact h)

-- 75: signalbox/pack.right$1
section
structure V75 (EV Q : Nat → Rs → List Lf → Prop) : Prop where
  none : True

end
set_option maxHeartbeats 0 in
/-- To enter. -/
theorem E75 {Q : Nat → Rs → List Lf → Prop} {a0 : Int} {ab0 : Int} (h : ∀ EV : Nat → Rs → List Lf → Prop, V75 EV Q →
    (a0 ≥ (1 : Int) →
      Q 0 [] [(Lf.b (decide (a0 > ab0))), (Lf.i ab0)]) ∧
    (a0 < (1 : Int) →
      Q 0 [] [(Lf.b true), (Lf.i ab0)])) :
    EC Try.prog G75 [] [.i a0, .i ab0] Q := by
  obtain ⟨A, hA⟩ : ∃ A, A = arS := ⟨_, rfl⟩
  refine Inst.enter (I := I75) hA mixed F75_at sg L75 80 rfl fun CE CK Dn EV RR W hp => ?_
  have h := h  EV ⟨trivial⟩
  cbv
  refine ⟨imI hA fun e0 => have c0 : a0 ≥ (1 : Int) := (by have q := (cmpE (op := .lss) hA e0); subst hA; exact q); (by rw [W.rr]; exact (by subst hA; exact (h.1 c0))), imI hA fun e0 => have c0 : a0 < (1 : Int) := (by have q := (cmpE (op := .lss) hA e0); subst hA; exact q); (by rw [W.rr]; exact (by subst hA; exact (h.2 c0)))⟩

-- 68: slices.IndexFunc[[]int,int]
section
structure V68 (EV Q : Nat → Rs → List Lf → Prop) : Prop where
  p7 : ∀ {t0 : List (List AV)} {t7 : Int} {t8 : Int} {tb0 : Int}, (
    (t8 < t7 →
      ((0 : Int) ≤ t8) ∧
      (t0[(Int.toNat t8)]? = some [(AV.int .i64 (cIS t0 (Int.toNat t8) 0))]) ∧
      (EC Try.prog G75 [] [(Lf.i (cIS t0 (Int.toNat t8) 0)), (Lf.i tb0)] (fun x rs vs => (x = 0 ∧ ∃ (y1_0 : Bool) (y1_b0 : Int), rs = [] ∧ vs = [.b y1_0, .i y1_b0] ∧
        ((y1_0 = true →
            Q 0 [] [(Lf.i t8), (Lf.i y1_b0)]) ∧
          (y1_0 = false →
            EV 7 [] [(Lf.r t0), (Lf.i t7), (Lf.i (IntKind.wrap .i64 (t8 + (1 : Int)))), (Lf.i y1_b0)])))))) ∧
    (t8 ≥ t7 →
      Q 0 [] [(Lf.i (-1)), (Lf.i tb0)])) →
    EV 7 [] [.r t0, .i t7, .i t8, .i tb0]

set_option maxHeartbeats 0 in
theorem V68.of {Q : Nat → Rs → List Lf → Prop} {A : Ar} {CE : Nat → Rs → List Lf → (Nat → Rs → List Lf → Prop) → Prop} {CK : Nat → Rs → List Lf → Cont → Prop} {Dn : Nat → List Bool → List AItem → Nat → List Bool → List AV → List ABlk → Prop} {EV RR : Nat → Rs → List Lf → Prop} (W : Wk Try.prog Try.f68 I68 L68 Q A sg CE CK Dn EV RR) : V68 EV Q := by
  have hA := W.hA
  refine ⟨?_⟩
  · intro t0 t7 t8 tb0 h
    refine W.step 80 fun hp => ?_
    cbv
    refine ⟨imI hA fun e0 => have c0 : t8 < t7 := (by have q := (cmpE (op := .lss) hA e0); subst hA; exact q); ⟨ndI hA (And.intro (by subst hA; exact (h.1 c0).1) (by subst hA; exact (h.1 c0).2.1)), ?_⟩, imI hA fun e0 => have c0 : t8 ≥ t7 := (by have q := (cmpE (op := .lss) hA e0); subst hA; exact q); (by rw [W.rr]; exact (by subst hA; exact (h.2 c0)))⟩
    · refine W.call 80 (by rfl) (h.1 c0).2.2 (by subst hA; rfl) (by subst hA; rfl) ?_
      rintro x rs vs hp1 hq1
      rcases hq1 with ⟨rfl, y1_0, y1_b0, rfl, rfl, k1⟩
      · cbv
        refine ⟨imI hA fun e2 => have c2 : y1_0 = true := (by have q := e2; subst hA; exact q); (by rw [W.rr]; exact (by subst hA; exact (k1.1 c2))), imI hA fun e2 => have c2 : y1_0 = false := (by have q := e2; subst hA; exact q); (by subst hA; exact (k1.2 c2))⟩

end
set_option maxHeartbeats 0 in
/-- To enter. -/
theorem E68 {Q : Nat → Rs → List Lf → Prop} {a0 : List (List AV)} {ab0 : Int} (h : ∀ EV : Nat → Rs → List Lf → Prop, V68 EV Q →
    EV 7 [] [(Lf.r a0), (Lf.i (((List.length a0) : Nat) : Int)), (Lf.i (0 : Int)), (Lf.i ab0)]) :
    EC Try.prog G68 [] [.r a0, .i ab0] Q := by
  obtain ⟨A, hA⟩ : ∃ A, A = arS := ⟨_, rfl⟩
  refine Inst.enter (I := I68) hA mixed F68_at sg L68 80 rfl fun CE CK Dn EV RR W hp => ?_
  have h := h  EV (V68.of W)
  cbv
  refine (by subst hA; exact h)

-- 49: slices.ContainsFunc[[]int,int]
section
structure V49 (EV Q : Nat → Rs → List Lf → Prop) : Prop where
  none : True

end
set_option maxHeartbeats 0 in
/-- To enter. -/
theorem E49 {Q : Nat → Rs → List Lf → Prop} {a0 : List (List AV)} {ab0 : Int} (h : ∀ EV : Nat → Rs → List Lf → Prop, V49 EV Q →
    EC Try.prog G68 [] [(Lf.r a0), (Lf.i ab0)] (fun x rs vs => (x = 0 ∧ ∃ (y0_0 : Int) (y0_b0 : Int), rs = [] ∧ vs = [.i y0_0, .i y0_b0] ∧
      (Q 0 [] [(Lf.b (decide (y0_0 ≥ (0 : Int)))), (Lf.i y0_b0)])))) :
    EC Try.prog G49 [] [.r a0, .i ab0] Q := by
  obtain ⟨A, hA⟩ : ∃ A, A = arS := ⟨_, rfl⟩
  refine Inst.enter (I := I49) hA mixed F49_at sg L49 80 rfl fun CE CK Dn EV RR W hp => ?_
  have h := h  EV ⟨trivial⟩
  cbv
  refine ?_
  · refine W.call 80 (by rfl) h (by subst hA; rfl) (by subst hA; rfl) ?_
    rintro x rs vs hp0 hq0
    rcases hq0 with ⟨rfl, y0_0, y0_b0, rfl, rfl, k0⟩
    · cbv
      refine (by rw [W.rr]; exact (by subst hA; exact k0))

-- 58: signalbox/pack.right
section
structure V58 (EV Q : Nat → Rs → List Lf → Prop) : Prop where
  none : True

end
set_option maxHeartbeats 0 in
/-- To enter. -/
theorem E58 {Q : Nat → Rs → List Lf → Prop} {a0 : List (List AV)} {a1 : Int} (h : ∀ EV : Nat → Rs → List Lf → Prop, V58 EV Q →
    ((((List.length a0) : Nat) : Int) ≤ (4096 : Int) →
      (a1 ≥ (1 : Int) →
        (a1 ≤ (1048576 : Int) →
          EC Try.prog G49 [] [(Lf.r a0), (Lf.i a1)] (fun x rs vs => (x = 0 ∧ ∃ (y3_0 : Bool) (y3_b0 : Int), rs = [] ∧ vs = [.b y3_0, .i y3_b0] ∧
            (Q 0 [] [(Lf.b (!y3_0))])))) ∧
        (a1 > (1048576 : Int) →
          Q 0 [] [(Lf.b false)])) ∧
      (a1 < (1 : Int) →
        Q 0 [] [(Lf.b false)])) ∧
    ((((List.length a0) : Nat) : Int) > (4096 : Int) →
      Q 0 [] [(Lf.b false)])) :
    EC Try.prog G58 [] [.r a0, .i a1] Q := by
  obtain ⟨A, hA⟩ : ∃ A, A = arS := ⟨_, rfl⟩
  refine Inst.enter (I := I58) hA mixed F58_at sg L58 80 rfl fun CE CK Dn EV RR W hp => ?_
  have h := h  EV ⟨trivial⟩
  cbv
  refine ⟨imI hA fun e0 => have c0 : (((List.length a0) : Nat) : Int) ≤ (4096 : Int) := (by have q := (cmpE (op := .leq) hA e0); subst hA; exact q); ⟨imI hA fun e1 => have c1 : a1 ≥ (1 : Int) := (by have q := (cmpE (op := .geq) hA e1); subst hA; exact q); ⟨imI hA fun e2 => have c2 : a1 ≤ (1048576 : Int) := (by have q := (cmpE (op := .leq) hA e2); subst hA; exact q); ?_, imI hA fun e2 => have c2 : a1 > (1048576 : Int) := (by have q := (cmpE (op := .leq) hA e2); subst hA; exact q); (by rw [W.rr]; exact (by subst hA; exact (((h.1 c0).1 c1).2 c2)))⟩, imI hA fun e1 => have c1 : a1 < (1 : Int) := (by have q := (cmpE (op := .geq) hA e1); subst hA; exact q); (by rw [W.rr]; exact (by subst hA; exact ((h.1 c0).2 c1)))⟩, imI hA fun e0 => have c0 : (((List.length a0) : Nat) : Int) > (4096 : Int) := (by have q := (cmpE (op := .leq) hA e0); subst hA; exact q); (by rw [W.rr]; exact (by subst hA; exact (h.2 c0)))⟩
  · refine W.call 80 (by rfl) (((h.1 c0).1 c1).1 c2) (by subst hA; rfl) (by subst hA; rfl) ?_
    rintro x rs vs hp3 hq3
    rcases hq3 with ⟨rfl, y3_0, y3_b0, rfl, rfl, k3⟩
    · cbv
      refine (by rw [W.rr]; exact (by subst hA; exact k3))

-- 34: signalbox/pack.Check DRAWN
section
structure V34 (EV Q : Nat → Rs → List Lf → Prop) : Prop where
  p17 : ∀ {R0 : List (List AV)} {t0 : List (List AV)} {t1 : Int} {t22 : List (List AV)} {t23 : Int} {t24 : Int}, (pursS R0 = true → 
    (t24 < t23 →
      ((0 : Int) ≤ t24) ∧
      (t22[(Int.toNat t24)]? = some [(AV.int .i64 (cIS t22 (Int.toNat t24) 0))]) ∧
      (t0[(Int.toNat t24)]? = some [(AV.int .i64 (cIS t0 (Int.toNat t24) 0))]) ∧
      (mgetS .i64 (cIS t22 (Int.toNat t24) 0) (AV.int .i64 (0 : Int)) R0 = some (AV.int .i64 (mIS R0 .i64 (cIS t22 (Int.toNat t24) 0)))) ∧
      (msetS .i64 (cIS t22 (Int.toNat t24) 0) (AV.int .i64 (IntKind.wrap .i64 ((mIS R0 .i64 (cIS t22 (Int.toNat t24) 0)) + (cIS t0 (Int.toNat t24) 0)))) R0 = some (mSS R0 .i64 (cIS t22 (Int.toNat t24) 0) (AV.int .i64 (IntKind.wrap .i64 ((mIS R0 .i64 (cIS t22 (Int.toNat t24) 0)) + (cIS t0 (Int.toNat t24) 0)))))) ∧
      ((cIS t22 (Int.toNat t24) 0) ≥ (0 : Int) →
        (mgetS .i64 (cIS t22 (Int.toNat t24) 0) (AV.int .i64 (0 : Int)) (mSS R0 .i64 (cIS t22 (Int.toNat t24) 0) (AV.int .i64 (IntKind.wrap .i64 ((mIS R0 .i64 (cIS t22 (Int.toNat t24) 0)) + (cIS t0 (Int.toNat t24) 0))))) = some (AV.int .i64 (mIS (mSS R0 .i64 (cIS t22 (Int.toNat t24) 0) (AV.int .i64 (IntKind.wrap .i64 ((mIS R0 .i64 (cIS t22 (Int.toNat t24) 0)) + (cIS t0 (Int.toNat t24) 0))))) .i64 (cIS t22 (Int.toNat t24) 0)))) ∧
        ((mIS (mSS R0 .i64 (cIS t22 (Int.toNat t24) 0) (AV.int .i64 (IntKind.wrap .i64 ((mIS R0 .i64 (cIS t22 (Int.toNat t24) 0)) + (cIS t0 (Int.toNat t24) 0))))) .i64 (cIS t22 (Int.toNat t24) 0)) > t1 →
          Q 0 [] [(Lf.b false)]) ∧
        ((mIS (mSS R0 .i64 (cIS t22 (Int.toNat t24) 0) (AV.int .i64 (IntKind.wrap .i64 ((mIS R0 .i64 (cIS t22 (Int.toNat t24) 0)) + (cIS t0 (Int.toNat t24) 0))))) .i64 (cIS t22 (Int.toNat t24) 0)) ≤ t1 →
          EV 17 [(mSS R0 .i64 (cIS t22 (Int.toNat t24) 0) (AV.int .i64 (IntKind.wrap .i64 ((mIS R0 .i64 (cIS t22 (Int.toNat t24) 0)) + (cIS t0 (Int.toNat t24) 0)))))] [(Lf.r t0), (Lf.i t1), (Lf.r t22), (Lf.i t23), (Lf.i (IntKind.wrap .i64 (t24 + (1 : Int))))])) ∧
      ((cIS t22 (Int.toNat t24) 0) < (0 : Int) →
        Q 0 [] [(Lf.b false)])) ∧
    (t24 ≥ t23 →
      Q 0 [] [(Lf.b true)])) →
    EV 17 [R0] [.r t0, .i t1, .r t22, .i t23, .i t24]

set_option maxHeartbeats 0 in
theorem V34.of {Q : Nat → Rs → List Lf → Prop} {A : Ar} {CE : Nat → Rs → List Lf → (Nat → Rs → List Lf → Prop) → Prop} {CK : Nat → Rs → List Lf → Cont → Prop} {Dn : Nat → List Bool → List AItem → Nat → List Bool → List AV → List ABlk → Prop} {EV RR : Nat → Rs → List Lf → Prop} (W : Wk Try.prog Try.f34 I34 L34 Q A sg CE CK Dn EV RR) : V34 EV Q := by
  have hA := W.hA
  refine ⟨?_⟩
  · intro R0 t0 t1 t22 t23 t24 h
    refine W.step 80 fun hp => ?_
    have h := h hp.1
    cbv
    refine ⟨imI hA fun e0 => have c0 : t24 < t23 := (by have q := (cmpE (op := .lss) hA e0); subst hA; exact q); ⟨ndI hA (And.intro (by subst hA; exact (h.1 c0).1) (by subst hA; exact (h.1 c0).2.1)), ⟨ndI hA (And.intro (by subst hA; exact (h.1 c0).1) (by subst hA; exact (h.1 c0).2.2.1)), ⟨⟨ndI hA (by subst hA; exact (h.1 c0).2.2.2.1), ⟨⟨ndI hA (by subst hA; exact (h.1 c0).2.2.2.2.1), ⟨imI hA fun e1 => have c1 : (cIS t22 (Int.toNat t24) 0) ≥ (0 : Int) := (by have q := (cmpE (op := .lss) hA e1); subst hA; exact q); ⟨ndI hA (by subst hA; exact ((h.1 c0).2.2.2.2.2.1 c1).1), ⟨imI hA fun e2 => have c2 : (mIS (mSS R0 .i64 (cIS t22 (Int.toNat t24) 0) (AV.int .i64 (IntKind.wrap .i64 ((mIS R0 .i64 (cIS t22 (Int.toNat t24) 0)) + (cIS t0 (Int.toNat t24) 0))))) .i64 (cIS t22 (Int.toNat t24) 0)) > t1 := (by have q := (cmpE (op := .gtr) hA e2); subst hA; exact q); (by rw [W.rr]; exact (by subst hA; exact (((h.1 c0).2.2.2.2.2.1 c1).2.1 c2))), imI hA fun e2 => have c2 : (mIS (mSS R0 .i64 (cIS t22 (Int.toNat t24) 0) (AV.int .i64 (IntKind.wrap .i64 ((mIS R0 .i64 (cIS t22 (Int.toNat t24) 0)) + (cIS t0 (Int.toNat t24) 0))))) .i64 (cIS t22 (Int.toNat t24) 0)) ≤ t1 := (by have q := (cmpE (op := .gtr) hA e2); subst hA; exact q); ⟨ndI hA (by subst hA; exact (vmset hp.1 rfl)), (by subst hA; exact (((h.1 c0).2.2.2.2.2.1 c1).2.2 c2))⟩⟩⟩, imI hA fun e1 => have c1 : (cIS t22 (Int.toNat t24) 0) < (0 : Int) := (by have q := (cmpE (op := .lss) hA e1); subst hA; exact q); (by rw [W.rr]; exact (by subst hA; exact ((h.1 c0).2.2.2.2.2.2 c1)))⟩⟩, trivial⟩⟩, trivial⟩⟩⟩, imI hA fun e0 => have c0 : t24 ≥ t23 := (by have q := (cmpE (op := .lss) hA e0); subst hA; exact q); (by rw [W.rr]; exact (by subst hA; exact (h.2 c0)))⟩

end
set_option maxHeartbeats 0 in
/-- To enter. -/
theorem E34 {Q : Nat → Rs → List Lf → Prop} {a0 : List (List AV)} {a1 : Int} {a2 : List (List AV)} (h : ∀ EV : Nat → Rs → List Lf → Prop, V34 EV Q →
    EC Try.prog G58 [] [(Lf.r a0), (Lf.i a1)] (fun x rs vs => (x = 0 ∧ ∃ (y0_0 : Bool), rs = [] ∧ vs = [.b y0_0] ∧
      ((y0_0 = true →
          ((((List.length a2) : Nat) : Int) ≠ (((List.length a0) : Nat) : Int) →
            Q 0 [] [(Lf.b false)]) ∧
          ((((List.length a2) : Nat) : Int) = (((List.length a0) : Nat) : Int) →
            EV 17 [[]] [(Lf.r a0), (Lf.i a1), (Lf.r a2), (Lf.i (((List.length a2) : Nat) : Int)), (Lf.i (0 : Int))])) ∧
        (y0_0 = false →
          Q 0 [] [(Lf.b false)]))))) :
    EC Try.prog G34 [] [.r a0, .i a1, .r a2] Q := by
  obtain ⟨A, hA⟩ : ∃ A, A = arS := ⟨_, rfl⟩
  refine Inst.enter (I := I34) hA mixed F34_at sg L34 80 rfl fun CE CK Dn EV RR W hp => ?_
  have h := h  EV (V34.of W)
  cbv
  refine ?_
  · refine W.call 80 (by rfl) h (by subst hA; rfl) (by subst hA; rfl) ?_
    rintro x rs vs hp0 hq0
    rcases hq0 with ⟨rfl, y0_0, rfl, rfl, k0⟩
    · cbv
      refine ⟨imI hA fun e1 => have c1 : y0_0 = true := (by have q := (notE hA e1); subst hA; exact q); ⟨imI hA fun e2 => have c2 : (((List.length a2) : Nat) : Int) ≠ (((List.length a0) : Nat) : Int) := (by have q := (cmpE (op := .neq) hA e2); subst hA; exact q); (by rw [W.rr]; exact (by subst hA; exact ((k0.1 c1).1 c2))), imI hA fun e2 => have c2 : (((List.length a2) : Nat) : Int) = (((List.length a0) : Nat) : Int) := (by have q := (cmpE (op := .neq) hA e2); subst hA; exact q); ⟨ndI hA (by subst hA; exact vpur), (by subst hA; exact ((k0.1 c1).2 c2))⟩⟩, imI hA fun e1 => have c1 : y0_0 = false := (by have q := (notE hA e1); subst hA; exact q); (by rw [W.rr]; exact (by subst hA; exact (k0.2 c1)))⟩

-- 60: signalbox/pack.order
section
structure V60 (EV Q : Nat → Rs → List Lf → Prop) : Prop where
  p9 : ∀ {R0 : List (List AV)} {t9 : Int} {t10 : Int}, (pursS R0 = true → 
    (t10 < t9 →
      ((0 : Int) ≤ t10) ∧
      (t10 < (((List.length R0) : Nat) : Int)) ∧
      (R0[(Int.toNat t10)]? = some [(AV.int .i64 (cIS R0 (Int.toNat t10) 0))]) ∧
      (EV 9 [(List.set R0 (Int.toNat t10) [(AV.int .i64 t10)])] [(Lf.i t9), (Lf.i (IntKind.wrap .i64 (t10 + (1 : Int))))])) ∧
    (t10 ≥ t9 →
      Q 0 [R0] [])) →
    EV 9 [R0] [.i t9, .i t10]

set_option maxHeartbeats 0 in
theorem V60.of {Q : Nat → Rs → List Lf → Prop} {A : Ar} {CE : Nat → Rs → List Lf → (Nat → Rs → List Lf → Prop) → Prop} {CK : Nat → Rs → List Lf → Cont → Prop} {Dn : Nat → List Bool → List AItem → Nat → List Bool → List AV → List ABlk → Prop} {EV RR : Nat → Rs → List Lf → Prop} (W : Wk Try.prog Try.f60 I60 L60 Q A sg CE CK Dn EV RR) : V60 EV Q := by
  have hA := W.hA
  refine ⟨?_⟩
  · intro R0 t9 t10 h
    refine W.step 80 fun hp => ?_
    have h := h hp.1
    cbv
    refine ⟨imI hA fun e0 => have c0 : t10 < t9 := (by have q := (cmpE (op := .lss) hA e0); subst hA; exact q); ⟨ndI hA (And.intro (by subst hA; exact (h.1 c0).1) (And.intro (by subst hA; exact (h.1 c0).2.1) rfl)), ⟨ndI hA (And.intro rfl (by subst hA; show R0[(0 + (Int.toNat t10))]? = some [(AV.int .i64 (cIS R0 (0 + (Int.toNat t10)) 0))]; (try simp only [rappS_end, Nat.zero_add, Int.toNat_natCast]); exact (h.1 c0).2.2.1)), ⟨ndI hA (And.intro (by subst hA; show (List.length R0) = (List.length (List.set R0 (0 + (Int.toNat t10)) [(AV.int .i64 t10)])); (first | rfl | simp [rappS_end] | (simp only [rappS_end, List.length_append, List.length_set, List.length_cons, List.length_nil]; omega))) (And.intro rfl (by subst hA; show (List.length R0) = (List.length (List.set R0 (0 + (Int.toNat t10)) [(AV.int .i64 t10)])); (first | rfl | simp [rappS_end] | (simp only [rappS_end, List.length_append, List.length_set, List.length_cons, List.length_nil]; omega))))), ⟨ndI hA (by subst hA; exact (vset hp.1 rfl)), (by subst hA; show EV 9 [(List.set R0 (0 + (Int.toNat t10)) [(AV.int .i64 t10)])] [(Lf.i t9), (Lf.i (IntKind.wrap .i64 (t10 + (1 : Int))))]; (try simp only [rappS_end, Nat.zero_add, Int.toNat_natCast]); exact (h.1 c0).2.2.2)⟩⟩⟩⟩, imI hA fun e0 => have c0 : t10 ≥ t9 := (by have q := (cmpE (op := .lss) hA e0); subst hA; exact q); ⟨ndI hA (And.intro rfl (And.intro rfl rfl)), ⟨ndI hA (by subst hA; exact hp.1), (by rw [W.rr]; exact (by subst hA; exact (h.2 c0)))⟩⟩⟩

end
set_option maxHeartbeats 0 in
/-- To enter. -/
theorem E60 {Q : Nat → Rs → List Lf → Prop} {a0 : List (List AV)} (h : ∀ EV : Nat → Rs → List Lf → Prop, V60 EV Q →
    ((((List.length a0) : Nat) : Int) ≤ (140737488355328 : Int)) ∧
    (((((List.length a0) : Nat) : Int) * ((8 : Nat) : Int)) ≤ (140737488355328 : Int)) ∧
    (EV 9 [(List.replicate (List.length a0) [(AV.int .i64 (0 : Int))])] [(Lf.i (((List.length a0) : Nat) : Int)), (Lf.i (0 : Int))])) :
    EC Try.prog G60 [] [.r a0] Q := by
  obtain ⟨A, hA⟩ : ∃ A, A = arS := ⟨_, rfl⟩
  refine Inst.enter (I := I60) hA mixed F60_at sg L60 80 rfl fun CE CK Dn EV RR W hp => ?_
  have h := h  EV (V60.of W)
  cbv
  refine ⟨ndI hA (And.intro (by subst hA; exact Int.natCast_nonneg _) (And.intro (by subst hA; exact Int.le_refl _) (And.intro (by subst hA; exact h.1) (by subst hA; exact h.2.1)))), ⟨ndI hA (by subst hA; show (Int.toNat (((List.length a0) : Nat) : Int)) = (List.length (List.replicate (Int.toNat (((List.length a0) : Nat) : Int)) [(AV.int .i64 (0 : Int))])); (first | rfl | simp [rappS_end] | (simp only [rappS_end, List.length_append, List.length_set, List.length_cons, List.length_nil]; omega))), ⟨ndI hA (And.intro (by subst hA; show (Int.toNat (((List.length a0) : Nat) : Int)) = (List.length (List.replicate (Int.toNat (((List.length a0) : Nat) : Int)) [(AV.int .i64 (0 : Int))])); (first | rfl | simp [rappS_end] | (simp only [rappS_end, List.length_append, List.length_set, List.length_cons, List.length_nil]; omega))) (And.intro rfl (by subst hA; show (Int.toNat (((List.length a0) : Nat) : Int)) = (List.length (List.replicate (Int.toNat (((List.length a0) : Nat) : Int)) [(AV.int .i64 (0 : Int))])); (first | rfl | simp [rappS_end] | (simp only [rappS_end, List.length_append, List.length_set, List.length_cons, List.length_nil]; omega))))), ⟨ndI hA (by subst hA; exact (vrep rfl)), (by subst hA; show EV 9 [(List.replicate (Int.toNat (((List.length a0) : Nat) : Int)) [(AV.int .i64 (0 : Int))])] [(Lf.i (((Int.toNat (((List.length a0) : Nat) : Int)) : Nat) : Int)), (Lf.i (0 : Int))]; (try simp only [rappS_end, Nat.zero_add, Int.toNat_natCast]); exact h.2.2)⟩⟩⟩⟩

-- 118: (signalbox/pack.first).choose$1
section
structure V118 (EV Q : Nat → Rs → List Lf → Prop) : Prop where
  none : True

end
set_option maxHeartbeats 0 in
/-- To enter. -/
theorem E118 {Q : Nat → Rs → List Lf → Prop} {a0 : Int} {ab0 : Int} (h : ∀ EV : Nat → Rs → List Lf → Prop, V118 EV Q →
    Q 0 [] [(Lf.b (decide (a0 ≥ ab0))), (Lf.i ab0)]) :
    EC Try.prog G118 [] [.i a0, .i ab0] Q := by
  obtain ⟨A, hA⟩ : ∃ A, A = arS := ⟨_, rfl⟩
  refine Inst.enter (I := I118) hA mixed F118_at sg L118 80 rfl fun CE CK Dn EV RR W hp => ?_
  have h := h  EV ⟨trivial⟩
  cbv
  refine (by rw [W.rr]; exact (by subst hA; exact h))

-- 68a: slices.IndexFunc[[]int,int]
section
structure V68a (EV Q : Nat → Rs → List Lf → Prop) : Prop where
  p7 : ∀ {t0 : List (List AV)} {t7 : Int} {t8 : Int} {tb0 : Int}, (
    (t8 < t7 →
      ((0 : Int) ≤ t8) ∧
      (t0[(Int.toNat t8)]? = some [(AV.int .i64 (cIS t0 (Int.toNat t8) 0))]) ∧
      (EC Try.prog G118 [] [(Lf.i (cIS t0 (Int.toNat t8) 0)), (Lf.i tb0)] (fun x rs vs => (x = 0 ∧ ∃ (y1_0 : Bool) (y1_b0 : Int), rs = [] ∧ vs = [.b y1_0, .i y1_b0] ∧
        ((y1_0 = true →
            Q 0 [] [(Lf.i t8), (Lf.i y1_b0)]) ∧
          (y1_0 = false →
            EV 7 [] [(Lf.r t0), (Lf.i t7), (Lf.i (IntKind.wrap .i64 (t8 + (1 : Int)))), (Lf.i y1_b0)])))))) ∧
    (t8 ≥ t7 →
      Q 0 [] [(Lf.i (-1)), (Lf.i tb0)])) →
    EV 7 [] [.r t0, .i t7, .i t8, .i tb0]

set_option maxHeartbeats 0 in
theorem V68a.of {Q : Nat → Rs → List Lf → Prop} {A : Ar} {CE : Nat → Rs → List Lf → (Nat → Rs → List Lf → Prop) → Prop} {CK : Nat → Rs → List Lf → Cont → Prop} {Dn : Nat → List Bool → List AItem → Nat → List Bool → List AV → List ABlk → Prop} {EV RR : Nat → Rs → List Lf → Prop} (W : Wk Try.prog Try.f68 I68a L68a Q A sg CE CK Dn EV RR) : V68a EV Q := by
  have hA := W.hA
  refine ⟨?_⟩
  · intro t0 t7 t8 tb0 h
    refine W.step 80 fun hp => ?_
    cbv
    refine ⟨imI hA fun e0 => have c0 : t8 < t7 := (by have q := (cmpE (op := .lss) hA e0); subst hA; exact q); ⟨ndI hA (And.intro (by subst hA; exact (h.1 c0).1) (by subst hA; exact (h.1 c0).2.1)), ?_⟩, imI hA fun e0 => have c0 : t8 ≥ t7 := (by have q := (cmpE (op := .lss) hA e0); subst hA; exact q); (by rw [W.rr]; exact (by subst hA; exact (h.2 c0)))⟩
    · refine W.call 80 (by rfl) (h.1 c0).2.2 (by subst hA; rfl) (by subst hA; rfl) ?_
      rintro x rs vs hp1 hq1
      rcases hq1 with ⟨rfl, y1_0, y1_b0, rfl, rfl, k1⟩
      · cbv
        refine ⟨imI hA fun e2 => have c2 : y1_0 = true := (by have q := e2; subst hA; exact q); (by rw [W.rr]; exact (by subst hA; exact (k1.1 c2))), imI hA fun e2 => have c2 : y1_0 = false := (by have q := e2; subst hA; exact q); (by subst hA; exact (k1.2 c2))⟩

end
set_option maxHeartbeats 0 in
/-- To enter. -/
theorem E68a {Q : Nat → Rs → List Lf → Prop} {a0 : List (List AV)} {ab0 : Int} (h : ∀ EV : Nat → Rs → List Lf → Prop, V68a EV Q →
    EV 7 [] [(Lf.r a0), (Lf.i (((List.length a0) : Nat) : Int)), (Lf.i (0 : Int)), (Lf.i ab0)]) :
    EC Try.prog G68a [] [.r a0, .i ab0] Q := by
  obtain ⟨A, hA⟩ : ∃ A, A = arS := ⟨_, rfl⟩
  refine Inst.enter (I := I68a) hA mixed F68_at sg L68a 80 rfl fun CE CK Dn EV RR W hp => ?_
  have h := h  EV (V68a.of W)
  cbv
  refine (by subst hA; exact h)

-- 117: (signalbox/pack.first).choose
section
structure V117 (EV Q : Nat → Rs → List Lf → Prop) : Prop where
  none : True

end
set_option maxHeartbeats 0 in
/-- To enter. -/
theorem E117 {Q : Nat → Rs → List Lf → Prop} {a1 : List (List AV)} {a2 : Int} (h : ∀ EV : Nat → Rs → List Lf → Prop, V117 EV Q →
    EC Try.prog G68a [] [(Lf.r a1), (Lf.i a2)] (fun x rs vs => (x = 0 ∧ ∃ (y0_0 : Int) (y0_b0 : Int), rs = [] ∧ vs = [.i y0_0, .i y0_b0] ∧
      (Q 0 [] [(Lf.i y0_0)])))) :
    EC Try.prog G117 [] [.r a1, .i a2] Q := by
  obtain ⟨A, hA⟩ : ∃ A, A = arS := ⟨_, rfl⟩
  refine Inst.enter (I := I117) hA mixed F117_at sg L117 80 rfl fun CE CK Dn EV RR W hp => ?_
  have h := h  EV ⟨trivial⟩
  cbv
  refine ?_
  · refine W.call 80 (by rfl) h (by subst hA; rfl) (by subst hA; rfl) ?_
    rintro x rs vs hp0 hq0
    rcases hq0 with ⟨rfl, y0_0, y0_b0, rfl, rfl, k0⟩
    · cbv
      refine (by rw [W.rr]; exact (by subst hA; exact k0))

-- 68b: slices.IndexFunc[[]int,int]
section
structure V68b (EV Q : Nat → Rs → List Lf → Prop) : Prop where
  p7 : ∀ {R0 : List (List AV)} {t7 : Int} {t8 : Int} {tb1 : Int}, (pursS R0 = true → 
    (t8 < t7 →
      ((0 : Int) ≤ t8) ∧
      (t8 < (((List.length R0) : Nat) : Int)) ∧
      (R0[(Int.toNat t8)]? = some [(AV.int .i64 (cIS R0 (Int.toNat t8) 0))]) ∧
      (EC Try.prog G118 [] [(Lf.i (cIS R0 (Int.toNat t8) 0)), (Lf.i tb1)] (fun x rs vs => (x = 0 ∧ ∃ (y1_0 : Bool) (y1_b0 : Int), rs = [] ∧ vs = [.b y1_0, .i y1_b0] ∧
        ((y1_0 = true →
            Q 0 [R0] [(Lf.i t8), (Lf.i y1_b0)]) ∧
          (y1_0 = false →
            EV 7 [R0] [(Lf.i t7), (Lf.i (IntKind.wrap .i64 (t8 + (1 : Int)))), (Lf.i y1_b0)])))))) ∧
    (t8 ≥ t7 →
      Q 0 [R0] [(Lf.i (-1)), (Lf.i tb1)])) →
    EV 7 [R0] [.i t7, .i t8, .i tb1]

set_option maxHeartbeats 0 in
theorem V68b.of {Q : Nat → Rs → List Lf → Prop} {A : Ar} {CE : Nat → Rs → List Lf → (Nat → Rs → List Lf → Prop) → Prop} {CK : Nat → Rs → List Lf → Cont → Prop} {Dn : Nat → List Bool → List AItem → Nat → List Bool → List AV → List ABlk → Prop} {EV RR : Nat → Rs → List Lf → Prop} (W : Wk Try.prog Try.f68 I68b L68b Q A sg CE CK Dn EV RR) : V68b EV Q := by
  have hA := W.hA
  refine ⟨?_⟩
  · intro R0 t7 t8 tb1 h
    refine W.step 80 fun hp => ?_
    have h := h hp.1
    cbv
    refine ⟨imI hA fun e0 => have c0 : t8 < t7 := (by have q := (cmpE (op := .lss) hA e0); subst hA; exact q); ⟨ndI hA (And.intro (by subst hA; exact (h.1 c0).1) (And.intro (by subst hA; exact (h.1 c0).2.1) rfl)), ⟨ndI hA (And.intro rfl (by subst hA; show R0[(0 + (Int.toNat t8))]? = some [(AV.int .i64 (cIS R0 (0 + (Int.toNat t8)) 0))]; (try simp only [rappS_end, Nat.zero_add, Int.toNat_natCast]); exact (h.1 c0).2.2.1)), ?_⟩⟩, imI hA fun e0 => have c0 : t8 ≥ t7 := (by have q := (cmpE (op := .lss) hA e0); subst hA; exact q); ⟨ndI hA (by subst hA; exact hp.1), (by rw [W.rr]; exact (by subst hA; exact (h.2 c0)))⟩⟩
    · refine W.call 80 (by rfl) (h.1 c0).2.2.2 (by subst hA; show [] = []; (try simp only [rappS_end, Nat.zero_add, Int.toNat_natCast])) (by subst hA; show [(Lf.i (cIS R0 (0 + (Int.toNat t8)) 0)), (Lf.i tb1)] = [(Lf.i (cIS R0 (Int.toNat t8) 0)), (Lf.i tb1)]; (try simp only [rappS_end, Nat.zero_add, Int.toNat_natCast])) ?_
      rintro x rs vs hp1 hq1
      rcases hq1 with ⟨rfl, y1_0, y1_b0, rfl, rfl, k1⟩
      · cbv
        refine ⟨imI hA fun e2 => have c2 : y1_0 = true := (by have q := e2; subst hA; exact q); ⟨ndI hA (by subst hA; exact hp.1), (by rw [W.rr]; exact (by subst hA; exact (k1.1 c2)))⟩, imI hA fun e2 => have c2 : y1_0 = false := (by have q := e2; subst hA; exact q); ⟨ndI hA (And.intro rfl (And.intro rfl rfl)), ⟨ndI hA (by subst hA; exact hp.1), (by subst hA; exact (k1.2 c2))⟩⟩⟩

end
set_option maxHeartbeats 0 in
/-- To enter. -/
theorem E68b {Q : Nat → Rs → List Lf → Prop} {R0 : List (List AV)} {ab1 : Int} (h : pursS R0 = true → ∀ EV : Nat → Rs → List Lf → Prop, V68b EV Q →
    EV 7 [R0] [(Lf.i (((List.length R0) : Nat) : Int)), (Lf.i (0 : Int)), (Lf.i ab1)]) :
    EC Try.prog G68b [R0] [.i ab1] Q := by
  obtain ⟨A, hA⟩ : ∃ A, A = arS := ⟨_, rfl⟩
  refine Inst.enter (I := I68b) hA mixed F68_at sg L68b 80 rfl fun CE CK Dn EV RR W hp => ?_
  have h := h hp.1 EV (V68b.of W)
  cbv
  refine ⟨ndI hA rfl, ⟨ndI hA (And.intro rfl (And.intro rfl rfl)), ⟨ndI hA (by subst hA; exact hp.1), (by subst hA; exact h)⟩⟩⟩

-- 117a: (signalbox/pack.first).choose
section
structure V117a (EV Q : Nat → Rs → List Lf → Prop) : Prop where
  none : True

end
set_option maxHeartbeats 0 in
/-- To enter. -/
theorem E117a {Q : Nat → Rs → List Lf → Prop} {R0 : List (List AV)} {a2 : Int} (h : pursS R0 = true → ∀ EV : Nat → Rs → List Lf → Prop, V117a EV Q →
    EC Try.prog G68b [R0] [(Lf.i a2)] (fun x rs vs => (x = 0 ∧ ∃ (Y0_0 : List (List AV)) (y0_0 : Int) (y0_b1 : Int), rs = [Y0_0] ∧ vs = [.i y0_0, .i y0_b1] ∧
      (Q 0 [Y0_0] [(Lf.i y0_0)])))) :
    EC Try.prog G117a [R0] [.i a2] Q := by
  obtain ⟨A, hA⟩ : ∃ A, A = arS := ⟨_, rfl⟩
  refine Inst.enter (I := I117a) hA mixed F117_at sg L117a 80 rfl fun CE CK Dn EV RR W hp => ?_
  have h := h hp.1 EV ⟨trivial⟩
  cbv
  refine ⟨ndI hA (And.intro rfl (And.intro rfl rfl)), ⟨ndI hA (by subst hA; exact hp.1), ?_⟩⟩
  · refine W.call 80 (by rfl) h (by subst hA; rfl) (by subst hA; rfl) ?_
    rintro x rs vs hp0 hq0
    rcases hq0 with ⟨rfl, Y0_0, y0_0, y0_b1, rfl, rfl, k0⟩
    · cbv
      refine ⟨ndI hA (by subst hA; exact hp0.1), (by rw [W.rr]; exact (by subst hA; exact k0))⟩

-- 59: signalbox/pack.lay DRAWN
section
structure V59 (EV Q : Nat → Rs → List Lf → Prop) : Prop where
  p19 : ∀ {R0 : List (List AV)} {R1 : List (List AV)} {t0 : List (List AV)} {t1 : Int} {t22 : List (List AV)} {t23 : Int} {t24 : Int}, (pursS R0 = true → pursS R1 = true → 
    (t24 < t23 →
      ((0 : Int) ≤ t24) ∧
      (t22[(Int.toNat t24)]? = some [(AV.int .i64 (cIS t22 (Int.toNat t24) 0))]) ∧
      ((0 : Int) ≤ (cIS t22 (Int.toNat t24) 0)) ∧
      (t0[(Int.toNat (cIS t22 (Int.toNat t24) 0))]? = some [(AV.int .i64 (cIS t0 (Int.toNat (cIS t22 (Int.toNat t24) 0)) 0))]) ∧
      (EC Try.prog G117a [R1] [(Lf.i (cIS t0 (Int.toNat (cIS t22 (Int.toNat t24) 0)) 0))] (fun x rs vs => (x = 0 ∧ ∃ (Y1_0 : List (List AV)) (y1_0 : Int), rs = [Y1_0] ∧ vs = [.i y1_0] ∧
        ((y1_0 < (0 : Int) →
            ((List.length R1) = (List.length Y1_0)) ∧
            ((List.length R1) ≤ (List.length Y1_0)) ∧
            (((List.length R1) + 1) ≤ 140737488355328) ∧
            ((((List.length R1) + 1) * 8) ≤ 140737488355328) ∧
            ((0 : Int) ≤ (cIS t22 (Int.toNat t24) 0)) ∧
            (t0[(Int.toNat (cIS t22 (Int.toNat t24) 0))]? = some [(AV.int .i64 (cIS t0 (Int.toNat (cIS t22 (Int.toNat t24) 0)) 0))]) ∧
            ((0 : Int) ≤ (IntKind.wrap .i64 (((((List.length R1) + 1) : Nat) : Int) - (1 : Int)))) ∧
            ((IntKind.wrap .i64 (((((List.length R1) + 1) : Nat) : Int) - (1 : Int))) < ((((List.length R1) + 1) : Nat) : Int)) ∧
            ((rappS Y1_0 (List.length R1) [[(AV.int .i64 t1)]])[(Int.toNat (IntKind.wrap .i64 (((((List.length R1) + 1) : Nat) : Int) - (1 : Int))))]? = some [(AV.int .i64 (cIS (rappS Y1_0 (List.length R1) [[(AV.int .i64 t1)]]) (Int.toNat (IntKind.wrap .i64 (((((List.length R1) + 1) : Nat) : Int) - (1 : Int)))) 0))]) ∧
            ((cIS t22 (Int.toNat t24) 0) < (((List.length R0) : Nat) : Int)) ∧
            (R0[(Int.toNat (cIS t22 (Int.toNat t24) 0))]? = some [(AV.int .i64 (cIS R0 (Int.toNat (cIS t22 (Int.toNat t24) 0)) 0))]) ∧
            (((List.length R1) + 1) = (List.length (List.set (rappS Y1_0 (List.length R1) [[(AV.int .i64 t1)]]) (Int.toNat (IntKind.wrap .i64 (((((List.length R1) + 1) : Nat) : Int) - (1 : Int)))) [(AV.int .i64 (IntKind.wrap .i64 ((cIS (rappS Y1_0 (List.length R1) [[(AV.int .i64 t1)]]) (Int.toNat (IntKind.wrap .i64 (((((List.length R1) + 1) : Nat) : Int) - (1 : Int)))) 0) - (cIS t0 (Int.toNat (cIS t22 (Int.toNat t24) 0)) 0))))]))) ∧
            (EV 19 [(List.set R0 (Int.toNat (cIS t22 (Int.toNat t24) 0)) [(AV.int .i64 (IntKind.wrap .i64 (((((List.length R1) + 1) : Nat) : Int) - (1 : Int))))]), (List.set (rappS Y1_0 (List.length R1) [[(AV.int .i64 t1)]]) (Int.toNat (IntKind.wrap .i64 (((((List.length R1) + 1) : Nat) : Int) - (1 : Int)))) [(AV.int .i64 (IntKind.wrap .i64 ((cIS (rappS Y1_0 (List.length R1) [[(AV.int .i64 t1)]]) (Int.toNat (IntKind.wrap .i64 (((((List.length R1) + 1) : Nat) : Int) - (1 : Int)))) 0) - (cIS t0 (Int.toNat (cIS t22 (Int.toNat t24) 0)) 0))))])] [(Lf.r t0), (Lf.i t1), (Lf.r t22), (Lf.i t23), (Lf.i (IntKind.wrap .i64 (t24 + (1 : Int))))])) ∧
          (y1_0 ≥ (0 : Int) →
            ((0 : Int) ≤ (cIS t22 (Int.toNat t24) 0)) ∧
            (t0[(Int.toNat (cIS t22 (Int.toNat t24) 0))]? = some [(AV.int .i64 (cIS t0 (Int.toNat (cIS t22 (Int.toNat t24) 0)) 0))]) ∧
            ((0 : Int) ≤ y1_0) ∧
            (y1_0 < (((List.length R1) : Nat) : Int)) ∧
            ((List.length R1) = (List.length Y1_0)) ∧
            (Y1_0[(Int.toNat y1_0)]? = some [(AV.int .i64 (cIS Y1_0 (Int.toNat y1_0) 0))]) ∧
            ((cIS t22 (Int.toNat t24) 0) < (((List.length R0) : Nat) : Int)) ∧
            (R0[(Int.toNat (cIS t22 (Int.toNat t24) 0))]? = some [(AV.int .i64 (cIS R0 (Int.toNat (cIS t22 (Int.toNat t24) 0)) 0))]) ∧
            ((List.length R1) = (List.length (List.set Y1_0 (Int.toNat y1_0) [(AV.int .i64 (IntKind.wrap .i64 ((cIS Y1_0 (Int.toNat y1_0) 0) - (cIS t0 (Int.toNat (cIS t22 (Int.toNat t24) 0)) 0))))]))) ∧
            (EV 19 [(List.set R0 (Int.toNat (cIS t22 (Int.toNat t24) 0)) [(AV.int .i64 y1_0)]), (List.set Y1_0 (Int.toNat y1_0) [(AV.int .i64 (IntKind.wrap .i64 ((cIS Y1_0 (Int.toNat y1_0) 0) - (cIS t0 (Int.toNat (cIS t22 (Int.toNat t24) 0)) 0))))])] [(Lf.r t0), (Lf.i t1), (Lf.r t22), (Lf.i t23), (Lf.i (IntKind.wrap .i64 (t24 + (1 : Int))))]))))))) ∧
    (t24 ≥ t23 →
      Q 0 [R0] [(Lf.i (((List.length R1) : Nat) : Int))])) →
    EV 19 [R0, R1] [.r t0, .i t1, .r t22, .i t23, .i t24]

set_option maxHeartbeats 0 in
theorem V59.of {Q : Nat → Rs → List Lf → Prop} {A : Ar} {CE : Nat → Rs → List Lf → (Nat → Rs → List Lf → Prop) → Prop} {CK : Nat → Rs → List Lf → Cont → Prop} {Dn : Nat → List Bool → List AItem → Nat → List Bool → List AV → List ABlk → Prop} {EV RR : Nat → Rs → List Lf → Prop} (W : Wk Try.prog Try.f59 I59 L59 Q A sg CE CK Dn EV RR) : V59 EV Q := by
  have hA := W.hA
  refine ⟨?_⟩
  · intro R0 R1 t0 t1 t22 t23 t24 h
    refine W.step 80 fun hp => ?_
    have h := h hp.1 hp.2.1
    cbv
    refine ⟨imI hA fun e0 => have c0 : t24 < t23 := (by have q := (cmpE (op := .lss) hA e0); subst hA; exact q); ⟨ndI hA (And.intro (by subst hA; exact (h.1 c0).1) (by subst hA; exact (h.1 c0).2.1)), ⟨ndI hA (And.intro (by subst hA; exact (h.1 c0).2.2.1) (by subst hA; exact (h.1 c0).2.2.2.1)), ⟨⟨ndI hA (And.intro rfl (And.intro rfl rfl)), ⟨ndI hA (by subst hA; exact hp.2.1), ?_⟩⟩, trivial⟩⟩⟩, imI hA fun e0 => have c0 : t24 ≥ t23 := (by have q := (cmpE (op := .lss) hA e0); subst hA; exact q); ⟨ndI hA rfl, ⟨ndI hA (And.intro rfl (And.intro rfl rfl)), ⟨ndI hA (by subst hA; exact hp.1), (by rw [W.rr]; exact (by subst hA; exact (h.2 c0)))⟩⟩⟩⟩
    · refine W.callD (by rfl) (h.1 c0).2.2.2.2 (by subst hA; rfl) (by subst hA; rfl) ?_
      rintro x rs vs hp1 hq1
      rcases hq1 with ⟨rfl, Y1_0, y1_0, rfl, rfl, k1⟩
      · cbv
        refine ?_
        · refine W.draw 80 (by rfl) ?_
          cbv
          refine ⟨imI hA fun e2 => have c2 : y1_0 < (0 : Int) := (by have q := (cmpE (op := .lss) hA e2); subst hA; exact q); ⟨ndI hA (And.intro (by subst hA; exact (k1.1 c2).1) (And.intro (by subst hA; exact (k1.1 c2).2.1) (And.intro (by subst hA; exact (k1.1 c2).2.2.1) (by subst hA; exact (k1.1 c2).2.2.2.1)))), ⟨ndI hA rfl, ⟨ndI hA (And.intro (by subst hA; exact (k1.1 c2).2.2.2.2.1) (by subst hA; exact (k1.1 c2).2.2.2.2.2.1)), ⟨⟨ndI hA (And.intro (by subst hA; exact (k1.1 c2).2.2.2.2.2.2.1) (And.intro (by subst hA; exact (k1.1 c2).2.2.2.2.2.2.2.1) rfl)), ⟨⟨ndI hA (And.intro rfl (by subst hA; show (rappS Y1_0 (List.length R1) [[(AV.int .i64 t1)]])[(0 + (Int.toNat (IntKind.wrap .i64 (((((List.length R1) + 1) : Nat) : Int) - (1 : Int)))))]? = some [(AV.int .i64 (cIS (rappS Y1_0 (List.length R1) [[(AV.int .i64 t1)]]) (0 + (Int.toNat (IntKind.wrap .i64 (((((List.length R1) + 1) : Nat) : Int) - (1 : Int))))) 0))]; (try simp only [rappS_end, Nat.zero_add, Int.toNat_natCast]); exact (k1.1 c2).2.2.2.2.2.2.2.2.1)), ⟨⟨ndI hA (And.intro (by subst hA; exact (k1.1 c2).2.2.2.2.2.2.1) (And.intro (by subst hA; exact (k1.1 c2).2.2.2.2.2.2.2.1) rfl)), ⟨⟨ndI hA (And.intro rfl (by subst hA; show (rappS Y1_0 (List.length R1) [[(AV.int .i64 t1)]])[(0 + (Int.toNat (IntKind.wrap .i64 (((((List.length R1) + 1) : Nat) : Int) - (1 : Int)))))]? = some [(AV.int .i64 (cIS (rappS Y1_0 (List.length R1) [[(AV.int .i64 t1)]]) (0 + (Int.toNat (IntKind.wrap .i64 (((((List.length R1) + 1) : Nat) : Int) - (1 : Int))))) 0))]; (try simp only [rappS_end, Nat.zero_add, Int.toNat_natCast]); exact (k1.1 c2).2.2.2.2.2.2.2.2.1)), ⟨ndI hA (And.intro (by subst hA; exact (k1.1 c2).2.2.2.2.1) (And.intro (by subst hA; exact (k1.1 c2).2.2.2.2.2.2.2.2.2.1) rfl)), ⟨ndI hA (And.intro rfl (by subst hA; show R0[(0 + (Int.toNat (cIS t22 (Int.toNat t24) 0)))]? = some [(AV.int .i64 (cIS R0 (0 + (Int.toNat (cIS t22 (Int.toNat t24) 0))) 0))]; (try simp only [rappS_end, Nat.zero_add, Int.toNat_natCast]); exact (k1.1 c2).2.2.2.2.2.2.2.2.2.2.1)), ⟨ndI hA (And.intro (by subst hA; show (List.length R0) = (List.length (List.set R0 (0 + (Int.toNat (cIS t22 (Int.toNat t24) 0))) [(AV.int .i64 (IntKind.wrap .i64 (((((List.length R1) + 1) : Nat) : Int) - (1 : Int))))])); (first | rfl | simp [rappS_end] | (simp only [rappS_end, List.length_append, List.length_set, List.length_cons, List.length_nil]; omega))) (And.intro rfl (by subst hA; show (List.length R0) = (List.length (List.set R0 (0 + (Int.toNat (cIS t22 (Int.toNat t24) 0))) [(AV.int .i64 (IntKind.wrap .i64 (((((List.length R1) + 1) : Nat) : Int) - (1 : Int))))])); (first | rfl | simp [rappS_end] | (simp only [rappS_end, List.length_append, List.length_set, List.length_cons, List.length_nil]; omega))))), ⟨ndI hA (And.intro (by subst hA; show (List.length (rappS Y1_0 (List.length R1) [[(AV.int .i64 t1)]])) = (List.length (List.set (rappS Y1_0 (List.length R1) [[(AV.int .i64 t1)]]) (0 + (Int.toNat (IntKind.wrap .i64 (((((List.length R1) + 1) : Nat) : Int) - (1 : Int))))) [(AV.int .i64 (IntKind.wrap .i64 ((cIS (rappS Y1_0 (List.length R1) [[(AV.int .i64 t1)]]) (0 + (Int.toNat (IntKind.wrap .i64 (((((List.length R1) + 1) : Nat) : Int) - (1 : Int))))) 0) - (cIS t0 (Int.toNat (cIS t22 (Int.toNat t24) 0)) 0))))])); (first | rfl | simp [rappS_end] | (simp only [rappS_end, List.length_append, List.length_set, List.length_cons, List.length_nil]; omega))) (And.intro rfl (by subst hA; show ((List.length R1) + 1) = (List.length (List.set (rappS Y1_0 (List.length R1) [[(AV.int .i64 t1)]]) (0 + (Int.toNat (IntKind.wrap .i64 (((((List.length R1) + 1) : Nat) : Int) - (1 : Int))))) [(AV.int .i64 (IntKind.wrap .i64 ((cIS (rappS Y1_0 (List.length R1) [[(AV.int .i64 t1)]]) (0 + (Int.toNat (IntKind.wrap .i64 (((((List.length R1) + 1) : Nat) : Int) - (1 : Int))))) 0) - (cIS t0 (Int.toNat (cIS t22 (Int.toNat t24) 0)) 0))))])); (try simp only [rappS_end, Nat.zero_add, Int.toNat_natCast]); exact (k1.1 c2).2.2.2.2.2.2.2.2.2.2.2.1))), ⟨ndI hA (by subst hA; exact (vset hp.1 rfl)), ⟨ndI hA (by subst hA; exact (vset (vapp hp1.1 vpur) rfl)), (by subst hA; show EV 19 [(List.set R0 (0 + (Int.toNat (cIS t22 (Int.toNat t24) 0))) [(AV.int .i64 (IntKind.wrap .i64 (((((List.length R1) + 1) : Nat) : Int) - (1 : Int))))]), (List.set (rappS Y1_0 (List.length R1) [[(AV.int .i64 t1)]]) (0 + (Int.toNat (IntKind.wrap .i64 (((((List.length R1) + 1) : Nat) : Int) - (1 : Int))))) [(AV.int .i64 (IntKind.wrap .i64 ((cIS (rappS Y1_0 (List.length R1) [[(AV.int .i64 t1)]]) (0 + (Int.toNat (IntKind.wrap .i64 (((((List.length R1) + 1) : Nat) : Int) - (1 : Int))))) 0) - (cIS t0 (Int.toNat (cIS t22 (Int.toNat t24) 0)) 0))))])] [(Lf.r t0), (Lf.i t1), (Lf.r t22), (Lf.i t23), (Lf.i (IntKind.wrap .i64 (t24 + (1 : Int))))]; (try simp only [rappS_end, Nat.zero_add, Int.toNat_natCast]); exact (k1.1 c2).2.2.2.2.2.2.2.2.2.2.2.2)⟩⟩⟩⟩⟩⟩⟩, trivial⟩⟩, trivial⟩⟩, trivial⟩⟩, trivial⟩⟩⟩⟩, imI hA fun e2 => have c2 : y1_0 ≥ (0 : Int) := (by have q := (cmpE (op := .lss) hA e2); subst hA; exact q); ⟨ndI hA (And.intro (by subst hA; exact (k1.2 c2).1) (by subst hA; exact (k1.2 c2).2.1)), ⟨⟨ndI hA (And.intro (by subst hA; exact (k1.2 c2).2.2.1) (And.intro (by subst hA; exact (k1.2 c2).2.2.2.1) (by subst hA; exact (k1.2 c2).2.2.2.2.1))), ⟨⟨ndI hA (And.intro (by subst hA; exact (k1.2 c2).2.2.2.2.1) (by subst hA; show Y1_0[(0 + (Int.toNat y1_0))]? = some [(AV.int .i64 (cIS Y1_0 (0 + (Int.toNat y1_0)) 0))]; (try simp only [rappS_end, Nat.zero_add, Int.toNat_natCast]); exact (k1.2 c2).2.2.2.2.2.1)), ⟨⟨ndI hA (And.intro (by subst hA; exact (k1.2 c2).2.2.1) (And.intro (by subst hA; exact (k1.2 c2).2.2.2.1) (by subst hA; exact (k1.2 c2).2.2.2.2.1))), ⟨⟨ndI hA (And.intro (by subst hA; exact (k1.2 c2).2.2.2.2.1) (by subst hA; show Y1_0[(0 + (Int.toNat y1_0))]? = some [(AV.int .i64 (cIS Y1_0 (0 + (Int.toNat y1_0)) 0))]; (try simp only [rappS_end, Nat.zero_add, Int.toNat_natCast]); exact (k1.2 c2).2.2.2.2.2.1)), ⟨ndI hA (And.intro (by subst hA; exact (k1.2 c2).1) (And.intro (by subst hA; exact (k1.2 c2).2.2.2.2.2.2.1) rfl)), ⟨ndI hA (And.intro rfl (by subst hA; show R0[(0 + (Int.toNat (cIS t22 (Int.toNat t24) 0)))]? = some [(AV.int .i64 (cIS R0 (0 + (Int.toNat (cIS t22 (Int.toNat t24) 0))) 0))]; (try simp only [rappS_end, Nat.zero_add, Int.toNat_natCast]); exact (k1.2 c2).2.2.2.2.2.2.2.1)), ⟨ndI hA (And.intro (by subst hA; show (List.length R0) = (List.length (List.set R0 (0 + (Int.toNat (cIS t22 (Int.toNat t24) 0))) [(AV.int .i64 y1_0)])); (first | rfl | simp [rappS_end] | (simp only [rappS_end, List.length_append, List.length_set, List.length_cons, List.length_nil]; omega))) (And.intro rfl (by subst hA; show (List.length R0) = (List.length (List.set R0 (0 + (Int.toNat (cIS t22 (Int.toNat t24) 0))) [(AV.int .i64 y1_0)])); (first | rfl | simp [rappS_end] | (simp only [rappS_end, List.length_append, List.length_set, List.length_cons, List.length_nil]; omega))))), ⟨ndI hA (And.intro (by subst hA; show (List.length R1) = (List.length (List.set Y1_0 (0 + (Int.toNat y1_0)) [(AV.int .i64 (IntKind.wrap .i64 ((cIS Y1_0 (0 + (Int.toNat y1_0)) 0) - (cIS t0 (Int.toNat (cIS t22 (Int.toNat t24) 0)) 0))))])); (try simp only [rappS_end, Nat.zero_add, Int.toNat_natCast]); exact (k1.2 c2).2.2.2.2.2.2.2.2.1) (And.intro rfl (by subst hA; show (List.length R1) = (List.length (List.set Y1_0 (0 + (Int.toNat y1_0)) [(AV.int .i64 (IntKind.wrap .i64 ((cIS Y1_0 (0 + (Int.toNat y1_0)) 0) - (cIS t0 (Int.toNat (cIS t22 (Int.toNat t24) 0)) 0))))])); (try simp only [rappS_end, Nat.zero_add, Int.toNat_natCast]); exact (k1.2 c2).2.2.2.2.2.2.2.2.1))), ⟨ndI hA (by subst hA; exact (vset hp.1 rfl)), ⟨ndI hA (by subst hA; exact (vset hp1.1 rfl)), (by subst hA; show EV 19 [(List.set R0 (0 + (Int.toNat (cIS t22 (Int.toNat t24) 0))) [(AV.int .i64 y1_0)]), (List.set Y1_0 (0 + (Int.toNat y1_0)) [(AV.int .i64 (IntKind.wrap .i64 ((cIS Y1_0 (0 + (Int.toNat y1_0)) 0) - (cIS t0 (Int.toNat (cIS t22 (Int.toNat t24) 0)) 0))))])] [(Lf.r t0), (Lf.i t1), (Lf.r t22), (Lf.i t23), (Lf.i (IntKind.wrap .i64 (t24 + (1 : Int))))]; (try simp only [rappS_end, Nat.zero_add, Int.toNat_natCast]); exact (k1.2 c2).2.2.2.2.2.2.2.2.2)⟩⟩⟩⟩⟩⟩⟩, trivial⟩⟩, trivial⟩⟩, trivial⟩⟩, trivial⟩⟩⟩

end
set_option maxHeartbeats 0 in
/-- To enter. -/
theorem E59 {Q : Nat → Rs → List Lf → Prop} {a0 : List (List AV)} {a1 : Int} {a2 : List (List AV)} (h : ∀ EV : Nat → Rs → List Lf → Prop, V59 EV Q →
    EC Try.prog G58 [] [(Lf.r a0), (Lf.i a1)] (fun x rs vs => (x = 0 ∧ ∃ (y0_0 : Bool), rs = [] ∧ vs = [.b y0_0] ∧
      ((y0_0 = false →
          Q 0 [[]] [(Lf.i (0 : Int))]) ∧
        (y0_0 = true →
          ((((List.length a0) : Nat) : Int) ≤ (140737488355328 : Int)) ∧
          (((((List.length a0) : Nat) : Int) * ((8 : Nat) : Int)) ≤ (140737488355328 : Int)) ∧
          (EV 19 [(List.replicate (List.length a0) [(AV.int .i64 (0 : Int))]), []] [(Lf.r a0), (Lf.i a1), (Lf.r a2), (Lf.i (((List.length a2) : Nat) : Int)), (Lf.i (0 : Int))])))))) :
    EC Try.prog G59 [] [.r a0, .i a1, .r a2] Q := by
  obtain ⟨A, hA⟩ : ∃ A, A = arS := ⟨_, rfl⟩
  refine Inst.enter (I := I59) hA mixed F59_at sg L59 80 rfl fun CE CK Dn EV RR W hp => ?_
  have h := h  EV (V59.of W)
  cbv
  refine ?_
  · refine W.call 80 (by rfl) h (by subst hA; rfl) (by subst hA; rfl) ?_
    rintro x rs vs hp0 hq0
    rcases hq0 with ⟨rfl, y0_0, rfl, rfl, k0⟩
    · cbv
      refine ⟨imI hA fun e1 => have c1 : y0_0 = false := (by have q := (notE hA e1); subst hA; exact q); ⟨ndI hA (And.intro (by subst hA; show 0 = 0; (first | rfl | simp [rappS_end] | (simp only [rappS_end, List.length_append, List.length_set, List.length_cons, List.length_nil]; omega))) (And.intro rfl (by subst hA; show 0 = 0; (first | rfl | simp [rappS_end] | (simp only [rappS_end, List.length_append, List.length_set, List.length_cons, List.length_nil]; omega))))), ⟨ndI hA (by subst hA; exact vpur), (by rw [W.rr]; exact (by subst hA; exact (k0.1 c1)))⟩⟩, imI hA fun e1 => have c1 : y0_0 = true := (by have q := (notE hA e1); subst hA; exact q); ⟨ndI hA (And.intro (by subst hA; exact Int.natCast_nonneg _) (And.intro (by subst hA; exact Int.le_refl _) (And.intro (by subst hA; exact (k0.2 c1).1) (by subst hA; exact (k0.2 c1).2.1)))), ⟨ndI hA (And.intro (by subst hA; show (Int.toNat (((List.length a0) : Nat) : Int)) = (List.length (List.replicate (Int.toNat (((List.length a0) : Nat) : Int)) [(AV.int .i64 (0 : Int))])); (first | rfl | simp [rappS_end] | (simp only [rappS_end, List.length_append, List.length_set, List.length_cons, List.length_nil]; omega))) (And.intro rfl (by subst hA; show (Int.toNat (((List.length a0) : Nat) : Int)) = (List.length (List.replicate (Int.toNat (((List.length a0) : Nat) : Int)) [(AV.int .i64 (0 : Int))])); (first | rfl | simp [rappS_end] | (simp only [rappS_end, List.length_append, List.length_set, List.length_cons, List.length_nil]; omega))))), ⟨ndI hA (And.intro (by subst hA; show 0 = 0; (first | rfl | simp [rappS_end] | (simp only [rappS_end, List.length_append, List.length_set, List.length_cons, List.length_nil]; omega))) (And.intro rfl (by subst hA; show 0 = 0; (first | rfl | simp [rappS_end] | (simp only [rappS_end, List.length_append, List.length_set, List.length_cons, List.length_nil]; omega))))), ⟨ndI hA (by subst hA; exact (vrep rfl)), ⟨ndI hA (by subst hA; exact vpur), (by subst hA; show EV 19 [(List.replicate (Int.toNat (((List.length a0) : Nat) : Int)) [(AV.int .i64 (0 : Int))]), []] [(Lf.r a0), (Lf.i a1), (Lf.r a2), (Lf.i (((List.length a2) : Nat) : Int)), (Lf.i (0 : Int))]; (try simp only [rappS_end, Nat.zero_add, Int.toNat_natCast]); exact (k0.2 c1).2.2)⟩⟩⟩⟩⟩⟩

-- 35: signalbox/pack.First
section
structure V35 (EV Q : Nat → Rs → List Lf → Prop) : Prop where
  none : True

end
set_option maxHeartbeats 0 in
/-- To enter. -/
theorem E35 {Q : Nat → Rs → List Lf → Prop} {a0 : List (List AV)} {a1 : Int} (h : ∀ EV : Nat → Rs → List Lf → Prop, V35 EV Q →
    EC Try.prog G60 [] [(Lf.r a0)] (fun x rs vs => (x = 0 ∧ ∃ (Y0_0 : List (List AV)), rs = [Y0_0] ∧ vs = [] ∧
      (EC Try.prog G59 [] [(Lf.r a0), (Lf.i a1), (Lf.r (List.take (List.length Y0_0) (List.drop 0 Y0_0)))] (fun x rs vs => (x = 0 ∧ ∃ (Y1_0 : List (List AV)) (y1_1 : Int), rs = [Y1_0] ∧ vs = [.i y1_1] ∧
          (Q 0 [Y1_0] [(Lf.i y1_1)]))))))) :
    EC Try.prog G35 [] [.r a0, .i a1] Q := by
  obtain ⟨A, hA⟩ : ∃ A, A = arS := ⟨_, rfl⟩
  refine Inst.enter (I := I35) hA mixed F35_at sg L35 80 rfl fun CE CK Dn EV RR W hp => ?_
  have h := h  EV ⟨trivial⟩
  cbv
  refine ?_
  · refine W.call 80 (by rfl) h (by subst hA; rfl) (by subst hA; rfl) ?_
    rintro x rs vs hp0 hq0
    rcases hq0 with ⟨rfl, Y0_0, rfl, rfl, k0⟩
    · cbv
      refine ⟨ndI hA (And.intro (And.intro (by subst hA; exact hp0.1) trivial) (And.intro rfl trivial)), ?_⟩
      · refine W.call 80 (by rfl) k0 (by subst hA; rfl) (by subst hA; rfl) ?_
        rintro x rs vs hp1 hq1
        rcases hq1 with ⟨rfl, Y1_0, y1_1, rfl, rfl, k1⟩
        · cbv
          refine ⟨ndI hA (And.intro rfl (And.intro rfl rfl)), ⟨ndI hA (by subst hA; exact hp1.1), (by rw [W.rr]; exact (by subst hA; exact k1))⟩⟩

-- 77: cmp.isNaN[int]
section
structure V77 (EV Q : Nat → Rs → List Lf → Prop) : Prop where
  none : True

end
set_option maxHeartbeats 0 in
/-- To enter. -/
theorem E77 {Q : Nat → Rs → List Lf → Prop} {a0 : Int} (h : ∀ EV : Nat → Rs → List Lf → Prop, V77 EV Q →
    Q 0 [] [(Lf.b (a0 != a0))]) :
    EC Try.prog G77 [] [.i a0] Q := by
  obtain ⟨A, hA⟩ : ∃ A, A = arS := ⟨_, rfl⟩
  refine Inst.enter (I := I77) hA mixed F77_at sg L77 80 rfl fun CE CK Dn EV RR W hp => ?_
  have h := h  EV ⟨trivial⟩
  cbv
  refine (by rw [W.rr]; exact (by subst hA; exact h))

-- 63: cmp.Compare[int]
section
structure V63 (EV Q : Nat → Rs → List Lf → Prop) : Prop where
  none : True

end
set_option maxHeartbeats 0 in
/-- To enter. -/
theorem E63 {Q : Nat → Rs → List Lf → Prop} {a0 : Int} {a1 : Int} (h : ∀ EV : Nat → Rs → List Lf → Prop, V63 EV Q →
    EC Try.prog G77 [] [(Lf.i a0)] (fun x rs vs => (x = 0 ∧ ∃ (y0_0 : Bool), rs = [] ∧ vs = [.b y0_0] ∧
      (EC Try.prog G77 [] [(Lf.i a1)] (fun x rs vs => (x = 0 ∧ ∃ (y1_0 : Bool), rs = [] ∧ vs = [.b y1_0] ∧
          ((y0_0 = true →
              (y1_0 = true →
                Q 0 [] [(Lf.i (0 : Int))]) ∧
              (y1_0 = false →
                Q 0 [] [(Lf.i (-1))])) ∧
            (y0_0 = false →
              (y1_0 = true →
                Q 0 [] [(Lf.i (1 : Int))]) ∧
              (y1_0 = false →
                (a0 < a1 →
                  Q 0 [] [(Lf.i (-1))]) ∧
                (a0 ≥ a1 →
                  (a0 > a1 →
                    Q 0 [] [(Lf.i (1 : Int))]) ∧
                  (a0 ≤ a1 →
                    Q 0 [] [(Lf.i (0 : Int))]))))))))))) :
    EC Try.prog G63 [] [.i a0, .i a1] Q := by
  obtain ⟨A, hA⟩ : ∃ A, A = arS := ⟨_, rfl⟩
  refine Inst.enter (I := I63) hA mixed F63_at sg L63 80 rfl fun CE CK Dn EV RR W hp => ?_
  have h := h  EV ⟨trivial⟩
  cbv
  refine ?_
  · refine W.call 80 (by rfl) h (by subst hA; rfl) (by subst hA; rfl) ?_
    rintro x rs vs hp0 hq0
    rcases hq0 with ⟨rfl, y0_0, rfl, rfl, k0⟩
    · cbv
      refine ?_
      · refine W.call 80 (by rfl) k0 (by subst hA; rfl) (by subst hA; rfl) ?_
        rintro x rs vs hp1 hq1
        rcases hq1 with ⟨rfl, y1_0, rfl, rfl, k1⟩
        · cbv
          refine ⟨imI hA fun e2 => have c2 : y0_0 = true := (by have q := e2; subst hA; exact q); ⟨imI hA fun e3 => have c3 : y1_0 = true := (by have q := e3; subst hA; exact q); (by rw [W.rr]; exact (by subst hA; exact ((k1.1 c2).1 c3))), imI hA fun e3 => have c3 : y1_0 = false := (by have q := e3; subst hA; exact q); (by rw [W.rr]; exact (by subst hA; exact ((k1.1 c2).2 c3)))⟩, imI hA fun e2 => have c2 : y0_0 = false := (by have q := e2; subst hA; exact q); ⟨imI hA fun e3 => have c3 : y1_0 = true := (by have q := e3; subst hA; exact q); (by rw [W.rr]; exact (by subst hA; exact ((k1.2 c2).1 c3))), imI hA fun e3 => have c3 : y1_0 = false := (by have q := e3; subst hA; exact q); ⟨imI hA fun e4 => have c4 : a0 < a1 := (by have q := (cmpE (op := .lss) hA e4); subst hA; exact q); (by rw [W.rr]; exact (by subst hA; exact (((k1.2 c2).2 c3).1 c4))), imI hA fun e4 => have c4 : a0 ≥ a1 := (by have q := (cmpE (op := .lss) hA e4); subst hA; exact q); ⟨imI hA fun e5 => have c5 : a0 > a1 := (by have q := (cmpE (op := .gtr) hA e5); subst hA; exact q); (by rw [W.rr]; exact (by subst hA; exact ((((k1.2 c2).2 c3).2 c4).1 c5))), imI hA fun e5 => have c5 : a0 ≤ a1 := (by have q := (cmpE (op := .gtr) hA e5); subst hA; exact q); (by rw [W.rr]; exact (by subst hA; exact ((((k1.2 c2).2 c3).2 c4).2 c5)))⟩⟩⟩⟩

-- 62: signalbox/pack.Falling$1 DRAWN
section
structure V62 (EV Q : Nat → Rs → List Lf → Prop) : Prop where
  none : True

end
set_option maxHeartbeats 0 in
/-- To enter. -/
theorem E62 {Q : Nat → Rs → List Lf → Prop} {a0 : Int} {a1 : Int} {ab0 : List (List AV)} (h : ∀ EV : Nat → Rs → List Lf → Prop, V62 EV Q →
    ((0 : Int) ≤ a1) ∧
    (ab0[(Int.toNat a1)]? = some [(AV.int .i64 (cIS ab0 (Int.toNat a1) 0))]) ∧
    ((0 : Int) ≤ a0) ∧
    (ab0[(Int.toNat a0)]? = some [(AV.int .i64 (cIS ab0 (Int.toNat a0) 0))]) ∧
    (EC Try.prog G63 [] [(Lf.i (cIS ab0 (Int.toNat a1) 0)), (Lf.i (cIS ab0 (Int.toNat a0) 0))] (fun x rs vs => (x = 0 ∧ ∃ (y0_0 : Int), rs = [] ∧ vs = [.i y0_0] ∧
      (Q 0 [] [(Lf.i y0_0), (Lf.r ab0)]))))) :
    EC Try.prog G62 [] [.i a0, .i a1, .r ab0] Q := by
  obtain ⟨A, hA⟩ : ∃ A, A = arS := ⟨_, rfl⟩
  refine Inst.enter (I := I62) hA mixed F62_at sg L62 80 rfl fun CE CK Dn EV RR W hp => ?_
  have h := h  EV ⟨trivial⟩
  cbv
  refine ⟨ndI hA (And.intro (by subst hA; exact h.1) (by subst hA; exact h.2.1)), ⟨ndI hA (And.intro (by subst hA; exact h.2.2.1) (by subst hA; exact h.2.2.2.1)), ⟨?_, trivial⟩⟩⟩
  · refine W.callD (by rfl) h.2.2.2.2 (by subst hA; rfl) (by subst hA; rfl) ?_
    rintro x rs vs hp0 hq0
    rcases hq0 with ⟨rfl, y0_0, rfl, rfl, k0⟩
    · cbv
      refine ?_
      · refine W.draw 80 (by rfl) ?_
        cbv
        refine (by rw [W.rr]; exact (by subst hA; exact k0))

-- 82: slices.insertionSortCmpFunc[int] DRAWN
section
structure V82 (EV Q : Nat → Rs → List Lf → Prop) : Prop where
  p4 : ∀ {R0 : List (List AV)} {t1 : Int} {t2 : Int} {t8 : Int} {tb1 : List (List AV)}, (pursS R0 = true → 
    (t8 < t2 →
      EV 16 [R0] [(Lf.i t1), (Lf.i t2), (Lf.i t8), (Lf.i t8), (Lf.r tb1)]) ∧
    (t8 ≥ t2 →
      Q 0 [R0] [(Lf.r tb1)])) →
    EV 4 [R0] [.i t1, .i t2, .i t8, .r tb1]
  p16 : ∀ {R0 : List (List AV)} {t1 : Int} {t2 : Int} {t8 : Int} {t9 : Int} {tb1 : List (List AV)}, (pursS R0 = true → 
    (t9 > t1 →
      ((0 : Int) ≤ t9) ∧
      (t9 < (((List.length R0) : Nat) : Int)) ∧
      (R0[(Int.toNat t9)]? = some [(AV.int .i64 (cIS R0 (Int.toNat t9) 0))]) ∧
      ((0 : Int) ≤ (IntKind.wrap .i64 (t9 - (1 : Int)))) ∧
      ((IntKind.wrap .i64 (t9 - (1 : Int))) < (((List.length R0) : Nat) : Int)) ∧
      (R0[(Int.toNat (IntKind.wrap .i64 (t9 - (1 : Int))))]? = some [(AV.int .i64 (cIS R0 (Int.toNat (IntKind.wrap .i64 (t9 - (1 : Int)))) 0))]) ∧
      (EC Try.prog G62 [] [(Lf.i (cIS R0 (Int.toNat t9) 0)), (Lf.i (cIS R0 (Int.toNat (IntKind.wrap .i64 (t9 - (1 : Int)))) 0)), (Lf.r tb1)] (fun x rs vs => (x = 0 ∧ ∃ (y1_0 : Int) (y1_b0 : List (List AV)), rs = [] ∧ vs = [.i y1_0, .r y1_b0] ∧
        ((y1_0 < (0 : Int) →
            ((0 : Int) ≤ (IntKind.wrap .i64 (t9 - (1 : Int)))) ∧
            ((IntKind.wrap .i64 (t9 - (1 : Int))) < (((List.length R0) : Nat) : Int)) ∧
            (R0[(Int.toNat (IntKind.wrap .i64 (t9 - (1 : Int))))]? = some [(AV.int .i64 (cIS R0 (Int.toNat (IntKind.wrap .i64 (t9 - (1 : Int)))) 0))]) ∧
            ((0 : Int) ≤ t9) ∧
            (t9 < (((List.length R0) : Nat) : Int)) ∧
            (R0[(Int.toNat t9)]? = some [(AV.int .i64 (cIS R0 (Int.toNat t9) 0))]) ∧
            ((List.set R0 (Int.toNat t9) [(AV.int .i64 (cIS R0 (Int.toNat (IntKind.wrap .i64 (t9 - (1 : Int)))) 0))])[(Int.toNat (IntKind.wrap .i64 (t9 - (1 : Int))))]? = some [(AV.int .i64 (cIS (List.set R0 (Int.toNat t9) [(AV.int .i64 (cIS R0 (Int.toNat (IntKind.wrap .i64 (t9 - (1 : Int)))) 0))]) (Int.toNat (IntKind.wrap .i64 (t9 - (1 : Int)))) 0))]) ∧
            (EV 16 [(List.set (List.set R0 (Int.toNat t9) [(AV.int .i64 (cIS R0 (Int.toNat (IntKind.wrap .i64 (t9 - (1 : Int)))) 0))]) (Int.toNat (IntKind.wrap .i64 (t9 - (1 : Int)))) [(AV.int .i64 (cIS R0 (Int.toNat t9) 0))])] [(Lf.i t1), (Lf.i t2), (Lf.i t8), (Lf.i (IntKind.wrap .i64 (t9 - (1 : Int)))), (Lf.r y1_b0)])) ∧
          (y1_0 ≥ (0 : Int) →
            EV 4 [R0] [(Lf.i t1), (Lf.i t2), (Lf.i (IntKind.wrap .i64 (t8 + (1 : Int)))), (Lf.r y1_b0)])))))) ∧
    (t9 ≤ t1 →
      EV 4 [R0] [(Lf.i t1), (Lf.i t2), (Lf.i (IntKind.wrap .i64 (t8 + (1 : Int)))), (Lf.r tb1)])) →
    EV 16 [R0] [.i t1, .i t2, .i t8, .i t9, .r tb1]

set_option maxHeartbeats 0 in
theorem V82.of {Q : Nat → Rs → List Lf → Prop} {A : Ar} {CE : Nat → Rs → List Lf → (Nat → Rs → List Lf → Prop) → Prop} {CK : Nat → Rs → List Lf → Cont → Prop} {Dn : Nat → List Bool → List AItem → Nat → List Bool → List AV → List ABlk → Prop} {EV RR : Nat → Rs → List Lf → Prop} (W : Wk Try.prog Try.f82 I82 L82 Q A sg CE CK Dn EV RR) : V82 EV Q := by
  have hA := W.hA
  refine ⟨?_, ?_⟩
  · intro R0 t1 t2 t8 tb1 h
    refine W.step 80 fun hp => ?_
    have h := h hp.1
    cbv
    refine ⟨imI hA fun e0 => have c0 : t8 < t2 := (by have q := (cmpE (op := .lss) hA e0); subst hA; exact q); ⟨ndI hA (And.intro rfl (And.intro rfl rfl)), ⟨ndI hA (by subst hA; exact hp.1), (by subst hA; exact (h.1 c0))⟩⟩, imI hA fun e0 => have c0 : t8 ≥ t2 := (by have q := (cmpE (op := .lss) hA e0); subst hA; exact q); ⟨ndI hA (by subst hA; exact hp.1), (by rw [W.rr]; exact (by subst hA; exact (h.2 c0)))⟩⟩
  · intro R0 t1 t2 t8 t9 tb1 h
    refine W.step 80 fun hp => ?_
    have h := h hp.1
    cbv
    refine ⟨fun e0 => have c0 : t9 > t1 := (by have q := (cmpE (op := .gtr) hA e0); subst hA; exact q); ?_, fun e0 => have c0 : t9 ≤ t1 := (by have q := (cmpE (op := .gtr) hA e0); subst hA; exact q); ?_⟩
    · refine W.draw 80 (by rfl) ?_
      cbv
      refine ⟨ndI hA (And.intro (by subst hA; exact (h.1 c0).1) (And.intro (by subst hA; exact (h.1 c0).2.1) rfl)), ⟨ndI hA (And.intro rfl (by subst hA; show R0[(0 + (Int.toNat t9))]? = some [(AV.int .i64 (cIS R0 (0 + (Int.toNat t9)) 0))]; (try simp only [rappS_end, Nat.zero_add, Int.toNat_natCast]); exact (h.1 c0).2.2.1)), ⟨ndI hA (And.intro (by subst hA; exact (h.1 c0).2.2.2.1) (And.intro (by subst hA; exact (h.1 c0).2.2.2.2.1) rfl)), ⟨ndI hA (And.intro rfl (by subst hA; show R0[(0 + (Int.toNat (IntKind.wrap .i64 (t9 - (1 : Int)))))]? = some [(AV.int .i64 (cIS R0 (0 + (Int.toNat (IntKind.wrap .i64 (t9 - (1 : Int))))) 0))]; (try simp only [rappS_end, Nat.zero_add, Int.toNat_natCast]); exact (h.1 c0).2.2.2.2.2.1)), ⟨?_, trivial⟩⟩⟩⟩⟩
      · refine W.callD (by rfl) (h.1 c0).2.2.2.2.2.2 (by subst hA; show [] = []; (try simp only [rappS_end, Nat.zero_add, Int.toNat_natCast])) (by subst hA; show [(Lf.i (cIS R0 (0 + (Int.toNat t9)) 0)), (Lf.i (cIS R0 (0 + (Int.toNat (IntKind.wrap .i64 (t9 - (1 : Int))))) 0)), (Lf.r tb1)] = [(Lf.i (cIS R0 (Int.toNat t9) 0)), (Lf.i (cIS R0 (Int.toNat (IntKind.wrap .i64 (t9 - (1 : Int)))) 0)), (Lf.r tb1)]; (try simp only [rappS_end, Nat.zero_add, Int.toNat_natCast])) ?_
        rintro x rs vs hp1 hq1
        rcases hq1 with ⟨rfl, y1_0, y1_b0, rfl, rfl, k1⟩
        · cbv
          refine ?_
          · refine W.draw 80 (by rfl) ?_
            cbv
            refine ⟨imI hA fun e2 => have c2 : y1_0 < (0 : Int) := (by have q := (cmpE (op := .lss) hA e2); subst hA; exact q); ⟨⟨ndI hA (And.intro (by subst hA; exact (k1.1 c2).1) (And.intro (by subst hA; exact (k1.1 c2).2.1) rfl)), ⟨⟨ndI hA (And.intro rfl (by subst hA; show R0[(0 + (Int.toNat (IntKind.wrap .i64 (t9 - (1 : Int)))))]? = some [(AV.int .i64 (cIS R0 (0 + (Int.toNat (IntKind.wrap .i64 (t9 - (1 : Int))))) 0))]; (try simp only [rappS_end, Nat.zero_add, Int.toNat_natCast]); exact (k1.1 c2).2.2.1)), ⟨⟨ndI hA (And.intro (by subst hA; exact (k1.1 c2).2.2.2.1) (And.intro (by subst hA; exact (k1.1 c2).2.2.2.2.1) rfl)), ⟨⟨ndI hA (And.intro rfl (by subst hA; show R0[(0 + (Int.toNat t9))]? = some [(AV.int .i64 (cIS R0 (0 + (Int.toNat t9)) 0))]; (try simp only [rappS_end, Nat.zero_add, Int.toNat_natCast]); exact (k1.1 c2).2.2.2.2.2.1)), ⟨⟨ndI hA (And.intro (by subst hA; exact (k1.1 c2).2.2.2.1) (And.intro (by subst hA; exact (k1.1 c2).2.2.2.2.1) rfl)), ⟨⟨ndI hA (And.intro rfl (by subst hA; show R0[(0 + (Int.toNat t9))]? = some [(AV.int .i64 (cIS R0 (0 + (Int.toNat t9)) 0))]; (try simp only [rappS_end, Nat.zero_add, Int.toNat_natCast]); exact (k1.1 c2).2.2.2.2.2.1)), ⟨⟨ndI hA (And.intro (by subst hA; exact (k1.1 c2).1) (And.intro (by subst hA; exact (k1.1 c2).2.1) (by subst hA; show (List.length R0) = (List.length (List.set R0 (0 + (Int.toNat t9)) [(AV.int .i64 (cIS R0 (0 + (Int.toNat (IntKind.wrap .i64 (t9 - (1 : Int))))) 0))])); (first | rfl | simp [rappS_end] | (simp only [rappS_end, List.length_append, List.length_set, List.length_cons, List.length_nil]; omega))))), ⟨⟨ndI hA (And.intro (by subst hA; show (List.length R0) = (List.length (List.set R0 (0 + (Int.toNat t9)) [(AV.int .i64 (cIS R0 (0 + (Int.toNat (IntKind.wrap .i64 (t9 - (1 : Int))))) 0))])); (first | rfl | simp [rappS_end] | (simp only [rappS_end, List.length_append, List.length_set, List.length_cons, List.length_nil]; omega))) (by subst hA; show (List.set R0 (0 + (Int.toNat t9)) [(AV.int .i64 (cIS R0 (0 + (Int.toNat (IntKind.wrap .i64 (t9 - (1 : Int))))) 0))])[(0 + (Int.toNat (IntKind.wrap .i64 (t9 - (1 : Int)))))]? = some [(AV.int .i64 (cIS (List.set R0 (0 + (Int.toNat t9)) [(AV.int .i64 (cIS R0 (0 + (Int.toNat (IntKind.wrap .i64 (t9 - (1 : Int))))) 0))]) (0 + (Int.toNat (IntKind.wrap .i64 (t9 - (1 : Int))))) 0))]; (try simp only [rappS_end, Nat.zero_add, Int.toNat_natCast]); exact (k1.1 c2).2.2.2.2.2.2.1)), ⟨ndI hA (And.intro (by subst hA; show (List.length R0) = (List.length (List.set (List.set R0 (0 + (Int.toNat t9)) [(AV.int .i64 (cIS R0 (0 + (Int.toNat (IntKind.wrap .i64 (t9 - (1 : Int))))) 0))]) (0 + (Int.toNat (IntKind.wrap .i64 (t9 - (1 : Int))))) [(AV.int .i64 (cIS R0 (0 + (Int.toNat t9)) 0))])); (first | rfl | simp [rappS_end] | (simp only [rappS_end, List.length_append, List.length_set, List.length_cons, List.length_nil]; omega))) (And.intro rfl (by subst hA; show (List.length R0) = (List.length (List.set (List.set R0 (0 + (Int.toNat t9)) [(AV.int .i64 (cIS R0 (0 + (Int.toNat (IntKind.wrap .i64 (t9 - (1 : Int))))) 0))]) (0 + (Int.toNat (IntKind.wrap .i64 (t9 - (1 : Int))))) [(AV.int .i64 (cIS R0 (0 + (Int.toNat t9)) 0))])); (first | rfl | simp [rappS_end] | (simp only [rappS_end, List.length_append, List.length_set, List.length_cons, List.length_nil]; omega))))), ⟨ndI hA (by subst hA; exact (vset (vset hp.1 rfl) rfl)), (by subst hA; show EV 16 [(List.set (List.set R0 (0 + (Int.toNat t9)) [(AV.int .i64 (cIS R0 (0 + (Int.toNat (IntKind.wrap .i64 (t9 - (1 : Int))))) 0))]) (0 + (Int.toNat (IntKind.wrap .i64 (t9 - (1 : Int))))) [(AV.int .i64 (cIS R0 (0 + (Int.toNat t9)) 0))])] [(Lf.i t1), (Lf.i t2), (Lf.i t8), (Lf.i (IntKind.wrap .i64 (t9 - (1 : Int)))), (Lf.r y1_b0)]; (try simp only [rappS_end, Nat.zero_add, Int.toNat_natCast]); exact (k1.1 c2).2.2.2.2.2.2.2)⟩⟩⟩, trivial⟩⟩, trivial⟩⟩, trivial⟩⟩, trivial⟩⟩, trivial⟩⟩, trivial⟩⟩, ⟨⟨ndI hA (And.intro (by subst hA; exact (k1.1 c2).2.2.2.1) (And.intro (by subst hA; exact (k1.1 c2).2.2.2.2.1) rfl)), ⟨⟨ndI hA (And.intro rfl (by subst hA; show R0[(0 + (Int.toNat (IntKind.wrap .i64 (t9 - (1 : Int)))))]? = some [(AV.int .i64 (cIS R0 (0 + (Int.toNat (IntKind.wrap .i64 (t9 - (1 : Int))))) 0))]; (try simp only [rappS_end, Nat.zero_add, Int.toNat_natCast]); exact (k1.1 c2).2.2.1)), ⟨⟨ndI hA (And.intro rfl (by subst hA; show R0[(0 + (Int.toNat t9))]? = some [(AV.int .i64 (cIS R0 (0 + (Int.toNat t9)) 0))]; (try simp only [rappS_end, Nat.zero_add, Int.toNat_natCast]); exact (k1.1 c2).2.2.2.2.2.1)), ⟨⟨ndI hA (And.intro (by subst hA; exact (k1.1 c2).2.2.2.1) (And.intro (by subst hA; exact (k1.1 c2).2.2.2.2.1) rfl)), ⟨⟨ndI hA (And.intro rfl (by subst hA; show R0[(0 + (Int.toNat t9))]? = some [(AV.int .i64 (cIS R0 (0 + (Int.toNat t9)) 0))]; (try simp only [rappS_end, Nat.zero_add, Int.toNat_natCast]); exact (k1.1 c2).2.2.2.2.2.1)), ⟨⟨ndI hA (And.intro (by subst hA; exact (k1.1 c2).1) (And.intro (by subst hA; exact (k1.1 c2).2.1) (by subst hA; show (List.length R0) = (List.length (List.set R0 (0 + (Int.toNat t9)) [(AV.int .i64 (cIS R0 (0 + (Int.toNat (IntKind.wrap .i64 (t9 - (1 : Int))))) 0))])); (first | rfl | simp [rappS_end] | (simp only [rappS_end, List.length_append, List.length_set, List.length_cons, List.length_nil]; omega))))), ⟨⟨ndI hA (And.intro (by subst hA; show (List.length R0) = (List.length (List.set R0 (0 + (Int.toNat t9)) [(AV.int .i64 (cIS R0 (0 + (Int.toNat (IntKind.wrap .i64 (t9 - (1 : Int))))) 0))])); (first | rfl | simp [rappS_end] | (simp only [rappS_end, List.length_append, List.length_set, List.length_cons, List.length_nil]; omega))) (by subst hA; show (List.set R0 (0 + (Int.toNat t9)) [(AV.int .i64 (cIS R0 (0 + (Int.toNat (IntKind.wrap .i64 (t9 - (1 : Int))))) 0))])[(0 + (Int.toNat (IntKind.wrap .i64 (t9 - (1 : Int)))))]? = some [(AV.int .i64 (cIS (List.set R0 (0 + (Int.toNat t9)) [(AV.int .i64 (cIS R0 (0 + (Int.toNat (IntKind.wrap .i64 (t9 - (1 : Int))))) 0))]) (0 + (Int.toNat (IntKind.wrap .i64 (t9 - (1 : Int))))) 0))]; (try simp only [rappS_end, Nat.zero_add, Int.toNat_natCast]); exact (k1.1 c2).2.2.2.2.2.2.1)), ⟨ndI hA (And.intro (by subst hA; show (List.length R0) = (List.length (List.set (List.set R0 (0 + (Int.toNat t9)) [(AV.int .i64 (cIS R0 (0 + (Int.toNat (IntKind.wrap .i64 (t9 - (1 : Int))))) 0))]) (0 + (Int.toNat (IntKind.wrap .i64 (t9 - (1 : Int))))) [(AV.int .i64 (cIS R0 (0 + (Int.toNat t9)) 0))])); (first | rfl | simp [rappS_end] | (simp only [rappS_end, List.length_append, List.length_set, List.length_cons, List.length_nil]; omega))) (And.intro rfl (by subst hA; show (List.length R0) = (List.length (List.set (List.set R0 (0 + (Int.toNat t9)) [(AV.int .i64 (cIS R0 (0 + (Int.toNat (IntKind.wrap .i64 (t9 - (1 : Int))))) 0))]) (0 + (Int.toNat (IntKind.wrap .i64 (t9 - (1 : Int))))) [(AV.int .i64 (cIS R0 (0 + (Int.toNat t9)) 0))])); (first | rfl | simp [rappS_end] | (simp only [rappS_end, List.length_append, List.length_set, List.length_cons, List.length_nil]; omega))))), ⟨ndI hA (by subst hA; exact (vset (vset hp.1 rfl) rfl)), (by subst hA; show EV 16 [(List.set (List.set R0 (0 + (Int.toNat t9)) [(AV.int .i64 (cIS R0 (0 + (Int.toNat (IntKind.wrap .i64 (t9 - (1 : Int))))) 0))]) (0 + (Int.toNat (IntKind.wrap .i64 (t9 - (1 : Int))))) [(AV.int .i64 (cIS R0 (0 + (Int.toNat t9)) 0))])] [(Lf.i t1), (Lf.i t2), (Lf.i t8), (Lf.i (IntKind.wrap .i64 (t9 - (1 : Int)))), (Lf.r y1_b0)]; (try simp only [rappS_end, Nat.zero_add, Int.toNat_natCast]); exact (k1.1 c2).2.2.2.2.2.2.2)⟩⟩⟩, trivial⟩⟩, trivial⟩⟩, trivial⟩⟩, trivial⟩⟩, trivial⟩⟩, ⟨⟨ndI hA (And.intro rfl (by subst hA; show R0[(0 + (Int.toNat t9))]? = some [(AV.int .i64 (cIS R0 (0 + (Int.toNat t9)) 0))]; (try simp only [rappS_end, Nat.zero_add, Int.toNat_natCast]); exact (k1.1 c2).2.2.2.2.2.1)), ⟨⟨ndI hA (And.intro rfl (by subst hA; show R0[(0 + (Int.toNat (IntKind.wrap .i64 (t9 - (1 : Int)))))]? = some [(AV.int .i64 (cIS R0 (0 + (Int.toNat (IntKind.wrap .i64 (t9 - (1 : Int))))) 0))]; (try simp only [rappS_end, Nat.zero_add, Int.toNat_natCast]); exact (k1.1 c2).2.2.1)), ⟨⟨ndI hA (And.intro (by subst hA; exact (k1.1 c2).2.2.2.1) (And.intro (by subst hA; exact (k1.1 c2).2.2.2.2.1) rfl)), ⟨⟨ndI hA (And.intro rfl (by subst hA; show R0[(0 + (Int.toNat t9))]? = some [(AV.int .i64 (cIS R0 (0 + (Int.toNat t9)) 0))]; (try simp only [rappS_end, Nat.zero_add, Int.toNat_natCast]); exact (k1.1 c2).2.2.2.2.2.1)), ⟨⟨ndI hA (And.intro (by subst hA; exact (k1.1 c2).1) (And.intro (by subst hA; exact (k1.1 c2).2.1) (by subst hA; show (List.length R0) = (List.length (List.set R0 (0 + (Int.toNat t9)) [(AV.int .i64 (cIS R0 (0 + (Int.toNat (IntKind.wrap .i64 (t9 - (1 : Int))))) 0))])); (first | rfl | simp [rappS_end] | (simp only [rappS_end, List.length_append, List.length_set, List.length_cons, List.length_nil]; omega))))), ⟨⟨ndI hA (And.intro (by subst hA; show (List.length R0) = (List.length (List.set R0 (0 + (Int.toNat t9)) [(AV.int .i64 (cIS R0 (0 + (Int.toNat (IntKind.wrap .i64 (t9 - (1 : Int))))) 0))])); (first | rfl | simp [rappS_end] | (simp only [rappS_end, List.length_append, List.length_set, List.length_cons, List.length_nil]; omega))) (by subst hA; show (List.set R0 (0 + (Int.toNat t9)) [(AV.int .i64 (cIS R0 (0 + (Int.toNat (IntKind.wrap .i64 (t9 - (1 : Int))))) 0))])[(0 + (Int.toNat (IntKind.wrap .i64 (t9 - (1 : Int)))))]? = some [(AV.int .i64 (cIS (List.set R0 (0 + (Int.toNat t9)) [(AV.int .i64 (cIS R0 (0 + (Int.toNat (IntKind.wrap .i64 (t9 - (1 : Int))))) 0))]) (0 + (Int.toNat (IntKind.wrap .i64 (t9 - (1 : Int))))) 0))]; (try simp only [rappS_end, Nat.zero_add, Int.toNat_natCast]); exact (k1.1 c2).2.2.2.2.2.2.1)), ⟨ndI hA (And.intro (by subst hA; show (List.length R0) = (List.length (List.set (List.set R0 (0 + (Int.toNat t9)) [(AV.int .i64 (cIS R0 (0 + (Int.toNat (IntKind.wrap .i64 (t9 - (1 : Int))))) 0))]) (0 + (Int.toNat (IntKind.wrap .i64 (t9 - (1 : Int))))) [(AV.int .i64 (cIS R0 (0 + (Int.toNat t9)) 0))])); (first | rfl | simp [rappS_end] | (simp only [rappS_end, List.length_append, List.length_set, List.length_cons, List.length_nil]; omega))) (And.intro rfl (by subst hA; show (List.length R0) = (List.length (List.set (List.set R0 (0 + (Int.toNat t9)) [(AV.int .i64 (cIS R0 (0 + (Int.toNat (IntKind.wrap .i64 (t9 - (1 : Int))))) 0))]) (0 + (Int.toNat (IntKind.wrap .i64 (t9 - (1 : Int))))) [(AV.int .i64 (cIS R0 (0 + (Int.toNat t9)) 0))])); (first | rfl | simp [rappS_end] | (simp only [rappS_end, List.length_append, List.length_set, List.length_cons, List.length_nil]; omega))))), ⟨ndI hA (by subst hA; exact (vset (vset hp.1 rfl) rfl)), (by subst hA; show EV 16 [(List.set (List.set R0 (0 + (Int.toNat t9)) [(AV.int .i64 (cIS R0 (0 + (Int.toNat (IntKind.wrap .i64 (t9 - (1 : Int))))) 0))]) (0 + (Int.toNat (IntKind.wrap .i64 (t9 - (1 : Int))))) [(AV.int .i64 (cIS R0 (0 + (Int.toNat t9)) 0))])] [(Lf.i t1), (Lf.i t2), (Lf.i t8), (Lf.i (IntKind.wrap .i64 (t9 - (1 : Int)))), (Lf.r y1_b0)]; (try simp only [rappS_end, Nat.zero_add, Int.toNat_natCast]); exact (k1.1 c2).2.2.2.2.2.2.2)⟩⟩⟩, trivial⟩⟩, trivial⟩⟩, trivial⟩⟩, trivial⟩⟩, trivial⟩⟩, trivial⟩⟩⟩, trivial⟩⟩⟩, ⟨⟨ndI hA (And.intro (by subst hA; exact (k1.1 c2).2.2.2.1) (And.intro (by subst hA; exact (k1.1 c2).2.2.2.2.1) rfl)), ⟨⟨ndI hA (And.intro (by subst hA; exact (k1.1 c2).1) (And.intro (by subst hA; exact (k1.1 c2).2.1) rfl)), ⟨⟨ndI hA (And.intro rfl (by subst hA; show R0[(0 + (Int.toNat (IntKind.wrap .i64 (t9 - (1 : Int)))))]? = some [(AV.int .i64 (cIS R0 (0 + (Int.toNat (IntKind.wrap .i64 (t9 - (1 : Int))))) 0))]; (try simp only [rappS_end, Nat.zero_add, Int.toNat_natCast]); exact (k1.1 c2).2.2.1)), ⟨⟨ndI hA (And.intro rfl (by subst hA; show R0[(0 + (Int.toNat t9))]? = some [(AV.int .i64 (cIS R0 (0 + (Int.toNat t9)) 0))]; (try simp only [rappS_end, Nat.zero_add, Int.toNat_natCast]); exact (k1.1 c2).2.2.2.2.2.1)), ⟨⟨ndI hA (And.intro (by subst hA; exact (k1.1 c2).2.2.2.1) (And.intro (by subst hA; exact (k1.1 c2).2.2.2.2.1) rfl)), ⟨⟨ndI hA (And.intro rfl (by subst hA; show R0[(0 + (Int.toNat t9))]? = some [(AV.int .i64 (cIS R0 (0 + (Int.toNat t9)) 0))]; (try simp only [rappS_end, Nat.zero_add, Int.toNat_natCast]); exact (k1.1 c2).2.2.2.2.2.1)), ⟨⟨ndI hA (And.intro (by subst hA; exact (k1.1 c2).1) (And.intro (by subst hA; exact (k1.1 c2).2.1) (by subst hA; show (List.length R0) = (List.length (List.set R0 (0 + (Int.toNat t9)) [(AV.int .i64 (cIS R0 (0 + (Int.toNat (IntKind.wrap .i64 (t9 - (1 : Int))))) 0))])); (first | rfl | simp [rappS_end] | (simp only [rappS_end, List.length_append, List.length_set, List.length_cons, List.length_nil]; omega))))), ⟨⟨ndI hA (And.intro (by subst hA; show (List.length R0) = (List.length (List.set R0 (0 + (Int.toNat t9)) [(AV.int .i64 (cIS R0 (0 + (Int.toNat (IntKind.wrap .i64 (t9 - (1 : Int))))) 0))])); (first | rfl | simp [rappS_end] | (simp only [rappS_end, List.length_append, List.length_set, List.length_cons, List.length_nil]; omega))) (by subst hA; show (List.set R0 (0 + (Int.toNat t9)) [(AV.int .i64 (cIS R0 (0 + (Int.toNat (IntKind.wrap .i64 (t9 - (1 : Int))))) 0))])[(0 + (Int.toNat (IntKind.wrap .i64 (t9 - (1 : Int)))))]? = some [(AV.int .i64 (cIS (List.set R0 (0 + (Int.toNat t9)) [(AV.int .i64 (cIS R0 (0 + (Int.toNat (IntKind.wrap .i64 (t9 - (1 : Int))))) 0))]) (0 + (Int.toNat (IntKind.wrap .i64 (t9 - (1 : Int))))) 0))]; (try simp only [rappS_end, Nat.zero_add, Int.toNat_natCast]); exact (k1.1 c2).2.2.2.2.2.2.1)), ⟨ndI hA (And.intro (by subst hA; show (List.length R0) = (List.length (List.set (List.set R0 (0 + (Int.toNat t9)) [(AV.int .i64 (cIS R0 (0 + (Int.toNat (IntKind.wrap .i64 (t9 - (1 : Int))))) 0))]) (0 + (Int.toNat (IntKind.wrap .i64 (t9 - (1 : Int))))) [(AV.int .i64 (cIS R0 (0 + (Int.toNat t9)) 0))])); (first | rfl | simp [rappS_end] | (simp only [rappS_end, List.length_append, List.length_set, List.length_cons, List.length_nil]; omega))) (And.intro rfl (by subst hA; show (List.length R0) = (List.length (List.set (List.set R0 (0 + (Int.toNat t9)) [(AV.int .i64 (cIS R0 (0 + (Int.toNat (IntKind.wrap .i64 (t9 - (1 : Int))))) 0))]) (0 + (Int.toNat (IntKind.wrap .i64 (t9 - (1 : Int))))) [(AV.int .i64 (cIS R0 (0 + (Int.toNat t9)) 0))])); (first | rfl | simp [rappS_end] | (simp only [rappS_end, List.length_append, List.length_set, List.length_cons, List.length_nil]; omega))))), ⟨ndI hA (by subst hA; exact (vset (vset hp.1 rfl) rfl)), (by subst hA; show EV 16 [(List.set (List.set R0 (0 + (Int.toNat t9)) [(AV.int .i64 (cIS R0 (0 + (Int.toNat (IntKind.wrap .i64 (t9 - (1 : Int))))) 0))]) (0 + (Int.toNat (IntKind.wrap .i64 (t9 - (1 : Int))))) [(AV.int .i64 (cIS R0 (0 + (Int.toNat t9)) 0))])] [(Lf.i t1), (Lf.i t2), (Lf.i t8), (Lf.i (IntKind.wrap .i64 (t9 - (1 : Int)))), (Lf.r y1_b0)]; (try simp only [rappS_end, Nat.zero_add, Int.toNat_natCast]); exact (k1.1 c2).2.2.2.2.2.2.2)⟩⟩⟩, trivial⟩⟩, trivial⟩⟩, trivial⟩⟩, trivial⟩⟩, trivial⟩⟩, ⟨⟨ndI hA (And.intro rfl (by subst hA; show R0[(0 + (Int.toNat t9))]? = some [(AV.int .i64 (cIS R0 (0 + (Int.toNat t9)) 0))]; (try simp only [rappS_end, Nat.zero_add, Int.toNat_natCast]); exact (k1.1 c2).2.2.2.2.2.1)), ⟨⟨ndI hA (And.intro rfl (by subst hA; show R0[(0 + (Int.toNat (IntKind.wrap .i64 (t9 - (1 : Int)))))]? = some [(AV.int .i64 (cIS R0 (0 + (Int.toNat (IntKind.wrap .i64 (t9 - (1 : Int))))) 0))]; (try simp only [rappS_end, Nat.zero_add, Int.toNat_natCast]); exact (k1.1 c2).2.2.1)), ⟨⟨ndI hA (And.intro (by subst hA; exact (k1.1 c2).2.2.2.1) (And.intro (by subst hA; exact (k1.1 c2).2.2.2.2.1) rfl)), ⟨⟨ndI hA (And.intro rfl (by subst hA; show R0[(0 + (Int.toNat t9))]? = some [(AV.int .i64 (cIS R0 (0 + (Int.toNat t9)) 0))]; (try simp only [rappS_end, Nat.zero_add, Int.toNat_natCast]); exact (k1.1 c2).2.2.2.2.2.1)), ⟨⟨ndI hA (And.intro (by subst hA; exact (k1.1 c2).1) (And.intro (by subst hA; exact (k1.1 c2).2.1) (by subst hA; show (List.length R0) = (List.length (List.set R0 (0 + (Int.toNat t9)) [(AV.int .i64 (cIS R0 (0 + (Int.toNat (IntKind.wrap .i64 (t9 - (1 : Int))))) 0))])); (first | rfl | simp [rappS_end] | (simp only [rappS_end, List.length_append, List.length_set, List.length_cons, List.length_nil]; omega))))), ⟨⟨ndI hA (And.intro (by subst hA; show (List.length R0) = (List.length (List.set R0 (0 + (Int.toNat t9)) [(AV.int .i64 (cIS R0 (0 + (Int.toNat (IntKind.wrap .i64 (t9 - (1 : Int))))) 0))])); (first | rfl | simp [rappS_end] | (simp only [rappS_end, List.length_append, List.length_set, List.length_cons, List.length_nil]; omega))) (by subst hA; show (List.set R0 (0 + (Int.toNat t9)) [(AV.int .i64 (cIS R0 (0 + (Int.toNat (IntKind.wrap .i64 (t9 - (1 : Int))))) 0))])[(0 + (Int.toNat (IntKind.wrap .i64 (t9 - (1 : Int)))))]? = some [(AV.int .i64 (cIS (List.set R0 (0 + (Int.toNat t9)) [(AV.int .i64 (cIS R0 (0 + (Int.toNat (IntKind.wrap .i64 (t9 - (1 : Int))))) 0))]) (0 + (Int.toNat (IntKind.wrap .i64 (t9 - (1 : Int))))) 0))]; (try simp only [rappS_end, Nat.zero_add, Int.toNat_natCast]); exact (k1.1 c2).2.2.2.2.2.2.1)), ⟨ndI hA (And.intro (by subst hA; show (List.length R0) = (List.length (List.set (List.set R0 (0 + (Int.toNat t9)) [(AV.int .i64 (cIS R0 (0 + (Int.toNat (IntKind.wrap .i64 (t9 - (1 : Int))))) 0))]) (0 + (Int.toNat (IntKind.wrap .i64 (t9 - (1 : Int))))) [(AV.int .i64 (cIS R0 (0 + (Int.toNat t9)) 0))])); (first | rfl | simp [rappS_end] | (simp only [rappS_end, List.length_append, List.length_set, List.length_cons, List.length_nil]; omega))) (And.intro rfl (by subst hA; show (List.length R0) = (List.length (List.set (List.set R0 (0 + (Int.toNat t9)) [(AV.int .i64 (cIS R0 (0 + (Int.toNat (IntKind.wrap .i64 (t9 - (1 : Int))))) 0))]) (0 + (Int.toNat (IntKind.wrap .i64 (t9 - (1 : Int))))) [(AV.int .i64 (cIS R0 (0 + (Int.toNat t9)) 0))])); (first | rfl | simp [rappS_end] | (simp only [rappS_end, List.length_append, List.length_set, List.length_cons, List.length_nil]; omega))))), ⟨ndI hA (by subst hA; exact (vset (vset hp.1 rfl) rfl)), (by subst hA; show EV 16 [(List.set (List.set R0 (0 + (Int.toNat t9)) [(AV.int .i64 (cIS R0 (0 + (Int.toNat (IntKind.wrap .i64 (t9 - (1 : Int))))) 0))]) (0 + (Int.toNat (IntKind.wrap .i64 (t9 - (1 : Int))))) [(AV.int .i64 (cIS R0 (0 + (Int.toNat t9)) 0))])] [(Lf.i t1), (Lf.i t2), (Lf.i t8), (Lf.i (IntKind.wrap .i64 (t9 - (1 : Int)))), (Lf.r y1_b0)]; (try simp only [rappS_end, Nat.zero_add, Int.toNat_natCast]); exact (k1.1 c2).2.2.2.2.2.2.2)⟩⟩⟩, trivial⟩⟩, trivial⟩⟩, trivial⟩⟩, trivial⟩⟩, trivial⟩⟩, trivial⟩⟩⟩, ⟨⟨ndI hA (And.intro rfl (by subst hA; show R0[(0 + (Int.toNat t9))]? = some [(AV.int .i64 (cIS R0 (0 + (Int.toNat t9)) 0))]; (try simp only [rappS_end, Nat.zero_add, Int.toNat_natCast]); exact (k1.1 c2).2.2.2.2.2.1)), ⟨⟨ndI hA (And.intro (by subst hA; exact (k1.1 c2).1) (And.intro (by subst hA; exact (k1.1 c2).2.1) rfl)), ⟨⟨ndI hA (And.intro rfl (by subst hA; show R0[(0 + (Int.toNat (IntKind.wrap .i64 (t9 - (1 : Int)))))]? = some [(AV.int .i64 (cIS R0 (0 + (Int.toNat (IntKind.wrap .i64 (t9 - (1 : Int))))) 0))]; (try simp only [rappS_end, Nat.zero_add, Int.toNat_natCast]); exact (k1.1 c2).2.2.1)), ⟨⟨ndI hA (And.intro (by subst hA; exact (k1.1 c2).2.2.2.1) (And.intro (by subst hA; exact (k1.1 c2).2.2.2.2.1) rfl)), ⟨⟨ndI hA (And.intro rfl (by subst hA; show R0[(0 + (Int.toNat t9))]? = some [(AV.int .i64 (cIS R0 (0 + (Int.toNat t9)) 0))]; (try simp only [rappS_end, Nat.zero_add, Int.toNat_natCast]); exact (k1.1 c2).2.2.2.2.2.1)), ⟨⟨ndI hA (And.intro (by subst hA; exact (k1.1 c2).1) (And.intro (by subst hA; exact (k1.1 c2).2.1) (by subst hA; show (List.length R0) = (List.length (List.set R0 (0 + (Int.toNat t9)) [(AV.int .i64 (cIS R0 (0 + (Int.toNat (IntKind.wrap .i64 (t9 - (1 : Int))))) 0))])); (first | rfl | simp [rappS_end] | (simp only [rappS_end, List.length_append, List.length_set, List.length_cons, List.length_nil]; omega))))), ⟨⟨ndI hA (And.intro (by subst hA; show (List.length R0) = (List.length (List.set R0 (0 + (Int.toNat t9)) [(AV.int .i64 (cIS R0 (0 + (Int.toNat (IntKind.wrap .i64 (t9 - (1 : Int))))) 0))])); (first | rfl | simp [rappS_end] | (simp only [rappS_end, List.length_append, List.length_set, List.length_cons, List.length_nil]; omega))) (by subst hA; show (List.set R0 (0 + (Int.toNat t9)) [(AV.int .i64 (cIS R0 (0 + (Int.toNat (IntKind.wrap .i64 (t9 - (1 : Int))))) 0))])[(0 + (Int.toNat (IntKind.wrap .i64 (t9 - (1 : Int)))))]? = some [(AV.int .i64 (cIS (List.set R0 (0 + (Int.toNat t9)) [(AV.int .i64 (cIS R0 (0 + (Int.toNat (IntKind.wrap .i64 (t9 - (1 : Int))))) 0))]) (0 + (Int.toNat (IntKind.wrap .i64 (t9 - (1 : Int))))) 0))]; (try simp only [rappS_end, Nat.zero_add, Int.toNat_natCast]); exact (k1.1 c2).2.2.2.2.2.2.1)), ⟨ndI hA (And.intro (by subst hA; show (List.length R0) = (List.length (List.set (List.set R0 (0 + (Int.toNat t9)) [(AV.int .i64 (cIS R0 (0 + (Int.toNat (IntKind.wrap .i64 (t9 - (1 : Int))))) 0))]) (0 + (Int.toNat (IntKind.wrap .i64 (t9 - (1 : Int))))) [(AV.int .i64 (cIS R0 (0 + (Int.toNat t9)) 0))])); (first | rfl | simp [rappS_end] | (simp only [rappS_end, List.length_append, List.length_set, List.length_cons, List.length_nil]; omega))) (And.intro rfl (by subst hA; show (List.length R0) = (List.length (List.set (List.set R0 (0 + (Int.toNat t9)) [(AV.int .i64 (cIS R0 (0 + (Int.toNat (IntKind.wrap .i64 (t9 - (1 : Int))))) 0))]) (0 + (Int.toNat (IntKind.wrap .i64 (t9 - (1 : Int))))) [(AV.int .i64 (cIS R0 (0 + (Int.toNat t9)) 0))])); (first | rfl | simp [rappS_end] | (simp only [rappS_end, List.length_append, List.length_set, List.length_cons, List.length_nil]; omega))))), ⟨ndI hA (by subst hA; exact (vset (vset hp.1 rfl) rfl)), (by subst hA; show EV 16 [(List.set (List.set R0 (0 + (Int.toNat t9)) [(AV.int .i64 (cIS R0 (0 + (Int.toNat (IntKind.wrap .i64 (t9 - (1 : Int))))) 0))]) (0 + (Int.toNat (IntKind.wrap .i64 (t9 - (1 : Int))))) [(AV.int .i64 (cIS R0 (0 + (Int.toNat t9)) 0))])] [(Lf.i t1), (Lf.i t2), (Lf.i t8), (Lf.i (IntKind.wrap .i64 (t9 - (1 : Int)))), (Lf.r y1_b0)]; (try simp only [rappS_end, Nat.zero_add, Int.toNat_natCast]); exact (k1.1 c2).2.2.2.2.2.2.2)⟩⟩⟩, trivial⟩⟩, trivial⟩⟩, trivial⟩⟩, trivial⟩⟩, trivial⟩⟩, trivial⟩⟩, trivial⟩⟩⟩, trivial⟩⟩, imI hA fun e2 => have c2 : y1_0 ≥ (0 : Int) := (by have q := (cmpE (op := .lss) hA e2); subst hA; exact q); ⟨ndI hA (And.intro rfl (And.intro rfl rfl)), ⟨ndI hA (by subst hA; exact hp.1), (by subst hA; exact (k1.2 c2))⟩⟩⟩
    · refine W.draw 80 (by rfl) ?_
      cbv
      refine ⟨⟨ndI hA (And.intro rfl (And.intro rfl rfl)), ⟨ndI hA (by subst hA; exact hp.1), (by subst hA; exact (h.2 c0))⟩⟩, trivial⟩

end
set_option maxHeartbeats 0 in
/-- To enter. -/
theorem E82 {Q : Nat → Rs → List Lf → Prop} {R0 : List (List AV)} {a1 : Int} {a2 : Int} {ab1 : List (List AV)} (h : pursS R0 = true → ∀ EV : Nat → Rs → List Lf → Prop, V82 EV Q →
    EV 4 [R0] [(Lf.i a1), (Lf.i a2), (Lf.i (IntKind.wrap .i64 (a1 + (1 : Int)))), (Lf.r ab1)]) :
    EC Try.prog G82 [R0] [.i a1, .i a2, .r ab1] Q := by
  obtain ⟨A, hA⟩ : ∃ A, A = arS := ⟨_, rfl⟩
  refine Inst.enter (I := I82) hA mixed F82_at sg L82 80 rfl fun CE CK Dn EV RR W hp => ?_
  have h := h hp.1 EV (V82.of W)
  cbv
  refine ⟨ndI hA (And.intro rfl (And.intro rfl rfl)), ⟨ndI hA (by subst hA; exact hp.1), (by subst hA; exact h)⟩⟩

-- 99: slices.swapRangeCmpFunc[int] DRAWN
section
structure V99 (EV Q : Nat → Rs → List Lf → Prop) : Prop where
  p4 : ∀ {R0 : List (List AV)} {t1 : Int} {t2 : Int} {t3 : Int} {t10 : Int} {tb1 : List (List AV)}, (pursS R0 = true → 
    (t10 < t3 →
      ((0 : Int) ≤ (IntKind.wrap .i64 (t2 + t10))) ∧
      ((IntKind.wrap .i64 (t2 + t10)) < (((List.length R0) : Nat) : Int)) ∧
      (R0[(Int.toNat (IntKind.wrap .i64 (t2 + t10)))]? = some [(AV.int .i64 (cIS R0 (Int.toNat (IntKind.wrap .i64 (t2 + t10))) 0))]) ∧
      ((0 : Int) ≤ (IntKind.wrap .i64 (t1 + t10))) ∧
      ((IntKind.wrap .i64 (t1 + t10)) < (((List.length R0) : Nat) : Int)) ∧
      (R0[(Int.toNat (IntKind.wrap .i64 (t1 + t10)))]? = some [(AV.int .i64 (cIS R0 (Int.toNat (IntKind.wrap .i64 (t1 + t10))) 0))]) ∧
      ((List.set R0 (Int.toNat (IntKind.wrap .i64 (t1 + t10))) [(AV.int .i64 (cIS R0 (Int.toNat (IntKind.wrap .i64 (t2 + t10))) 0))])[(Int.toNat (IntKind.wrap .i64 (t2 + t10)))]? = some [(AV.int .i64 (cIS (List.set R0 (Int.toNat (IntKind.wrap .i64 (t1 + t10))) [(AV.int .i64 (cIS R0 (Int.toNat (IntKind.wrap .i64 (t2 + t10))) 0))]) (Int.toNat (IntKind.wrap .i64 (t2 + t10))) 0))]) ∧
      (EV 4 [(List.set (List.set R0 (Int.toNat (IntKind.wrap .i64 (t1 + t10))) [(AV.int .i64 (cIS R0 (Int.toNat (IntKind.wrap .i64 (t2 + t10))) 0))]) (Int.toNat (IntKind.wrap .i64 (t2 + t10))) [(AV.int .i64 (cIS R0 (Int.toNat (IntKind.wrap .i64 (t1 + t10))) 0))])] [(Lf.i t1), (Lf.i t2), (Lf.i t3), (Lf.i (IntKind.wrap .i64 (t10 + (1 : Int)))), (Lf.r tb1)])) ∧
    (t10 ≥ t3 →
      Q 0 [R0] [(Lf.r tb1)])) →
    EV 4 [R0] [.i t1, .i t2, .i t3, .i t10, .r tb1]

set_option maxHeartbeats 0 in
theorem V99.of {Q : Nat → Rs → List Lf → Prop} {A : Ar} {CE : Nat → Rs → List Lf → (Nat → Rs → List Lf → Prop) → Prop} {CK : Nat → Rs → List Lf → Cont → Prop} {Dn : Nat → List Bool → List AItem → Nat → List Bool → List AV → List ABlk → Prop} {EV RR : Nat → Rs → List Lf → Prop} (W : Wk Try.prog Try.f99 I99 L99 Q A sg CE CK Dn EV RR) : V99 EV Q := by
  have hA := W.hA
  refine ⟨?_⟩
  · intro R0 t1 t2 t3 t10 tb1 h
    refine W.step 80 fun hp => ?_
    have h := h hp.1
    cbv
    refine ⟨imI hA fun e0 => have c0 : t10 < t3 := (by have q := (cmpE (op := .lss) hA e0); subst hA; exact q); ⟨⟨ndI hA (And.intro (by subst hA; exact (h.1 c0).1) (And.intro (by subst hA; exact (h.1 c0).2.1) rfl)), ⟨⟨ndI hA (And.intro rfl (by subst hA; show R0[(0 + (Int.toNat (IntKind.wrap .i64 (t2 + t10))))]? = some [(AV.int .i64 (cIS R0 (0 + (Int.toNat (IntKind.wrap .i64 (t2 + t10)))) 0))]; (try simp only [rappS_end, Nat.zero_add, Int.toNat_natCast]); exact (h.1 c0).2.2.1)), ⟨⟨ndI hA (And.intro (by subst hA; exact (h.1 c0).2.2.2.1) (And.intro (by subst hA; exact (h.1 c0).2.2.2.2.1) rfl)), ⟨⟨ndI hA (And.intro rfl (by subst hA; show R0[(0 + (Int.toNat (IntKind.wrap .i64 (t1 + t10))))]? = some [(AV.int .i64 (cIS R0 (0 + (Int.toNat (IntKind.wrap .i64 (t1 + t10)))) 0))]; (try simp only [rappS_end, Nat.zero_add, Int.toNat_natCast]); exact (h.1 c0).2.2.2.2.2.1)), ⟨⟨ndI hA (And.intro (by subst hA; exact (h.1 c0).2.2.2.1) (And.intro (by subst hA; exact (h.1 c0).2.2.2.2.1) rfl)), ⟨⟨ndI hA (And.intro rfl (by subst hA; show R0[(0 + (Int.toNat (IntKind.wrap .i64 (t1 + t10))))]? = some [(AV.int .i64 (cIS R0 (0 + (Int.toNat (IntKind.wrap .i64 (t1 + t10)))) 0))]; (try simp only [rappS_end, Nat.zero_add, Int.toNat_natCast]); exact (h.1 c0).2.2.2.2.2.1)), ⟨⟨ndI hA (And.intro (by subst hA; exact (h.1 c0).1) (And.intro (by subst hA; exact (h.1 c0).2.1) (by subst hA; show (List.length R0) = (List.length (List.set R0 (0 + (Int.toNat (IntKind.wrap .i64 (t1 + t10)))) [(AV.int .i64 (cIS R0 (0 + (Int.toNat (IntKind.wrap .i64 (t2 + t10)))) 0))])); (first | rfl | simp [rappS_end] | (simp only [rappS_end, List.length_append, List.length_set, List.length_cons, List.length_nil]; omega))))), ⟨⟨ndI hA (And.intro (by subst hA; show (List.length R0) = (List.length (List.set R0 (0 + (Int.toNat (IntKind.wrap .i64 (t1 + t10)))) [(AV.int .i64 (cIS R0 (0 + (Int.toNat (IntKind.wrap .i64 (t2 + t10)))) 0))])); (first | rfl | simp [rappS_end] | (simp only [rappS_end, List.length_append, List.length_set, List.length_cons, List.length_nil]; omega))) (by subst hA; show (List.set R0 (0 + (Int.toNat (IntKind.wrap .i64 (t1 + t10)))) [(AV.int .i64 (cIS R0 (0 + (Int.toNat (IntKind.wrap .i64 (t2 + t10)))) 0))])[(0 + (Int.toNat (IntKind.wrap .i64 (t2 + t10))))]? = some [(AV.int .i64 (cIS (List.set R0 (0 + (Int.toNat (IntKind.wrap .i64 (t1 + t10)))) [(AV.int .i64 (cIS R0 (0 + (Int.toNat (IntKind.wrap .i64 (t2 + t10)))) 0))]) (0 + (Int.toNat (IntKind.wrap .i64 (t2 + t10)))) 0))]; (try simp only [rappS_end, Nat.zero_add, Int.toNat_natCast]); exact (h.1 c0).2.2.2.2.2.2.1)), ⟨ndI hA (And.intro (by subst hA; show (List.length R0) = (List.length (List.set (List.set R0 (0 + (Int.toNat (IntKind.wrap .i64 (t1 + t10)))) [(AV.int .i64 (cIS R0 (0 + (Int.toNat (IntKind.wrap .i64 (t2 + t10)))) 0))]) (0 + (Int.toNat (IntKind.wrap .i64 (t2 + t10)))) [(AV.int .i64 (cIS R0 (0 + (Int.toNat (IntKind.wrap .i64 (t1 + t10)))) 0))])); (first | rfl | simp [rappS_end] | (simp only [rappS_end, List.length_append, List.length_set, List.length_cons, List.length_nil]; omega))) (And.intro rfl (by subst hA; show (List.length R0) = (List.length (List.set (List.set R0 (0 + (Int.toNat (IntKind.wrap .i64 (t1 + t10)))) [(AV.int .i64 (cIS R0 (0 + (Int.toNat (IntKind.wrap .i64 (t2 + t10)))) 0))]) (0 + (Int.toNat (IntKind.wrap .i64 (t2 + t10)))) [(AV.int .i64 (cIS R0 (0 + (Int.toNat (IntKind.wrap .i64 (t1 + t10)))) 0))])); (first | rfl | simp [rappS_end] | (simp only [rappS_end, List.length_append, List.length_set, List.length_cons, List.length_nil]; omega))))), ⟨ndI hA (by subst hA; exact (vset (vset hp.1 rfl) rfl)), (by subst hA; show EV 4 [(List.set (List.set R0 (0 + (Int.toNat (IntKind.wrap .i64 (t1 + t10)))) [(AV.int .i64 (cIS R0 (0 + (Int.toNat (IntKind.wrap .i64 (t2 + t10)))) 0))]) (0 + (Int.toNat (IntKind.wrap .i64 (t2 + t10)))) [(AV.int .i64 (cIS R0 (0 + (Int.toNat (IntKind.wrap .i64 (t1 + t10)))) 0))])] [(Lf.i t1), (Lf.i t2), (Lf.i t3), (Lf.i (IntKind.wrap .i64 (t10 + (1 : Int)))), (Lf.r tb1)]; (try simp only [rappS_end, Nat.zero_add, Int.toNat_natCast]); exact (h.1 c0).2.2.2.2.2.2.2)⟩⟩⟩, trivial⟩⟩, trivial⟩⟩, trivial⟩⟩, trivial⟩⟩, trivial⟩⟩, trivial⟩⟩, ⟨⟨ndI hA (And.intro (by subst hA; exact (h.1 c0).2.2.2.1) (And.intro (by subst hA; exact (h.1 c0).2.2.2.2.1) rfl)), ⟨⟨ndI hA (And.intro rfl (by subst hA; show R0[(0 + (Int.toNat (IntKind.wrap .i64 (t2 + t10))))]? = some [(AV.int .i64 (cIS R0 (0 + (Int.toNat (IntKind.wrap .i64 (t2 + t10)))) 0))]; (try simp only [rappS_end, Nat.zero_add, Int.toNat_natCast]); exact (h.1 c0).2.2.1)), ⟨⟨ndI hA (And.intro rfl (by subst hA; show R0[(0 + (Int.toNat (IntKind.wrap .i64 (t1 + t10))))]? = some [(AV.int .i64 (cIS R0 (0 + (Int.toNat (IntKind.wrap .i64 (t1 + t10)))) 0))]; (try simp only [rappS_end, Nat.zero_add, Int.toNat_natCast]); exact (h.1 c0).2.2.2.2.2.1)), ⟨⟨ndI hA (And.intro (by subst hA; exact (h.1 c0).2.2.2.1) (And.intro (by subst hA; exact (h.1 c0).2.2.2.2.1) rfl)), ⟨⟨ndI hA (And.intro rfl (by subst hA; show R0[(0 + (Int.toNat (IntKind.wrap .i64 (t1 + t10))))]? = some [(AV.int .i64 (cIS R0 (0 + (Int.toNat (IntKind.wrap .i64 (t1 + t10)))) 0))]; (try simp only [rappS_end, Nat.zero_add, Int.toNat_natCast]); exact (h.1 c0).2.2.2.2.2.1)), ⟨⟨ndI hA (And.intro (by subst hA; exact (h.1 c0).1) (And.intro (by subst hA; exact (h.1 c0).2.1) (by subst hA; show (List.length R0) = (List.length (List.set R0 (0 + (Int.toNat (IntKind.wrap .i64 (t1 + t10)))) [(AV.int .i64 (cIS R0 (0 + (Int.toNat (IntKind.wrap .i64 (t2 + t10)))) 0))])); (first | rfl | simp [rappS_end] | (simp only [rappS_end, List.length_append, List.length_set, List.length_cons, List.length_nil]; omega))))), ⟨⟨ndI hA (And.intro (by subst hA; show (List.length R0) = (List.length (List.set R0 (0 + (Int.toNat (IntKind.wrap .i64 (t1 + t10)))) [(AV.int .i64 (cIS R0 (0 + (Int.toNat (IntKind.wrap .i64 (t2 + t10)))) 0))])); (first | rfl | simp [rappS_end] | (simp only [rappS_end, List.length_append, List.length_set, List.length_cons, List.length_nil]; omega))) (by subst hA; show (List.set R0 (0 + (Int.toNat (IntKind.wrap .i64 (t1 + t10)))) [(AV.int .i64 (cIS R0 (0 + (Int.toNat (IntKind.wrap .i64 (t2 + t10)))) 0))])[(0 + (Int.toNat (IntKind.wrap .i64 (t2 + t10))))]? = some [(AV.int .i64 (cIS (List.set R0 (0 + (Int.toNat (IntKind.wrap .i64 (t1 + t10)))) [(AV.int .i64 (cIS R0 (0 + (Int.toNat (IntKind.wrap .i64 (t2 + t10)))) 0))]) (0 + (Int.toNat (IntKind.wrap .i64 (t2 + t10)))) 0))]; (try simp only [rappS_end, Nat.zero_add, Int.toNat_natCast]); exact (h.1 c0).2.2.2.2.2.2.1)), ⟨ndI hA (And.intro (by subst hA; show (List.length R0) = (List.length (List.set (List.set R0 (0 + (Int.toNat (IntKind.wrap .i64 (t1 + t10)))) [(AV.int .i64 (cIS R0 (0 + (Int.toNat (IntKind.wrap .i64 (t2 + t10)))) 0))]) (0 + (Int.toNat (IntKind.wrap .i64 (t2 + t10)))) [(AV.int .i64 (cIS R0 (0 + (Int.toNat (IntKind.wrap .i64 (t1 + t10)))) 0))])); (first | rfl | simp [rappS_end] | (simp only [rappS_end, List.length_append, List.length_set, List.length_cons, List.length_nil]; omega))) (And.intro rfl (by subst hA; show (List.length R0) = (List.length (List.set (List.set R0 (0 + (Int.toNat (IntKind.wrap .i64 (t1 + t10)))) [(AV.int .i64 (cIS R0 (0 + (Int.toNat (IntKind.wrap .i64 (t2 + t10)))) 0))]) (0 + (Int.toNat (IntKind.wrap .i64 (t2 + t10)))) [(AV.int .i64 (cIS R0 (0 + (Int.toNat (IntKind.wrap .i64 (t1 + t10)))) 0))])); (first | rfl | simp [rappS_end] | (simp only [rappS_end, List.length_append, List.length_set, List.length_cons, List.length_nil]; omega))))), ⟨ndI hA (by subst hA; exact (vset (vset hp.1 rfl) rfl)), (by subst hA; show EV 4 [(List.set (List.set R0 (0 + (Int.toNat (IntKind.wrap .i64 (t1 + t10)))) [(AV.int .i64 (cIS R0 (0 + (Int.toNat (IntKind.wrap .i64 (t2 + t10)))) 0))]) (0 + (Int.toNat (IntKind.wrap .i64 (t2 + t10)))) [(AV.int .i64 (cIS R0 (0 + (Int.toNat (IntKind.wrap .i64 (t1 + t10)))) 0))])] [(Lf.i t1), (Lf.i t2), (Lf.i t3), (Lf.i (IntKind.wrap .i64 (t10 + (1 : Int)))), (Lf.r tb1)]; (try simp only [rappS_end, Nat.zero_add, Int.toNat_natCast]); exact (h.1 c0).2.2.2.2.2.2.2)⟩⟩⟩, trivial⟩⟩, trivial⟩⟩, trivial⟩⟩, trivial⟩⟩, trivial⟩⟩, ⟨⟨ndI hA (And.intro rfl (by subst hA; show R0[(0 + (Int.toNat (IntKind.wrap .i64 (t1 + t10))))]? = some [(AV.int .i64 (cIS R0 (0 + (Int.toNat (IntKind.wrap .i64 (t1 + t10)))) 0))]; (try simp only [rappS_end, Nat.zero_add, Int.toNat_natCast]); exact (h.1 c0).2.2.2.2.2.1)), ⟨⟨ndI hA (And.intro rfl (by subst hA; show R0[(0 + (Int.toNat (IntKind.wrap .i64 (t2 + t10))))]? = some [(AV.int .i64 (cIS R0 (0 + (Int.toNat (IntKind.wrap .i64 (t2 + t10)))) 0))]; (try simp only [rappS_end, Nat.zero_add, Int.toNat_natCast]); exact (h.1 c0).2.2.1)), ⟨⟨ndI hA (And.intro (by subst hA; exact (h.1 c0).2.2.2.1) (And.intro (by subst hA; exact (h.1 c0).2.2.2.2.1) rfl)), ⟨⟨ndI hA (And.intro rfl (by subst hA; show R0[(0 + (Int.toNat (IntKind.wrap .i64 (t1 + t10))))]? = some [(AV.int .i64 (cIS R0 (0 + (Int.toNat (IntKind.wrap .i64 (t1 + t10)))) 0))]; (try simp only [rappS_end, Nat.zero_add, Int.toNat_natCast]); exact (h.1 c0).2.2.2.2.2.1)), ⟨⟨ndI hA (And.intro (by subst hA; exact (h.1 c0).1) (And.intro (by subst hA; exact (h.1 c0).2.1) (by subst hA; show (List.length R0) = (List.length (List.set R0 (0 + (Int.toNat (IntKind.wrap .i64 (t1 + t10)))) [(AV.int .i64 (cIS R0 (0 + (Int.toNat (IntKind.wrap .i64 (t2 + t10)))) 0))])); (first | rfl | simp [rappS_end] | (simp only [rappS_end, List.length_append, List.length_set, List.length_cons, List.length_nil]; omega))))), ⟨⟨ndI hA (And.intro (by subst hA; show (List.length R0) = (List.length (List.set R0 (0 + (Int.toNat (IntKind.wrap .i64 (t1 + t10)))) [(AV.int .i64 (cIS R0 (0 + (Int.toNat (IntKind.wrap .i64 (t2 + t10)))) 0))])); (first | rfl | simp [rappS_end] | (simp only [rappS_end, List.length_append, List.length_set, List.length_cons, List.length_nil]; omega))) (by subst hA; show (List.set R0 (0 + (Int.toNat (IntKind.wrap .i64 (t1 + t10)))) [(AV.int .i64 (cIS R0 (0 + (Int.toNat (IntKind.wrap .i64 (t2 + t10)))) 0))])[(0 + (Int.toNat (IntKind.wrap .i64 (t2 + t10))))]? = some [(AV.int .i64 (cIS (List.set R0 (0 + (Int.toNat (IntKind.wrap .i64 (t1 + t10)))) [(AV.int .i64 (cIS R0 (0 + (Int.toNat (IntKind.wrap .i64 (t2 + t10)))) 0))]) (0 + (Int.toNat (IntKind.wrap .i64 (t2 + t10)))) 0))]; (try simp only [rappS_end, Nat.zero_add, Int.toNat_natCast]); exact (h.1 c0).2.2.2.2.2.2.1)), ⟨ndI hA (And.intro (by subst hA; show (List.length R0) = (List.length (List.set (List.set R0 (0 + (Int.toNat (IntKind.wrap .i64 (t1 + t10)))) [(AV.int .i64 (cIS R0 (0 + (Int.toNat (IntKind.wrap .i64 (t2 + t10)))) 0))]) (0 + (Int.toNat (IntKind.wrap .i64 (t2 + t10)))) [(AV.int .i64 (cIS R0 (0 + (Int.toNat (IntKind.wrap .i64 (t1 + t10)))) 0))])); (first | rfl | simp [rappS_end] | (simp only [rappS_end, List.length_append, List.length_set, List.length_cons, List.length_nil]; omega))) (And.intro rfl (by subst hA; show (List.length R0) = (List.length (List.set (List.set R0 (0 + (Int.toNat (IntKind.wrap .i64 (t1 + t10)))) [(AV.int .i64 (cIS R0 (0 + (Int.toNat (IntKind.wrap .i64 (t2 + t10)))) 0))]) (0 + (Int.toNat (IntKind.wrap .i64 (t2 + t10)))) [(AV.int .i64 (cIS R0 (0 + (Int.toNat (IntKind.wrap .i64 (t1 + t10)))) 0))])); (first | rfl | simp [rappS_end] | (simp only [rappS_end, List.length_append, List.length_set, List.length_cons, List.length_nil]; omega))))), ⟨ndI hA (by subst hA; exact (vset (vset hp.1 rfl) rfl)), (by subst hA; show EV 4 [(List.set (List.set R0 (0 + (Int.toNat (IntKind.wrap .i64 (t1 + t10)))) [(AV.int .i64 (cIS R0 (0 + (Int.toNat (IntKind.wrap .i64 (t2 + t10)))) 0))]) (0 + (Int.toNat (IntKind.wrap .i64 (t2 + t10)))) [(AV.int .i64 (cIS R0 (0 + (Int.toNat (IntKind.wrap .i64 (t1 + t10)))) 0))])] [(Lf.i t1), (Lf.i t2), (Lf.i t3), (Lf.i (IntKind.wrap .i64 (t10 + (1 : Int)))), (Lf.r tb1)]; (try simp only [rappS_end, Nat.zero_add, Int.toNat_natCast]); exact (h.1 c0).2.2.2.2.2.2.2)⟩⟩⟩, trivial⟩⟩, trivial⟩⟩, trivial⟩⟩, trivial⟩⟩, trivial⟩⟩, trivial⟩⟩⟩, trivial⟩⟩⟩, ⟨⟨ndI hA (And.intro (by subst hA; exact (h.1 c0).2.2.2.1) (And.intro (by subst hA; exact (h.1 c0).2.2.2.2.1) rfl)), ⟨⟨ndI hA (And.intro (by subst hA; exact (h.1 c0).1) (And.intro (by subst hA; exact (h.1 c0).2.1) rfl)), ⟨⟨ndI hA (And.intro rfl (by subst hA; show R0[(0 + (Int.toNat (IntKind.wrap .i64 (t2 + t10))))]? = some [(AV.int .i64 (cIS R0 (0 + (Int.toNat (IntKind.wrap .i64 (t2 + t10)))) 0))]; (try simp only [rappS_end, Nat.zero_add, Int.toNat_natCast]); exact (h.1 c0).2.2.1)), ⟨⟨ndI hA (And.intro rfl (by subst hA; show R0[(0 + (Int.toNat (IntKind.wrap .i64 (t1 + t10))))]? = some [(AV.int .i64 (cIS R0 (0 + (Int.toNat (IntKind.wrap .i64 (t1 + t10)))) 0))]; (try simp only [rappS_end, Nat.zero_add, Int.toNat_natCast]); exact (h.1 c0).2.2.2.2.2.1)), ⟨⟨ndI hA (And.intro (by subst hA; exact (h.1 c0).2.2.2.1) (And.intro (by subst hA; exact (h.1 c0).2.2.2.2.1) rfl)), ⟨⟨ndI hA (And.intro rfl (by subst hA; show R0[(0 + (Int.toNat (IntKind.wrap .i64 (t1 + t10))))]? = some [(AV.int .i64 (cIS R0 (0 + (Int.toNat (IntKind.wrap .i64 (t1 + t10)))) 0))]; (try simp only [rappS_end, Nat.zero_add, Int.toNat_natCast]); exact (h.1 c0).2.2.2.2.2.1)), ⟨⟨ndI hA (And.intro (by subst hA; exact (h.1 c0).1) (And.intro (by subst hA; exact (h.1 c0).2.1) (by subst hA; show (List.length R0) = (List.length (List.set R0 (0 + (Int.toNat (IntKind.wrap .i64 (t1 + t10)))) [(AV.int .i64 (cIS R0 (0 + (Int.toNat (IntKind.wrap .i64 (t2 + t10)))) 0))])); (first | rfl | simp [rappS_end] | (simp only [rappS_end, List.length_append, List.length_set, List.length_cons, List.length_nil]; omega))))), ⟨⟨ndI hA (And.intro (by subst hA; show (List.length R0) = (List.length (List.set R0 (0 + (Int.toNat (IntKind.wrap .i64 (t1 + t10)))) [(AV.int .i64 (cIS R0 (0 + (Int.toNat (IntKind.wrap .i64 (t2 + t10)))) 0))])); (first | rfl | simp [rappS_end] | (simp only [rappS_end, List.length_append, List.length_set, List.length_cons, List.length_nil]; omega))) (by subst hA; show (List.set R0 (0 + (Int.toNat (IntKind.wrap .i64 (t1 + t10)))) [(AV.int .i64 (cIS R0 (0 + (Int.toNat (IntKind.wrap .i64 (t2 + t10)))) 0))])[(0 + (Int.toNat (IntKind.wrap .i64 (t2 + t10))))]? = some [(AV.int .i64 (cIS (List.set R0 (0 + (Int.toNat (IntKind.wrap .i64 (t1 + t10)))) [(AV.int .i64 (cIS R0 (0 + (Int.toNat (IntKind.wrap .i64 (t2 + t10)))) 0))]) (0 + (Int.toNat (IntKind.wrap .i64 (t2 + t10)))) 0))]; (try simp only [rappS_end, Nat.zero_add, Int.toNat_natCast]); exact (h.1 c0).2.2.2.2.2.2.1)), ⟨ndI hA (And.intro (by subst hA; show (List.length R0) = (List.length (List.set (List.set R0 (0 + (Int.toNat (IntKind.wrap .i64 (t1 + t10)))) [(AV.int .i64 (cIS R0 (0 + (Int.toNat (IntKind.wrap .i64 (t2 + t10)))) 0))]) (0 + (Int.toNat (IntKind.wrap .i64 (t2 + t10)))) [(AV.int .i64 (cIS R0 (0 + (Int.toNat (IntKind.wrap .i64 (t1 + t10)))) 0))])); (first | rfl | simp [rappS_end] | (simp only [rappS_end, List.length_append, List.length_set, List.length_cons, List.length_nil]; omega))) (And.intro rfl (by subst hA; show (List.length R0) = (List.length (List.set (List.set R0 (0 + (Int.toNat (IntKind.wrap .i64 (t1 + t10)))) [(AV.int .i64 (cIS R0 (0 + (Int.toNat (IntKind.wrap .i64 (t2 + t10)))) 0))]) (0 + (Int.toNat (IntKind.wrap .i64 (t2 + t10)))) [(AV.int .i64 (cIS R0 (0 + (Int.toNat (IntKind.wrap .i64 (t1 + t10)))) 0))])); (first | rfl | simp [rappS_end] | (simp only [rappS_end, List.length_append, List.length_set, List.length_cons, List.length_nil]; omega))))), ⟨ndI hA (by subst hA; exact (vset (vset hp.1 rfl) rfl)), (by subst hA; show EV 4 [(List.set (List.set R0 (0 + (Int.toNat (IntKind.wrap .i64 (t1 + t10)))) [(AV.int .i64 (cIS R0 (0 + (Int.toNat (IntKind.wrap .i64 (t2 + t10)))) 0))]) (0 + (Int.toNat (IntKind.wrap .i64 (t2 + t10)))) [(AV.int .i64 (cIS R0 (0 + (Int.toNat (IntKind.wrap .i64 (t1 + t10)))) 0))])] [(Lf.i t1), (Lf.i t2), (Lf.i t3), (Lf.i (IntKind.wrap .i64 (t10 + (1 : Int)))), (Lf.r tb1)]; (try simp only [rappS_end, Nat.zero_add, Int.toNat_natCast]); exact (h.1 c0).2.2.2.2.2.2.2)⟩⟩⟩, trivial⟩⟩, trivial⟩⟩, trivial⟩⟩, trivial⟩⟩, trivial⟩⟩, ⟨⟨ndI hA (And.intro rfl (by subst hA; show R0[(0 + (Int.toNat (IntKind.wrap .i64 (t1 + t10))))]? = some [(AV.int .i64 (cIS R0 (0 + (Int.toNat (IntKind.wrap .i64 (t1 + t10)))) 0))]; (try simp only [rappS_end, Nat.zero_add, Int.toNat_natCast]); exact (h.1 c0).2.2.2.2.2.1)), ⟨⟨ndI hA (And.intro rfl (by subst hA; show R0[(0 + (Int.toNat (IntKind.wrap .i64 (t2 + t10))))]? = some [(AV.int .i64 (cIS R0 (0 + (Int.toNat (IntKind.wrap .i64 (t2 + t10)))) 0))]; (try simp only [rappS_end, Nat.zero_add, Int.toNat_natCast]); exact (h.1 c0).2.2.1)), ⟨⟨ndI hA (And.intro (by subst hA; exact (h.1 c0).2.2.2.1) (And.intro (by subst hA; exact (h.1 c0).2.2.2.2.1) rfl)), ⟨⟨ndI hA (And.intro rfl (by subst hA; show R0[(0 + (Int.toNat (IntKind.wrap .i64 (t1 + t10))))]? = some [(AV.int .i64 (cIS R0 (0 + (Int.toNat (IntKind.wrap .i64 (t1 + t10)))) 0))]; (try simp only [rappS_end, Nat.zero_add, Int.toNat_natCast]); exact (h.1 c0).2.2.2.2.2.1)), ⟨⟨ndI hA (And.intro (by subst hA; exact (h.1 c0).1) (And.intro (by subst hA; exact (h.1 c0).2.1) (by subst hA; show (List.length R0) = (List.length (List.set R0 (0 + (Int.toNat (IntKind.wrap .i64 (t1 + t10)))) [(AV.int .i64 (cIS R0 (0 + (Int.toNat (IntKind.wrap .i64 (t2 + t10)))) 0))])); (first | rfl | simp [rappS_end] | (simp only [rappS_end, List.length_append, List.length_set, List.length_cons, List.length_nil]; omega))))), ⟨⟨ndI hA (And.intro (by subst hA; show (List.length R0) = (List.length (List.set R0 (0 + (Int.toNat (IntKind.wrap .i64 (t1 + t10)))) [(AV.int .i64 (cIS R0 (0 + (Int.toNat (IntKind.wrap .i64 (t2 + t10)))) 0))])); (first | rfl | simp [rappS_end] | (simp only [rappS_end, List.length_append, List.length_set, List.length_cons, List.length_nil]; omega))) (by subst hA; show (List.set R0 (0 + (Int.toNat (IntKind.wrap .i64 (t1 + t10)))) [(AV.int .i64 (cIS R0 (0 + (Int.toNat (IntKind.wrap .i64 (t2 + t10)))) 0))])[(0 + (Int.toNat (IntKind.wrap .i64 (t2 + t10))))]? = some [(AV.int .i64 (cIS (List.set R0 (0 + (Int.toNat (IntKind.wrap .i64 (t1 + t10)))) [(AV.int .i64 (cIS R0 (0 + (Int.toNat (IntKind.wrap .i64 (t2 + t10)))) 0))]) (0 + (Int.toNat (IntKind.wrap .i64 (t2 + t10)))) 0))]; (try simp only [rappS_end, Nat.zero_add, Int.toNat_natCast]); exact (h.1 c0).2.2.2.2.2.2.1)), ⟨ndI hA (And.intro (by subst hA; show (List.length R0) = (List.length (List.set (List.set R0 (0 + (Int.toNat (IntKind.wrap .i64 (t1 + t10)))) [(AV.int .i64 (cIS R0 (0 + (Int.toNat (IntKind.wrap .i64 (t2 + t10)))) 0))]) (0 + (Int.toNat (IntKind.wrap .i64 (t2 + t10)))) [(AV.int .i64 (cIS R0 (0 + (Int.toNat (IntKind.wrap .i64 (t1 + t10)))) 0))])); (first | rfl | simp [rappS_end] | (simp only [rappS_end, List.length_append, List.length_set, List.length_cons, List.length_nil]; omega))) (And.intro rfl (by subst hA; show (List.length R0) = (List.length (List.set (List.set R0 (0 + (Int.toNat (IntKind.wrap .i64 (t1 + t10)))) [(AV.int .i64 (cIS R0 (0 + (Int.toNat (IntKind.wrap .i64 (t2 + t10)))) 0))]) (0 + (Int.toNat (IntKind.wrap .i64 (t2 + t10)))) [(AV.int .i64 (cIS R0 (0 + (Int.toNat (IntKind.wrap .i64 (t1 + t10)))) 0))])); (first | rfl | simp [rappS_end] | (simp only [rappS_end, List.length_append, List.length_set, List.length_cons, List.length_nil]; omega))))), ⟨ndI hA (by subst hA; exact (vset (vset hp.1 rfl) rfl)), (by subst hA; show EV 4 [(List.set (List.set R0 (0 + (Int.toNat (IntKind.wrap .i64 (t1 + t10)))) [(AV.int .i64 (cIS R0 (0 + (Int.toNat (IntKind.wrap .i64 (t2 + t10)))) 0))]) (0 + (Int.toNat (IntKind.wrap .i64 (t2 + t10)))) [(AV.int .i64 (cIS R0 (0 + (Int.toNat (IntKind.wrap .i64 (t1 + t10)))) 0))])] [(Lf.i t1), (Lf.i t2), (Lf.i t3), (Lf.i (IntKind.wrap .i64 (t10 + (1 : Int)))), (Lf.r tb1)]; (try simp only [rappS_end, Nat.zero_add, Int.toNat_natCast]); exact (h.1 c0).2.2.2.2.2.2.2)⟩⟩⟩, trivial⟩⟩, trivial⟩⟩, trivial⟩⟩, trivial⟩⟩, trivial⟩⟩, trivial⟩⟩⟩, ⟨⟨ndI hA (And.intro rfl (by subst hA; show R0[(0 + (Int.toNat (IntKind.wrap .i64 (t1 + t10))))]? = some [(AV.int .i64 (cIS R0 (0 + (Int.toNat (IntKind.wrap .i64 (t1 + t10)))) 0))]; (try simp only [rappS_end, Nat.zero_add, Int.toNat_natCast]); exact (h.1 c0).2.2.2.2.2.1)), ⟨⟨ndI hA (And.intro (by subst hA; exact (h.1 c0).1) (And.intro (by subst hA; exact (h.1 c0).2.1) rfl)), ⟨⟨ndI hA (And.intro rfl (by subst hA; show R0[(0 + (Int.toNat (IntKind.wrap .i64 (t2 + t10))))]? = some [(AV.int .i64 (cIS R0 (0 + (Int.toNat (IntKind.wrap .i64 (t2 + t10)))) 0))]; (try simp only [rappS_end, Nat.zero_add, Int.toNat_natCast]); exact (h.1 c0).2.2.1)), ⟨⟨ndI hA (And.intro (by subst hA; exact (h.1 c0).2.2.2.1) (And.intro (by subst hA; exact (h.1 c0).2.2.2.2.1) rfl)), ⟨⟨ndI hA (And.intro rfl (by subst hA; show R0[(0 + (Int.toNat (IntKind.wrap .i64 (t1 + t10))))]? = some [(AV.int .i64 (cIS R0 (0 + (Int.toNat (IntKind.wrap .i64 (t1 + t10)))) 0))]; (try simp only [rappS_end, Nat.zero_add, Int.toNat_natCast]); exact (h.1 c0).2.2.2.2.2.1)), ⟨⟨ndI hA (And.intro (by subst hA; exact (h.1 c0).1) (And.intro (by subst hA; exact (h.1 c0).2.1) (by subst hA; show (List.length R0) = (List.length (List.set R0 (0 + (Int.toNat (IntKind.wrap .i64 (t1 + t10)))) [(AV.int .i64 (cIS R0 (0 + (Int.toNat (IntKind.wrap .i64 (t2 + t10)))) 0))])); (first | rfl | simp [rappS_end] | (simp only [rappS_end, List.length_append, List.length_set, List.length_cons, List.length_nil]; omega))))), ⟨⟨ndI hA (And.intro (by subst hA; show (List.length R0) = (List.length (List.set R0 (0 + (Int.toNat (IntKind.wrap .i64 (t1 + t10)))) [(AV.int .i64 (cIS R0 (0 + (Int.toNat (IntKind.wrap .i64 (t2 + t10)))) 0))])); (first | rfl | simp [rappS_end] | (simp only [rappS_end, List.length_append, List.length_set, List.length_cons, List.length_nil]; omega))) (by subst hA; show (List.set R0 (0 + (Int.toNat (IntKind.wrap .i64 (t1 + t10)))) [(AV.int .i64 (cIS R0 (0 + (Int.toNat (IntKind.wrap .i64 (t2 + t10)))) 0))])[(0 + (Int.toNat (IntKind.wrap .i64 (t2 + t10))))]? = some [(AV.int .i64 (cIS (List.set R0 (0 + (Int.toNat (IntKind.wrap .i64 (t1 + t10)))) [(AV.int .i64 (cIS R0 (0 + (Int.toNat (IntKind.wrap .i64 (t2 + t10)))) 0))]) (0 + (Int.toNat (IntKind.wrap .i64 (t2 + t10)))) 0))]; (try simp only [rappS_end, Nat.zero_add, Int.toNat_natCast]); exact (h.1 c0).2.2.2.2.2.2.1)), ⟨ndI hA (And.intro (by subst hA; show (List.length R0) = (List.length (List.set (List.set R0 (0 + (Int.toNat (IntKind.wrap .i64 (t1 + t10)))) [(AV.int .i64 (cIS R0 (0 + (Int.toNat (IntKind.wrap .i64 (t2 + t10)))) 0))]) (0 + (Int.toNat (IntKind.wrap .i64 (t2 + t10)))) [(AV.int .i64 (cIS R0 (0 + (Int.toNat (IntKind.wrap .i64 (t1 + t10)))) 0))])); (first | rfl | simp [rappS_end] | (simp only [rappS_end, List.length_append, List.length_set, List.length_cons, List.length_nil]; omega))) (And.intro rfl (by subst hA; show (List.length R0) = (List.length (List.set (List.set R0 (0 + (Int.toNat (IntKind.wrap .i64 (t1 + t10)))) [(AV.int .i64 (cIS R0 (0 + (Int.toNat (IntKind.wrap .i64 (t2 + t10)))) 0))]) (0 + (Int.toNat (IntKind.wrap .i64 (t2 + t10)))) [(AV.int .i64 (cIS R0 (0 + (Int.toNat (IntKind.wrap .i64 (t1 + t10)))) 0))])); (first | rfl | simp [rappS_end] | (simp only [rappS_end, List.length_append, List.length_set, List.length_cons, List.length_nil]; omega))))), ⟨ndI hA (by subst hA; exact (vset (vset hp.1 rfl) rfl)), (by subst hA; show EV 4 [(List.set (List.set R0 (0 + (Int.toNat (IntKind.wrap .i64 (t1 + t10)))) [(AV.int .i64 (cIS R0 (0 + (Int.toNat (IntKind.wrap .i64 (t2 + t10)))) 0))]) (0 + (Int.toNat (IntKind.wrap .i64 (t2 + t10)))) [(AV.int .i64 (cIS R0 (0 + (Int.toNat (IntKind.wrap .i64 (t1 + t10)))) 0))])] [(Lf.i t1), (Lf.i t2), (Lf.i t3), (Lf.i (IntKind.wrap .i64 (t10 + (1 : Int)))), (Lf.r tb1)]; (try simp only [rappS_end, Nat.zero_add, Int.toNat_natCast]); exact (h.1 c0).2.2.2.2.2.2.2)⟩⟩⟩, trivial⟩⟩, trivial⟩⟩, trivial⟩⟩, trivial⟩⟩, trivial⟩⟩, trivial⟩⟩, trivial⟩⟩⟩, trivial⟩⟩, imI hA fun e0 => have c0 : t10 ≥ t3 := (by have q := (cmpE (op := .lss) hA e0); subst hA; exact q); ⟨ndI hA (by subst hA; exact hp.1), (by rw [W.rr]; exact (by subst hA; exact (h.2 c0)))⟩⟩

end
set_option maxHeartbeats 0 in
/-- To enter. -/
theorem E99 {Q : Nat → Rs → List Lf → Prop} {R0 : List (List AV)} {a1 : Int} {a2 : Int} {a3 : Int} {ab1 : List (List AV)} (h : pursS R0 = true → ∀ EV : Nat → Rs → List Lf → Prop, V99 EV Q →
    EV 4 [R0] [(Lf.i a1), (Lf.i a2), (Lf.i a3), (Lf.i (0 : Int)), (Lf.r ab1)]) :
    EC Try.prog G99 [R0] [.i a1, .i a2, .i a3, .r ab1] Q := by
  obtain ⟨A, hA⟩ : ∃ A, A = arS := ⟨_, rfl⟩
  refine Inst.enter (I := I99) hA mixed F99_at sg L99 80 rfl fun CE CK Dn EV RR W hp => ?_
  have h := h hp.1 EV (V99.of W)
  cbv
  refine ⟨ndI hA (And.intro rfl (And.intro rfl rfl)), ⟨ndI hA (by subst hA; exact hp.1), (by subst hA; exact h)⟩⟩

-- 93: slices.rotateCmpFunc[int]
section
structure V93 (EV Q : Nat → Rs → List Lf → Prop) : Prop where
  p7 : ∀ {R0 : List (List AV)} {t2 : Int} {t10 : Int} {t11 : Int} {tb1 : List (List AV)}, (pursS R0 = true → 
    (t10 ≠ t11 →
      (t10 > t11 →
        EC Try.prog G99 [R0] [(Lf.i (IntKind.wrap .i64 (t2 - t10))), (Lf.i t2), (Lf.i t11), (Lf.r tb1)] (fun x rs vs => (x = 0 ∧ ∃ (Y2_0 : List (List AV)) (y2_b1 : List (List AV)), rs = [Y2_0] ∧ vs = [.r y2_b1] ∧
          (((List.length R0) = (List.length Y2_0)) ∧
            (EV 7 [Y2_0] [(Lf.i t2), (Lf.i (IntKind.wrap .i64 (t10 - t11))), (Lf.i t11), (Lf.r y2_b1)]))))) ∧
      (t10 ≤ t11 →
        EC Try.prog G99 [R0] [(Lf.i (IntKind.wrap .i64 (t2 - t10))), (Lf.i (IntKind.wrap .i64 ((IntKind.wrap .i64 (t2 + t11)) - t10))), (Lf.i t10), (Lf.r tb1)] (fun x rs vs => (x = 0 ∧ ∃ (Y2_0 : List (List AV)) (y2_b1 : List (List AV)), rs = [Y2_0] ∧ vs = [.r y2_b1] ∧
          (((List.length R0) = (List.length Y2_0)) ∧
            (EV 7 [Y2_0] [(Lf.i t2), (Lf.i t10), (Lf.i (IntKind.wrap .i64 (t11 - t10))), (Lf.r y2_b1)])))))) ∧
    (t10 = t11 →
      EC Try.prog G99 [R0] [(Lf.i (IntKind.wrap .i64 (t2 - t10))), (Lf.i t2), (Lf.i t10), (Lf.r tb1)] (fun x rs vs => (x = 0 ∧ ∃ (Y1_0 : List (List AV)) (y1_b1 : List (List AV)), rs = [Y1_0] ∧ vs = [.r y1_b1] ∧
        (Q 0 [Y1_0] [(Lf.r y1_b1)]))))) →
    EV 7 [R0] [.i t2, .i t10, .i t11, .r tb1]

set_option maxHeartbeats 0 in
theorem V93.of {Q : Nat → Rs → List Lf → Prop} {A : Ar} {CE : Nat → Rs → List Lf → (Nat → Rs → List Lf → Prop) → Prop} {CK : Nat → Rs → List Lf → Cont → Prop} {Dn : Nat → List Bool → List AItem → Nat → List Bool → List AV → List ABlk → Prop} {EV RR : Nat → Rs → List Lf → Prop} (W : Wk Try.prog Try.f93 I93 L93 Q A sg CE CK Dn EV RR) : V93 EV Q := by
  have hA := W.hA
  refine ⟨?_⟩
  · intro R0 t2 t10 t11 tb1 h
    refine W.step 80 fun hp => ?_
    have h := h hp.1
    cbv
    refine ⟨imI hA fun e0 => have c0 : t10 ≠ t11 := (by have q := (cmpE (op := .neq) hA e0); subst hA; exact q); ⟨imI hA fun e1 => have c1 : t10 > t11 := (by have q := (cmpE (op := .gtr) hA e1); subst hA; exact q); ⟨ndI hA (And.intro rfl (And.intro rfl rfl)), ⟨ndI hA (by subst hA; exact hp.1), ?_⟩⟩, imI hA fun e1 => have c1 : t10 ≤ t11 := (by have q := (cmpE (op := .gtr) hA e1); subst hA; exact q); ⟨ndI hA (And.intro rfl (And.intro rfl rfl)), ⟨ndI hA (by subst hA; exact hp.1), ?_⟩⟩⟩, imI hA fun e0 => have c0 : t10 = t11 := (by have q := (cmpE (op := .neq) hA e0); subst hA; exact q); ⟨ndI hA (And.intro rfl (And.intro rfl rfl)), ⟨ndI hA (by subst hA; exact hp.1), ?_⟩⟩⟩
    · refine W.call 80 (by rfl) ((h.1 c0).1 c1) (by subst hA; rfl) (by subst hA; rfl) ?_
      rintro x rs vs hp2 hq2
      rcases hq2 with ⟨rfl, Y2_0, y2_b1, rfl, rfl, k2⟩
      · cbv
        refine ⟨ndI hA (And.intro (by subst hA; exact k2.1) (And.intro rfl (by subst hA; exact k2.1))), ⟨ndI hA (by subst hA; exact hp2.1), (by subst hA; exact k2.2)⟩⟩
    · refine W.call 80 (by rfl) ((h.1 c0).2 c1) (by subst hA; rfl) (by subst hA; rfl) ?_
      rintro x rs vs hp2 hq2
      rcases hq2 with ⟨rfl, Y2_0, y2_b1, rfl, rfl, k2⟩
      · cbv
        refine ⟨ndI hA (And.intro (by subst hA; exact k2.1) (And.intro rfl (by subst hA; exact k2.1))), ⟨ndI hA (by subst hA; exact hp2.1), (by subst hA; exact k2.2)⟩⟩
    · refine W.call 80 (by rfl) (h.2 c0) (by subst hA; rfl) (by subst hA; rfl) ?_
      rintro x rs vs hp1 hq1
      rcases hq1 with ⟨rfl, Y1_0, y1_b1, rfl, rfl, k1⟩
      · cbv
        refine ⟨ndI hA (by subst hA; exact hp1.1), (by rw [W.rr]; exact (by subst hA; exact k1))⟩

end
set_option maxHeartbeats 0 in
/-- To enter. -/
theorem E93 {Q : Nat → Rs → List Lf → Prop} {R0 : List (List AV)} {a1 : Int} {a2 : Int} {a3 : Int} {ab1 : List (List AV)} (h : pursS R0 = true → ∀ EV : Nat → Rs → List Lf → Prop, V93 EV Q →
    EV 7 [R0] [(Lf.i a2), (Lf.i (IntKind.wrap .i64 (a2 - a1))), (Lf.i (IntKind.wrap .i64 (a3 - a2))), (Lf.r ab1)]) :
    EC Try.prog G93 [R0] [.i a1, .i a2, .i a3, .r ab1] Q := by
  obtain ⟨A, hA⟩ : ∃ A, A = arS := ⟨_, rfl⟩
  refine Inst.enter (I := I93) hA mixed F93_at sg L93 80 rfl fun CE CK Dn EV RR W hp => ?_
  have h := h hp.1 EV (V93.of W)
  cbv
  refine ⟨ndI hA (And.intro rfl (And.intro rfl rfl)), ⟨ndI hA (by subst hA; exact hp.1), (by subst hA; exact h)⟩⟩

-- 83: slices.symMergeCmpFunc[int] DRAWN
section
structure V83 (EV Q : Nat → Rs → List Lf → Prop) : Prop where
  p11 : ∀ {R0 : List (List AV)} {t1 : Int} {t10 : Int} {t11 : Int} {tb1 : List (List AV)}, (pursS R0 = true → 
    (t10 < t11 →
      ((0 : Int) ≤ (1 : Int)) ∧
      ((0 : Int) ≤ (IntKind.wrap .i64 (iopS .shr .u64 (IntKind.wrap .u64 (IntKind.wrap .i64 (t10 + t11))) (1 : Int)))) ∧
      ((IntKind.wrap .i64 (iopS .shr .u64 (IntKind.wrap .u64 (IntKind.wrap .i64 (t10 + t11))) (1 : Int))) < (((List.length R0) : Nat) : Int)) ∧
      (R0[(Int.toNat (IntKind.wrap .i64 (iopS .shr .u64 (IntKind.wrap .u64 (IntKind.wrap .i64 (t10 + t11))) (1 : Int))))]? = some [(AV.int .i64 (cIS R0 (Int.toNat (IntKind.wrap .i64 (iopS .shr .u64 (IntKind.wrap .u64 (IntKind.wrap .i64 (t10 + t11))) (1 : Int)))) 0))]) ∧
      ((0 : Int) ≤ t1) ∧
      (t1 < (((List.length R0) : Nat) : Int)) ∧
      (R0[(Int.toNat t1)]? = some [(AV.int .i64 (cIS R0 (Int.toNat t1) 0))]) ∧
      (EC Try.prog G62 [] [(Lf.i (cIS R0 (Int.toNat (IntKind.wrap .i64 (iopS .shr .u64 (IntKind.wrap .u64 (IntKind.wrap .i64 (t10 + t11))) (1 : Int)))) 0)), (Lf.i (cIS R0 (Int.toNat t1) 0)), (Lf.r tb1)] (fun x rs vs => (x = 0 ∧ ∃ (y1_0 : Int) (y1_b0 : List (List AV)), rs = [] ∧ vs = [.i y1_0, .r y1_b0] ∧
        ((y1_0 < (0 : Int) →
            EV 11 [R0] [(Lf.i t1), (Lf.i (IntKind.wrap .i64 ((IntKind.wrap .i64 (iopS .shr .u64 (IntKind.wrap .u64 (IntKind.wrap .i64 (t10 + t11))) (1 : Int))) + (1 : Int)))), (Lf.i t11), (Lf.r y1_b0)]) ∧
          (y1_0 ≥ (0 : Int) →
            EV 11 [R0] [(Lf.i t1), (Lf.i t10), (Lf.i (IntKind.wrap .i64 (iopS .shr .u64 (IntKind.wrap .u64 (IntKind.wrap .i64 (t10 + t11))) (1 : Int)))), (Lf.r y1_b0)])))))) ∧
    (t10 ≥ t11 →
      EV 30 [R0] [(Lf.i t10), (Lf.i t1), (Lf.r tb1)])) →
    EV 11 [R0] [.i t1, .i t10, .i t11, .r tb1]
  p30 : ∀ {R0 : List (List AV)} {t10 : Int} {t13 : Int} {tb1 : List (List AV)}, (pursS R0 = true → 
    (t13 < (IntKind.wrap .i64 (t10 - (1 : Int))) →
      ((0 : Int) ≤ (IntKind.wrap .i64 (t13 + (1 : Int)))) ∧
      ((IntKind.wrap .i64 (t13 + (1 : Int))) < (((List.length R0) : Nat) : Int)) ∧
      (R0[(Int.toNat (IntKind.wrap .i64 (t13 + (1 : Int))))]? = some [(AV.int .i64 (cIS R0 (Int.toNat (IntKind.wrap .i64 (t13 + (1 : Int)))) 0))]) ∧
      ((0 : Int) ≤ t13) ∧
      (t13 < (((List.length R0) : Nat) : Int)) ∧
      (R0[(Int.toNat t13)]? = some [(AV.int .i64 (cIS R0 (Int.toNat t13) 0))]) ∧
      ((List.set R0 (Int.toNat t13) [(AV.int .i64 (cIS R0 (Int.toNat (IntKind.wrap .i64 (t13 + (1 : Int)))) 0))])[(Int.toNat (IntKind.wrap .i64 (t13 + (1 : Int))))]? = some [(AV.int .i64 (cIS (List.set R0 (Int.toNat t13) [(AV.int .i64 (cIS R0 (Int.toNat (IntKind.wrap .i64 (t13 + (1 : Int)))) 0))]) (Int.toNat (IntKind.wrap .i64 (t13 + (1 : Int)))) 0))]) ∧
      (EV 30 [(List.set (List.set R0 (Int.toNat t13) [(AV.int .i64 (cIS R0 (Int.toNat (IntKind.wrap .i64 (t13 + (1 : Int)))) 0))]) (Int.toNat (IntKind.wrap .i64 (t13 + (1 : Int)))) [(AV.int .i64 (cIS R0 (Int.toNat t13) 0))])] [(Lf.i t10), (Lf.i (IntKind.wrap .i64 (t13 + (1 : Int)))), (Lf.r tb1)])) ∧
    (t13 ≥ (IntKind.wrap .i64 (t10 - (1 : Int))) →
      Q 0 [R0] [(Lf.r tb1)])) →
    EV 30 [R0] [.i t10, .i t13, .r tb1]
  p53 : ∀ {R0 : List (List AV)} {t2 : Int} {t14 : Int} {t15 : Int} {tb1 : List (List AV)}, (pursS R0 = true → 
    (t14 < t15 →
      ((0 : Int) ≤ (1 : Int)) ∧
      ((0 : Int) ≤ t2) ∧
      (t2 < (((List.length R0) : Nat) : Int)) ∧
      (R0[(Int.toNat t2)]? = some [(AV.int .i64 (cIS R0 (Int.toNat t2) 0))]) ∧
      ((0 : Int) ≤ (IntKind.wrap .i64 (iopS .shr .u64 (IntKind.wrap .u64 (IntKind.wrap .i64 (t14 + t15))) (1 : Int)))) ∧
      ((IntKind.wrap .i64 (iopS .shr .u64 (IntKind.wrap .u64 (IntKind.wrap .i64 (t14 + t15))) (1 : Int))) < (((List.length R0) : Nat) : Int)) ∧
      (R0[(Int.toNat (IntKind.wrap .i64 (iopS .shr .u64 (IntKind.wrap .u64 (IntKind.wrap .i64 (t14 + t15))) (1 : Int))))]? = some [(AV.int .i64 (cIS R0 (Int.toNat (IntKind.wrap .i64 (iopS .shr .u64 (IntKind.wrap .u64 (IntKind.wrap .i64 (t14 + t15))) (1 : Int)))) 0))]) ∧
      (EC Try.prog G62 [] [(Lf.i (cIS R0 (Int.toNat t2) 0)), (Lf.i (cIS R0 (Int.toNat (IntKind.wrap .i64 (iopS .shr .u64 (IntKind.wrap .u64 (IntKind.wrap .i64 (t14 + t15))) (1 : Int)))) 0)), (Lf.r tb1)] (fun x rs vs => (x = 0 ∧ ∃ (y1_0 : Int) (y1_b0 : List (List AV)), rs = [] ∧ vs = [.i y1_0, .r y1_b0] ∧
        ((y1_0 ≥ (0 : Int) →
            EV 53 [R0] [(Lf.i t2), (Lf.i (IntKind.wrap .i64 ((IntKind.wrap .i64 (iopS .shr .u64 (IntKind.wrap .u64 (IntKind.wrap .i64 (t14 + t15))) (1 : Int))) + (1 : Int)))), (Lf.i t15), (Lf.r y1_b0)]) ∧
          (y1_0 < (0 : Int) →
            EV 53 [R0] [(Lf.i t2), (Lf.i t14), (Lf.i (IntKind.wrap .i64 (iopS .shr .u64 (IntKind.wrap .u64 (IntKind.wrap .i64 (t14 + t15))) (1 : Int)))), (Lf.r y1_b0)])))))) ∧
    (t14 ≥ t15 →
      EV 72 [R0] [(Lf.i t14), (Lf.i t2), (Lf.r tb1)])) →
    EV 53 [R0] [.i t2, .i t14, .i t15, .r tb1]
  p72 : ∀ {R0 : List (List AV)} {t14 : Int} {t17 : Int} {tb1 : List (List AV)}, (pursS R0 = true → 
    (t17 > t14 →
      ((0 : Int) ≤ (IntKind.wrap .i64 (t17 - (1 : Int)))) ∧
      ((IntKind.wrap .i64 (t17 - (1 : Int))) < (((List.length R0) : Nat) : Int)) ∧
      (R0[(Int.toNat (IntKind.wrap .i64 (t17 - (1 : Int))))]? = some [(AV.int .i64 (cIS R0 (Int.toNat (IntKind.wrap .i64 (t17 - (1 : Int)))) 0))]) ∧
      ((0 : Int) ≤ t17) ∧
      (t17 < (((List.length R0) : Nat) : Int)) ∧
      (R0[(Int.toNat t17)]? = some [(AV.int .i64 (cIS R0 (Int.toNat t17) 0))]) ∧
      ((List.set R0 (Int.toNat t17) [(AV.int .i64 (cIS R0 (Int.toNat (IntKind.wrap .i64 (t17 - (1 : Int)))) 0))])[(Int.toNat (IntKind.wrap .i64 (t17 - (1 : Int))))]? = some [(AV.int .i64 (cIS (List.set R0 (Int.toNat t17) [(AV.int .i64 (cIS R0 (Int.toNat (IntKind.wrap .i64 (t17 - (1 : Int)))) 0))]) (Int.toNat (IntKind.wrap .i64 (t17 - (1 : Int)))) 0))]) ∧
      (EV 72 [(List.set (List.set R0 (Int.toNat t17) [(AV.int .i64 (cIS R0 (Int.toNat (IntKind.wrap .i64 (t17 - (1 : Int)))) 0))]) (Int.toNat (IntKind.wrap .i64 (t17 - (1 : Int)))) [(AV.int .i64 (cIS R0 (Int.toNat t17) 0))])] [(Lf.i t14), (Lf.i (IntKind.wrap .i64 (t17 - (1 : Int)))), (Lf.r tb1)])) ∧
    (t17 ≤ t14 →
      Q 0 [R0] [(Lf.r tb1)])) →
    EV 72 [R0] [.i t14, .i t17, .r tb1]
  p100 : ∀ {R0 : List (List AV)} {t1 : Int} {t2 : Int} {t3 : Int} {t18 : Int} {t19 : Int} {t20 : Int} {t21 : Int} {tb1 : List (List AV)}, (pursS R0 = true → 
    EV 105 [R0] [(Lf.i t1), (Lf.i t2), (Lf.i t3), (Lf.i t18), (Lf.i t19), (Lf.i t20), (Lf.i t21), (Lf.i (IntKind.wrap .i64 (t19 - (1 : Int)))), (Lf.r tb1)]) →
    EV 100 [R0] [.i t1, .i t2, .i t3, .i t18, .i t19, .i t20, .i t21, .r tb1]
  p105 : ∀ {R0 : List (List AV)} {t1 : Int} {t2 : Int} {t3 : Int} {t18 : Int} {t19 : Int} {t20 : Int} {t21 : Int} {t22 : Int} {tb1 : List (List AV)}, (pursS R0 = true → 
    (t20 < t21 →
      ((0 : Int) ≤ (1 : Int)) ∧
      ((0 : Int) ≤ (IntKind.wrap .i64 (t22 - (IntKind.wrap .i64 (iopS .shr .u64 (IntKind.wrap .u64 (IntKind.wrap .i64 (t20 + t21))) (1 : Int)))))) ∧
      ((IntKind.wrap .i64 (t22 - (IntKind.wrap .i64 (iopS .shr .u64 (IntKind.wrap .u64 (IntKind.wrap .i64 (t20 + t21))) (1 : Int))))) < (((List.length R0) : Nat) : Int)) ∧
      (R0[(Int.toNat (IntKind.wrap .i64 (t22 - (IntKind.wrap .i64 (iopS .shr .u64 (IntKind.wrap .u64 (IntKind.wrap .i64 (t20 + t21))) (1 : Int))))))]? = some [(AV.int .i64 (cIS R0 (Int.toNat (IntKind.wrap .i64 (t22 - (IntKind.wrap .i64 (iopS .shr .u64 (IntKind.wrap .u64 (IntKind.wrap .i64 (t20 + t21))) (1 : Int)))))) 0))]) ∧
      ((0 : Int) ≤ (IntKind.wrap .i64 (iopS .shr .u64 (IntKind.wrap .u64 (IntKind.wrap .i64 (t20 + t21))) (1 : Int)))) ∧
      ((IntKind.wrap .i64 (iopS .shr .u64 (IntKind.wrap .u64 (IntKind.wrap .i64 (t20 + t21))) (1 : Int))) < (((List.length R0) : Nat) : Int)) ∧
      (R0[(Int.toNat (IntKind.wrap .i64 (iopS .shr .u64 (IntKind.wrap .u64 (IntKind.wrap .i64 (t20 + t21))) (1 : Int))))]? = some [(AV.int .i64 (cIS R0 (Int.toNat (IntKind.wrap .i64 (iopS .shr .u64 (IntKind.wrap .u64 (IntKind.wrap .i64 (t20 + t21))) (1 : Int)))) 0))]) ∧
      (EC Try.prog G62 [] [(Lf.i (cIS R0 (Int.toNat (IntKind.wrap .i64 (t22 - (IntKind.wrap .i64 (iopS .shr .u64 (IntKind.wrap .u64 (IntKind.wrap .i64 (t20 + t21))) (1 : Int)))))) 0)), (Lf.i (cIS R0 (Int.toNat (IntKind.wrap .i64 (iopS .shr .u64 (IntKind.wrap .u64 (IntKind.wrap .i64 (t20 + t21))) (1 : Int)))) 0)), (Lf.r tb1)] (fun x rs vs => (x = 0 ∧ ∃ (y1_0 : Int) (y1_b0 : List (List AV)), rs = [] ∧ vs = [.i y1_0, .r y1_b0] ∧
        ((y1_0 ≥ (0 : Int) →
            EV 105 [R0] [(Lf.i t1), (Lf.i t2), (Lf.i t3), (Lf.i t18), (Lf.i t19), (Lf.i (IntKind.wrap .i64 ((IntKind.wrap .i64 (iopS .shr .u64 (IntKind.wrap .u64 (IntKind.wrap .i64 (t20 + t21))) (1 : Int))) + (1 : Int)))), (Lf.i t21), (Lf.i t22), (Lf.r y1_b0)]) ∧
          (y1_0 < (0 : Int) →
            EV 105 [R0] [(Lf.i t1), (Lf.i t2), (Lf.i t3), (Lf.i t18), (Lf.i t19), (Lf.i t20), (Lf.i (IntKind.wrap .i64 (iopS .shr .u64 (IntKind.wrap .u64 (IntKind.wrap .i64 (t20 + t21))) (1 : Int)))), (Lf.i t22), (Lf.r y1_b0)])))))) ∧
    (t20 ≥ t21 →
      (t20 < t2 →
        (t2 < (IntKind.wrap .i64 (t19 - t20)) →
          EC Try.prog G93 [R0] [(Lf.i t20), (Lf.i t2), (Lf.i (IntKind.wrap .i64 (t19 - t20))), (Lf.r tb1)] (fun x rs vs => (x = 0 ∧ ∃ (Y3_0 : List (List AV)) (y3_b1 : List (List AV)), rs = [Y3_0] ∧ vs = [.r y3_b1] ∧
            (((List.length R0) = (List.length Y3_0)) ∧
              (EV 127 [Y3_0] [(Lf.i t1), (Lf.i t3), (Lf.i t18), (Lf.i t20), (Lf.i (IntKind.wrap .i64 (t19 - t20))), (Lf.r y3_b1)]))))) ∧
        (t2 ≥ (IntKind.wrap .i64 (t19 - t20)) →
          EV 127 [R0] [(Lf.i t1), (Lf.i t3), (Lf.i t18), (Lf.i t20), (Lf.i (IntKind.wrap .i64 (t19 - t20))), (Lf.r tb1)])) ∧
      (t20 ≥ t2 →
        EV 127 [R0] [(Lf.i t1), (Lf.i t3), (Lf.i t18), (Lf.i t20), (Lf.i (IntKind.wrap .i64 (t19 - t20))), (Lf.r tb1)]))) →
    EV 105 [R0] [.i t1, .i t2, .i t3, .i t18, .i t19, .i t20, .i t21, .i t22, .r tb1]
  p127 : ∀ {R0 : List (List AV)} {t1 : Int} {t3 : Int} {t18 : Int} {t20 : Int} {t24 : Int} {tb1 : List (List AV)}, (pursS R0 = true → 
    (t1 < t20 →
      (t20 < t18 →
        EC Try.prog G83 [R0] [(Lf.i t1), (Lf.i t20), (Lf.i t18), (Lf.r tb1)] (fun x rs vs => (x = 0 ∧ ∃ (Y2_0 : List (List AV)) (y2_b1 : List (List AV)), rs = [Y2_0] ∧ vs = [.r y2_b1] ∧
          (((List.length R0) = (List.length Y2_0)) ∧
            (EV 133 [Y2_0] [(Lf.i t3), (Lf.i t18), (Lf.i t24), (Lf.r y2_b1)]))))) ∧
      (t20 ≥ t18 →
        EV 133 [R0] [(Lf.i t3), (Lf.i t18), (Lf.i t24), (Lf.r tb1)])) ∧
    (t1 ≥ t20 →
      EV 133 [R0] [(Lf.i t3), (Lf.i t18), (Lf.i t24), (Lf.r tb1)])) →
    EV 127 [R0] [.i t1, .i t3, .i t18, .i t20, .i t24, .r tb1]
  p133 : ∀ {R0 : List (List AV)} {t3 : Int} {t18 : Int} {t24 : Int} {tb1 : List (List AV)}, (pursS R0 = true → 
    (t18 < t24 →
      (t24 < t3 →
        EC Try.prog G83 [R0] [(Lf.i t18), (Lf.i t24), (Lf.i t3), (Lf.r tb1)] (fun x rs vs => (x = 0 ∧ ∃ (Y2_0 : List (List AV)) (y2_b1 : List (List AV)), rs = [Y2_0] ∧ vs = [.r y2_b1] ∧
          (Q 0 [Y2_0] [(Lf.r y2_b1)])))) ∧
      (t24 ≥ t3 →
        Q 0 [R0] [(Lf.r tb1)])) ∧
    (t18 ≥ t24 →
      Q 0 [R0] [(Lf.r tb1)])) →
    EV 133 [R0] [.i t3, .i t18, .i t24, .r tb1]

set_option maxHeartbeats 0 in
theorem V83.of {Q : Nat → Rs → List Lf → Prop} {A : Ar} {CE : Nat → Rs → List Lf → (Nat → Rs → List Lf → Prop) → Prop} {CK : Nat → Rs → List Lf → Cont → Prop} {Dn : Nat → List Bool → List AItem → Nat → List Bool → List AV → List ABlk → Prop} {EV RR : Nat → Rs → List Lf → Prop} (W : Wk Try.prog Try.f83 I83 L83 Q A sg CE CK Dn EV RR) : V83 EV Q := by
  have hA := W.hA
  refine ⟨?_, ?_, ?_, ?_, ?_, ?_, ?_, ?_⟩
  · intro R0 t1 t10 t11 tb1 h
    refine W.step 80 fun hp => ?_
    have h := h hp.1
    cbv
    refine ⟨imI hA fun e0 => have c0 : t10 < t11 := (by have q := (cmpE (op := .lss) hA e0); subst hA; exact q); ⟨ndI hA (by subst hA; exact (h.1 c0).1), ⟨ndI hA (And.intro (by subst hA; exact (h.1 c0).2.1) (And.intro (by subst hA; exact (h.1 c0).2.2.1) rfl)), ⟨ndI hA (And.intro rfl (by subst hA; show R0[(0 + (Int.toNat (IntKind.wrap .i64 (iopS .shr .u64 (IntKind.wrap .u64 (IntKind.wrap .i64 (t10 + t11))) (1 : Int)))))]? = some [(AV.int .i64 (cIS R0 (0 + (Int.toNat (IntKind.wrap .i64 (iopS .shr .u64 (IntKind.wrap .u64 (IntKind.wrap .i64 (t10 + t11))) (1 : Int))))) 0))]; (try simp only [rappS_end, Nat.zero_add, Int.toNat_natCast]); exact (h.1 c0).2.2.2.1)), ⟨ndI hA (And.intro (by subst hA; exact (h.1 c0).2.2.2.2.1) (And.intro (by subst hA; exact (h.1 c0).2.2.2.2.2.1) rfl)), ⟨ndI hA (And.intro rfl (by subst hA; show R0[(0 + (Int.toNat t1))]? = some [(AV.int .i64 (cIS R0 (0 + (Int.toNat t1)) 0))]; (try simp only [rappS_end, Nat.zero_add, Int.toNat_natCast]); exact (h.1 c0).2.2.2.2.2.2.1)), ⟨?_, trivial⟩⟩⟩⟩⟩⟩, imI hA fun e0 => have c0 : t10 ≥ t11 := (by have q := (cmpE (op := .lss) hA e0); subst hA; exact q); ⟨ndI hA (And.intro rfl (And.intro rfl rfl)), ⟨ndI hA (by subst hA; exact hp.1), (by subst hA; exact (h.2 c0))⟩⟩⟩
    · refine W.callD (by rfl) (h.1 c0).2.2.2.2.2.2.2 (by subst hA; show [] = []; (try simp only [rappS_end, Nat.zero_add, Int.toNat_natCast])) (by subst hA; show [(Lf.i (cIS R0 (0 + (Int.toNat (IntKind.wrap .i64 (iopS .shr .u64 (IntKind.wrap .u64 (IntKind.wrap .i64 (t10 + t11))) (1 : Int))))) 0)), (Lf.i (cIS R0 (0 + (Int.toNat t1)) 0)), (Lf.r tb1)] = [(Lf.i (cIS R0 (Int.toNat (IntKind.wrap .i64 (iopS .shr .u64 (IntKind.wrap .u64 (IntKind.wrap .i64 (t10 + t11))) (1 : Int)))) 0)), (Lf.i (cIS R0 (Int.toNat t1) 0)), (Lf.r tb1)]; (try simp only [rappS_end, Nat.zero_add, Int.toNat_natCast])) ?_
      rintro x rs vs hp1 hq1
      rcases hq1 with ⟨rfl, y1_0, y1_b0, rfl, rfl, k1⟩
      · cbv
        refine ?_
        · refine W.draw 80 (by rfl) ?_
          cbv
          refine ⟨imI hA fun e2 => have c2 : y1_0 < (0 : Int) := (by have q := (cmpE (op := .lss) hA e2); subst hA; exact q); ⟨ndI hA (And.intro rfl (And.intro rfl rfl)), ⟨ndI hA (by subst hA; exact hp.1), (by subst hA; exact (k1.1 c2))⟩⟩, imI hA fun e2 => have c2 : y1_0 ≥ (0 : Int) := (by have q := (cmpE (op := .lss) hA e2); subst hA; exact q); ⟨ndI hA (And.intro rfl (And.intro rfl rfl)), ⟨ndI hA (by subst hA; exact hp.1), (by subst hA; exact (k1.2 c2))⟩⟩⟩
  · intro R0 t10 t13 tb1 h
    refine W.step 80 fun hp => ?_
    have h := h hp.1
    cbv
    refine ⟨imI hA fun e0 => have c0 : t13 < (IntKind.wrap .i64 (t10 - (1 : Int))) := (by have q := (cmpE (op := .lss) hA e0); subst hA; exact q); ⟨⟨ndI hA (And.intro (by subst hA; exact (h.1 c0).1) (And.intro (by subst hA; exact (h.1 c0).2.1) rfl)), ⟨⟨ndI hA (And.intro rfl (by subst hA; show R0[(0 + (Int.toNat (IntKind.wrap .i64 (t13 + (1 : Int)))))]? = some [(AV.int .i64 (cIS R0 (0 + (Int.toNat (IntKind.wrap .i64 (t13 + (1 : Int))))) 0))]; (try simp only [rappS_end, Nat.zero_add, Int.toNat_natCast]); exact (h.1 c0).2.2.1)), ⟨⟨ndI hA (And.intro (by subst hA; exact (h.1 c0).2.2.2.1) (And.intro (by subst hA; exact (h.1 c0).2.2.2.2.1) rfl)), ⟨⟨ndI hA (And.intro rfl (by subst hA; show R0[(0 + (Int.toNat t13))]? = some [(AV.int .i64 (cIS R0 (0 + (Int.toNat t13)) 0))]; (try simp only [rappS_end, Nat.zero_add, Int.toNat_natCast]); exact (h.1 c0).2.2.2.2.2.1)), ⟨⟨ndI hA (And.intro (by subst hA; exact (h.1 c0).2.2.2.1) (And.intro (by subst hA; exact (h.1 c0).2.2.2.2.1) rfl)), ⟨⟨ndI hA (And.intro rfl (by subst hA; show R0[(0 + (Int.toNat t13))]? = some [(AV.int .i64 (cIS R0 (0 + (Int.toNat t13)) 0))]; (try simp only [rappS_end, Nat.zero_add, Int.toNat_natCast]); exact (h.1 c0).2.2.2.2.2.1)), ⟨⟨ndI hA (And.intro (by subst hA; exact (h.1 c0).1) (And.intro (by subst hA; exact (h.1 c0).2.1) (by subst hA; show (List.length R0) = (List.length (List.set R0 (0 + (Int.toNat t13)) [(AV.int .i64 (cIS R0 (0 + (Int.toNat (IntKind.wrap .i64 (t13 + (1 : Int))))) 0))])); (first | rfl | simp [rappS_end] | (simp only [rappS_end, List.length_append, List.length_set, List.length_cons, List.length_nil]; omega))))), ⟨⟨ndI hA (And.intro (by subst hA; show (List.length R0) = (List.length (List.set R0 (0 + (Int.toNat t13)) [(AV.int .i64 (cIS R0 (0 + (Int.toNat (IntKind.wrap .i64 (t13 + (1 : Int))))) 0))])); (first | rfl | simp [rappS_end] | (simp only [rappS_end, List.length_append, List.length_set, List.length_cons, List.length_nil]; omega))) (by subst hA; show (List.set R0 (0 + (Int.toNat t13)) [(AV.int .i64 (cIS R0 (0 + (Int.toNat (IntKind.wrap .i64 (t13 + (1 : Int))))) 0))])[(0 + (Int.toNat (IntKind.wrap .i64 (t13 + (1 : Int)))))]? = some [(AV.int .i64 (cIS (List.set R0 (0 + (Int.toNat t13)) [(AV.int .i64 (cIS R0 (0 + (Int.toNat (IntKind.wrap .i64 (t13 + (1 : Int))))) 0))]) (0 + (Int.toNat (IntKind.wrap .i64 (t13 + (1 : Int))))) 0))]; (try simp only [rappS_end, Nat.zero_add, Int.toNat_natCast]); exact (h.1 c0).2.2.2.2.2.2.1)), ⟨ndI hA (And.intro (by subst hA; show (List.length R0) = (List.length (List.set (List.set R0 (0 + (Int.toNat t13)) [(AV.int .i64 (cIS R0 (0 + (Int.toNat (IntKind.wrap .i64 (t13 + (1 : Int))))) 0))]) (0 + (Int.toNat (IntKind.wrap .i64 (t13 + (1 : Int))))) [(AV.int .i64 (cIS R0 (0 + (Int.toNat t13)) 0))])); (first | rfl | simp [rappS_end] | (simp only [rappS_end, List.length_append, List.length_set, List.length_cons, List.length_nil]; omega))) (And.intro rfl (by subst hA; show (List.length R0) = (List.length (List.set (List.set R0 (0 + (Int.toNat t13)) [(AV.int .i64 (cIS R0 (0 + (Int.toNat (IntKind.wrap .i64 (t13 + (1 : Int))))) 0))]) (0 + (Int.toNat (IntKind.wrap .i64 (t13 + (1 : Int))))) [(AV.int .i64 (cIS R0 (0 + (Int.toNat t13)) 0))])); (first | rfl | simp [rappS_end] | (simp only [rappS_end, List.length_append, List.length_set, List.length_cons, List.length_nil]; omega))))), ⟨ndI hA (by subst hA; exact (vset (vset hp.1 rfl) rfl)), (by subst hA; show EV 30 [(List.set (List.set R0 (0 + (Int.toNat t13)) [(AV.int .i64 (cIS R0 (0 + (Int.toNat (IntKind.wrap .i64 (t13 + (1 : Int))))) 0))]) (0 + (Int.toNat (IntKind.wrap .i64 (t13 + (1 : Int))))) [(AV.int .i64 (cIS R0 (0 + (Int.toNat t13)) 0))])] [(Lf.i t10), (Lf.i (IntKind.wrap .i64 (t13 + (1 : Int)))), (Lf.r tb1)]; (try simp only [rappS_end, Nat.zero_add, Int.toNat_natCast]); exact (h.1 c0).2.2.2.2.2.2.2)⟩⟩⟩, trivial⟩⟩, trivial⟩⟩, trivial⟩⟩, trivial⟩⟩, trivial⟩⟩, trivial⟩⟩, ⟨⟨ndI hA (And.intro (by subst hA; exact (h.1 c0).2.2.2.1) (And.intro (by subst hA; exact (h.1 c0).2.2.2.2.1) rfl)), ⟨⟨ndI hA (And.intro rfl (by subst hA; show R0[(0 + (Int.toNat (IntKind.wrap .i64 (t13 + (1 : Int)))))]? = some [(AV.int .i64 (cIS R0 (0 + (Int.toNat (IntKind.wrap .i64 (t13 + (1 : Int))))) 0))]; (try simp only [rappS_end, Nat.zero_add, Int.toNat_natCast]); exact (h.1 c0).2.2.1)), ⟨⟨ndI hA (And.intro rfl (by subst hA; show R0[(0 + (Int.toNat t13))]? = some [(AV.int .i64 (cIS R0 (0 + (Int.toNat t13)) 0))]; (try simp only [rappS_end, Nat.zero_add, Int.toNat_natCast]); exact (h.1 c0).2.2.2.2.2.1)), ⟨⟨ndI hA (And.intro (by subst hA; exact (h.1 c0).2.2.2.1) (And.intro (by subst hA; exact (h.1 c0).2.2.2.2.1) rfl)), ⟨⟨ndI hA (And.intro rfl (by subst hA; show R0[(0 + (Int.toNat t13))]? = some [(AV.int .i64 (cIS R0 (0 + (Int.toNat t13)) 0))]; (try simp only [rappS_end, Nat.zero_add, Int.toNat_natCast]); exact (h.1 c0).2.2.2.2.2.1)), ⟨⟨ndI hA (And.intro (by subst hA; exact (h.1 c0).1) (And.intro (by subst hA; exact (h.1 c0).2.1) (by subst hA; show (List.length R0) = (List.length (List.set R0 (0 + (Int.toNat t13)) [(AV.int .i64 (cIS R0 (0 + (Int.toNat (IntKind.wrap .i64 (t13 + (1 : Int))))) 0))])); (first | rfl | simp [rappS_end] | (simp only [rappS_end, List.length_append, List.length_set, List.length_cons, List.length_nil]; omega))))), ⟨⟨ndI hA (And.intro (by subst hA; show (List.length R0) = (List.length (List.set R0 (0 + (Int.toNat t13)) [(AV.int .i64 (cIS R0 (0 + (Int.toNat (IntKind.wrap .i64 (t13 + (1 : Int))))) 0))])); (first | rfl | simp [rappS_end] | (simp only [rappS_end, List.length_append, List.length_set, List.length_cons, List.length_nil]; omega))) (by subst hA; show (List.set R0 (0 + (Int.toNat t13)) [(AV.int .i64 (cIS R0 (0 + (Int.toNat (IntKind.wrap .i64 (t13 + (1 : Int))))) 0))])[(0 + (Int.toNat (IntKind.wrap .i64 (t13 + (1 : Int)))))]? = some [(AV.int .i64 (cIS (List.set R0 (0 + (Int.toNat t13)) [(AV.int .i64 (cIS R0 (0 + (Int.toNat (IntKind.wrap .i64 (t13 + (1 : Int))))) 0))]) (0 + (Int.toNat (IntKind.wrap .i64 (t13 + (1 : Int))))) 0))]; (try simp only [rappS_end, Nat.zero_add, Int.toNat_natCast]); exact (h.1 c0).2.2.2.2.2.2.1)), ⟨ndI hA (And.intro (by subst hA; show (List.length R0) = (List.length (List.set (List.set R0 (0 + (Int.toNat t13)) [(AV.int .i64 (cIS R0 (0 + (Int.toNat (IntKind.wrap .i64 (t13 + (1 : Int))))) 0))]) (0 + (Int.toNat (IntKind.wrap .i64 (t13 + (1 : Int))))) [(AV.int .i64 (cIS R0 (0 + (Int.toNat t13)) 0))])); (first | rfl | simp [rappS_end] | (simp only [rappS_end, List.length_append, List.length_set, List.length_cons, List.length_nil]; omega))) (And.intro rfl (by subst hA; show (List.length R0) = (List.length (List.set (List.set R0 (0 + (Int.toNat t13)) [(AV.int .i64 (cIS R0 (0 + (Int.toNat (IntKind.wrap .i64 (t13 + (1 : Int))))) 0))]) (0 + (Int.toNat (IntKind.wrap .i64 (t13 + (1 : Int))))) [(AV.int .i64 (cIS R0 (0 + (Int.toNat t13)) 0))])); (first | rfl | simp [rappS_end] | (simp only [rappS_end, List.length_append, List.length_set, List.length_cons, List.length_nil]; omega))))), ⟨ndI hA (by subst hA; exact (vset (vset hp.1 rfl) rfl)), (by subst hA; show EV 30 [(List.set (List.set R0 (0 + (Int.toNat t13)) [(AV.int .i64 (cIS R0 (0 + (Int.toNat (IntKind.wrap .i64 (t13 + (1 : Int))))) 0))]) (0 + (Int.toNat (IntKind.wrap .i64 (t13 + (1 : Int))))) [(AV.int .i64 (cIS R0 (0 + (Int.toNat t13)) 0))])] [(Lf.i t10), (Lf.i (IntKind.wrap .i64 (t13 + (1 : Int)))), (Lf.r tb1)]; (try simp only [rappS_end, Nat.zero_add, Int.toNat_natCast]); exact (h.1 c0).2.2.2.2.2.2.2)⟩⟩⟩, trivial⟩⟩, trivial⟩⟩, trivial⟩⟩, trivial⟩⟩, trivial⟩⟩, ⟨⟨ndI hA (And.intro rfl (by subst hA; show R0[(0 + (Int.toNat t13))]? = some [(AV.int .i64 (cIS R0 (0 + (Int.toNat t13)) 0))]; (try simp only [rappS_end, Nat.zero_add, Int.toNat_natCast]); exact (h.1 c0).2.2.2.2.2.1)), ⟨⟨ndI hA (And.intro rfl (by subst hA; show R0[(0 + (Int.toNat (IntKind.wrap .i64 (t13 + (1 : Int)))))]? = some [(AV.int .i64 (cIS R0 (0 + (Int.toNat (IntKind.wrap .i64 (t13 + (1 : Int))))) 0))]; (try simp only [rappS_end, Nat.zero_add, Int.toNat_natCast]); exact (h.1 c0).2.2.1)), ⟨⟨ndI hA (And.intro (by subst hA; exact (h.1 c0).2.2.2.1) (And.intro (by subst hA; exact (h.1 c0).2.2.2.2.1) rfl)), ⟨⟨ndI hA (And.intro rfl (by subst hA; show R0[(0 + (Int.toNat t13))]? = some [(AV.int .i64 (cIS R0 (0 + (Int.toNat t13)) 0))]; (try simp only [rappS_end, Nat.zero_add, Int.toNat_natCast]); exact (h.1 c0).2.2.2.2.2.1)), ⟨⟨ndI hA (And.intro (by subst hA; exact (h.1 c0).1) (And.intro (by subst hA; exact (h.1 c0).2.1) (by subst hA; show (List.length R0) = (List.length (List.set R0 (0 + (Int.toNat t13)) [(AV.int .i64 (cIS R0 (0 + (Int.toNat (IntKind.wrap .i64 (t13 + (1 : Int))))) 0))])); (first | rfl | simp [rappS_end] | (simp only [rappS_end, List.length_append, List.length_set, List.length_cons, List.length_nil]; omega))))), ⟨⟨ndI hA (And.intro (by subst hA; show (List.length R0) = (List.length (List.set R0 (0 + (Int.toNat t13)) [(AV.int .i64 (cIS R0 (0 + (Int.toNat (IntKind.wrap .i64 (t13 + (1 : Int))))) 0))])); (first | rfl | simp [rappS_end] | (simp only [rappS_end, List.length_append, List.length_set, List.length_cons, List.length_nil]; omega))) (by subst hA; show (List.set R0 (0 + (Int.toNat t13)) [(AV.int .i64 (cIS R0 (0 + (Int.toNat (IntKind.wrap .i64 (t13 + (1 : Int))))) 0))])[(0 + (Int.toNat (IntKind.wrap .i64 (t13 + (1 : Int)))))]? = some [(AV.int .i64 (cIS (List.set R0 (0 + (Int.toNat t13)) [(AV.int .i64 (cIS R0 (0 + (Int.toNat (IntKind.wrap .i64 (t13 + (1 : Int))))) 0))]) (0 + (Int.toNat (IntKind.wrap .i64 (t13 + (1 : Int))))) 0))]; (try simp only [rappS_end, Nat.zero_add, Int.toNat_natCast]); exact (h.1 c0).2.2.2.2.2.2.1)), ⟨ndI hA (And.intro (by subst hA; show (List.length R0) = (List.length (List.set (List.set R0 (0 + (Int.toNat t13)) [(AV.int .i64 (cIS R0 (0 + (Int.toNat (IntKind.wrap .i64 (t13 + (1 : Int))))) 0))]) (0 + (Int.toNat (IntKind.wrap .i64 (t13 + (1 : Int))))) [(AV.int .i64 (cIS R0 (0 + (Int.toNat t13)) 0))])); (first | rfl | simp [rappS_end] | (simp only [rappS_end, List.length_append, List.length_set, List.length_cons, List.length_nil]; omega))) (And.intro rfl (by subst hA; show (List.length R0) = (List.length (List.set (List.set R0 (0 + (Int.toNat t13)) [(AV.int .i64 (cIS R0 (0 + (Int.toNat (IntKind.wrap .i64 (t13 + (1 : Int))))) 0))]) (0 + (Int.toNat (IntKind.wrap .i64 (t13 + (1 : Int))))) [(AV.int .i64 (cIS R0 (0 + (Int.toNat t13)) 0))])); (first | rfl | simp [rappS_end] | (simp only [rappS_end, List.length_append, List.length_set, List.length_cons, List.length_nil]; omega))))), ⟨ndI hA (by subst hA; exact (vset (vset hp.1 rfl) rfl)), (by subst hA; show EV 30 [(List.set (List.set R0 (0 + (Int.toNat t13)) [(AV.int .i64 (cIS R0 (0 + (Int.toNat (IntKind.wrap .i64 (t13 + (1 : Int))))) 0))]) (0 + (Int.toNat (IntKind.wrap .i64 (t13 + (1 : Int))))) [(AV.int .i64 (cIS R0 (0 + (Int.toNat t13)) 0))])] [(Lf.i t10), (Lf.i (IntKind.wrap .i64 (t13 + (1 : Int)))), (Lf.r tb1)]; (try simp only [rappS_end, Nat.zero_add, Int.toNat_natCast]); exact (h.1 c0).2.2.2.2.2.2.2)⟩⟩⟩, trivial⟩⟩, trivial⟩⟩, trivial⟩⟩, trivial⟩⟩, trivial⟩⟩, trivial⟩⟩⟩, trivial⟩⟩⟩, ⟨⟨ndI hA (And.intro (by subst hA; exact (h.1 c0).2.2.2.1) (And.intro (by subst hA; exact (h.1 c0).2.2.2.2.1) rfl)), ⟨⟨ndI hA (And.intro (by subst hA; exact (h.1 c0).1) (And.intro (by subst hA; exact (h.1 c0).2.1) rfl)), ⟨⟨ndI hA (And.intro rfl (by subst hA; show R0[(0 + (Int.toNat (IntKind.wrap .i64 (t13 + (1 : Int)))))]? = some [(AV.int .i64 (cIS R0 (0 + (Int.toNat (IntKind.wrap .i64 (t13 + (1 : Int))))) 0))]; (try simp only [rappS_end, Nat.zero_add, Int.toNat_natCast]); exact (h.1 c0).2.2.1)), ⟨⟨ndI hA (And.intro rfl (by subst hA; show R0[(0 + (Int.toNat t13))]? = some [(AV.int .i64 (cIS R0 (0 + (Int.toNat t13)) 0))]; (try simp only [rappS_end, Nat.zero_add, Int.toNat_natCast]); exact (h.1 c0).2.2.2.2.2.1)), ⟨⟨ndI hA (And.intro (by subst hA; exact (h.1 c0).2.2.2.1) (And.intro (by subst hA; exact (h.1 c0).2.2.2.2.1) rfl)), ⟨⟨ndI hA (And.intro rfl (by subst hA; show R0[(0 + (Int.toNat t13))]? = some [(AV.int .i64 (cIS R0 (0 + (Int.toNat t13)) 0))]; (try simp only [rappS_end, Nat.zero_add, Int.toNat_natCast]); exact (h.1 c0).2.2.2.2.2.1)), ⟨⟨ndI hA (And.intro (by subst hA; exact (h.1 c0).1) (And.intro (by subst hA; exact (h.1 c0).2.1) (by subst hA; show (List.length R0) = (List.length (List.set R0 (0 + (Int.toNat t13)) [(AV.int .i64 (cIS R0 (0 + (Int.toNat (IntKind.wrap .i64 (t13 + (1 : Int))))) 0))])); (first | rfl | simp [rappS_end] | (simp only [rappS_end, List.length_append, List.length_set, List.length_cons, List.length_nil]; omega))))), ⟨⟨ndI hA (And.intro (by subst hA; show (List.length R0) = (List.length (List.set R0 (0 + (Int.toNat t13)) [(AV.int .i64 (cIS R0 (0 + (Int.toNat (IntKind.wrap .i64 (t13 + (1 : Int))))) 0))])); (first | rfl | simp [rappS_end] | (simp only [rappS_end, List.length_append, List.length_set, List.length_cons, List.length_nil]; omega))) (by subst hA; show (List.set R0 (0 + (Int.toNat t13)) [(AV.int .i64 (cIS R0 (0 + (Int.toNat (IntKind.wrap .i64 (t13 + (1 : Int))))) 0))])[(0 + (Int.toNat (IntKind.wrap .i64 (t13 + (1 : Int)))))]? = some [(AV.int .i64 (cIS (List.set R0 (0 + (Int.toNat t13)) [(AV.int .i64 (cIS R0 (0 + (Int.toNat (IntKind.wrap .i64 (t13 + (1 : Int))))) 0))]) (0 + (Int.toNat (IntKind.wrap .i64 (t13 + (1 : Int))))) 0))]; (try simp only [rappS_end, Nat.zero_add, Int.toNat_natCast]); exact (h.1 c0).2.2.2.2.2.2.1)), ⟨ndI hA (And.intro (by subst hA; show (List.length R0) = (List.length (List.set (List.set R0 (0 + (Int.toNat t13)) [(AV.int .i64 (cIS R0 (0 + (Int.toNat (IntKind.wrap .i64 (t13 + (1 : Int))))) 0))]) (0 + (Int.toNat (IntKind.wrap .i64 (t13 + (1 : Int))))) [(AV.int .i64 (cIS R0 (0 + (Int.toNat t13)) 0))])); (first | rfl | simp [rappS_end] | (simp only [rappS_end, List.length_append, List.length_set, List.length_cons, List.length_nil]; omega))) (And.intro rfl (by subst hA; show (List.length R0) = (List.length (List.set (List.set R0 (0 + (Int.toNat t13)) [(AV.int .i64 (cIS R0 (0 + (Int.toNat (IntKind.wrap .i64 (t13 + (1 : Int))))) 0))]) (0 + (Int.toNat (IntKind.wrap .i64 (t13 + (1 : Int))))) [(AV.int .i64 (cIS R0 (0 + (Int.toNat t13)) 0))])); (first | rfl | simp [rappS_end] | (simp only [rappS_end, List.length_append, List.length_set, List.length_cons, List.length_nil]; omega))))), ⟨ndI hA (by subst hA; exact (vset (vset hp.1 rfl) rfl)), (by subst hA; show EV 30 [(List.set (List.set R0 (0 + (Int.toNat t13)) [(AV.int .i64 (cIS R0 (0 + (Int.toNat (IntKind.wrap .i64 (t13 + (1 : Int))))) 0))]) (0 + (Int.toNat (IntKind.wrap .i64 (t13 + (1 : Int))))) [(AV.int .i64 (cIS R0 (0 + (Int.toNat t13)) 0))])] [(Lf.i t10), (Lf.i (IntKind.wrap .i64 (t13 + (1 : Int)))), (Lf.r tb1)]; (try simp only [rappS_end, Nat.zero_add, Int.toNat_natCast]); exact (h.1 c0).2.2.2.2.2.2.2)⟩⟩⟩, trivial⟩⟩, trivial⟩⟩, trivial⟩⟩, trivial⟩⟩, trivial⟩⟩, ⟨⟨ndI hA (And.intro rfl (by subst hA; show R0[(0 + (Int.toNat t13))]? = some [(AV.int .i64 (cIS R0 (0 + (Int.toNat t13)) 0))]; (try simp only [rappS_end, Nat.zero_add, Int.toNat_natCast]); exact (h.1 c0).2.2.2.2.2.1)), ⟨⟨ndI hA (And.intro rfl (by subst hA; show R0[(0 + (Int.toNat (IntKind.wrap .i64 (t13 + (1 : Int)))))]? = some [(AV.int .i64 (cIS R0 (0 + (Int.toNat (IntKind.wrap .i64 (t13 + (1 : Int))))) 0))]; (try simp only [rappS_end, Nat.zero_add, Int.toNat_natCast]); exact (h.1 c0).2.2.1)), ⟨⟨ndI hA (And.intro (by subst hA; exact (h.1 c0).2.2.2.1) (And.intro (by subst hA; exact (h.1 c0).2.2.2.2.1) rfl)), ⟨⟨ndI hA (And.intro rfl (by subst hA; show R0[(0 + (Int.toNat t13))]? = some [(AV.int .i64 (cIS R0 (0 + (Int.toNat t13)) 0))]; (try simp only [rappS_end, Nat.zero_add, Int.toNat_natCast]); exact (h.1 c0).2.2.2.2.2.1)), ⟨⟨ndI hA (And.intro (by subst hA; exact (h.1 c0).1) (And.intro (by subst hA; exact (h.1 c0).2.1) (by subst hA; show (List.length R0) = (List.length (List.set R0 (0 + (Int.toNat t13)) [(AV.int .i64 (cIS R0 (0 + (Int.toNat (IntKind.wrap .i64 (t13 + (1 : Int))))) 0))])); (first | rfl | simp [rappS_end] | (simp only [rappS_end, List.length_append, List.length_set, List.length_cons, List.length_nil]; omega))))), ⟨⟨ndI hA (And.intro (by subst hA; show (List.length R0) = (List.length (List.set R0 (0 + (Int.toNat t13)) [(AV.int .i64 (cIS R0 (0 + (Int.toNat (IntKind.wrap .i64 (t13 + (1 : Int))))) 0))])); (first | rfl | simp [rappS_end] | (simp only [rappS_end, List.length_append, List.length_set, List.length_cons, List.length_nil]; omega))) (by subst hA; show (List.set R0 (0 + (Int.toNat t13)) [(AV.int .i64 (cIS R0 (0 + (Int.toNat (IntKind.wrap .i64 (t13 + (1 : Int))))) 0))])[(0 + (Int.toNat (IntKind.wrap .i64 (t13 + (1 : Int)))))]? = some [(AV.int .i64 (cIS (List.set R0 (0 + (Int.toNat t13)) [(AV.int .i64 (cIS R0 (0 + (Int.toNat (IntKind.wrap .i64 (t13 + (1 : Int))))) 0))]) (0 + (Int.toNat (IntKind.wrap .i64 (t13 + (1 : Int))))) 0))]; (try simp only [rappS_end, Nat.zero_add, Int.toNat_natCast]); exact (h.1 c0).2.2.2.2.2.2.1)), ⟨ndI hA (And.intro (by subst hA; show (List.length R0) = (List.length (List.set (List.set R0 (0 + (Int.toNat t13)) [(AV.int .i64 (cIS R0 (0 + (Int.toNat (IntKind.wrap .i64 (t13 + (1 : Int))))) 0))]) (0 + (Int.toNat (IntKind.wrap .i64 (t13 + (1 : Int))))) [(AV.int .i64 (cIS R0 (0 + (Int.toNat t13)) 0))])); (first | rfl | simp [rappS_end] | (simp only [rappS_end, List.length_append, List.length_set, List.length_cons, List.length_nil]; omega))) (And.intro rfl (by subst hA; show (List.length R0) = (List.length (List.set (List.set R0 (0 + (Int.toNat t13)) [(AV.int .i64 (cIS R0 (0 + (Int.toNat (IntKind.wrap .i64 (t13 + (1 : Int))))) 0))]) (0 + (Int.toNat (IntKind.wrap .i64 (t13 + (1 : Int))))) [(AV.int .i64 (cIS R0 (0 + (Int.toNat t13)) 0))])); (first | rfl | simp [rappS_end] | (simp only [rappS_end, List.length_append, List.length_set, List.length_cons, List.length_nil]; omega))))), ⟨ndI hA (by subst hA; exact (vset (vset hp.1 rfl) rfl)), (by subst hA; show EV 30 [(List.set (List.set R0 (0 + (Int.toNat t13)) [(AV.int .i64 (cIS R0 (0 + (Int.toNat (IntKind.wrap .i64 (t13 + (1 : Int))))) 0))]) (0 + (Int.toNat (IntKind.wrap .i64 (t13 + (1 : Int))))) [(AV.int .i64 (cIS R0 (0 + (Int.toNat t13)) 0))])] [(Lf.i t10), (Lf.i (IntKind.wrap .i64 (t13 + (1 : Int)))), (Lf.r tb1)]; (try simp only [rappS_end, Nat.zero_add, Int.toNat_natCast]); exact (h.1 c0).2.2.2.2.2.2.2)⟩⟩⟩, trivial⟩⟩, trivial⟩⟩, trivial⟩⟩, trivial⟩⟩, trivial⟩⟩, trivial⟩⟩⟩, ⟨⟨ndI hA (And.intro rfl (by subst hA; show R0[(0 + (Int.toNat t13))]? = some [(AV.int .i64 (cIS R0 (0 + (Int.toNat t13)) 0))]; (try simp only [rappS_end, Nat.zero_add, Int.toNat_natCast]); exact (h.1 c0).2.2.2.2.2.1)), ⟨⟨ndI hA (And.intro (by subst hA; exact (h.1 c0).1) (And.intro (by subst hA; exact (h.1 c0).2.1) rfl)), ⟨⟨ndI hA (And.intro rfl (by subst hA; show R0[(0 + (Int.toNat (IntKind.wrap .i64 (t13 + (1 : Int)))))]? = some [(AV.int .i64 (cIS R0 (0 + (Int.toNat (IntKind.wrap .i64 (t13 + (1 : Int))))) 0))]; (try simp only [rappS_end, Nat.zero_add, Int.toNat_natCast]); exact (h.1 c0).2.2.1)), ⟨⟨ndI hA (And.intro (by subst hA; exact (h.1 c0).2.2.2.1) (And.intro (by subst hA; exact (h.1 c0).2.2.2.2.1) rfl)), ⟨⟨ndI hA (And.intro rfl (by subst hA; show R0[(0 + (Int.toNat t13))]? = some [(AV.int .i64 (cIS R0 (0 + (Int.toNat t13)) 0))]; (try simp only [rappS_end, Nat.zero_add, Int.toNat_natCast]); exact (h.1 c0).2.2.2.2.2.1)), ⟨⟨ndI hA (And.intro (by subst hA; exact (h.1 c0).1) (And.intro (by subst hA; exact (h.1 c0).2.1) (by subst hA; show (List.length R0) = (List.length (List.set R0 (0 + (Int.toNat t13)) [(AV.int .i64 (cIS R0 (0 + (Int.toNat (IntKind.wrap .i64 (t13 + (1 : Int))))) 0))])); (first | rfl | simp [rappS_end] | (simp only [rappS_end, List.length_append, List.length_set, List.length_cons, List.length_nil]; omega))))), ⟨⟨ndI hA (And.intro (by subst hA; show (List.length R0) = (List.length (List.set R0 (0 + (Int.toNat t13)) [(AV.int .i64 (cIS R0 (0 + (Int.toNat (IntKind.wrap .i64 (t13 + (1 : Int))))) 0))])); (first | rfl | simp [rappS_end] | (simp only [rappS_end, List.length_append, List.length_set, List.length_cons, List.length_nil]; omega))) (by subst hA; show (List.set R0 (0 + (Int.toNat t13)) [(AV.int .i64 (cIS R0 (0 + (Int.toNat (IntKind.wrap .i64 (t13 + (1 : Int))))) 0))])[(0 + (Int.toNat (IntKind.wrap .i64 (t13 + (1 : Int)))))]? = some [(AV.int .i64 (cIS (List.set R0 (0 + (Int.toNat t13)) [(AV.int .i64 (cIS R0 (0 + (Int.toNat (IntKind.wrap .i64 (t13 + (1 : Int))))) 0))]) (0 + (Int.toNat (IntKind.wrap .i64 (t13 + (1 : Int))))) 0))]; (try simp only [rappS_end, Nat.zero_add, Int.toNat_natCast]); exact (h.1 c0).2.2.2.2.2.2.1)), ⟨ndI hA (And.intro (by subst hA; show (List.length R0) = (List.length (List.set (List.set R0 (0 + (Int.toNat t13)) [(AV.int .i64 (cIS R0 (0 + (Int.toNat (IntKind.wrap .i64 (t13 + (1 : Int))))) 0))]) (0 + (Int.toNat (IntKind.wrap .i64 (t13 + (1 : Int))))) [(AV.int .i64 (cIS R0 (0 + (Int.toNat t13)) 0))])); (first | rfl | simp [rappS_end] | (simp only [rappS_end, List.length_append, List.length_set, List.length_cons, List.length_nil]; omega))) (And.intro rfl (by subst hA; show (List.length R0) = (List.length (List.set (List.set R0 (0 + (Int.toNat t13)) [(AV.int .i64 (cIS R0 (0 + (Int.toNat (IntKind.wrap .i64 (t13 + (1 : Int))))) 0))]) (0 + (Int.toNat (IntKind.wrap .i64 (t13 + (1 : Int))))) [(AV.int .i64 (cIS R0 (0 + (Int.toNat t13)) 0))])); (first | rfl | simp [rappS_end] | (simp only [rappS_end, List.length_append, List.length_set, List.length_cons, List.length_nil]; omega))))), ⟨ndI hA (by subst hA; exact (vset (vset hp.1 rfl) rfl)), (by subst hA; show EV 30 [(List.set (List.set R0 (0 + (Int.toNat t13)) [(AV.int .i64 (cIS R0 (0 + (Int.toNat (IntKind.wrap .i64 (t13 + (1 : Int))))) 0))]) (0 + (Int.toNat (IntKind.wrap .i64 (t13 + (1 : Int))))) [(AV.int .i64 (cIS R0 (0 + (Int.toNat t13)) 0))])] [(Lf.i t10), (Lf.i (IntKind.wrap .i64 (t13 + (1 : Int)))), (Lf.r tb1)]; (try simp only [rappS_end, Nat.zero_add, Int.toNat_natCast]); exact (h.1 c0).2.2.2.2.2.2.2)⟩⟩⟩, trivial⟩⟩, trivial⟩⟩, trivial⟩⟩, trivial⟩⟩, trivial⟩⟩, trivial⟩⟩, trivial⟩⟩⟩, trivial⟩⟩, imI hA fun e0 => have c0 : t13 ≥ (IntKind.wrap .i64 (t10 - (1 : Int))) := (by have q := (cmpE (op := .lss) hA e0); subst hA; exact q); ⟨ndI hA (by subst hA; exact hp.1), (by rw [W.rr]; exact (by subst hA; exact (h.2 c0)))⟩⟩
  · intro R0 t2 t14 t15 tb1 h
    refine W.step 80 fun hp => ?_
    have h := h hp.1
    cbv
    refine ⟨imI hA fun e0 => have c0 : t14 < t15 := (by have q := (cmpE (op := .lss) hA e0); subst hA; exact q); ⟨ndI hA (by subst hA; exact (h.1 c0).1), ⟨ndI hA (And.intro (by subst hA; exact (h.1 c0).2.1) (And.intro (by subst hA; exact (h.1 c0).2.2.1) rfl)), ⟨ndI hA (And.intro rfl (by subst hA; show R0[(0 + (Int.toNat t2))]? = some [(AV.int .i64 (cIS R0 (0 + (Int.toNat t2)) 0))]; (try simp only [rappS_end, Nat.zero_add, Int.toNat_natCast]); exact (h.1 c0).2.2.2.1)), ⟨ndI hA (And.intro (by subst hA; exact (h.1 c0).2.2.2.2.1) (And.intro (by subst hA; exact (h.1 c0).2.2.2.2.2.1) rfl)), ⟨ndI hA (And.intro rfl (by subst hA; show R0[(0 + (Int.toNat (IntKind.wrap .i64 (iopS .shr .u64 (IntKind.wrap .u64 (IntKind.wrap .i64 (t14 + t15))) (1 : Int)))))]? = some [(AV.int .i64 (cIS R0 (0 + (Int.toNat (IntKind.wrap .i64 (iopS .shr .u64 (IntKind.wrap .u64 (IntKind.wrap .i64 (t14 + t15))) (1 : Int))))) 0))]; (try simp only [rappS_end, Nat.zero_add, Int.toNat_natCast]); exact (h.1 c0).2.2.2.2.2.2.1)), ⟨?_, trivial⟩⟩⟩⟩⟩⟩, imI hA fun e0 => have c0 : t14 ≥ t15 := (by have q := (cmpE (op := .lss) hA e0); subst hA; exact q); ⟨ndI hA (And.intro rfl (And.intro rfl rfl)), ⟨ndI hA (by subst hA; exact hp.1), (by subst hA; exact (h.2 c0))⟩⟩⟩
    · refine W.callD (by rfl) (h.1 c0).2.2.2.2.2.2.2 (by subst hA; show [] = []; (try simp only [rappS_end, Nat.zero_add, Int.toNat_natCast])) (by subst hA; show [(Lf.i (cIS R0 (0 + (Int.toNat t2)) 0)), (Lf.i (cIS R0 (0 + (Int.toNat (IntKind.wrap .i64 (iopS .shr .u64 (IntKind.wrap .u64 (IntKind.wrap .i64 (t14 + t15))) (1 : Int))))) 0)), (Lf.r tb1)] = [(Lf.i (cIS R0 (Int.toNat t2) 0)), (Lf.i (cIS R0 (Int.toNat (IntKind.wrap .i64 (iopS .shr .u64 (IntKind.wrap .u64 (IntKind.wrap .i64 (t14 + t15))) (1 : Int)))) 0)), (Lf.r tb1)]; (try simp only [rappS_end, Nat.zero_add, Int.toNat_natCast])) ?_
      rintro x rs vs hp1 hq1
      rcases hq1 with ⟨rfl, y1_0, y1_b0, rfl, rfl, k1⟩
      · cbv
        refine ?_
        · refine W.draw 80 (by rfl) ?_
          cbv
          refine ⟨imI hA fun e2 => have c2 : y1_0 ≥ (0 : Int) := (by have q := (cmpE (op := .lss) hA (notE hA e2)); subst hA; exact q); ⟨ndI hA (And.intro rfl (And.intro rfl rfl)), ⟨ndI hA (by subst hA; exact hp.1), (by subst hA; exact (k1.1 c2))⟩⟩, imI hA fun e2 => have c2 : y1_0 < (0 : Int) := (by have q := (cmpE (op := .lss) hA (notE hA e2)); subst hA; exact q); ⟨ndI hA (And.intro rfl (And.intro rfl rfl)), ⟨ndI hA (by subst hA; exact hp.1), (by subst hA; exact (k1.2 c2))⟩⟩⟩
  · intro R0 t14 t17 tb1 h
    refine W.step 80 fun hp => ?_
    have h := h hp.1
    cbv
    refine ⟨imI hA fun e0 => have c0 : t17 > t14 := (by have q := (cmpE (op := .gtr) hA e0); subst hA; exact q); ⟨⟨ndI hA (And.intro (by subst hA; exact (h.1 c0).1) (And.intro (by subst hA; exact (h.1 c0).2.1) rfl)), ⟨⟨ndI hA (And.intro rfl (by subst hA; show R0[(0 + (Int.toNat (IntKind.wrap .i64 (t17 - (1 : Int)))))]? = some [(AV.int .i64 (cIS R0 (0 + (Int.toNat (IntKind.wrap .i64 (t17 - (1 : Int))))) 0))]; (try simp only [rappS_end, Nat.zero_add, Int.toNat_natCast]); exact (h.1 c0).2.2.1)), ⟨⟨ndI hA (And.intro (by subst hA; exact (h.1 c0).2.2.2.1) (And.intro (by subst hA; exact (h.1 c0).2.2.2.2.1) rfl)), ⟨⟨ndI hA (And.intro rfl (by subst hA; show R0[(0 + (Int.toNat t17))]? = some [(AV.int .i64 (cIS R0 (0 + (Int.toNat t17)) 0))]; (try simp only [rappS_end, Nat.zero_add, Int.toNat_natCast]); exact (h.1 c0).2.2.2.2.2.1)), ⟨⟨ndI hA (And.intro (by subst hA; exact (h.1 c0).2.2.2.1) (And.intro (by subst hA; exact (h.1 c0).2.2.2.2.1) rfl)), ⟨⟨ndI hA (And.intro rfl (by subst hA; show R0[(0 + (Int.toNat t17))]? = some [(AV.int .i64 (cIS R0 (0 + (Int.toNat t17)) 0))]; (try simp only [rappS_end, Nat.zero_add, Int.toNat_natCast]); exact (h.1 c0).2.2.2.2.2.1)), ⟨⟨ndI hA (And.intro (by subst hA; exact (h.1 c0).1) (And.intro (by subst hA; exact (h.1 c0).2.1) (by subst hA; show (List.length R0) = (List.length (List.set R0 (0 + (Int.toNat t17)) [(AV.int .i64 (cIS R0 (0 + (Int.toNat (IntKind.wrap .i64 (t17 - (1 : Int))))) 0))])); (first | rfl | simp [rappS_end] | (simp only [rappS_end, List.length_append, List.length_set, List.length_cons, List.length_nil]; omega))))), ⟨⟨ndI hA (And.intro (by subst hA; show (List.length R0) = (List.length (List.set R0 (0 + (Int.toNat t17)) [(AV.int .i64 (cIS R0 (0 + (Int.toNat (IntKind.wrap .i64 (t17 - (1 : Int))))) 0))])); (first | rfl | simp [rappS_end] | (simp only [rappS_end, List.length_append, List.length_set, List.length_cons, List.length_nil]; omega))) (by subst hA; show (List.set R0 (0 + (Int.toNat t17)) [(AV.int .i64 (cIS R0 (0 + (Int.toNat (IntKind.wrap .i64 (t17 - (1 : Int))))) 0))])[(0 + (Int.toNat (IntKind.wrap .i64 (t17 - (1 : Int)))))]? = some [(AV.int .i64 (cIS (List.set R0 (0 + (Int.toNat t17)) [(AV.int .i64 (cIS R0 (0 + (Int.toNat (IntKind.wrap .i64 (t17 - (1 : Int))))) 0))]) (0 + (Int.toNat (IntKind.wrap .i64 (t17 - (1 : Int))))) 0))]; (try simp only [rappS_end, Nat.zero_add, Int.toNat_natCast]); exact (h.1 c0).2.2.2.2.2.2.1)), ⟨ndI hA (And.intro (by subst hA; show (List.length R0) = (List.length (List.set (List.set R0 (0 + (Int.toNat t17)) [(AV.int .i64 (cIS R0 (0 + (Int.toNat (IntKind.wrap .i64 (t17 - (1 : Int))))) 0))]) (0 + (Int.toNat (IntKind.wrap .i64 (t17 - (1 : Int))))) [(AV.int .i64 (cIS R0 (0 + (Int.toNat t17)) 0))])); (first | rfl | simp [rappS_end] | (simp only [rappS_end, List.length_append, List.length_set, List.length_cons, List.length_nil]; omega))) (And.intro rfl (by subst hA; show (List.length R0) = (List.length (List.set (List.set R0 (0 + (Int.toNat t17)) [(AV.int .i64 (cIS R0 (0 + (Int.toNat (IntKind.wrap .i64 (t17 - (1 : Int))))) 0))]) (0 + (Int.toNat (IntKind.wrap .i64 (t17 - (1 : Int))))) [(AV.int .i64 (cIS R0 (0 + (Int.toNat t17)) 0))])); (first | rfl | simp [rappS_end] | (simp only [rappS_end, List.length_append, List.length_set, List.length_cons, List.length_nil]; omega))))), ⟨ndI hA (by subst hA; exact (vset (vset hp.1 rfl) rfl)), (by subst hA; show EV 72 [(List.set (List.set R0 (0 + (Int.toNat t17)) [(AV.int .i64 (cIS R0 (0 + (Int.toNat (IntKind.wrap .i64 (t17 - (1 : Int))))) 0))]) (0 + (Int.toNat (IntKind.wrap .i64 (t17 - (1 : Int))))) [(AV.int .i64 (cIS R0 (0 + (Int.toNat t17)) 0))])] [(Lf.i t14), (Lf.i (IntKind.wrap .i64 (t17 - (1 : Int)))), (Lf.r tb1)]; (try simp only [rappS_end, Nat.zero_add, Int.toNat_natCast]); exact (h.1 c0).2.2.2.2.2.2.2)⟩⟩⟩, trivial⟩⟩, trivial⟩⟩, trivial⟩⟩, trivial⟩⟩, trivial⟩⟩, trivial⟩⟩, ⟨⟨ndI hA (And.intro (by subst hA; exact (h.1 c0).2.2.2.1) (And.intro (by subst hA; exact (h.1 c0).2.2.2.2.1) rfl)), ⟨⟨ndI hA (And.intro rfl (by subst hA; show R0[(0 + (Int.toNat (IntKind.wrap .i64 (t17 - (1 : Int)))))]? = some [(AV.int .i64 (cIS R0 (0 + (Int.toNat (IntKind.wrap .i64 (t17 - (1 : Int))))) 0))]; (try simp only [rappS_end, Nat.zero_add, Int.toNat_natCast]); exact (h.1 c0).2.2.1)), ⟨⟨ndI hA (And.intro rfl (by subst hA; show R0[(0 + (Int.toNat t17))]? = some [(AV.int .i64 (cIS R0 (0 + (Int.toNat t17)) 0))]; (try simp only [rappS_end, Nat.zero_add, Int.toNat_natCast]); exact (h.1 c0).2.2.2.2.2.1)), ⟨⟨ndI hA (And.intro (by subst hA; exact (h.1 c0).2.2.2.1) (And.intro (by subst hA; exact (h.1 c0).2.2.2.2.1) rfl)), ⟨⟨ndI hA (And.intro rfl (by subst hA; show R0[(0 + (Int.toNat t17))]? = some [(AV.int .i64 (cIS R0 (0 + (Int.toNat t17)) 0))]; (try simp only [rappS_end, Nat.zero_add, Int.toNat_natCast]); exact (h.1 c0).2.2.2.2.2.1)), ⟨⟨ndI hA (And.intro (by subst hA; exact (h.1 c0).1) (And.intro (by subst hA; exact (h.1 c0).2.1) (by subst hA; show (List.length R0) = (List.length (List.set R0 (0 + (Int.toNat t17)) [(AV.int .i64 (cIS R0 (0 + (Int.toNat (IntKind.wrap .i64 (t17 - (1 : Int))))) 0))])); (first | rfl | simp [rappS_end] | (simp only [rappS_end, List.length_append, List.length_set, List.length_cons, List.length_nil]; omega))))), ⟨⟨ndI hA (And.intro (by subst hA; show (List.length R0) = (List.length (List.set R0 (0 + (Int.toNat t17)) [(AV.int .i64 (cIS R0 (0 + (Int.toNat (IntKind.wrap .i64 (t17 - (1 : Int))))) 0))])); (first | rfl | simp [rappS_end] | (simp only [rappS_end, List.length_append, List.length_set, List.length_cons, List.length_nil]; omega))) (by subst hA; show (List.set R0 (0 + (Int.toNat t17)) [(AV.int .i64 (cIS R0 (0 + (Int.toNat (IntKind.wrap .i64 (t17 - (1 : Int))))) 0))])[(0 + (Int.toNat (IntKind.wrap .i64 (t17 - (1 : Int)))))]? = some [(AV.int .i64 (cIS (List.set R0 (0 + (Int.toNat t17)) [(AV.int .i64 (cIS R0 (0 + (Int.toNat (IntKind.wrap .i64 (t17 - (1 : Int))))) 0))]) (0 + (Int.toNat (IntKind.wrap .i64 (t17 - (1 : Int))))) 0))]; (try simp only [rappS_end, Nat.zero_add, Int.toNat_natCast]); exact (h.1 c0).2.2.2.2.2.2.1)), ⟨ndI hA (And.intro (by subst hA; show (List.length R0) = (List.length (List.set (List.set R0 (0 + (Int.toNat t17)) [(AV.int .i64 (cIS R0 (0 + (Int.toNat (IntKind.wrap .i64 (t17 - (1 : Int))))) 0))]) (0 + (Int.toNat (IntKind.wrap .i64 (t17 - (1 : Int))))) [(AV.int .i64 (cIS R0 (0 + (Int.toNat t17)) 0))])); (first | rfl | simp [rappS_end] | (simp only [rappS_end, List.length_append, List.length_set, List.length_cons, List.length_nil]; omega))) (And.intro rfl (by subst hA; show (List.length R0) = (List.length (List.set (List.set R0 (0 + (Int.toNat t17)) [(AV.int .i64 (cIS R0 (0 + (Int.toNat (IntKind.wrap .i64 (t17 - (1 : Int))))) 0))]) (0 + (Int.toNat (IntKind.wrap .i64 (t17 - (1 : Int))))) [(AV.int .i64 (cIS R0 (0 + (Int.toNat t17)) 0))])); (first | rfl | simp [rappS_end] | (simp only [rappS_end, List.length_append, List.length_set, List.length_cons, List.length_nil]; omega))))), ⟨ndI hA (by subst hA; exact (vset (vset hp.1 rfl) rfl)), (by subst hA; show EV 72 [(List.set (List.set R0 (0 + (Int.toNat t17)) [(AV.int .i64 (cIS R0 (0 + (Int.toNat (IntKind.wrap .i64 (t17 - (1 : Int))))) 0))]) (0 + (Int.toNat (IntKind.wrap .i64 (t17 - (1 : Int))))) [(AV.int .i64 (cIS R0 (0 + (Int.toNat t17)) 0))])] [(Lf.i t14), (Lf.i (IntKind.wrap .i64 (t17 - (1 : Int)))), (Lf.r tb1)]; (try simp only [rappS_end, Nat.zero_add, Int.toNat_natCast]); exact (h.1 c0).2.2.2.2.2.2.2)⟩⟩⟩, trivial⟩⟩, trivial⟩⟩, trivial⟩⟩, trivial⟩⟩, trivial⟩⟩, ⟨⟨ndI hA (And.intro rfl (by subst hA; show R0[(0 + (Int.toNat t17))]? = some [(AV.int .i64 (cIS R0 (0 + (Int.toNat t17)) 0))]; (try simp only [rappS_end, Nat.zero_add, Int.toNat_natCast]); exact (h.1 c0).2.2.2.2.2.1)), ⟨⟨ndI hA (And.intro rfl (by subst hA; show R0[(0 + (Int.toNat (IntKind.wrap .i64 (t17 - (1 : Int)))))]? = some [(AV.int .i64 (cIS R0 (0 + (Int.toNat (IntKind.wrap .i64 (t17 - (1 : Int))))) 0))]; (try simp only [rappS_end, Nat.zero_add, Int.toNat_natCast]); exact (h.1 c0).2.2.1)), ⟨⟨ndI hA (And.intro (by subst hA; exact (h.1 c0).2.2.2.1) (And.intro (by subst hA; exact (h.1 c0).2.2.2.2.1) rfl)), ⟨⟨ndI hA (And.intro rfl (by subst hA; show R0[(0 + (Int.toNat t17))]? = some [(AV.int .i64 (cIS R0 (0 + (Int.toNat t17)) 0))]; (try simp only [rappS_end, Nat.zero_add, Int.toNat_natCast]); exact (h.1 c0).2.2.2.2.2.1)), ⟨⟨ndI hA (And.intro (by subst hA; exact (h.1 c0).1) (And.intro (by subst hA; exact (h.1 c0).2.1) (by subst hA; show (List.length R0) = (List.length (List.set R0 (0 + (Int.toNat t17)) [(AV.int .i64 (cIS R0 (0 + (Int.toNat (IntKind.wrap .i64 (t17 - (1 : Int))))) 0))])); (first | rfl | simp [rappS_end] | (simp only [rappS_end, List.length_append, List.length_set, List.length_cons, List.length_nil]; omega))))), ⟨⟨ndI hA (And.intro (by subst hA; show (List.length R0) = (List.length (List.set R0 (0 + (Int.toNat t17)) [(AV.int .i64 (cIS R0 (0 + (Int.toNat (IntKind.wrap .i64 (t17 - (1 : Int))))) 0))])); (first | rfl | simp [rappS_end] | (simp only [rappS_end, List.length_append, List.length_set, List.length_cons, List.length_nil]; omega))) (by subst hA; show (List.set R0 (0 + (Int.toNat t17)) [(AV.int .i64 (cIS R0 (0 + (Int.toNat (IntKind.wrap .i64 (t17 - (1 : Int))))) 0))])[(0 + (Int.toNat (IntKind.wrap .i64 (t17 - (1 : Int)))))]? = some [(AV.int .i64 (cIS (List.set R0 (0 + (Int.toNat t17)) [(AV.int .i64 (cIS R0 (0 + (Int.toNat (IntKind.wrap .i64 (t17 - (1 : Int))))) 0))]) (0 + (Int.toNat (IntKind.wrap .i64 (t17 - (1 : Int))))) 0))]; (try simp only [rappS_end, Nat.zero_add, Int.toNat_natCast]); exact (h.1 c0).2.2.2.2.2.2.1)), ⟨ndI hA (And.intro (by subst hA; show (List.length R0) = (List.length (List.set (List.set R0 (0 + (Int.toNat t17)) [(AV.int .i64 (cIS R0 (0 + (Int.toNat (IntKind.wrap .i64 (t17 - (1 : Int))))) 0))]) (0 + (Int.toNat (IntKind.wrap .i64 (t17 - (1 : Int))))) [(AV.int .i64 (cIS R0 (0 + (Int.toNat t17)) 0))])); (first | rfl | simp [rappS_end] | (simp only [rappS_end, List.length_append, List.length_set, List.length_cons, List.length_nil]; omega))) (And.intro rfl (by subst hA; show (List.length R0) = (List.length (List.set (List.set R0 (0 + (Int.toNat t17)) [(AV.int .i64 (cIS R0 (0 + (Int.toNat (IntKind.wrap .i64 (t17 - (1 : Int))))) 0))]) (0 + (Int.toNat (IntKind.wrap .i64 (t17 - (1 : Int))))) [(AV.int .i64 (cIS R0 (0 + (Int.toNat t17)) 0))])); (first | rfl | simp [rappS_end] | (simp only [rappS_end, List.length_append, List.length_set, List.length_cons, List.length_nil]; omega))))), ⟨ndI hA (by subst hA; exact (vset (vset hp.1 rfl) rfl)), (by subst hA; show EV 72 [(List.set (List.set R0 (0 + (Int.toNat t17)) [(AV.int .i64 (cIS R0 (0 + (Int.toNat (IntKind.wrap .i64 (t17 - (1 : Int))))) 0))]) (0 + (Int.toNat (IntKind.wrap .i64 (t17 - (1 : Int))))) [(AV.int .i64 (cIS R0 (0 + (Int.toNat t17)) 0))])] [(Lf.i t14), (Lf.i (IntKind.wrap .i64 (t17 - (1 : Int)))), (Lf.r tb1)]; (try simp only [rappS_end, Nat.zero_add, Int.toNat_natCast]); exact (h.1 c0).2.2.2.2.2.2.2)⟩⟩⟩, trivial⟩⟩, trivial⟩⟩, trivial⟩⟩, trivial⟩⟩, trivial⟩⟩, trivial⟩⟩⟩, trivial⟩⟩⟩, ⟨⟨ndI hA (And.intro (by subst hA; exact (h.1 c0).2.2.2.1) (And.intro (by subst hA; exact (h.1 c0).2.2.2.2.1) rfl)), ⟨⟨ndI hA (And.intro (by subst hA; exact (h.1 c0).1) (And.intro (by subst hA; exact (h.1 c0).2.1) rfl)), ⟨⟨ndI hA (And.intro rfl (by subst hA; show R0[(0 + (Int.toNat (IntKind.wrap .i64 (t17 - (1 : Int)))))]? = some [(AV.int .i64 (cIS R0 (0 + (Int.toNat (IntKind.wrap .i64 (t17 - (1 : Int))))) 0))]; (try simp only [rappS_end, Nat.zero_add, Int.toNat_natCast]); exact (h.1 c0).2.2.1)), ⟨⟨ndI hA (And.intro rfl (by subst hA; show R0[(0 + (Int.toNat t17))]? = some [(AV.int .i64 (cIS R0 (0 + (Int.toNat t17)) 0))]; (try simp only [rappS_end, Nat.zero_add, Int.toNat_natCast]); exact (h.1 c0).2.2.2.2.2.1)), ⟨⟨ndI hA (And.intro (by subst hA; exact (h.1 c0).2.2.2.1) (And.intro (by subst hA; exact (h.1 c0).2.2.2.2.1) rfl)), ⟨⟨ndI hA (And.intro rfl (by subst hA; show R0[(0 + (Int.toNat t17))]? = some [(AV.int .i64 (cIS R0 (0 + (Int.toNat t17)) 0))]; (try simp only [rappS_end, Nat.zero_add, Int.toNat_natCast]); exact (h.1 c0).2.2.2.2.2.1)), ⟨⟨ndI hA (And.intro (by subst hA; exact (h.1 c0).1) (And.intro (by subst hA; exact (h.1 c0).2.1) (by subst hA; show (List.length R0) = (List.length (List.set R0 (0 + (Int.toNat t17)) [(AV.int .i64 (cIS R0 (0 + (Int.toNat (IntKind.wrap .i64 (t17 - (1 : Int))))) 0))])); (first | rfl | simp [rappS_end] | (simp only [rappS_end, List.length_append, List.length_set, List.length_cons, List.length_nil]; omega))))), ⟨⟨ndI hA (And.intro (by subst hA; show (List.length R0) = (List.length (List.set R0 (0 + (Int.toNat t17)) [(AV.int .i64 (cIS R0 (0 + (Int.toNat (IntKind.wrap .i64 (t17 - (1 : Int))))) 0))])); (first | rfl | simp [rappS_end] | (simp only [rappS_end, List.length_append, List.length_set, List.length_cons, List.length_nil]; omega))) (by subst hA; show (List.set R0 (0 + (Int.toNat t17)) [(AV.int .i64 (cIS R0 (0 + (Int.toNat (IntKind.wrap .i64 (t17 - (1 : Int))))) 0))])[(0 + (Int.toNat (IntKind.wrap .i64 (t17 - (1 : Int)))))]? = some [(AV.int .i64 (cIS (List.set R0 (0 + (Int.toNat t17)) [(AV.int .i64 (cIS R0 (0 + (Int.toNat (IntKind.wrap .i64 (t17 - (1 : Int))))) 0))]) (0 + (Int.toNat (IntKind.wrap .i64 (t17 - (1 : Int))))) 0))]; (try simp only [rappS_end, Nat.zero_add, Int.toNat_natCast]); exact (h.1 c0).2.2.2.2.2.2.1)), ⟨ndI hA (And.intro (by subst hA; show (List.length R0) = (List.length (List.set (List.set R0 (0 + (Int.toNat t17)) [(AV.int .i64 (cIS R0 (0 + (Int.toNat (IntKind.wrap .i64 (t17 - (1 : Int))))) 0))]) (0 + (Int.toNat (IntKind.wrap .i64 (t17 - (1 : Int))))) [(AV.int .i64 (cIS R0 (0 + (Int.toNat t17)) 0))])); (first | rfl | simp [rappS_end] | (simp only [rappS_end, List.length_append, List.length_set, List.length_cons, List.length_nil]; omega))) (And.intro rfl (by subst hA; show (List.length R0) = (List.length (List.set (List.set R0 (0 + (Int.toNat t17)) [(AV.int .i64 (cIS R0 (0 + (Int.toNat (IntKind.wrap .i64 (t17 - (1 : Int))))) 0))]) (0 + (Int.toNat (IntKind.wrap .i64 (t17 - (1 : Int))))) [(AV.int .i64 (cIS R0 (0 + (Int.toNat t17)) 0))])); (first | rfl | simp [rappS_end] | (simp only [rappS_end, List.length_append, List.length_set, List.length_cons, List.length_nil]; omega))))), ⟨ndI hA (by subst hA; exact (vset (vset hp.1 rfl) rfl)), (by subst hA; show EV 72 [(List.set (List.set R0 (0 + (Int.toNat t17)) [(AV.int .i64 (cIS R0 (0 + (Int.toNat (IntKind.wrap .i64 (t17 - (1 : Int))))) 0))]) (0 + (Int.toNat (IntKind.wrap .i64 (t17 - (1 : Int))))) [(AV.int .i64 (cIS R0 (0 + (Int.toNat t17)) 0))])] [(Lf.i t14), (Lf.i (IntKind.wrap .i64 (t17 - (1 : Int)))), (Lf.r tb1)]; (try simp only [rappS_end, Nat.zero_add, Int.toNat_natCast]); exact (h.1 c0).2.2.2.2.2.2.2)⟩⟩⟩, trivial⟩⟩, trivial⟩⟩, trivial⟩⟩, trivial⟩⟩, trivial⟩⟩, ⟨⟨ndI hA (And.intro rfl (by subst hA; show R0[(0 + (Int.toNat t17))]? = some [(AV.int .i64 (cIS R0 (0 + (Int.toNat t17)) 0))]; (try simp only [rappS_end, Nat.zero_add, Int.toNat_natCast]); exact (h.1 c0).2.2.2.2.2.1)), ⟨⟨ndI hA (And.intro rfl (by subst hA; show R0[(0 + (Int.toNat (IntKind.wrap .i64 (t17 - (1 : Int)))))]? = some [(AV.int .i64 (cIS R0 (0 + (Int.toNat (IntKind.wrap .i64 (t17 - (1 : Int))))) 0))]; (try simp only [rappS_end, Nat.zero_add, Int.toNat_natCast]); exact (h.1 c0).2.2.1)), ⟨⟨ndI hA (And.intro (by subst hA; exact (h.1 c0).2.2.2.1) (And.intro (by subst hA; exact (h.1 c0).2.2.2.2.1) rfl)), ⟨⟨ndI hA (And.intro rfl (by subst hA; show R0[(0 + (Int.toNat t17))]? = some [(AV.int .i64 (cIS R0 (0 + (Int.toNat t17)) 0))]; (try simp only [rappS_end, Nat.zero_add, Int.toNat_natCast]); exact (h.1 c0).2.2.2.2.2.1)), ⟨⟨ndI hA (And.intro (by subst hA; exact (h.1 c0).1) (And.intro (by subst hA; exact (h.1 c0).2.1) (by subst hA; show (List.length R0) = (List.length (List.set R0 (0 + (Int.toNat t17)) [(AV.int .i64 (cIS R0 (0 + (Int.toNat (IntKind.wrap .i64 (t17 - (1 : Int))))) 0))])); (first | rfl | simp [rappS_end] | (simp only [rappS_end, List.length_append, List.length_set, List.length_cons, List.length_nil]; omega))))), ⟨⟨ndI hA (And.intro (by subst hA; show (List.length R0) = (List.length (List.set R0 (0 + (Int.toNat t17)) [(AV.int .i64 (cIS R0 (0 + (Int.toNat (IntKind.wrap .i64 (t17 - (1 : Int))))) 0))])); (first | rfl | simp [rappS_end] | (simp only [rappS_end, List.length_append, List.length_set, List.length_cons, List.length_nil]; omega))) (by subst hA; show (List.set R0 (0 + (Int.toNat t17)) [(AV.int .i64 (cIS R0 (0 + (Int.toNat (IntKind.wrap .i64 (t17 - (1 : Int))))) 0))])[(0 + (Int.toNat (IntKind.wrap .i64 (t17 - (1 : Int)))))]? = some [(AV.int .i64 (cIS (List.set R0 (0 + (Int.toNat t17)) [(AV.int .i64 (cIS R0 (0 + (Int.toNat (IntKind.wrap .i64 (t17 - (1 : Int))))) 0))]) (0 + (Int.toNat (IntKind.wrap .i64 (t17 - (1 : Int))))) 0))]; (try simp only [rappS_end, Nat.zero_add, Int.toNat_natCast]); exact (h.1 c0).2.2.2.2.2.2.1)), ⟨ndI hA (And.intro (by subst hA; show (List.length R0) = (List.length (List.set (List.set R0 (0 + (Int.toNat t17)) [(AV.int .i64 (cIS R0 (0 + (Int.toNat (IntKind.wrap .i64 (t17 - (1 : Int))))) 0))]) (0 + (Int.toNat (IntKind.wrap .i64 (t17 - (1 : Int))))) [(AV.int .i64 (cIS R0 (0 + (Int.toNat t17)) 0))])); (first | rfl | simp [rappS_end] | (simp only [rappS_end, List.length_append, List.length_set, List.length_cons, List.length_nil]; omega))) (And.intro rfl (by subst hA; show (List.length R0) = (List.length (List.set (List.set R0 (0 + (Int.toNat t17)) [(AV.int .i64 (cIS R0 (0 + (Int.toNat (IntKind.wrap .i64 (t17 - (1 : Int))))) 0))]) (0 + (Int.toNat (IntKind.wrap .i64 (t17 - (1 : Int))))) [(AV.int .i64 (cIS R0 (0 + (Int.toNat t17)) 0))])); (first | rfl | simp [rappS_end] | (simp only [rappS_end, List.length_append, List.length_set, List.length_cons, List.length_nil]; omega))))), ⟨ndI hA (by subst hA; exact (vset (vset hp.1 rfl) rfl)), (by subst hA; show EV 72 [(List.set (List.set R0 (0 + (Int.toNat t17)) [(AV.int .i64 (cIS R0 (0 + (Int.toNat (IntKind.wrap .i64 (t17 - (1 : Int))))) 0))]) (0 + (Int.toNat (IntKind.wrap .i64 (t17 - (1 : Int))))) [(AV.int .i64 (cIS R0 (0 + (Int.toNat t17)) 0))])] [(Lf.i t14), (Lf.i (IntKind.wrap .i64 (t17 - (1 : Int)))), (Lf.r tb1)]; (try simp only [rappS_end, Nat.zero_add, Int.toNat_natCast]); exact (h.1 c0).2.2.2.2.2.2.2)⟩⟩⟩, trivial⟩⟩, trivial⟩⟩, trivial⟩⟩, trivial⟩⟩, trivial⟩⟩, trivial⟩⟩⟩, ⟨⟨ndI hA (And.intro rfl (by subst hA; show R0[(0 + (Int.toNat t17))]? = some [(AV.int .i64 (cIS R0 (0 + (Int.toNat t17)) 0))]; (try simp only [rappS_end, Nat.zero_add, Int.toNat_natCast]); exact (h.1 c0).2.2.2.2.2.1)), ⟨⟨ndI hA (And.intro (by subst hA; exact (h.1 c0).1) (And.intro (by subst hA; exact (h.1 c0).2.1) rfl)), ⟨⟨ndI hA (And.intro rfl (by subst hA; show R0[(0 + (Int.toNat (IntKind.wrap .i64 (t17 - (1 : Int)))))]? = some [(AV.int .i64 (cIS R0 (0 + (Int.toNat (IntKind.wrap .i64 (t17 - (1 : Int))))) 0))]; (try simp only [rappS_end, Nat.zero_add, Int.toNat_natCast]); exact (h.1 c0).2.2.1)), ⟨⟨ndI hA (And.intro (by subst hA; exact (h.1 c0).2.2.2.1) (And.intro (by subst hA; exact (h.1 c0).2.2.2.2.1) rfl)), ⟨⟨ndI hA (And.intro rfl (by subst hA; show R0[(0 + (Int.toNat t17))]? = some [(AV.int .i64 (cIS R0 (0 + (Int.toNat t17)) 0))]; (try simp only [rappS_end, Nat.zero_add, Int.toNat_natCast]); exact (h.1 c0).2.2.2.2.2.1)), ⟨⟨ndI hA (And.intro (by subst hA; exact (h.1 c0).1) (And.intro (by subst hA; exact (h.1 c0).2.1) (by subst hA; show (List.length R0) = (List.length (List.set R0 (0 + (Int.toNat t17)) [(AV.int .i64 (cIS R0 (0 + (Int.toNat (IntKind.wrap .i64 (t17 - (1 : Int))))) 0))])); (first | rfl | simp [rappS_end] | (simp only [rappS_end, List.length_append, List.length_set, List.length_cons, List.length_nil]; omega))))), ⟨⟨ndI hA (And.intro (by subst hA; show (List.length R0) = (List.length (List.set R0 (0 + (Int.toNat t17)) [(AV.int .i64 (cIS R0 (0 + (Int.toNat (IntKind.wrap .i64 (t17 - (1 : Int))))) 0))])); (first | rfl | simp [rappS_end] | (simp only [rappS_end, List.length_append, List.length_set, List.length_cons, List.length_nil]; omega))) (by subst hA; show (List.set R0 (0 + (Int.toNat t17)) [(AV.int .i64 (cIS R0 (0 + (Int.toNat (IntKind.wrap .i64 (t17 - (1 : Int))))) 0))])[(0 + (Int.toNat (IntKind.wrap .i64 (t17 - (1 : Int)))))]? = some [(AV.int .i64 (cIS (List.set R0 (0 + (Int.toNat t17)) [(AV.int .i64 (cIS R0 (0 + (Int.toNat (IntKind.wrap .i64 (t17 - (1 : Int))))) 0))]) (0 + (Int.toNat (IntKind.wrap .i64 (t17 - (1 : Int))))) 0))]; (try simp only [rappS_end, Nat.zero_add, Int.toNat_natCast]); exact (h.1 c0).2.2.2.2.2.2.1)), ⟨ndI hA (And.intro (by subst hA; show (List.length R0) = (List.length (List.set (List.set R0 (0 + (Int.toNat t17)) [(AV.int .i64 (cIS R0 (0 + (Int.toNat (IntKind.wrap .i64 (t17 - (1 : Int))))) 0))]) (0 + (Int.toNat (IntKind.wrap .i64 (t17 - (1 : Int))))) [(AV.int .i64 (cIS R0 (0 + (Int.toNat t17)) 0))])); (first | rfl | simp [rappS_end] | (simp only [rappS_end, List.length_append, List.length_set, List.length_cons, List.length_nil]; omega))) (And.intro rfl (by subst hA; show (List.length R0) = (List.length (List.set (List.set R0 (0 + (Int.toNat t17)) [(AV.int .i64 (cIS R0 (0 + (Int.toNat (IntKind.wrap .i64 (t17 - (1 : Int))))) 0))]) (0 + (Int.toNat (IntKind.wrap .i64 (t17 - (1 : Int))))) [(AV.int .i64 (cIS R0 (0 + (Int.toNat t17)) 0))])); (first | rfl | simp [rappS_end] | (simp only [rappS_end, List.length_append, List.length_set, List.length_cons, List.length_nil]; omega))))), ⟨ndI hA (by subst hA; exact (vset (vset hp.1 rfl) rfl)), (by subst hA; show EV 72 [(List.set (List.set R0 (0 + (Int.toNat t17)) [(AV.int .i64 (cIS R0 (0 + (Int.toNat (IntKind.wrap .i64 (t17 - (1 : Int))))) 0))]) (0 + (Int.toNat (IntKind.wrap .i64 (t17 - (1 : Int))))) [(AV.int .i64 (cIS R0 (0 + (Int.toNat t17)) 0))])] [(Lf.i t14), (Lf.i (IntKind.wrap .i64 (t17 - (1 : Int)))), (Lf.r tb1)]; (try simp only [rappS_end, Nat.zero_add, Int.toNat_natCast]); exact (h.1 c0).2.2.2.2.2.2.2)⟩⟩⟩, trivial⟩⟩, trivial⟩⟩, trivial⟩⟩, trivial⟩⟩, trivial⟩⟩, trivial⟩⟩, trivial⟩⟩⟩, trivial⟩⟩, imI hA fun e0 => have c0 : t17 ≤ t14 := (by have q := (cmpE (op := .gtr) hA e0); subst hA; exact q); ⟨ndI hA (by subst hA; exact hp.1), (by rw [W.rr]; exact (by subst hA; exact (h.2 c0)))⟩⟩
  · intro R0 t1 t2 t3 t18 t19 t20 t21 tb1 h
    refine W.step 80 fun hp => ?_
    have h := h hp.1
    cbv
    refine ⟨ndI hA (And.intro rfl (And.intro rfl rfl)), ⟨ndI hA (by subst hA; exact hp.1), (by subst hA; exact h)⟩⟩
  · intro R0 t1 t2 t3 t18 t19 t20 t21 t22 tb1 h
    refine W.step 80 fun hp => ?_
    have h := h hp.1
    cbv
    refine ⟨imI hA fun e0 => have c0 : t20 < t21 := (by have q := (cmpE (op := .lss) hA e0); subst hA; exact q); ⟨ndI hA (by subst hA; exact (h.1 c0).1), ⟨ndI hA (And.intro (by subst hA; exact (h.1 c0).2.1) (And.intro (by subst hA; exact (h.1 c0).2.2.1) rfl)), ⟨ndI hA (And.intro rfl (by subst hA; show R0[(0 + (Int.toNat (IntKind.wrap .i64 (t22 - (IntKind.wrap .i64 (iopS .shr .u64 (IntKind.wrap .u64 (IntKind.wrap .i64 (t20 + t21))) (1 : Int)))))))]? = some [(AV.int .i64 (cIS R0 (0 + (Int.toNat (IntKind.wrap .i64 (t22 - (IntKind.wrap .i64 (iopS .shr .u64 (IntKind.wrap .u64 (IntKind.wrap .i64 (t20 + t21))) (1 : Int))))))) 0))]; (try simp only [rappS_end, Nat.zero_add, Int.toNat_natCast]); exact (h.1 c0).2.2.2.1)), ⟨ndI hA (And.intro (by subst hA; exact (h.1 c0).2.2.2.2.1) (And.intro (by subst hA; exact (h.1 c0).2.2.2.2.2.1) rfl)), ⟨ndI hA (And.intro rfl (by subst hA; show R0[(0 + (Int.toNat (IntKind.wrap .i64 (iopS .shr .u64 (IntKind.wrap .u64 (IntKind.wrap .i64 (t20 + t21))) (1 : Int)))))]? = some [(AV.int .i64 (cIS R0 (0 + (Int.toNat (IntKind.wrap .i64 (iopS .shr .u64 (IntKind.wrap .u64 (IntKind.wrap .i64 (t20 + t21))) (1 : Int))))) 0))]; (try simp only [rappS_end, Nat.zero_add, Int.toNat_natCast]); exact (h.1 c0).2.2.2.2.2.2.1)), ⟨?_, trivial⟩⟩⟩⟩⟩⟩, imI hA fun e0 => have c0 : t20 ≥ t21 := (by have q := (cmpE (op := .lss) hA e0); subst hA; exact q); ⟨imI hA fun e1 => have c1 : t20 < t2 := (by have q := (cmpE (op := .lss) hA e1); subst hA; exact q); ⟨imI hA fun e2 => have c2 : t2 < (IntKind.wrap .i64 (t19 - t20)) := (by have q := (cmpE (op := .lss) hA e2); subst hA; exact q); ⟨ndI hA (And.intro rfl (And.intro rfl rfl)), ⟨ndI hA (by subst hA; exact hp.1), ?_⟩⟩, imI hA fun e2 => have c2 : t2 ≥ (IntKind.wrap .i64 (t19 - t20)) := (by have q := (cmpE (op := .lss) hA e2); subst hA; exact q); ⟨ndI hA (And.intro rfl (And.intro rfl rfl)), ⟨ndI hA (by subst hA; exact hp.1), (by subst hA; exact (((h.2 c0).1 c1).2 c2))⟩⟩⟩, imI hA fun e1 => have c1 : t20 ≥ t2 := (by have q := (cmpE (op := .lss) hA e1); subst hA; exact q); ⟨ndI hA (And.intro rfl (And.intro rfl rfl)), ⟨ndI hA (by subst hA; exact hp.1), (by subst hA; exact ((h.2 c0).2 c1))⟩⟩⟩⟩
    · refine W.callD (by rfl) (h.1 c0).2.2.2.2.2.2.2 (by subst hA; show [] = []; (try simp only [rappS_end, Nat.zero_add, Int.toNat_natCast])) (by subst hA; show [(Lf.i (cIS R0 (0 + (Int.toNat (IntKind.wrap .i64 (t22 - (IntKind.wrap .i64 (iopS .shr .u64 (IntKind.wrap .u64 (IntKind.wrap .i64 (t20 + t21))) (1 : Int))))))) 0)), (Lf.i (cIS R0 (0 + (Int.toNat (IntKind.wrap .i64 (iopS .shr .u64 (IntKind.wrap .u64 (IntKind.wrap .i64 (t20 + t21))) (1 : Int))))) 0)), (Lf.r tb1)] = [(Lf.i (cIS R0 (Int.toNat (IntKind.wrap .i64 (t22 - (IntKind.wrap .i64 (iopS .shr .u64 (IntKind.wrap .u64 (IntKind.wrap .i64 (t20 + t21))) (1 : Int)))))) 0)), (Lf.i (cIS R0 (Int.toNat (IntKind.wrap .i64 (iopS .shr .u64 (IntKind.wrap .u64 (IntKind.wrap .i64 (t20 + t21))) (1 : Int)))) 0)), (Lf.r tb1)]; (try simp only [rappS_end, Nat.zero_add, Int.toNat_natCast])) ?_
      rintro x rs vs hp1 hq1
      rcases hq1 with ⟨rfl, y1_0, y1_b0, rfl, rfl, k1⟩
      · cbv
        refine ?_
        · refine W.draw 80 (by rfl) ?_
          cbv
          refine ⟨imI hA fun e2 => have c2 : y1_0 ≥ (0 : Int) := (by have q := (cmpE (op := .lss) hA (notE hA e2)); subst hA; exact q); ⟨ndI hA (And.intro rfl (And.intro rfl rfl)), ⟨ndI hA (by subst hA; exact hp.1), (by subst hA; exact (k1.1 c2))⟩⟩, imI hA fun e2 => have c2 : y1_0 < (0 : Int) := (by have q := (cmpE (op := .lss) hA (notE hA e2)); subst hA; exact q); ⟨ndI hA (And.intro rfl (And.intro rfl rfl)), ⟨ndI hA (by subst hA; exact hp.1), (by subst hA; exact (k1.2 c2))⟩⟩⟩
    · refine W.call 80 (by rfl) (((h.2 c0).1 c1).1 c2) (by subst hA; rfl) (by subst hA; rfl) ?_
      rintro x rs vs hp3 hq3
      rcases hq3 with ⟨rfl, Y3_0, y3_b1, rfl, rfl, k3⟩
      · cbv
        refine ⟨ndI hA (And.intro (by subst hA; exact k3.1) (And.intro rfl (by subst hA; exact k3.1))), ⟨ndI hA (by subst hA; exact hp3.1), (by subst hA; exact k3.2)⟩⟩
  · intro R0 t1 t3 t18 t20 t24 tb1 h
    refine W.step 80 fun hp => ?_
    have h := h hp.1
    cbv
    refine ⟨imI hA fun e0 => have c0 : t1 < t20 := (by have q := (cmpE (op := .lss) hA e0); subst hA; exact q); ⟨imI hA fun e1 => have c1 : t20 < t18 := (by have q := (cmpE (op := .lss) hA e1); subst hA; exact q); ⟨ndI hA (And.intro rfl (And.intro rfl rfl)), ⟨ndI hA (by subst hA; exact hp.1), ?_⟩⟩, imI hA fun e1 => have c1 : t20 ≥ t18 := (by have q := (cmpE (op := .lss) hA e1); subst hA; exact q); ⟨ndI hA (And.intro rfl (And.intro rfl rfl)), ⟨ndI hA (by subst hA; exact hp.1), (by subst hA; exact ((h.1 c0).2 c1))⟩⟩⟩, imI hA fun e0 => have c0 : t1 ≥ t20 := (by have q := (cmpE (op := .lss) hA e0); subst hA; exact q); ⟨ndI hA (And.intro rfl (And.intro rfl rfl)), ⟨ndI hA (by subst hA; exact hp.1), (by subst hA; exact (h.2 c0))⟩⟩⟩
    · refine W.call 80 (by rfl) ((h.1 c0).1 c1) (by subst hA; rfl) (by subst hA; rfl) ?_
      rintro x rs vs hp2 hq2
      rcases hq2 with ⟨rfl, Y2_0, y2_b1, rfl, rfl, k2⟩
      · cbv
        refine ⟨ndI hA (And.intro (by subst hA; exact k2.1) (And.intro rfl (by subst hA; exact k2.1))), ⟨ndI hA (by subst hA; exact hp2.1), (by subst hA; exact k2.2)⟩⟩
  · intro R0 t3 t18 t24 tb1 h
    refine W.step 80 fun hp => ?_
    have h := h hp.1
    cbv
    refine ⟨imI hA fun e0 => have c0 : t18 < t24 := (by have q := (cmpE (op := .lss) hA e0); subst hA; exact q); ⟨imI hA fun e1 => have c1 : t24 < t3 := (by have q := (cmpE (op := .lss) hA e1); subst hA; exact q); ⟨ndI hA (And.intro rfl (And.intro rfl rfl)), ⟨ndI hA (by subst hA; exact hp.1), ?_⟩⟩, imI hA fun e1 => have c1 : t24 ≥ t3 := (by have q := (cmpE (op := .lss) hA e1); subst hA; exact q); ⟨ndI hA (by subst hA; exact hp.1), (by rw [W.rr]; exact (by subst hA; exact ((h.1 c0).2 c1)))⟩⟩, imI hA fun e0 => have c0 : t18 ≥ t24 := (by have q := (cmpE (op := .lss) hA e0); subst hA; exact q); ⟨ndI hA (by subst hA; exact hp.1), (by rw [W.rr]; exact (by subst hA; exact (h.2 c0)))⟩⟩
    · refine W.call 80 (by rfl) ((h.1 c0).1 c1) (by subst hA; rfl) (by subst hA; rfl) ?_
      rintro x rs vs hp2 hq2
      rcases hq2 with ⟨rfl, Y2_0, y2_b1, rfl, rfl, k2⟩
      · cbv
        refine ⟨ndI hA (by subst hA; exact hp2.1), (by rw [W.rr]; exact (by subst hA; exact k2))⟩

end
set_option maxHeartbeats 0 in
/-- To enter. -/
theorem E83 {Q : Nat → Rs → List Lf → Prop} {R0 : List (List AV)} {a1 : Int} {a2 : Int} {a3 : Int} {ab1 : List (List AV)} (h : pursS R0 = true → ∀ EV : Nat → Rs → List Lf → Prop, V83 EV Q →
    ((IntKind.wrap .i64 (a2 - a1)) = (1 : Int) →
      EV 11 [R0] [(Lf.i a1), (Lf.i a2), (Lf.i a3), (Lf.r ab1)]) ∧
    ((IntKind.wrap .i64 (a2 - a1)) ≠ (1 : Int) →
      ((IntKind.wrap .i64 (a3 - a2)) = (1 : Int) →
        EV 53 [R0] [(Lf.i a2), (Lf.i a1), (Lf.i a2), (Lf.r ab1)]) ∧
      ((IntKind.wrap .i64 (a3 - a2)) ≠ (1 : Int) →
        ((0 : Int) ≤ (1 : Int)) ∧
        (a2 > (IntKind.wrap .i64 (iopS .shr .u64 (IntKind.wrap .u64 (IntKind.wrap .i64 (a1 + a3))) (1 : Int))) →
          EV 100 [R0] [(Lf.i a1), (Lf.i a2), (Lf.i a3), (Lf.i (IntKind.wrap .i64 (iopS .shr .u64 (IntKind.wrap .u64 (IntKind.wrap .i64 (a1 + a3))) (1 : Int)))), (Lf.i (IntKind.wrap .i64 ((IntKind.wrap .i64 (iopS .shr .u64 (IntKind.wrap .u64 (IntKind.wrap .i64 (a1 + a3))) (1 : Int))) + a2))), (Lf.i (IntKind.wrap .i64 ((IntKind.wrap .i64 ((IntKind.wrap .i64 (iopS .shr .u64 (IntKind.wrap .u64 (IntKind.wrap .i64 (a1 + a3))) (1 : Int))) + a2)) - a3))), (Lf.i (IntKind.wrap .i64 (iopS .shr .u64 (IntKind.wrap .u64 (IntKind.wrap .i64 (a1 + a3))) (1 : Int)))), (Lf.r ab1)]) ∧
        (a2 ≤ (IntKind.wrap .i64 (iopS .shr .u64 (IntKind.wrap .u64 (IntKind.wrap .i64 (a1 + a3))) (1 : Int))) →
          EV 100 [R0] [(Lf.i a1), (Lf.i a2), (Lf.i a3), (Lf.i (IntKind.wrap .i64 (iopS .shr .u64 (IntKind.wrap .u64 (IntKind.wrap .i64 (a1 + a3))) (1 : Int)))), (Lf.i (IntKind.wrap .i64 ((IntKind.wrap .i64 (iopS .shr .u64 (IntKind.wrap .u64 (IntKind.wrap .i64 (a1 + a3))) (1 : Int))) + a2))), (Lf.i a1), (Lf.i a2), (Lf.r ab1)])))) :
    EC Try.prog G83 [R0] [.i a1, .i a2, .i a3, .r ab1] Q := by
  obtain ⟨A, hA⟩ : ∃ A, A = arS := ⟨_, rfl⟩
  refine Inst.enter (I := I83) hA mixed F83_at sg L83 80 rfl fun CE CK Dn EV RR W hp => ?_
  have h := h hp.1 EV (V83.of W)
  cbv
  refine ⟨imI hA fun e0 => have c0 : (IntKind.wrap .i64 (a2 - a1)) = (1 : Int) := (by have q := (cmpE (op := .eql) hA e0); subst hA; exact q); ⟨ndI hA (And.intro rfl (And.intro rfl rfl)), ⟨ndI hA (by subst hA; exact hp.1), (by subst hA; exact (h.1 c0))⟩⟩, imI hA fun e0 => have c0 : (IntKind.wrap .i64 (a2 - a1)) ≠ (1 : Int) := (by have q := (cmpE (op := .eql) hA e0); subst hA; exact q); ⟨imI hA fun e1 => have c1 : (IntKind.wrap .i64 (a3 - a2)) = (1 : Int) := (by have q := (cmpE (op := .eql) hA e1); subst hA; exact q); ⟨ndI hA (And.intro rfl (And.intro rfl rfl)), ⟨ndI hA (by subst hA; exact hp.1), (by subst hA; exact ((h.2 c0).1 c1))⟩⟩, imI hA fun e1 => have c1 : (IntKind.wrap .i64 (a3 - a2)) ≠ (1 : Int) := (by have q := (cmpE (op := .eql) hA e1); subst hA; exact q); ⟨ndI hA (by subst hA; exact ((h.2 c0).2 c1).1), ⟨imI hA fun e2 => have c2 : a2 > (IntKind.wrap .i64 (iopS .shr .u64 (IntKind.wrap .u64 (IntKind.wrap .i64 (a1 + a3))) (1 : Int))) := (by have q := (cmpE (op := .gtr) hA e2); subst hA; exact q); ⟨ndI hA (And.intro rfl (And.intro rfl rfl)), ⟨ndI hA (by subst hA; exact hp.1), (by subst hA; exact (((h.2 c0).2 c1).2.1 c2))⟩⟩, imI hA fun e2 => have c2 : a2 ≤ (IntKind.wrap .i64 (iopS .shr .u64 (IntKind.wrap .u64 (IntKind.wrap .i64 (a1 + a3))) (1 : Int))) := (by have q := (cmpE (op := .gtr) hA e2); subst hA; exact q); ⟨ndI hA (And.intro rfl (And.intro rfl rfl)), ⟨ndI hA (by subst hA; exact hp.1), (by subst hA; exact (((h.2 c0).2 c1).2.2 c2))⟩⟩⟩⟩⟩⟩

-- 76: slices.stableCmpFunc[int]
section
structure V76 (EV Q : Nat → Rs → List Lf → Prop) : Prop where
  p7 : ∀ {R0 : List (List AV)} {t1 : Int} {t6 : Int} {t7 : Int} {t8 : Int} {tb1 : List (List AV)}, (pursS R0 = true → 
    (t8 ≤ t1 →
      EC Try.prog G82 [R0] [(Lf.i t7), (Lf.i t8), (Lf.r tb1)] (fun x rs vs => (x = 0 ∧ ∃ (Y1_0 : List (List AV)) (y1_b1 : List (List AV)), rs = [Y1_0] ∧ vs = [.r y1_b1] ∧
        (((List.length R0) = (List.length Y1_0)) ∧
          (EV 7 [Y1_0] [(Lf.i t1), (Lf.i t6), (Lf.i t8), (Lf.i (IntKind.wrap .i64 (t8 + t6))), (Lf.r y1_b1)]))))) ∧
    (t8 > t1 →
      EC Try.prog G82 [R0] [(Lf.i t7), (Lf.i t1), (Lf.r tb1)] (fun x rs vs => (x = 0 ∧ ∃ (Y1_0 : List (List AV)) (y1_b1 : List (List AV)), rs = [Y1_0] ∧ vs = [.r y1_b1] ∧
        (((List.length R0) = (List.length Y1_0)) ∧
          (EV 23 [Y1_0] [(Lf.i t1), (Lf.i t6), (Lf.r y1_b1)])))))) →
    EV 7 [R0] [.i t1, .i t6, .i t7, .i t8, .r tb1]
  p23 : ∀ {R0 : List (List AV)} {t1 : Int} {t6 : Int} {tb1 : List (List AV)}, (pursS R0 = true → 
    (t6 < t1 →
      EV 35 [R0] [(Lf.i t1), (Lf.i t6), (Lf.i (0 : Int)), (Lf.i (IntKind.wrap .i64 ((2 : Int) * t6))), (Lf.r tb1)]) ∧
    (t6 ≥ t1 →
      Q 0 [R0] [(Lf.r tb1)])) →
    EV 23 [R0] [.i t1, .i t6, .r tb1]
  p35 : ∀ {R0 : List (List AV)} {t1 : Int} {t6 : Int} {t7 : Int} {t8 : Int} {tb1 : List (List AV)}, (pursS R0 = true → 
    (t8 ≤ t1 →
      EC Try.prog G83 [R0] [(Lf.i t7), (Lf.i (IntKind.wrap .i64 (t7 + t6))), (Lf.i t8), (Lf.r tb1)] (fun x rs vs => (x = 0 ∧ ∃ (Y1_0 : List (List AV)) (y1_b1 : List (List AV)), rs = [Y1_0] ∧ vs = [.r y1_b1] ∧
        (((List.length R0) = (List.length Y1_0)) ∧
          (EV 35 [Y1_0] [(Lf.i t1), (Lf.i t6), (Lf.i t8), (Lf.i (IntKind.wrap .i64 (t8 + (IntKind.wrap .i64 ((2 : Int) * t6))))), (Lf.r y1_b1)]))))) ∧
    (t8 > t1 →
      ((IntKind.wrap .i64 (t7 + t6)) < t1 →
        EC Try.prog G83 [R0] [(Lf.i t7), (Lf.i (IntKind.wrap .i64 (t7 + t6))), (Lf.i t1), (Lf.r tb1)] (fun x rs vs => (x = 0 ∧ ∃ (Y2_0 : List (List AV)) (y2_b1 : List (List AV)), rs = [Y2_0] ∧ vs = [.r y2_b1] ∧
          (((List.length R0) = (List.length Y2_0)) ∧
            (EV 23 [Y2_0] [(Lf.i t1), (Lf.i (IntKind.wrap .i64 (t6 * (2 : Int)))), (Lf.r y2_b1)]))))) ∧
      ((IntKind.wrap .i64 (t7 + t6)) ≥ t1 →
        EV 23 [R0] [(Lf.i t1), (Lf.i (IntKind.wrap .i64 (t6 * (2 : Int)))), (Lf.r tb1)]))) →
    EV 35 [R0] [.i t1, .i t6, .i t7, .i t8, .r tb1]

set_option maxHeartbeats 0 in
theorem V76.of {Q : Nat → Rs → List Lf → Prop} {A : Ar} {CE : Nat → Rs → List Lf → (Nat → Rs → List Lf → Prop) → Prop} {CK : Nat → Rs → List Lf → Cont → Prop} {Dn : Nat → List Bool → List AItem → Nat → List Bool → List AV → List ABlk → Prop} {EV RR : Nat → Rs → List Lf → Prop} (W : Wk Try.prog Try.f76 I76 L76 Q A sg CE CK Dn EV RR) : V76 EV Q := by
  have hA := W.hA
  refine ⟨?_, ?_, ?_⟩
  · intro R0 t1 t6 t7 t8 tb1 h
    refine W.step 80 fun hp => ?_
    have h := h hp.1
    cbv
    refine ⟨imI hA fun e0 => have c0 : t8 ≤ t1 := (by have q := (cmpE (op := .leq) hA e0); subst hA; exact q); ⟨ndI hA (And.intro rfl (And.intro rfl rfl)), ⟨ndI hA (by subst hA; exact hp.1), ?_⟩⟩, imI hA fun e0 => have c0 : t8 > t1 := (by have q := (cmpE (op := .leq) hA e0); subst hA; exact q); ⟨ndI hA (And.intro rfl (And.intro rfl rfl)), ⟨ndI hA (by subst hA; exact hp.1), ?_⟩⟩⟩
    · refine W.call 80 (by rfl) (h.1 c0) (by subst hA; rfl) (by subst hA; rfl) ?_
      rintro x rs vs hp1 hq1
      rcases hq1 with ⟨rfl, Y1_0, y1_b1, rfl, rfl, k1⟩
      · cbv
        refine ⟨ndI hA (And.intro (by subst hA; exact k1.1) (And.intro rfl (by subst hA; exact k1.1))), ⟨ndI hA (by subst hA; exact hp1.1), (by subst hA; exact k1.2)⟩⟩
    · refine W.call 80 (by rfl) (h.2 c0) (by subst hA; rfl) (by subst hA; rfl) ?_
      rintro x rs vs hp1 hq1
      rcases hq1 with ⟨rfl, Y1_0, y1_b1, rfl, rfl, k1⟩
      · cbv
        refine ⟨ndI hA (And.intro (by subst hA; exact k1.1) (And.intro rfl (by subst hA; exact k1.1))), ⟨ndI hA (by subst hA; exact hp1.1), (by subst hA; exact k1.2)⟩⟩
  · intro R0 t1 t6 tb1 h
    refine W.step 80 fun hp => ?_
    have h := h hp.1
    cbv
    refine ⟨imI hA fun e0 => have c0 : t6 < t1 := (by have q := (cmpE (op := .lss) hA e0); subst hA; exact q); ⟨ndI hA (And.intro rfl (And.intro rfl rfl)), ⟨ndI hA (by subst hA; exact hp.1), (by subst hA; exact (h.1 c0))⟩⟩, imI hA fun e0 => have c0 : t6 ≥ t1 := (by have q := (cmpE (op := .lss) hA e0); subst hA; exact q); ⟨ndI hA (by subst hA; exact hp.1), (by rw [W.rr]; exact (by subst hA; exact (h.2 c0)))⟩⟩
  · intro R0 t1 t6 t7 t8 tb1 h
    refine W.step 80 fun hp => ?_
    have h := h hp.1
    cbv
    refine ⟨imI hA fun e0 => have c0 : t8 ≤ t1 := (by have q := (cmpE (op := .leq) hA e0); subst hA; exact q); ⟨ndI hA (And.intro rfl (And.intro rfl rfl)), ⟨ndI hA (by subst hA; exact hp.1), ?_⟩⟩, imI hA fun e0 => have c0 : t8 > t1 := (by have q := (cmpE (op := .leq) hA e0); subst hA; exact q); ⟨imI hA fun e1 => have c1 : (IntKind.wrap .i64 (t7 + t6)) < t1 := (by have q := (cmpE (op := .lss) hA e1); subst hA; exact q); ⟨ndI hA (And.intro rfl (And.intro rfl rfl)), ⟨ndI hA (by subst hA; exact hp.1), ?_⟩⟩, imI hA fun e1 => have c1 : (IntKind.wrap .i64 (t7 + t6)) ≥ t1 := (by have q := (cmpE (op := .lss) hA e1); subst hA; exact q); ⟨ndI hA (And.intro rfl (And.intro rfl rfl)), ⟨ndI hA (by subst hA; exact hp.1), (by subst hA; exact ((h.2 c0).2 c1))⟩⟩⟩⟩
    · refine W.call 80 (by rfl) (h.1 c0) (by subst hA; rfl) (by subst hA; rfl) ?_
      rintro x rs vs hp1 hq1
      rcases hq1 with ⟨rfl, Y1_0, y1_b1, rfl, rfl, k1⟩
      · cbv
        refine ⟨ndI hA (And.intro (by subst hA; exact k1.1) (And.intro rfl (by subst hA; exact k1.1))), ⟨ndI hA (by subst hA; exact hp1.1), (by subst hA; exact k1.2)⟩⟩
    · refine W.call 80 (by rfl) ((h.2 c0).1 c1) (by subst hA; rfl) (by subst hA; rfl) ?_
      rintro x rs vs hp2 hq2
      rcases hq2 with ⟨rfl, Y2_0, y2_b1, rfl, rfl, k2⟩
      · cbv
        refine ⟨ndI hA (And.intro (by subst hA; exact k2.1) (And.intro rfl (by subst hA; exact k2.1))), ⟨ndI hA (by subst hA; exact hp2.1), (by subst hA; exact k2.2)⟩⟩

end
set_option maxHeartbeats 0 in
/-- To enter. -/
theorem E76 {Q : Nat → Rs → List Lf → Prop} {R0 : List (List AV)} {a1 : Int} {ab1 : List (List AV)} (h : pursS R0 = true → ∀ EV : Nat → Rs → List Lf → Prop, V76 EV Q →
    EV 7 [R0] [(Lf.i a1), (Lf.i (20 : Int)), (Lf.i (0 : Int)), (Lf.i (20 : Int)), (Lf.r ab1)]) :
    EC Try.prog G76 [R0] [.i a1, .r ab1] Q := by
  obtain ⟨A, hA⟩ : ∃ A, A = arS := ⟨_, rfl⟩
  refine Inst.enter (I := I76) hA mixed F76_at sg L76 80 rfl fun CE CK Dn EV RR W hp => ?_
  have h := h hp.1 EV (V76.of W)
  cbv
  refine ⟨ndI hA (And.intro rfl (And.intro rfl rfl)), ⟨ndI hA (by subst hA; exact hp.1), (by subst hA; exact h)⟩⟩

-- 61: slices.SortStableFunc[[]int,int]
section
structure V61 (EV Q : Nat → Rs → List Lf → Prop) : Prop where
  none : True

end
set_option maxHeartbeats 0 in
/-- To enter. -/
theorem E61 {Q : Nat → Rs → List Lf → Prop} {R0 : List (List AV)} {ab1 : List (List AV)} (h : pursS R0 = true → ∀ EV : Nat → Rs → List Lf → Prop, V61 EV Q →
    EC Try.prog G76 [R0] [(Lf.i (((List.length R0) : Nat) : Int)), (Lf.r ab1)] (fun x rs vs => (x = 0 ∧ ∃ (Y0_0 : List (List AV)) (y0_b1 : List (List AV)), rs = [Y0_0] ∧ vs = [.r y0_b1] ∧
      (Q 0 [Y0_0] [(Lf.r y0_b1)])))) :
    EC Try.prog G61 [R0] [.r ab1] Q := by
  obtain ⟨A, hA⟩ : ∃ A, A = arS := ⟨_, rfl⟩
  refine Inst.enter (I := I61) hA mixed F61_at sg L61 80 rfl fun CE CK Dn EV RR W hp => ?_
  have h := h hp.1 EV ⟨trivial⟩
  cbv
  refine ⟨ndI hA rfl, ⟨ndI hA (And.intro rfl (And.intro rfl rfl)), ⟨ndI hA (by subst hA; exact hp.1), ?_⟩⟩⟩
  · refine W.call 80 (by rfl) h (by subst hA; rfl) (by subst hA; rfl) ?_
    rintro x rs vs hp0 hq0
    rcases hq0 with ⟨rfl, Y0_0, y0_b1, rfl, rfl, k0⟩
    · cbv
      refine ⟨ndI hA (by subst hA; exact hp0.1), (by rw [W.rr]; exact (by subst hA; exact k0))⟩

-- 36: signalbox/pack.Falling
section
structure V36 (EV Q : Nat → Rs → List Lf → Prop) : Prop where
  none : True

end
set_option maxHeartbeats 0 in
/-- To enter. -/
theorem E36 {Q : Nat → Rs → List Lf → Prop} {a0 : List (List AV)} {a1 : Int} (h : ∀ EV : Nat → Rs → List Lf → Prop, V36 EV Q →
    EC Try.prog G60 [] [(Lf.r a0)] (fun x rs vs => (x = 0 ∧ ∃ (Y0_0 : List (List AV)), rs = [Y0_0] ∧ vs = [] ∧
      (EC Try.prog G61 [Y0_0] [(Lf.r a0)] (fun x rs vs => (x = 0 ∧ ∃ (Y1_0 : List (List AV)) (y1_b1 : List (List AV)), rs = [Y1_0] ∧ vs = [.r y1_b1] ∧
          (((List.length Y0_0) = (List.length Y1_0)) ∧
            (EC Try.prog G59 [] [(Lf.r y1_b1), (Lf.i a1), (Lf.r (List.take (List.length Y0_0) (List.drop 0 Y1_0)))] (fun x rs vs => (x = 0 ∧ ∃ (Y2_0 : List (List AV)) (y2_1 : Int), rs = [Y2_0] ∧ vs = [.i y2_1] ∧
              (Q 0 [Y2_0] [(Lf.i y2_1)]))))))))))) :
    EC Try.prog G36 [] [.r a0, .i a1] Q := by
  obtain ⟨A, hA⟩ : ∃ A, A = arS := ⟨_, rfl⟩
  refine Inst.enter (I := I36) hA mixed F36_at sg L36 80 rfl fun CE CK Dn EV RR W hp => ?_
  have h := h  EV ⟨trivial⟩
  cbv
  refine ?_
  · refine W.call 80 (by rfl) h (by subst hA; rfl) (by subst hA; rfl) ?_
    rintro x rs vs hp0 hq0
    rcases hq0 with ⟨rfl, Y0_0, rfl, rfl, k0⟩
    · cbv
      refine ⟨ndI hA (And.intro rfl (And.intro rfl rfl)), ⟨ndI hA (by subst hA; exact hp0.1), ?_⟩⟩
      · refine W.call 80 (by rfl) k0 (by subst hA; rfl) (by subst hA; rfl) ?_
        rintro x rs vs hp1 hq1
        rcases hq1 with ⟨rfl, Y1_0, y1_b1, rfl, rfl, k1⟩
        · cbv
          refine ⟨ndI hA (And.intro (And.intro (by subst hA; exact hp1.1) trivial) (And.intro (by subst hA; exact k1.1) trivial)), ?_⟩
          · refine W.call 80 (by rfl) k1.2 (by subst hA; rfl) (by subst hA; rfl) ?_
            rintro x rs vs hp2 hq2
            rcases hq2 with ⟨rfl, Y2_0, y2_1, rfl, rfl, k2⟩
            · cbv
              refine ⟨ndI hA (And.intro rfl (And.intro rfl rfl)), ⟨ndI hA (by subst hA; exact hp2.1), (by rw [W.rr]; exact (by subst hA; exact k2))⟩⟩

-- 119: (signalbox/pack.tightest).choose
section
structure V119 (EV Q : Nat → Rs → List Lf → Prop) : Prop where
  p9 : ∀ {t1 : List (List AV)} {t2 : Int} {t7 : Int} {t10 : List (List AV)} {t11 : Int} {t12 : Int}, (
    (t12 < t11 →
      ((0 : Int) ≤ t12) ∧
      (t10[(Int.toNat t12)]? = some [(AV.int .i64 (cIS t10 (Int.toNat t12) 0))]) ∧
      ((cIS t10 (Int.toNat t12) 0) ≥ t2 →
        (t7 ≠ (-1) →
          ((0 : Int) ≤ t7) ∧
          (t1[(Int.toNat t7)]? = some [(AV.int .i64 (cIS t1 (Int.toNat t7) 0))]) ∧
          ((cIS t10 (Int.toNat t12) 0) < (cIS t1 (Int.toNat t7) 0) →
            EV 9 [] [(Lf.r t1), (Lf.i t2), (Lf.i t12), (Lf.r t10), (Lf.i t11), (Lf.i (IntKind.wrap .i64 (t12 + (1 : Int))))]) ∧
          ((cIS t10 (Int.toNat t12) 0) ≥ (cIS t1 (Int.toNat t7) 0) →
            EV 9 [] [(Lf.r t1), (Lf.i t2), (Lf.i t7), (Lf.r t10), (Lf.i t11), (Lf.i (IntKind.wrap .i64 (t12 + (1 : Int))))])) ∧
        (t7 = (-1) →
          EV 9 [] [(Lf.r t1), (Lf.i t2), (Lf.i t12), (Lf.r t10), (Lf.i t11), (Lf.i (IntKind.wrap .i64 (t12 + (1 : Int))))])) ∧
      ((cIS t10 (Int.toNat t12) 0) < t2 →
        EV 9 [] [(Lf.r t1), (Lf.i t2), (Lf.i t7), (Lf.r t10), (Lf.i t11), (Lf.i (IntKind.wrap .i64 (t12 + (1 : Int))))])) ∧
    (t12 ≥ t11 →
      Q 0 [] [(Lf.i t7)])) →
    EV 9 [] [.r t1, .i t2, .i t7, .r t10, .i t11, .i t12]

set_option maxHeartbeats 0 in
theorem V119.of {Q : Nat → Rs → List Lf → Prop} {A : Ar} {CE : Nat → Rs → List Lf → (Nat → Rs → List Lf → Prop) → Prop} {CK : Nat → Rs → List Lf → Cont → Prop} {Dn : Nat → List Bool → List AItem → Nat → List Bool → List AV → List ABlk → Prop} {EV RR : Nat → Rs → List Lf → Prop} (W : Wk Try.prog Try.f119 I119 L119 Q A sg CE CK Dn EV RR) : V119 EV Q := by
  have hA := W.hA
  refine ⟨?_⟩
  · intro t1 t2 t7 t10 t11 t12 h
    refine W.step 80 fun hp => ?_
    cbv
    refine ⟨imI hA fun e0 => have c0 : t12 < t11 := (by have q := (cmpE (op := .lss) hA e0); subst hA; exact q); ⟨ndI hA (And.intro (by subst hA; exact (h.1 c0).1) (by subst hA; exact (h.1 c0).2.1)), ⟨imI hA fun e1 => have c1 : (cIS t10 (Int.toNat t12) 0) ≥ t2 := (by have q := (cmpE (op := .geq) hA e1); subst hA; exact q); ⟨imI hA fun e2 => have c2 : t7 ≠ (-1) := (by have q := (cmpE (op := .eql) hA e2); subst hA; exact q); ⟨ndI hA (And.intro (by subst hA; exact (((h.1 c0).2.2.1 c1).1 c2).1) (by subst hA; exact (((h.1 c0).2.2.1 c1).1 c2).2.1)), ⟨imI hA fun e3 => have c3 : (cIS t10 (Int.toNat t12) 0) < (cIS t1 (Int.toNat t7) 0) := (by have q := (cmpE (op := .lss) hA e3); subst hA; exact q); (by subst hA; exact ((((h.1 c0).2.2.1 c1).1 c2).2.2.1 c3)), imI hA fun e3 => have c3 : (cIS t10 (Int.toNat t12) 0) ≥ (cIS t1 (Int.toNat t7) 0) := (by have q := (cmpE (op := .lss) hA e3); subst hA; exact q); (by subst hA; exact ((((h.1 c0).2.2.1 c1).1 c2).2.2.2 c3))⟩⟩, imI hA fun e2 => have c2 : t7 = (-1) := (by have q := (cmpE (op := .eql) hA e2); subst hA; exact q); (by subst hA; exact (((h.1 c0).2.2.1 c1).2 c2))⟩, imI hA fun e1 => have c1 : (cIS t10 (Int.toNat t12) 0) < t2 := (by have q := (cmpE (op := .geq) hA e1); subst hA; exact q); (by subst hA; exact ((h.1 c0).2.2.2 c1))⟩⟩, imI hA fun e0 => have c0 : t12 ≥ t11 := (by have q := (cmpE (op := .lss) hA e0); subst hA; exact q); (by rw [W.rr]; exact (by subst hA; exact (h.2 c0)))⟩

end
set_option maxHeartbeats 0 in
/-- To enter. -/
theorem E119 {Q : Nat → Rs → List Lf → Prop} {a1 : List (List AV)} {a2 : Int} (h : ∀ EV : Nat → Rs → List Lf → Prop, V119 EV Q →
    EV 9 [] [(Lf.r a1), (Lf.i a2), (Lf.i (-1)), (Lf.r a1), (Lf.i (((List.length a1) : Nat) : Int)), (Lf.i (0 : Int))]) :
    EC Try.prog G119 [] [.r a1, .i a2] Q := by
  obtain ⟨A, hA⟩ : ∃ A, A = arS := ⟨_, rfl⟩
  refine Inst.enter (I := I119) hA mixed F119_at sg L119 80 rfl fun CE CK Dn EV RR W hp => ?_
  have h := h  EV (V119.of W)
  cbv
  refine (by subst hA; exact h)

-- 119a: (signalbox/pack.tightest).choose
section
structure V119a (EV Q : Nat → Rs → List Lf → Prop) : Prop where
  p9 : ∀ {R0 : List (List AV)} {t2 : Int} {t7 : Int} {t11 : Int} {t12 : Int}, (pursS R0 = true → 
    (t12 < t11 →
      ((0 : Int) ≤ t12) ∧
      (t12 < (((List.length R0) : Nat) : Int)) ∧
      (R0[(Int.toNat t12)]? = some [(AV.int .i64 (cIS R0 (Int.toNat t12) 0))]) ∧
      ((cIS R0 (Int.toNat t12) 0) ≥ t2 →
        (t7 ≠ (-1) →
          ((0 : Int) ≤ t7) ∧
          (t7 < (((List.length R0) : Nat) : Int)) ∧
          (R0[(Int.toNat t7)]? = some [(AV.int .i64 (cIS R0 (Int.toNat t7) 0))]) ∧
          ((cIS R0 (Int.toNat t12) 0) < (cIS R0 (Int.toNat t7) 0) →
            EV 9 [R0] [(Lf.i t2), (Lf.i t12), (Lf.i t11), (Lf.i (IntKind.wrap .i64 (t12 + (1 : Int))))]) ∧
          ((cIS R0 (Int.toNat t12) 0) ≥ (cIS R0 (Int.toNat t7) 0) →
            EV 9 [R0] [(Lf.i t2), (Lf.i t7), (Lf.i t11), (Lf.i (IntKind.wrap .i64 (t12 + (1 : Int))))])) ∧
        (t7 = (-1) →
          EV 9 [R0] [(Lf.i t2), (Lf.i t12), (Lf.i t11), (Lf.i (IntKind.wrap .i64 (t12 + (1 : Int))))])) ∧
      ((cIS R0 (Int.toNat t12) 0) < t2 →
        EV 9 [R0] [(Lf.i t2), (Lf.i t7), (Lf.i t11), (Lf.i (IntKind.wrap .i64 (t12 + (1 : Int))))])) ∧
    (t12 ≥ t11 →
      Q 0 [R0] [(Lf.i t7)])) →
    EV 9 [R0] [.i t2, .i t7, .i t11, .i t12]

set_option maxHeartbeats 0 in
theorem V119a.of {Q : Nat → Rs → List Lf → Prop} {A : Ar} {CE : Nat → Rs → List Lf → (Nat → Rs → List Lf → Prop) → Prop} {CK : Nat → Rs → List Lf → Cont → Prop} {Dn : Nat → List Bool → List AItem → Nat → List Bool → List AV → List ABlk → Prop} {EV RR : Nat → Rs → List Lf → Prop} (W : Wk Try.prog Try.f119 I119a L119a Q A sg CE CK Dn EV RR) : V119a EV Q := by
  have hA := W.hA
  refine ⟨?_⟩
  · intro R0 t2 t7 t11 t12 h
    refine W.step 80 fun hp => ?_
    have h := h hp.1
    cbv
    refine ⟨imI hA fun e0 => have c0 : t12 < t11 := (by have q := (cmpE (op := .lss) hA e0); subst hA; exact q); ⟨ndI hA (And.intro (by subst hA; exact (h.1 c0).1) (And.intro (by subst hA; exact (h.1 c0).2.1) rfl)), ⟨ndI hA (And.intro rfl (by subst hA; show R0[(0 + (Int.toNat t12))]? = some [(AV.int .i64 (cIS R0 (0 + (Int.toNat t12)) 0))]; (try simp only [rappS_end, Nat.zero_add, Int.toNat_natCast]); exact (h.1 c0).2.2.1)), ⟨imI hA fun e1 => have c1 : (cIS R0 (Int.toNat t12) 0) ≥ t2 := (by have q := (cmpE (op := .geq) hA e1); subst hA; have q : (cIS R0 (0 + (Int.toNat t12)) 0) ≥ t2 := q; simpa only [rappS_end, Nat.zero_add, Int.toNat_natCast] using q); ⟨imI hA fun e2 => have c2 : t7 ≠ (-1) := (by have q := (cmpE (op := .eql) hA e2); subst hA; exact q); ⟨ndI hA (And.intro (by subst hA; exact (((h.1 c0).2.2.2.1 c1).1 c2).1) (And.intro (by subst hA; exact (((h.1 c0).2.2.2.1 c1).1 c2).2.1) rfl)), ⟨ndI hA (And.intro rfl (by subst hA; show R0[(0 + (Int.toNat t7))]? = some [(AV.int .i64 (cIS R0 (0 + (Int.toNat t7)) 0))]; (try simp only [rappS_end, Nat.zero_add, Int.toNat_natCast]); exact (((h.1 c0).2.2.2.1 c1).1 c2).2.2.1)), ⟨imI hA fun e3 => have c3 : (cIS R0 (Int.toNat t12) 0) < (cIS R0 (Int.toNat t7) 0) := (by have q := (cmpE (op := .lss) hA e3); subst hA; have q : (cIS R0 (0 + (Int.toNat t12)) 0) < (cIS R0 (0 + (Int.toNat t7)) 0) := q; simpa only [rappS_end, Nat.zero_add, Int.toNat_natCast] using q); ⟨ndI hA (And.intro rfl (And.intro rfl rfl)), ⟨ndI hA (And.intro rfl (And.intro rfl rfl)), ⟨ndI hA (by subst hA; exact hp.1), (by subst hA; exact ((((h.1 c0).2.2.2.1 c1).1 c2).2.2.2.1 c3))⟩⟩⟩, imI hA fun e3 => have c3 : (cIS R0 (Int.toNat t12) 0) ≥ (cIS R0 (Int.toNat t7) 0) := (by have q := (cmpE (op := .lss) hA e3); subst hA; have q : (cIS R0 (0 + (Int.toNat t12)) 0) ≥ (cIS R0 (0 + (Int.toNat t7)) 0) := q; simpa only [rappS_end, Nat.zero_add, Int.toNat_natCast] using q); ⟨ndI hA (And.intro rfl (And.intro rfl rfl)), ⟨ndI hA (And.intro rfl (And.intro rfl rfl)), ⟨ndI hA (by subst hA; exact hp.1), (by subst hA; exact ((((h.1 c0).2.2.2.1 c1).1 c2).2.2.2.2 c3))⟩⟩⟩⟩⟩⟩, imI hA fun e2 => have c2 : t7 = (-1) := (by have q := (cmpE (op := .eql) hA e2); subst hA; exact q); ⟨ndI hA (And.intro rfl (And.intro rfl rfl)), ⟨ndI hA (And.intro rfl (And.intro rfl rfl)), ⟨ndI hA (by subst hA; exact hp.1), (by subst hA; exact (((h.1 c0).2.2.2.1 c1).2 c2))⟩⟩⟩⟩, imI hA fun e1 => have c1 : (cIS R0 (Int.toNat t12) 0) < t2 := (by have q := (cmpE (op := .geq) hA e1); subst hA; have q : (cIS R0 (0 + (Int.toNat t12)) 0) < t2 := q; simpa only [rappS_end, Nat.zero_add, Int.toNat_natCast] using q); ⟨ndI hA (And.intro rfl (And.intro rfl rfl)), ⟨ndI hA (And.intro rfl (And.intro rfl rfl)), ⟨ndI hA (by subst hA; exact hp.1), (by subst hA; exact ((h.1 c0).2.2.2.2 c1))⟩⟩⟩⟩⟩⟩, imI hA fun e0 => have c0 : t12 ≥ t11 := (by have q := (cmpE (op := .lss) hA e0); subst hA; exact q); ⟨ndI hA (by subst hA; exact hp.1), (by rw [W.rr]; exact (by subst hA; exact (h.2 c0)))⟩⟩

end
set_option maxHeartbeats 0 in
/-- To enter. -/
theorem E119a {Q : Nat → Rs → List Lf → Prop} {R0 : List (List AV)} {a2 : Int} (h : pursS R0 = true → ∀ EV : Nat → Rs → List Lf → Prop, V119a EV Q →
    EV 9 [R0] [(Lf.i a2), (Lf.i (-1)), (Lf.i (((List.length R0) : Nat) : Int)), (Lf.i (0 : Int))]) :
    EC Try.prog G119a [R0] [.i a2] Q := by
  obtain ⟨A, hA⟩ : ∃ A, A = arS := ⟨_, rfl⟩
  refine Inst.enter (I := I119a) hA mixed F119_at sg L119a 80 rfl fun CE CK Dn EV RR W hp => ?_
  have h := h hp.1 EV (V119a.of W)
  cbv
  refine ⟨ndI hA rfl, ⟨ndI hA (And.intro rfl (And.intro rfl rfl)), ⟨ndI hA (And.intro rfl (And.intro rfl rfl)), ⟨ndI hA (by subst hA; exact hp.1), (by subst hA; exact h)⟩⟩⟩⟩

-- 59a: signalbox/pack.lay DRAWN
section
structure V59a (EV Q : Nat → Rs → List Lf → Prop) : Prop where
  p19 : ∀ {R0 : List (List AV)} {R1 : List (List AV)} {t0 : List (List AV)} {t1 : Int} {t22 : List (List AV)} {t23 : Int} {t24 : Int}, (pursS R0 = true → pursS R1 = true → 
    (t24 < t23 →
      ((0 : Int) ≤ t24) ∧
      (t22[(Int.toNat t24)]? = some [(AV.int .i64 (cIS t22 (Int.toNat t24) 0))]) ∧
      ((0 : Int) ≤ (cIS t22 (Int.toNat t24) 0)) ∧
      (t0[(Int.toNat (cIS t22 (Int.toNat t24) 0))]? = some [(AV.int .i64 (cIS t0 (Int.toNat (cIS t22 (Int.toNat t24) 0)) 0))]) ∧
      (EC Try.prog G119a [R1] [(Lf.i (cIS t0 (Int.toNat (cIS t22 (Int.toNat t24) 0)) 0))] (fun x rs vs => (x = 0 ∧ ∃ (Y1_0 : List (List AV)) (y1_0 : Int), rs = [Y1_0] ∧ vs = [.i y1_0] ∧
        ((y1_0 < (0 : Int) →
            ((List.length R1) = (List.length Y1_0)) ∧
            ((List.length R1) ≤ (List.length Y1_0)) ∧
            (((List.length R1) + 1) ≤ 140737488355328) ∧
            ((((List.length R1) + 1) * 8) ≤ 140737488355328) ∧
            ((0 : Int) ≤ (cIS t22 (Int.toNat t24) 0)) ∧
            (t0[(Int.toNat (cIS t22 (Int.toNat t24) 0))]? = some [(AV.int .i64 (cIS t0 (Int.toNat (cIS t22 (Int.toNat t24) 0)) 0))]) ∧
            ((0 : Int) ≤ (IntKind.wrap .i64 (((((List.length R1) + 1) : Nat) : Int) - (1 : Int)))) ∧
            ((IntKind.wrap .i64 (((((List.length R1) + 1) : Nat) : Int) - (1 : Int))) < ((((List.length R1) + 1) : Nat) : Int)) ∧
            ((rappS Y1_0 (List.length R1) [[(AV.int .i64 t1)]])[(Int.toNat (IntKind.wrap .i64 (((((List.length R1) + 1) : Nat) : Int) - (1 : Int))))]? = some [(AV.int .i64 (cIS (rappS Y1_0 (List.length R1) [[(AV.int .i64 t1)]]) (Int.toNat (IntKind.wrap .i64 (((((List.length R1) + 1) : Nat) : Int) - (1 : Int)))) 0))]) ∧
            ((cIS t22 (Int.toNat t24) 0) < (((List.length R0) : Nat) : Int)) ∧
            (R0[(Int.toNat (cIS t22 (Int.toNat t24) 0))]? = some [(AV.int .i64 (cIS R0 (Int.toNat (cIS t22 (Int.toNat t24) 0)) 0))]) ∧
            (((List.length R1) + 1) = (List.length (List.set (rappS Y1_0 (List.length R1) [[(AV.int .i64 t1)]]) (Int.toNat (IntKind.wrap .i64 (((((List.length R1) + 1) : Nat) : Int) - (1 : Int)))) [(AV.int .i64 (IntKind.wrap .i64 ((cIS (rappS Y1_0 (List.length R1) [[(AV.int .i64 t1)]]) (Int.toNat (IntKind.wrap .i64 (((((List.length R1) + 1) : Nat) : Int) - (1 : Int)))) 0) - (cIS t0 (Int.toNat (cIS t22 (Int.toNat t24) 0)) 0))))]))) ∧
            (EV 19 [(List.set R0 (Int.toNat (cIS t22 (Int.toNat t24) 0)) [(AV.int .i64 (IntKind.wrap .i64 (((((List.length R1) + 1) : Nat) : Int) - (1 : Int))))]), (List.set (rappS Y1_0 (List.length R1) [[(AV.int .i64 t1)]]) (Int.toNat (IntKind.wrap .i64 (((((List.length R1) + 1) : Nat) : Int) - (1 : Int)))) [(AV.int .i64 (IntKind.wrap .i64 ((cIS (rappS Y1_0 (List.length R1) [[(AV.int .i64 t1)]]) (Int.toNat (IntKind.wrap .i64 (((((List.length R1) + 1) : Nat) : Int) - (1 : Int)))) 0) - (cIS t0 (Int.toNat (cIS t22 (Int.toNat t24) 0)) 0))))])] [(Lf.r t0), (Lf.i t1), (Lf.r t22), (Lf.i t23), (Lf.i (IntKind.wrap .i64 (t24 + (1 : Int))))])) ∧
          (y1_0 ≥ (0 : Int) →
            ((0 : Int) ≤ (cIS t22 (Int.toNat t24) 0)) ∧
            (t0[(Int.toNat (cIS t22 (Int.toNat t24) 0))]? = some [(AV.int .i64 (cIS t0 (Int.toNat (cIS t22 (Int.toNat t24) 0)) 0))]) ∧
            ((0 : Int) ≤ y1_0) ∧
            (y1_0 < (((List.length R1) : Nat) : Int)) ∧
            ((List.length R1) = (List.length Y1_0)) ∧
            (Y1_0[(Int.toNat y1_0)]? = some [(AV.int .i64 (cIS Y1_0 (Int.toNat y1_0) 0))]) ∧
            ((cIS t22 (Int.toNat t24) 0) < (((List.length R0) : Nat) : Int)) ∧
            (R0[(Int.toNat (cIS t22 (Int.toNat t24) 0))]? = some [(AV.int .i64 (cIS R0 (Int.toNat (cIS t22 (Int.toNat t24) 0)) 0))]) ∧
            ((List.length R1) = (List.length (List.set Y1_0 (Int.toNat y1_0) [(AV.int .i64 (IntKind.wrap .i64 ((cIS Y1_0 (Int.toNat y1_0) 0) - (cIS t0 (Int.toNat (cIS t22 (Int.toNat t24) 0)) 0))))]))) ∧
            (EV 19 [(List.set R0 (Int.toNat (cIS t22 (Int.toNat t24) 0)) [(AV.int .i64 y1_0)]), (List.set Y1_0 (Int.toNat y1_0) [(AV.int .i64 (IntKind.wrap .i64 ((cIS Y1_0 (Int.toNat y1_0) 0) - (cIS t0 (Int.toNat (cIS t22 (Int.toNat t24) 0)) 0))))])] [(Lf.r t0), (Lf.i t1), (Lf.r t22), (Lf.i t23), (Lf.i (IntKind.wrap .i64 (t24 + (1 : Int))))]))))))) ∧
    (t24 ≥ t23 →
      Q 0 [R0] [(Lf.i (((List.length R1) : Nat) : Int))])) →
    EV 19 [R0, R1] [.r t0, .i t1, .r t22, .i t23, .i t24]

set_option maxHeartbeats 0 in
theorem V59a.of {Q : Nat → Rs → List Lf → Prop} {A : Ar} {CE : Nat → Rs → List Lf → (Nat → Rs → List Lf → Prop) → Prop} {CK : Nat → Rs → List Lf → Cont → Prop} {Dn : Nat → List Bool → List AItem → Nat → List Bool → List AV → List ABlk → Prop} {EV RR : Nat → Rs → List Lf → Prop} (W : Wk Try.prog Try.f59 I59a L59a Q A sg CE CK Dn EV RR) : V59a EV Q := by
  have hA := W.hA
  refine ⟨?_⟩
  · intro R0 R1 t0 t1 t22 t23 t24 h
    refine W.step 80 fun hp => ?_
    have h := h hp.1 hp.2.1
    cbv
    refine ⟨imI hA fun e0 => have c0 : t24 < t23 := (by have q := (cmpE (op := .lss) hA e0); subst hA; exact q); ⟨ndI hA (And.intro (by subst hA; exact (h.1 c0).1) (by subst hA; exact (h.1 c0).2.1)), ⟨ndI hA (And.intro (by subst hA; exact (h.1 c0).2.2.1) (by subst hA; exact (h.1 c0).2.2.2.1)), ⟨⟨ndI hA (And.intro rfl (And.intro rfl rfl)), ⟨ndI hA (by subst hA; exact hp.2.1), ?_⟩⟩, trivial⟩⟩⟩, imI hA fun e0 => have c0 : t24 ≥ t23 := (by have q := (cmpE (op := .lss) hA e0); subst hA; exact q); ⟨ndI hA rfl, ⟨ndI hA (And.intro rfl (And.intro rfl rfl)), ⟨ndI hA (by subst hA; exact hp.1), (by rw [W.rr]; exact (by subst hA; exact (h.2 c0)))⟩⟩⟩⟩
    · refine W.callD (by rfl) (h.1 c0).2.2.2.2 (by subst hA; rfl) (by subst hA; rfl) ?_
      rintro x rs vs hp1 hq1
      rcases hq1 with ⟨rfl, Y1_0, y1_0, rfl, rfl, k1⟩
      · cbv
        refine ?_
        · refine W.draw 80 (by rfl) ?_
          cbv
          refine ⟨imI hA fun e2 => have c2 : y1_0 < (0 : Int) := (by have q := (cmpE (op := .lss) hA e2); subst hA; exact q); ⟨ndI hA (And.intro (by subst hA; exact (k1.1 c2).1) (And.intro (by subst hA; exact (k1.1 c2).2.1) (And.intro (by subst hA; exact (k1.1 c2).2.2.1) (by subst hA; exact (k1.1 c2).2.2.2.1)))), ⟨ndI hA rfl, ⟨ndI hA (And.intro (by subst hA; exact (k1.1 c2).2.2.2.2.1) (by subst hA; exact (k1.1 c2).2.2.2.2.2.1)), ⟨⟨ndI hA (And.intro (by subst hA; exact (k1.1 c2).2.2.2.2.2.2.1) (And.intro (by subst hA; exact (k1.1 c2).2.2.2.2.2.2.2.1) rfl)), ⟨⟨ndI hA (And.intro rfl (by subst hA; show (rappS Y1_0 (List.length R1) [[(AV.int .i64 t1)]])[(0 + (Int.toNat (IntKind.wrap .i64 (((((List.length R1) + 1) : Nat) : Int) - (1 : Int)))))]? = some [(AV.int .i64 (cIS (rappS Y1_0 (List.length R1) [[(AV.int .i64 t1)]]) (0 + (Int.toNat (IntKind.wrap .i64 (((((List.length R1) + 1) : Nat) : Int) - (1 : Int))))) 0))]; (try simp only [rappS_end, Nat.zero_add, Int.toNat_natCast]); exact (k1.1 c2).2.2.2.2.2.2.2.2.1)), ⟨⟨ndI hA (And.intro (by subst hA; exact (k1.1 c2).2.2.2.2.2.2.1) (And.intro (by subst hA; exact (k1.1 c2).2.2.2.2.2.2.2.1) rfl)), ⟨⟨ndI hA (And.intro rfl (by subst hA; show (rappS Y1_0 (List.length R1) [[(AV.int .i64 t1)]])[(0 + (Int.toNat (IntKind.wrap .i64 (((((List.length R1) + 1) : Nat) : Int) - (1 : Int)))))]? = some [(AV.int .i64 (cIS (rappS Y1_0 (List.length R1) [[(AV.int .i64 t1)]]) (0 + (Int.toNat (IntKind.wrap .i64 (((((List.length R1) + 1) : Nat) : Int) - (1 : Int))))) 0))]; (try simp only [rappS_end, Nat.zero_add, Int.toNat_natCast]); exact (k1.1 c2).2.2.2.2.2.2.2.2.1)), ⟨ndI hA (And.intro (by subst hA; exact (k1.1 c2).2.2.2.2.1) (And.intro (by subst hA; exact (k1.1 c2).2.2.2.2.2.2.2.2.2.1) rfl)), ⟨ndI hA (And.intro rfl (by subst hA; show R0[(0 + (Int.toNat (cIS t22 (Int.toNat t24) 0)))]? = some [(AV.int .i64 (cIS R0 (0 + (Int.toNat (cIS t22 (Int.toNat t24) 0))) 0))]; (try simp only [rappS_end, Nat.zero_add, Int.toNat_natCast]); exact (k1.1 c2).2.2.2.2.2.2.2.2.2.2.1)), ⟨ndI hA (And.intro (by subst hA; show (List.length R0) = (List.length (List.set R0 (0 + (Int.toNat (cIS t22 (Int.toNat t24) 0))) [(AV.int .i64 (IntKind.wrap .i64 (((((List.length R1) + 1) : Nat) : Int) - (1 : Int))))])); (first | rfl | simp [rappS_end] | (simp only [rappS_end, List.length_append, List.length_set, List.length_cons, List.length_nil]; omega))) (And.intro rfl (by subst hA; show (List.length R0) = (List.length (List.set R0 (0 + (Int.toNat (cIS t22 (Int.toNat t24) 0))) [(AV.int .i64 (IntKind.wrap .i64 (((((List.length R1) + 1) : Nat) : Int) - (1 : Int))))])); (first | rfl | simp [rappS_end] | (simp only [rappS_end, List.length_append, List.length_set, List.length_cons, List.length_nil]; omega))))), ⟨ndI hA (And.intro (by subst hA; show (List.length (rappS Y1_0 (List.length R1) [[(AV.int .i64 t1)]])) = (List.length (List.set (rappS Y1_0 (List.length R1) [[(AV.int .i64 t1)]]) (0 + (Int.toNat (IntKind.wrap .i64 (((((List.length R1) + 1) : Nat) : Int) - (1 : Int))))) [(AV.int .i64 (IntKind.wrap .i64 ((cIS (rappS Y1_0 (List.length R1) [[(AV.int .i64 t1)]]) (0 + (Int.toNat (IntKind.wrap .i64 (((((List.length R1) + 1) : Nat) : Int) - (1 : Int))))) 0) - (cIS t0 (Int.toNat (cIS t22 (Int.toNat t24) 0)) 0))))])); (first | rfl | simp [rappS_end] | (simp only [rappS_end, List.length_append, List.length_set, List.length_cons, List.length_nil]; omega))) (And.intro rfl (by subst hA; show ((List.length R1) + 1) = (List.length (List.set (rappS Y1_0 (List.length R1) [[(AV.int .i64 t1)]]) (0 + (Int.toNat (IntKind.wrap .i64 (((((List.length R1) + 1) : Nat) : Int) - (1 : Int))))) [(AV.int .i64 (IntKind.wrap .i64 ((cIS (rappS Y1_0 (List.length R1) [[(AV.int .i64 t1)]]) (0 + (Int.toNat (IntKind.wrap .i64 (((((List.length R1) + 1) : Nat) : Int) - (1 : Int))))) 0) - (cIS t0 (Int.toNat (cIS t22 (Int.toNat t24) 0)) 0))))])); (try simp only [rappS_end, Nat.zero_add, Int.toNat_natCast]); exact (k1.1 c2).2.2.2.2.2.2.2.2.2.2.2.1))), ⟨ndI hA (by subst hA; exact (vset hp.1 rfl)), ⟨ndI hA (by subst hA; exact (vset (vapp hp1.1 vpur) rfl)), (by subst hA; show EV 19 [(List.set R0 (0 + (Int.toNat (cIS t22 (Int.toNat t24) 0))) [(AV.int .i64 (IntKind.wrap .i64 (((((List.length R1) + 1) : Nat) : Int) - (1 : Int))))]), (List.set (rappS Y1_0 (List.length R1) [[(AV.int .i64 t1)]]) (0 + (Int.toNat (IntKind.wrap .i64 (((((List.length R1) + 1) : Nat) : Int) - (1 : Int))))) [(AV.int .i64 (IntKind.wrap .i64 ((cIS (rappS Y1_0 (List.length R1) [[(AV.int .i64 t1)]]) (0 + (Int.toNat (IntKind.wrap .i64 (((((List.length R1) + 1) : Nat) : Int) - (1 : Int))))) 0) - (cIS t0 (Int.toNat (cIS t22 (Int.toNat t24) 0)) 0))))])] [(Lf.r t0), (Lf.i t1), (Lf.r t22), (Lf.i t23), (Lf.i (IntKind.wrap .i64 (t24 + (1 : Int))))]; (try simp only [rappS_end, Nat.zero_add, Int.toNat_natCast]); exact (k1.1 c2).2.2.2.2.2.2.2.2.2.2.2.2)⟩⟩⟩⟩⟩⟩⟩, trivial⟩⟩, trivial⟩⟩, trivial⟩⟩, trivial⟩⟩⟩⟩, imI hA fun e2 => have c2 : y1_0 ≥ (0 : Int) := (by have q := (cmpE (op := .lss) hA e2); subst hA; exact q); ⟨ndI hA (And.intro (by subst hA; exact (k1.2 c2).1) (by subst hA; exact (k1.2 c2).2.1)), ⟨⟨ndI hA (And.intro (by subst hA; exact (k1.2 c2).2.2.1) (And.intro (by subst hA; exact (k1.2 c2).2.2.2.1) (by subst hA; exact (k1.2 c2).2.2.2.2.1))), ⟨⟨ndI hA (And.intro (by subst hA; exact (k1.2 c2).2.2.2.2.1) (by subst hA; show Y1_0[(0 + (Int.toNat y1_0))]? = some [(AV.int .i64 (cIS Y1_0 (0 + (Int.toNat y1_0)) 0))]; (try simp only [rappS_end, Nat.zero_add, Int.toNat_natCast]); exact (k1.2 c2).2.2.2.2.2.1)), ⟨⟨ndI hA (And.intro (by subst hA; exact (k1.2 c2).2.2.1) (And.intro (by subst hA; exact (k1.2 c2).2.2.2.1) (by subst hA; exact (k1.2 c2).2.2.2.2.1))), ⟨⟨ndI hA (And.intro (by subst hA; exact (k1.2 c2).2.2.2.2.1) (by subst hA; show Y1_0[(0 + (Int.toNat y1_0))]? = some [(AV.int .i64 (cIS Y1_0 (0 + (Int.toNat y1_0)) 0))]; (try simp only [rappS_end, Nat.zero_add, Int.toNat_natCast]); exact (k1.2 c2).2.2.2.2.2.1)), ⟨ndI hA (And.intro (by subst hA; exact (k1.2 c2).1) (And.intro (by subst hA; exact (k1.2 c2).2.2.2.2.2.2.1) rfl)), ⟨ndI hA (And.intro rfl (by subst hA; show R0[(0 + (Int.toNat (cIS t22 (Int.toNat t24) 0)))]? = some [(AV.int .i64 (cIS R0 (0 + (Int.toNat (cIS t22 (Int.toNat t24) 0))) 0))]; (try simp only [rappS_end, Nat.zero_add, Int.toNat_natCast]); exact (k1.2 c2).2.2.2.2.2.2.2.1)), ⟨ndI hA (And.intro (by subst hA; show (List.length R0) = (List.length (List.set R0 (0 + (Int.toNat (cIS t22 (Int.toNat t24) 0))) [(AV.int .i64 y1_0)])); (first | rfl | simp [rappS_end] | (simp only [rappS_end, List.length_append, List.length_set, List.length_cons, List.length_nil]; omega))) (And.intro rfl (by subst hA; show (List.length R0) = (List.length (List.set R0 (0 + (Int.toNat (cIS t22 (Int.toNat t24) 0))) [(AV.int .i64 y1_0)])); (first | rfl | simp [rappS_end] | (simp only [rappS_end, List.length_append, List.length_set, List.length_cons, List.length_nil]; omega))))), ⟨ndI hA (And.intro (by subst hA; show (List.length R1) = (List.length (List.set Y1_0 (0 + (Int.toNat y1_0)) [(AV.int .i64 (IntKind.wrap .i64 ((cIS Y1_0 (0 + (Int.toNat y1_0)) 0) - (cIS t0 (Int.toNat (cIS t22 (Int.toNat t24) 0)) 0))))])); (try simp only [rappS_end, Nat.zero_add, Int.toNat_natCast]); exact (k1.2 c2).2.2.2.2.2.2.2.2.1) (And.intro rfl (by subst hA; show (List.length R1) = (List.length (List.set Y1_0 (0 + (Int.toNat y1_0)) [(AV.int .i64 (IntKind.wrap .i64 ((cIS Y1_0 (0 + (Int.toNat y1_0)) 0) - (cIS t0 (Int.toNat (cIS t22 (Int.toNat t24) 0)) 0))))])); (try simp only [rappS_end, Nat.zero_add, Int.toNat_natCast]); exact (k1.2 c2).2.2.2.2.2.2.2.2.1))), ⟨ndI hA (by subst hA; exact (vset hp.1 rfl)), ⟨ndI hA (by subst hA; exact (vset hp1.1 rfl)), (by subst hA; show EV 19 [(List.set R0 (0 + (Int.toNat (cIS t22 (Int.toNat t24) 0))) [(AV.int .i64 y1_0)]), (List.set Y1_0 (0 + (Int.toNat y1_0)) [(AV.int .i64 (IntKind.wrap .i64 ((cIS Y1_0 (0 + (Int.toNat y1_0)) 0) - (cIS t0 (Int.toNat (cIS t22 (Int.toNat t24) 0)) 0))))])] [(Lf.r t0), (Lf.i t1), (Lf.r t22), (Lf.i t23), (Lf.i (IntKind.wrap .i64 (t24 + (1 : Int))))]; (try simp only [rappS_end, Nat.zero_add, Int.toNat_natCast]); exact (k1.2 c2).2.2.2.2.2.2.2.2.2)⟩⟩⟩⟩⟩⟩⟩, trivial⟩⟩, trivial⟩⟩, trivial⟩⟩, trivial⟩⟩⟩

end
set_option maxHeartbeats 0 in
/-- To enter. -/
theorem E59a {Q : Nat → Rs → List Lf → Prop} {a0 : List (List AV)} {a1 : Int} {a2 : List (List AV)} (h : ∀ EV : Nat → Rs → List Lf → Prop, V59a EV Q →
    EC Try.prog G58 [] [(Lf.r a0), (Lf.i a1)] (fun x rs vs => (x = 0 ∧ ∃ (y0_0 : Bool), rs = [] ∧ vs = [.b y0_0] ∧
      ((y0_0 = false →
          Q 0 [[]] [(Lf.i (0 : Int))]) ∧
        (y0_0 = true →
          ((((List.length a0) : Nat) : Int) ≤ (140737488355328 : Int)) ∧
          (((((List.length a0) : Nat) : Int) * ((8 : Nat) : Int)) ≤ (140737488355328 : Int)) ∧
          (EV 19 [(List.replicate (List.length a0) [(AV.int .i64 (0 : Int))]), []] [(Lf.r a0), (Lf.i a1), (Lf.r a2), (Lf.i (((List.length a2) : Nat) : Int)), (Lf.i (0 : Int))])))))) :
    EC Try.prog G59a [] [.r a0, .i a1, .r a2] Q := by
  obtain ⟨A, hA⟩ : ∃ A, A = arS := ⟨_, rfl⟩
  refine Inst.enter (I := I59a) hA mixed F59_at sg L59a 80 rfl fun CE CK Dn EV RR W hp => ?_
  have h := h  EV (V59a.of W)
  cbv
  refine ?_
  · refine W.call 80 (by rfl) h (by subst hA; rfl) (by subst hA; rfl) ?_
    rintro x rs vs hp0 hq0
    rcases hq0 with ⟨rfl, y0_0, rfl, rfl, k0⟩
    · cbv
      refine ⟨imI hA fun e1 => have c1 : y0_0 = false := (by have q := (notE hA e1); subst hA; exact q); ⟨ndI hA (And.intro (by subst hA; show 0 = 0; (first | rfl | simp [rappS_end] | (simp only [rappS_end, List.length_append, List.length_set, List.length_cons, List.length_nil]; omega))) (And.intro rfl (by subst hA; show 0 = 0; (first | rfl | simp [rappS_end] | (simp only [rappS_end, List.length_append, List.length_set, List.length_cons, List.length_nil]; omega))))), ⟨ndI hA (by subst hA; exact vpur), (by rw [W.rr]; exact (by subst hA; exact (k0.1 c1)))⟩⟩, imI hA fun e1 => have c1 : y0_0 = true := (by have q := (notE hA e1); subst hA; exact q); ⟨ndI hA (And.intro (by subst hA; exact Int.natCast_nonneg _) (And.intro (by subst hA; exact Int.le_refl _) (And.intro (by subst hA; exact (k0.2 c1).1) (by subst hA; exact (k0.2 c1).2.1)))), ⟨ndI hA (And.intro (by subst hA; show (Int.toNat (((List.length a0) : Nat) : Int)) = (List.length (List.replicate (Int.toNat (((List.length a0) : Nat) : Int)) [(AV.int .i64 (0 : Int))])); (first | rfl | simp [rappS_end] | (simp only [rappS_end, List.length_append, List.length_set, List.length_cons, List.length_nil]; omega))) (And.intro rfl (by subst hA; show (Int.toNat (((List.length a0) : Nat) : Int)) = (List.length (List.replicate (Int.toNat (((List.length a0) : Nat) : Int)) [(AV.int .i64 (0 : Int))])); (first | rfl | simp [rappS_end] | (simp only [rappS_end, List.length_append, List.length_set, List.length_cons, List.length_nil]; omega))))), ⟨ndI hA (And.intro (by subst hA; show 0 = 0; (first | rfl | simp [rappS_end] | (simp only [rappS_end, List.length_append, List.length_set, List.length_cons, List.length_nil]; omega))) (And.intro rfl (by subst hA; show 0 = 0; (first | rfl | simp [rappS_end] | (simp only [rappS_end, List.length_append, List.length_set, List.length_cons, List.length_nil]; omega))))), ⟨ndI hA (by subst hA; exact (vrep rfl)), ⟨ndI hA (by subst hA; exact vpur), (by subst hA; show EV 19 [(List.replicate (Int.toNat (((List.length a0) : Nat) : Int)) [(AV.int .i64 (0 : Int))]), []] [(Lf.r a0), (Lf.i a1), (Lf.r a2), (Lf.i (((List.length a2) : Nat) : Int)), (Lf.i (0 : Int))]; (try simp only [rappS_end, Nat.zero_add, Int.toNat_natCast]); exact (k0.2 c1).2.2)⟩⟩⟩⟩⟩⟩

-- 37: signalbox/pack.Best
section
structure V37 (EV Q : Nat → Rs → List Lf → Prop) : Prop where
  none : True

end
set_option maxHeartbeats 0 in
/-- To enter. -/
theorem E37 {Q : Nat → Rs → List Lf → Prop} {a0 : List (List AV)} {a1 : Int} (h : ∀ EV : Nat → Rs → List Lf → Prop, V37 EV Q →
    EC Try.prog G60 [] [(Lf.r a0)] (fun x rs vs => (x = 0 ∧ ∃ (Y0_0 : List (List AV)), rs = [Y0_0] ∧ vs = [] ∧
      (EC Try.prog G59a [] [(Lf.r a0), (Lf.i a1), (Lf.r (List.take (List.length Y0_0) (List.drop 0 Y0_0)))] (fun x rs vs => (x = 0 ∧ ∃ (Y1_0 : List (List AV)) (y1_1 : Int), rs = [Y1_0] ∧ vs = [.i y1_1] ∧
          (Q 0 [Y1_0] [(Lf.i y1_1)]))))))) :
    EC Try.prog G37 [] [.r a0, .i a1] Q := by
  obtain ⟨A, hA⟩ : ∃ A, A = arS := ⟨_, rfl⟩
  refine Inst.enter (I := I37) hA mixed F37_at sg L37 80 rfl fun CE CK Dn EV RR W hp => ?_
  have h := h  EV ⟨trivial⟩
  cbv
  refine ?_
  · refine W.call 80 (by rfl) h (by subst hA; rfl) (by subst hA; rfl) ?_
    rintro x rs vs hp0 hq0
    rcases hq0 with ⟨rfl, Y0_0, rfl, rfl, k0⟩
    · cbv
      refine ⟨ndI hA (And.intro (And.intro (by subst hA; exact hp0.1) trivial) (And.intro rfl trivial)), ?_⟩
      · refine W.call 80 (by rfl) k0 (by subst hA; rfl) (by subst hA; rfl) ?_
        rintro x rs vs hp1 hq1
        rcases hq1 with ⟨rfl, Y1_0, y1_1, rfl, rfl, k1⟩
        · cbv
          refine ⟨ndI hA (And.intro rfl (And.intro rfl rfl)), ⟨ndI hA (by subst hA; exact hp1.1), (by rw [W.rr]; exact (by subst hA; exact k1))⟩⟩

-- 38: signalbox/pack.Least
section
structure V38 (EV Q : Nat → Rs → List Lf → Prop) : Prop where
  p17 : ∀ {t1 : Int} {t5 : Int} {t12 : List (List AV)} {t13 : Int} {t14 : Int}, (
    (t14 < t13 →
      ((0 : Int) ≤ t14) ∧
      (t12[(Int.toNat t14)]? = some [(AV.int .i64 (cIS t12 (Int.toNat t14) 0))]) ∧
      (EV 17 [] [(Lf.i t1), (Lf.i (IntKind.wrap .i64 (t5 + (cIS t12 (Int.toNat t14) 0)))), (Lf.r t12), (Lf.i t13), (Lf.i (IntKind.wrap .i64 (t14 + (1 : Int))))])) ∧
    (t14 ≥ t13 →
      (t1 ≠ (0 : Int)) ∧
      (Q 0 [] [(Lf.i (IntKind.wrap .i64 (Int.tdiv (IntKind.wrap .i64 ((IntKind.wrap .i64 (t5 + t1)) - (1 : Int))) t1)))]))) →
    EV 17 [] [.i t1, .i t5, .r t12, .i t13, .i t14]

set_option maxHeartbeats 0 in
theorem V38.of {Q : Nat → Rs → List Lf → Prop} {A : Ar} {CE : Nat → Rs → List Lf → (Nat → Rs → List Lf → Prop) → Prop} {CK : Nat → Rs → List Lf → Cont → Prop} {Dn : Nat → List Bool → List AItem → Nat → List Bool → List AV → List ABlk → Prop} {EV RR : Nat → Rs → List Lf → Prop} (W : Wk Try.prog Try.f38 I38 L38 Q A sg CE CK Dn EV RR) : V38 EV Q := by
  have hA := W.hA
  refine ⟨?_⟩
  · intro t1 t5 t12 t13 t14 h
    refine W.step 80 fun hp => ?_
    cbv
    refine ⟨imI hA fun e0 => have c0 : t14 < t13 := (by have q := (cmpE (op := .lss) hA e0); subst hA; exact q); ⟨ndI hA (And.intro (by subst hA; exact (h.1 c0).1) (by subst hA; exact (h.1 c0).2.1)), (by subst hA; exact (h.1 c0).2.2)⟩, imI hA fun e0 => have c0 : t14 ≥ t13 := (by have q := (cmpE (op := .lss) hA e0); subst hA; exact q); ⟨ndI hA (by subst hA; exact (h.2 c0).1), (by rw [W.rr]; exact (by subst hA; exact (h.2 c0).2))⟩⟩

end
set_option maxHeartbeats 0 in
/-- To enter. -/
theorem E38 {Q : Nat → Rs → List Lf → Prop} {a0 : List (List AV)} {a1 : Int} (h : ∀ EV : Nat → Rs → List Lf → Prop, V38 EV Q →
    EC Try.prog G58 [] [(Lf.r a0), (Lf.i a1)] (fun x rs vs => (x = 0 ∧ ∃ (y0_0 : Bool), rs = [] ∧ vs = [.b y0_0] ∧
      ((y0_0 = false →
          Q 0 [] [(Lf.i (0 : Int))]) ∧
        (y0_0 = true →
          EV 17 [] [(Lf.i a1), (Lf.i (0 : Int)), (Lf.r a0), (Lf.i (((List.length a0) : Nat) : Int)), (Lf.i (0 : Int))]))))) :
    EC Try.prog G38 [] [.r a0, .i a1] Q := by
  obtain ⟨A, hA⟩ : ∃ A, A = arS := ⟨_, rfl⟩
  refine Inst.enter (I := I38) hA mixed F38_at sg L38 80 rfl fun CE CK Dn EV RR W hp => ?_
  have h := h  EV (V38.of W)
  cbv
  refine ?_
  · refine W.call 80 (by rfl) h (by subst hA; rfl) (by subst hA; rfl) ?_
    rintro x rs vs hp0 hq0
    rcases hq0 with ⟨rfl, y0_0, rfl, rfl, k0⟩
    · cbv
      refine ⟨imI hA fun e1 => have c1 : y0_0 = false := (by have q := (notE hA e1); subst hA; exact q); (by rw [W.rr]; exact (by subst hA; exact (k0.1 c1))), imI hA fun e1 => have c1 : y0_0 = true := (by have q := (notE hA e1); subst hA; exact q); (by subst hA; exact (k0.2 c1))⟩

end Go.Ab
