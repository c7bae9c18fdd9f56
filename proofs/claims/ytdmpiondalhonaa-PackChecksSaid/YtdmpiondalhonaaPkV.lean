/- PRINTED BY A PROGRAM (wip/tools/vc.py, AbVc.lean): what is to be shown of each function, from place to place, and that it is enough. -/
import Derived.Test.YtdmpiondalhonaaPkS
import Derived.Test.YtdmpiondalhonaaAbV0
namespace Go.Ab
open Go Go.Proofs
set_option linter.unusedVariables false
set_option linter.unusedSimpArgs false
set_option maxRecDepth 100000

-- 33: signalbox/signalboxref44.Right
section
structure V33 (EV Q : Nat → Rs → List Lf → Prop) : Prop where
  p7 : ∀ {t0 : List (List AV)} {t1 : Int} {t7 : List (List AV)} {t8 : Int} {t9 : Int}, (
    (t9 < t8 →
      ((0 : Int) ≤ t9) ∧
      (t7[(Int.toNat t9)]? = some [(AV.int .i64 (cIS t7 (Int.toNat t9) 0))]) ∧
      ((cIS t7 (Int.toNat t9) 0) ≥ (1 : Int) →
        ((cIS t7 (Int.toNat t9) 0) > t1 →
          Q 0 [] [(Lf.b false)]) ∧
        ((cIS t7 (Int.toNat t9) 0) ≤ t1 →
          EV 7 [] [(Lf.r t0), (Lf.i t1), (Lf.r t7), (Lf.i t8), (Lf.i (IntKind.wrap .i64 (t9 + (1 : Int))))])) ∧
      ((cIS t7 (Int.toNat t9) 0) < (1 : Int) →
        Q 0 [] [(Lf.b false)])) ∧
    (t9 ≥ t8 →
      ((((List.length t0) : Nat) : Int) ≤ (4096 : Int) →
        (t1 ≥ (1 : Int) →
          Q 0 [] [(Lf.b (decide (t1 ≤ (1048576 : Int))))]) ∧
        (t1 < (1 : Int) →
          Q 0 [] [(Lf.b false)])) ∧
      ((((List.length t0) : Nat) : Int) > (4096 : Int) →
        Q 0 [] [(Lf.b false)]))) →
    EV 7 [] [.r t0, .i t1, .r t7, .i t8, .i t9]

set_option maxHeartbeats 0 in
theorem V33.of {Q : Nat → Rs → List Lf → Prop} {A : Ar} {CE : Nat → Rs → List Lf → (Nat → Rs → List Lf → Prop) → Prop} {CK : Nat → Rs → List Lf → Cont → Prop} {Dn : Nat → List Bool → List AItem → Nat → List Bool → List AV → List ABlk → Prop} {EV RR : Nat → Rs → List Lf → Prop} (W : Wk Try.prog Try.f33 I33 L33 Q A sg CE CK Dn EV RR) : V33 EV Q := by
  have hA := W.hA
  refine ⟨?_⟩
  · intro t0 t1 t7 t8 t9 h
    refine W.step 80 fun hp => ?_
    cbv
    refine ⟨imI hA fun e0 => have c0 : t9 < t8 := (by have q := (cmpE (op := .lss) hA e0); subst hA; exact q); ⟨ndI hA (And.intro (by subst hA; exact (h.1 c0).1) (by subst hA; exact (h.1 c0).2.1)), ⟨imI hA fun e1 => have c1 : (cIS t7 (Int.toNat t9) 0) ≥ (1 : Int) := (by have q := (cmpE (op := .lss) hA e1); subst hA; exact q); ⟨imI hA fun e2 => have c2 : (cIS t7 (Int.toNat t9) 0) > t1 := (by have q := (cmpE (op := .gtr) hA e2); subst hA; exact q); (by rw [W.rr]; exact (by subst hA; exact (((h.1 c0).2.2.1 c1).1 c2))), imI hA fun e2 => have c2 : (cIS t7 (Int.toNat t9) 0) ≤ t1 := (by have q := (cmpE (op := .gtr) hA e2); subst hA; exact q); (by subst hA; exact (((h.1 c0).2.2.1 c1).2 c2))⟩, imI hA fun e1 => have c1 : (cIS t7 (Int.toNat t9) 0) < (1 : Int) := (by have q := (cmpE (op := .lss) hA e1); subst hA; exact q); (by rw [W.rr]; exact (by subst hA; exact ((h.1 c0).2.2.2 c1)))⟩⟩, imI hA fun e0 => have c0 : t9 ≥ t8 := (by have q := (cmpE (op := .lss) hA e0); subst hA; exact q); ⟨imI hA fun e1 => have c1 : (((List.length t0) : Nat) : Int) ≤ (4096 : Int) := (by have q := (cmpE (op := .leq) hA e1); subst hA; exact q); ⟨imI hA fun e2 => have c2 : t1 ≥ (1 : Int) := (by have q := (cmpE (op := .geq) hA e2); subst hA; exact q); (by rw [W.rr]; exact (by subst hA; exact (((h.2 c0).1 c1).1 c2))), imI hA fun e2 => have c2 : t1 < (1 : Int) := (by have q := (cmpE (op := .geq) hA e2); subst hA; exact q); (by rw [W.rr]; exact (by subst hA; exact (((h.2 c0).1 c1).2 c2)))⟩, imI hA fun e1 => have c1 : (((List.length t0) : Nat) : Int) > (4096 : Int) := (by have q := (cmpE (op := .leq) hA e1); subst hA; exact q); (by rw [W.rr]; exact (by subst hA; exact ((h.2 c0).2 c1)))⟩⟩

end
set_option maxHeartbeats 0 in
/-- To enter. -/
theorem E33 {Q : Nat → Rs → List Lf → Prop} {a0 : List (List AV)} {a1 : Int} (h : ∀ EV : Nat → Rs → List Lf → Prop, V33 EV Q →
    EV 7 [] [(Lf.r a0), (Lf.i a1), (Lf.r a0), (Lf.i (((List.length a0) : Nat) : Int)), (Lf.i (0 : Int))]) :
    EC Try.prog G33 [] [.r a0, .i a1] Q := by
  obtain ⟨A, hA⟩ : ∃ A, A = arS := ⟨_, rfl⟩
  refine Inst.enter (I := I33) hA mixed F33_at sg L33 80 rfl fun CE CK Dn EV RR W hp => ?_
  have h := h  EV (V33.of W)
  cbv
  refine (by subst hA; exact h)

-- 75: signalbox/pack.right$1
section
structure V75 (EV Q : Nat → Rs → List Lf → Prop) : Prop where
  none : True

end
set_option maxHeartbeats 0 in
/-- To enter. -/
theorem E75 {Q : Nat → Rs → List Lf → Prop} {a0 : Int} {ab0 : Int} (h : ∀ EV : Nat → Rs → List Lf → Prop, V75 EV Q →
    (a0 ≥ (1 : Int) →
      Q 0 [] [(Lf.b (decide (a0 > ab0))), (Lf.i ab0)]) ∧
    (a0 < (1 : Int) →
      Q 0 [] [(Lf.b true), (Lf.i ab0)])) :
    EC Try.prog G75 [] [.i a0, .i ab0] Q := by
  obtain ⟨A, hA⟩ : ∃ A, A = arS := ⟨_, rfl⟩
  refine Inst.enter (I := I75) hA mixed F75_at sg L75 80 rfl fun CE CK Dn EV RR W hp => ?_
  have h := h  EV ⟨trivial⟩
  cbv
  refine ⟨imI hA fun e0 => have c0 : a0 ≥ (1 : Int) := (by have q := (cmpE (op := .lss) hA e0); subst hA; exact q); (by rw [W.rr]; exact (by subst hA; exact (h.1 c0))), imI hA fun e0 => have c0 : a0 < (1 : Int) := (by have q := (cmpE (op := .lss) hA e0); subst hA; exact q); (by rw [W.rr]; exact (by subst hA; exact (h.2 c0)))⟩

-- 68: slices.IndexFunc[[]int,int]
section
structure V68 (EV Q : Nat → Rs → List Lf → Prop) : Prop where
  p7 : ∀ {t0 : List (List AV)} {t7 : Int} {t8 : Int} {tb0 : Int}, (
    (t8 < t7 →
      ((0 : Int) ≤ t8) ∧
      (t0[(Int.toNat t8)]? = some [(AV.int .i64 (cIS t0 (Int.toNat t8) 0))]) ∧
      (EC Try.prog G75 [] [(Lf.i (cIS t0 (Int.toNat t8) 0)), (Lf.i tb0)] (fun x rs vs => (x = 0 ∧ ∃ (y1_0 : Bool) (y1_b0 : Int), rs = [] ∧ vs = [.b y1_0, .i y1_b0] ∧
        ((y1_0 = true →
            Q 0 [] [(Lf.i t8), (Lf.i y1_b0)]) ∧
          (y1_0 = false →
            EV 7 [] [(Lf.r t0), (Lf.i t7), (Lf.i (IntKind.wrap .i64 (t8 + (1 : Int)))), (Lf.i y1_b0)])))))) ∧
    (t8 ≥ t7 →
      Q 0 [] [(Lf.i (-1)), (Lf.i tb0)])) →
    EV 7 [] [.r t0, .i t7, .i t8, .i tb0]

set_option maxHeartbeats 0 in
theorem V68.of {Q : Nat → Rs → List Lf → Prop} {A : Ar} {CE : Nat → Rs → List Lf → (Nat → Rs → List Lf → Prop) → Prop} {CK : Nat → Rs → List Lf → Cont → Prop} {Dn : Nat → List Bool → List AItem → Nat → List Bool → List AV → List ABlk → Prop} {EV RR : Nat → Rs → List Lf → Prop} (W : Wk Try.prog Try.f68 I68 L68 Q A sg CE CK Dn EV RR) : V68 EV Q := by
  have hA := W.hA
  refine ⟨?_⟩
  · intro t0 t7 t8 tb0 h
    refine W.step 80 fun hp => ?_
    cbv
    refine ⟨imI hA fun e0 => have c0 : t8 < t7 := (by have q := (cmpE (op := .lss) hA e0); subst hA; exact q); ⟨ndI hA (And.intro (by subst hA; exact (h.1 c0).1) (by subst hA; exact (h.1 c0).2.1)), ?_⟩, imI hA fun e0 => have c0 : t8 ≥ t7 := (by have q := (cmpE (op := .lss) hA e0); subst hA; exact q); (by rw [W.rr]; exact (by subst hA; exact (h.2 c0)))⟩
    · refine W.call 80 (by rfl) (h.1 c0).2.2 (by subst hA; rfl) (by subst hA; rfl) ?_
      rintro x rs vs hp1 hq1
      rcases hq1 with ⟨rfl, y1_0, y1_b0, rfl, rfl, k1⟩
      · cbv
        refine ⟨imI hA fun e2 => have c2 : y1_0 = true := (by have q := e2; subst hA; exact q); (by rw [W.rr]; exact (by subst hA; exact (k1.1 c2))), imI hA fun e2 => have c2 : y1_0 = false := (by have q := e2; subst hA; exact q); (by subst hA; exact (k1.2 c2))⟩

end
set_option maxHeartbeats 0 in
/-- To enter. -/
theorem E68 {Q : Nat → Rs → List Lf → Prop} {a0 : List (List AV)} {ab0 : Int} (h : ∀ EV : Nat → Rs → List Lf → Prop, V68 EV Q →
    EV 7 [] [(Lf.r a0), (Lf.i (((List.length a0) : Nat) : Int)), (Lf.i (0 : Int)), (Lf.i ab0)]) :
    EC Try.prog G68 [] [.r a0, .i ab0] Q := by
  obtain ⟨A, hA⟩ : ∃ A, A = arS := ⟨_, rfl⟩
  refine Inst.enter (I := I68) hA mixed F68_at sg L68 80 rfl fun CE CK Dn EV RR W hp => ?_
  have h := h  EV (V68.of W)
  cbv
  refine (by subst hA; exact h)

-- 49: slices.ContainsFunc[[]int,int]
section
structure V49 (EV Q : Nat → Rs → List Lf → Prop) : Prop where
  none : True

end
set_option maxHeartbeats 0 in
/-- To enter. -/
theorem E49 {Q : Nat → Rs → List Lf → Prop} {a0 : List (List AV)} {ab0 : Int} (h : ∀ EV : Nat → Rs → List Lf → Prop, V49 EV Q →
    EC Try.prog G68 [] [(Lf.r a0), (Lf.i ab0)] (fun x rs vs => (x = 0 ∧ ∃ (y0_0 : Int) (y0_b0 : Int), rs = [] ∧ vs = [.i y0_0, .i y0_b0] ∧
      (Q 0 [] [(Lf.b (decide (y0_0 ≥ (0 : Int)))), (Lf.i y0_b0)])))) :
    EC Try.prog G49 [] [.r a0, .i ab0] Q := by
  obtain ⟨A, hA⟩ : ∃ A, A = arS := ⟨_, rfl⟩
  refine Inst.enter (I := I49) hA mixed F49_at sg L49 80 rfl fun CE CK Dn EV RR W hp => ?_
  have h := h  EV ⟨trivial⟩
  cbv
  refine ?_
  · refine W.call 80 (by rfl) h (by subst hA; rfl) (by subst hA; rfl) ?_
    rintro x rs vs hp0 hq0
    rcases hq0 with ⟨rfl, y0_0, y0_b0, rfl, rfl, k0⟩
    · cbv
      refine (by rw [W.rr]; exact (by subst hA; exact k0))

-- 58: signalbox/pack.right
section
structure V58 (EV Q : Nat → Rs → List Lf → Prop) : Prop where
  none : True

end
set_option maxHeartbeats 0 in
/-- To enter. -/
theorem E58 {Q : Nat → Rs → List Lf → Prop} {a0 : List (List AV)} {a1 : Int} (h : ∀ EV : Nat → Rs → List Lf → Prop, V58 EV Q →
    ((((List.length a0) : Nat) : Int) ≤ (4096 : Int) →
      (a1 ≥ (1 : Int) →
        (a1 ≤ (1048576 : Int) →
          EC Try.prog G49 [] [(Lf.r a0), (Lf.i a1)] (fun x rs vs => (x = 0 ∧ ∃ (y3_0 : Bool) (y3_b0 : Int), rs = [] ∧ vs = [.b y3_0, .i y3_b0] ∧
            (Q 0 [] [(Lf.b (!y3_0))])))) ∧
        (a1 > (1048576 : Int) →
          Q 0 [] [(Lf.b false)])) ∧
      (a1 < (1 : Int) →
        Q 0 [] [(Lf.b false)])) ∧
    ((((List.length a0) : Nat) : Int) > (4096 : Int) →
      Q 0 [] [(Lf.b false)])) :
    EC Try.prog G58 [] [.r a0, .i a1] Q := by
  obtain ⟨A, hA⟩ : ∃ A, A = arS := ⟨_, rfl⟩
  refine Inst.enter (I := I58) hA mixed F58_at sg L58 80 rfl fun CE CK Dn EV RR W hp => ?_
  have h := h  EV ⟨trivial⟩
  cbv
  refine ⟨imI hA fun e0 => have c0 : (((List.length a0) : Nat) : Int) ≤ (4096 : Int) := (by have q := (cmpE (op := .leq) hA e0); subst hA; exact q); ⟨imI hA fun e1 => have c1 : a1 ≥ (1 : Int) := (by have q := (cmpE (op := .geq) hA e1); subst hA; exact q); ⟨imI hA fun e2 => have c2 : a1 ≤ (1048576 : Int) := (by have q := (cmpE (op := .leq) hA e2); subst hA; exact q); ?_, imI hA fun e2 => have c2 : a1 > (1048576 : Int) := (by have q := (cmpE (op := .leq) hA e2); subst hA; exact q); (by rw [W.rr]; exact (by subst hA; exact (((h.1 c0).1 c1).2 c2)))⟩, imI hA fun e1 => have c1 : a1 < (1 : Int) := (by have q := (cmpE (op := .geq) hA e1); subst hA; exact q); (by rw [W.rr]; exact (by subst hA; exact ((h.1 c0).2 c1)))⟩, imI hA fun e0 => have c0 : (((List.length a0) : Nat) : Int) > (4096 : Int) := (by have q := (cmpE (op := .leq) hA e0); subst hA; exact q); (by rw [W.rr]; exact (by subst hA; exact (h.2 c0)))⟩
  · refine W.call 80 (by rfl) (((h.1 c0).1 c1).1 c2) (by subst hA; rfl) (by subst hA; rfl) ?_
    rintro x rs vs hp3 hq3
    rcases hq3 with ⟨rfl, y3_0, y3_b0, rfl, rfl, k3⟩
    · cbv
      refine (by rw [W.rr]; exact (by subst hA; exact k3))

-- 34: signalbox/pack.Check DRAWN
section
structure V34 (EV Q : Nat → Rs → List Lf → Prop) : Prop where
  p17 : ∀ {R0 : List (List AV)} {t0 : List (List AV)} {t1 : Int} {t22 : List (List AV)} {t23 : Int} {t24 : Int}, (pursS R0 = true → 
    (t24 < t23 →
      ((0 : Int) ≤ t24) ∧
      (t22[(Int.toNat t24)]? = some [(AV.int .i64 (cIS t22 (Int.toNat t24) 0))]) ∧
      (t0[(Int.toNat t24)]? = some [(AV.int .i64 (cIS t0 (Int.toNat t24) 0))]) ∧
      (mgetS .i64 (cIS t22 (Int.toNat t24) 0) (AV.int .i64 (0 : Int)) R0 = some (AV.int .i64 (mIS R0 .i64 (cIS t22 (Int.toNat t24) 0)))) ∧
      (msetS .i64 (cIS t22 (Int.toNat t24) 0) (AV.int .i64 (IntKind.wrap .i64 ((mIS R0 .i64 (cIS t22 (Int.toNat t24) 0)) + (cIS t0 (Int.toNat t24) 0)))) R0 = some (mSS R0 .i64 (cIS t22 (Int.toNat t24) 0) (AV.int .i64 (IntKind.wrap .i64 ((mIS R0 .i64 (cIS t22 (Int.toNat t24) 0)) + (cIS t0 (Int.toNat t24) 0)))))) ∧
      ((cIS t22 (Int.toNat t24) 0) ≥ (0 : Int) →
        (mgetS .i64 (cIS t22 (Int.toNat t24) 0) (AV.int .i64 (0 : Int)) (mSS R0 .i64 (cIS t22 (Int.toNat t24) 0) (AV.int .i64 (IntKind.wrap .i64 ((mIS R0 .i64 (cIS t22 (Int.toNat t24) 0)) + (cIS t0 (Int.toNat t24) 0))))) = some (AV.int .i64 (mIS (mSS R0 .i64 (cIS t22 (Int.toNat t24) 0) (AV.int .i64 (IntKind.wrap .i64 ((mIS R0 .i64 (cIS t22 (Int.toNat t24) 0)) + (cIS t0 (Int.toNat t24) 0))))) .i64 (cIS t22 (Int.toNat t24) 0)))) ∧
        ((mIS (mSS R0 .i64 (cIS t22 (Int.toNat t24) 0) (AV.int .i64 (IntKind.wrap .i64 ((mIS R0 .i64 (cIS t22 (Int.toNat t24) 0)) + (cIS t0 (Int.toNat t24) 0))))) .i64 (cIS t22 (Int.toNat t24) 0)) > t1 →
          Q 0 [] [(Lf.b false)]) ∧
        ((mIS (mSS R0 .i64 (cIS t22 (Int.toNat t24) 0) (AV.int .i64 (IntKind.wrap .i64 ((mIS R0 .i64 (cIS t22 (Int.toNat t24) 0)) + (cIS t0 (Int.toNat t24) 0))))) .i64 (cIS t22 (Int.toNat t24) 0)) ≤ t1 →
          EV 17 [(mSS R0 .i64 (cIS t22 (Int.toNat t24) 0) (AV.int .i64 (IntKind.wrap .i64 ((mIS R0 .i64 (cIS t22 (Int.toNat t24) 0)) + (cIS t0 (Int.toNat t24) 0)))))] [(Lf.r t0), (Lf.i t1), (Lf.r t22), (Lf.i t23), (Lf.i (IntKind.wrap .i64 (t24 + (1 : Int))))])) ∧
      ((cIS t22 (Int.toNat t24) 0) < (0 : Int) →
        Q 0 [] [(Lf.b false)])) ∧
    (t24 ≥ t23 →
      Q 0 [] [(Lf.b true)])) →
    EV 17 [R0] [.r t0, .i t1, .r t22, .i t23, .i t24]

set_option maxHeartbeats 0 in
theorem V34.of {Q : Nat → Rs → List Lf → Prop} {A : Ar} {CE : Nat → Rs → List Lf → (Nat → Rs → List Lf → Prop) → Prop} {CK : Nat → Rs → List Lf → Cont → Prop} {Dn : Nat → List Bool → List AItem → Nat → List Bool → List AV → List ABlk → Prop} {EV RR : Nat → Rs → List Lf → Prop} (W : Wk Try.prog Try.f34 I34 L34 Q A sg CE CK Dn EV RR) : V34 EV Q := by
  have hA := W.hA
  refine ⟨?_⟩
  · intro R0 t0 t1 t22 t23 t24 h
    refine W.step 80 fun hp => ?_
    have h := h hp.1
    cbv
    refine ⟨imI hA fun e0 => have c0 : t24 < t23 := (by have q := (cmpE (op := .lss) hA e0); subst hA; exact q); ⟨ndI hA (And.intro (by subst hA; exact (h.1 c0).1) (by subst hA; exact (h.1 c0).2.1)), ⟨ndI hA (And.intro (by subst hA; exact (h.1 c0).1) (by subst hA; exact (h.1 c0).2.2.1)), ⟨⟨ndI hA (by subst hA; exact (h.1 c0).2.2.2.1), ⟨⟨ndI hA (by subst hA; exact (h.1 c0).2.2.2.2.1), ⟨imI hA fun e1 => have c1 : (cIS t22 (Int.toNat t24) 0) ≥ (0 : Int) := (by have q := (cmpE (op := .lss) hA e1); subst hA; exact q); ⟨ndI hA (by subst hA; exact ((h.1 c0).2.2.2.2.2.1 c1).1), ⟨imI hA fun e2 => have c2 : (mIS (mSS R0 .i64 (cIS t22 (Int.toNat t24) 0) (AV.int .i64 (IntKind.wrap .i64 ((mIS R0 .i64 (cIS t22 (Int.toNat t24) 0)) + (cIS t0 (Int.toNat t24) 0))))) .i64 (cIS t22 (Int.toNat t24) 0)) > t1 := (by have q := (cmpE (op := .gtr) hA e2); subst hA; exact q); (by rw [W.rr]; exact (by subst hA; exact (((h.1 c0).2.2.2.2.2.1 c1).2.1 c2))), imI hA fun e2 => have c2 : (mIS (mSS R0 .i64 (cIS t22 (Int.toNat t24) 0) (AV.int .i64 (IntKind.wrap .i64 ((mIS R0 .i64 (cIS t22 (Int.toNat t24) 0)) + (cIS t0 (Int.toNat t24) 0))))) .i64 (cIS t22 (Int.toNat t24) 0)) ≤ t1 := (by have q := (cmpE (op := .gtr) hA e2); subst hA; exact q); ⟨ndI hA (by subst hA; exact (vmset hp.1 rfl)), (by subst hA; exact (((h.1 c0).2.2.2.2.2.1 c1).2.2 c2))⟩⟩⟩, imI hA fun e1 => have c1 : (cIS t22 (Int.toNat t24) 0) < (0 : Int) := (by have q := (cmpE (op := .lss) hA e1); subst hA; exact q); (by rw [W.rr]; exact (by subst hA; exact ((h.1 c0).2.2.2.2.2.2 c1)))⟩⟩, trivial⟩⟩, trivial⟩⟩⟩, imI hA fun e0 => have c0 : t24 ≥ t23 := (by have q := (cmpE (op := .lss) hA e0); subst hA; exact q); (by rw [W.rr]; exact (by subst hA; exact (h.2 c0)))⟩

end
set_option maxHeartbeats 0 in
/-- To enter. -/
theorem E34 {Q : Nat → Rs → List Lf → Prop} {a0 : List (List AV)} {a1 : Int} {a2 : List (List AV)} (h : ∀ EV : Nat → Rs → List Lf → Prop, V34 EV Q →
    EC Try.prog G58 [] [(Lf.r a0), (Lf.i a1)] (fun x rs vs => (x = 0 ∧ ∃ (y0_0 : Bool), rs = [] ∧ vs = [.b y0_0] ∧
      ((y0_0 = true →
          ((((List.length a2) : Nat) : Int) ≠ (((List.length a0) : Nat) : Int) →
            Q 0 [] [(Lf.b false)]) ∧
          ((((List.length a2) : Nat) : Int) = (((List.length a0) : Nat) : Int) →
            EV 17 [[]] [(Lf.r a0), (Lf.i a1), (Lf.r a2), (Lf.i (((List.length a2) : Nat) : Int)), (Lf.i (0 : Int))])) ∧
        (y0_0 = false →
          Q 0 [] [(Lf.b false)]))))) :
    EC Try.prog G34 [] [.r a0, .i a1, .r a2] Q := by
  obtain ⟨A, hA⟩ : ∃ A, A = arS := ⟨_, rfl⟩
  refine Inst.enter (I := I34) hA mixed F34_at sg L34 80 rfl fun CE CK Dn EV RR W hp => ?_
  have h := h  EV (V34.of W)
  cbv
  refine ?_
  · refine W.call 80 (by rfl) h (by subst hA; rfl) (by subst hA; rfl) ?_
    rintro x rs vs hp0 hq0
    rcases hq0 with ⟨rfl, y0_0, rfl, rfl, k0⟩
    · cbv
      refine ⟨imI hA fun e1 => have c1 : y0_0 = true := (by have q := (notE hA e1); subst hA; exact q); ⟨imI hA fun e2 => have c2 : (((List.length a2) : Nat) : Int) ≠ (((List.length a0) : Nat) : Int) := (by have q := (cmpE (op := .neq) hA e2); subst hA; exact q); (by rw [W.rr]; exact (by subst hA; exact ((k0.1 c1).1 c2))), imI hA fun e2 => have c2 : (((List.length a2) : Nat) : Int) = (((List.length a0) : Nat) : Int) := (by have q := (cmpE (op := .neq) hA e2); subst hA; exact q); ⟨ndI hA (by subst hA; exact vpur), (by subst hA; exact ((k0.1 c1).2 c2))⟩⟩, imI hA fun e1 => have c1 : y0_0 = false := (by have q := (notE hA e1); subst hA; exact q); (by rw [W.rr]; exact (by subst hA; exact (k0.2 c1)))⟩

-- 10: signalbox/signalboxlaw44.PackChecks DRAWN
section
structure V10 (EV Q : Nat → Rs → List Lf → Prop) : Prop where
  p25 : ∀ {t0 : List (List AV)} {t1 : Int} {t2 : List (List AV)} {t7 : Bool} {t8 : Int}, (
    (t7 = true →
      (t8 < (((List.length t2) : Nat) : Int) →
        EV 40 [] [(Lf.r t0), (Lf.i t1), (Lf.r t2), (Lf.i t8), (Lf.i (0 : Int)), (Lf.i (((List.length t2) : Nat) : Int)), (Lf.i (0 : Int))]) ∧
      (t8 ≥ (((List.length t2) : Nat) : Int) →
        EC Try.prog G34 [] [(Lf.r t0), (Lf.i t1), (Lf.r t2)] (fun x rs vs => (x = 0 ∧ ∃ (y2_0 : Bool), rs = [] ∧ vs = [.b y2_0] ∧
          (Q 0 [] [(Lf.b (y2_0 == t7))]))))) ∧
    (t7 = false →
      EC Try.prog G34 [] [(Lf.r t0), (Lf.i t1), (Lf.r t2)] (fun x rs vs => (x = 0 ∧ ∃ (y1_0 : Bool), rs = [] ∧ vs = [.b y1_0] ∧
        (Q 0 [] [(Lf.b (y1_0 == t7))]))))) →
    EV 25 [] [.r t0, .i t1, .r t2, .b t7, .i t8]
  p40 : ∀ {t0 : List (List AV)} {t1 : Int} {t2 : List (List AV)} {t8 : Int} {t9 : Int} {t41 : Int} {t42 : Int}, (
    (t42 < t41 →
      ((0 : Int) ≤ t42) ∧
      (t2[(Int.toNat t42)]? = some [(AV.int .i64 (cIS t2 (Int.toNat t42) 0))]) ∧
      ((0 : Int) ≤ t8) ∧
      (t2[(Int.toNat t8)]? = some [(AV.int .i64 (cIS t2 (Int.toNat t8) 0))]) ∧
      ((cIS t2 (Int.toNat t42) 0) = (cIS t2 (Int.toNat t8) 0) →
        ((0 : Int) ≤ t42) ∧
        (t0[(Int.toNat t42)]? = some [(AV.int .i64 (cIS t0 (Int.toNat t42) 0))]) ∧
        (EV 40 [] [(Lf.r t0), (Lf.i t1), (Lf.r t2), (Lf.i t8), (Lf.i (IntKind.wrap .i64 (t9 + (cIS t0 (Int.toNat t42) 0)))), (Lf.i t41), (Lf.i (IntKind.wrap .i64 (t42 + (1 : Int))))])) ∧
      ((cIS t2 (Int.toNat t42) 0) ≠ (cIS t2 (Int.toNat t8) 0) →
        EV 40 [] [(Lf.r t0), (Lf.i t1), (Lf.r t2), (Lf.i t8), (Lf.i t9), (Lf.i t41), (Lf.i (IntKind.wrap .i64 (t42 + (1 : Int))))])) ∧
    (t42 ≥ t41 →
      ((0 : Int) ≤ t8) ∧
      (t2[(Int.toNat t8)]? = some [(AV.int .i64 (cIS t2 (Int.toNat t8) 0))]) ∧
      ((cIS t2 (Int.toNat t8) 0) ≥ (0 : Int) →
        EV 25 [] [(Lf.r t0), (Lf.i t1), (Lf.r t2), (Lf.b (decide (t9 ≤ t1))), (Lf.i (IntKind.wrap .i64 (t8 + (1 : Int))))]) ∧
      ((cIS t2 (Int.toNat t8) 0) < (0 : Int) →
        EV 25 [] [(Lf.r t0), (Lf.i t1), (Lf.r t2), (Lf.b false), (Lf.i (IntKind.wrap .i64 (t8 + (1 : Int))))]))) →
    EV 40 [] [.r t0, .i t1, .r t2, .i t8, .i t9, .i t41, .i t42]

set_option maxHeartbeats 0 in
theorem V10.of {Q : Nat → Rs → List Lf → Prop} {A : Ar} {CE : Nat → Rs → List Lf → (Nat → Rs → List Lf → Prop) → Prop} {CK : Nat → Rs → List Lf → Cont → Prop} {Dn : Nat → List Bool → List AItem → Nat → List Bool → List AV → List ABlk → Prop} {EV RR : Nat → Rs → List Lf → Prop} (W : Wk Try.prog Try.f10 I10 L10 Q A sg CE CK Dn EV RR) : V10 EV Q := by
  have hA := W.hA
  refine ⟨?_, ?_⟩
  · intro t0 t1 t2 t7 t8 h
    refine W.step 80 fun hp => ?_
    cbv
    refine ⟨imI hA fun e0 => have c0 : t7 = true := (by have q := e0; subst hA; exact q); ⟨imI hA fun e1 => have c1 : t8 < (((List.length t2) : Nat) : Int) := (by have q := (cmpE (op := .lss) hA e1); subst hA; exact q); (by subst hA; exact ((h.1 c0).1 c1)), imI hA fun e1 => have c1 : t8 ≥ (((List.length t2) : Nat) : Int) := (by have q := (cmpE (op := .lss) hA e1); subst hA; exact q); ?_⟩, imI hA fun e0 => have c0 : t7 = false := (by have q := e0; subst hA; exact q); ?_⟩
    · refine W.call 80 (by rfl) ((h.1 c0).2 c1) (by subst hA; rfl) (by subst hA; rfl) ?_
      rintro x rs vs hp2 hq2
      rcases hq2 with ⟨rfl, y2_0, rfl, rfl, k2⟩
      · cbv
        refine (by rw [W.rr]; exact (by subst hA; exact k2))
    · refine W.call 80 (by rfl) (h.2 c0) (by subst hA; rfl) (by subst hA; rfl) ?_
      rintro x rs vs hp1 hq1
      rcases hq1 with ⟨rfl, y1_0, rfl, rfl, k1⟩
      · cbv
        refine (by rw [W.rr]; exact (by subst hA; exact k1))
  · intro t0 t1 t2 t8 t9 t41 t42 h
    refine W.step 80 fun hp => ?_
    cbv
    refine ⟨imI hA fun e0 => have c0 : t42 < t41 := (by have q := (cmpE (op := .lss) hA e0); subst hA; exact q); ⟨ndI hA (And.intro (by subst hA; exact (h.1 c0).1) (by subst hA; exact (h.1 c0).2.1)), ⟨ndI hA (And.intro (by subst hA; exact (h.1 c0).2.2.1) (by subst hA; exact (h.1 c0).2.2.2.1)), ⟨imI hA fun e1 => have c1 : (cIS t2 (Int.toNat t42) 0) = (cIS t2 (Int.toNat t8) 0) := (by have q := (cmpE (op := .eql) hA e1); subst hA; exact q); ⟨ndI hA (And.intro (by subst hA; exact ((h.1 c0).2.2.2.2.1 c1).1) (by subst hA; exact ((h.1 c0).2.2.2.2.1 c1).2.1)), (by subst hA; exact ((h.1 c0).2.2.2.2.1 c1).2.2)⟩, imI hA fun e1 => have c1 : (cIS t2 (Int.toNat t42) 0) ≠ (cIS t2 (Int.toNat t8) 0) := (by have q := (cmpE (op := .eql) hA e1); subst hA; exact q); (by subst hA; exact ((h.1 c0).2.2.2.2.2 c1))⟩⟩⟩, imI hA fun e0 => have c0 : t42 ≥ t41 := (by have q := (cmpE (op := .lss) hA e0); subst hA; exact q); ⟨ndI hA (And.intro (by subst hA; exact (h.2 c0).1) (by subst hA; exact (h.2 c0).2.1)), ⟨imI hA fun e1 => have c1 : (cIS t2 (Int.toNat t8) 0) ≥ (0 : Int) := (by have q := (cmpE (op := .geq) hA e1); subst hA; exact q); (by subst hA; exact ((h.2 c0).2.2.1 c1)), imI hA fun e1 => have c1 : (cIS t2 (Int.toNat t8) 0) < (0 : Int) := (by have q := (cmpE (op := .geq) hA e1); subst hA; exact q); (by subst hA; exact ((h.2 c0).2.2.2 c1))⟩⟩⟩

end
set_option maxHeartbeats 0 in
/-- To enter. -/
theorem E10 {Q : Nat → Rs → List Lf → Prop} {a0 : List (List AV)} {a1 : Int} {a2 : List (List AV)} (h : ∀ EV : Nat → Rs → List Lf → Prop, V10 EV Q →
    EC Try.prog G32 [] [] (fun x rs vs => (x = 0 ∧ ∃ (y0_0 : Bool), rs = [] ∧ vs = [.b y0_0] ∧
      ((y0_0 = false →
          Q 0 [] [(Lf.b false)]) ∧
        (y0_0 = true →
          ((((List.length a0) : Nat) : Int) ≤ (60 : Int) →
            ((((List.length a2) : Nat) : Int) > (60 : Int) →
              Q 0 [] [(Lf.b true)]) ∧
            ((((List.length a2) : Nat) : Int) ≤ (60 : Int) →
              EC Try.prog G33 [] [(Lf.r a0), (Lf.i a1)] (fun x rs vs => (x = 0 ∧ ∃ (y4_0 : Bool), rs = [] ∧ vs = [.b y4_0] ∧
                ((y4_0 = true →
                    EV 25 [] [(Lf.r a0), (Lf.i a1), (Lf.r a2), (Lf.b ((((List.length a2) : Nat) : Int) == (((List.length a0) : Nat) : Int))), (Lf.i (0 : Int))]) ∧
                  (y4_0 = false →
                    EV 25 [] [(Lf.r a0), (Lf.i a1), (Lf.r a2), (Lf.b false), (Lf.i (0 : Int))])))))) ∧
          ((((List.length a0) : Nat) : Int) > (60 : Int) →
            Q 0 [] [(Lf.b true)])))))) :
    EC Try.prog G10 [] [.r a0, .i a1, .r a2] Q := by
  obtain ⟨A, hA⟩ : ∃ A, A = arS := ⟨_, rfl⟩
  refine Inst.enter (I := I10) hA mixed F10_at sg L10 80 rfl fun CE CK Dn EV RR W hp => ?_
  have h := h  EV (V10.of W)
  cbv
  refine ?_
  · refine W.call 80 (by rfl) h (by subst hA; rfl) (by subst hA; rfl) ?_
    rintro x rs vs hp0 hq0
    rcases hq0 with ⟨rfl, y0_0, rfl, rfl, k0⟩
    · cbv
      refine ⟨imI hA fun e1 => have c1 : y0_0 = false := (by have q := (notE hA e1); subst hA; exact q); (by rw [W.rr]; exact (by subst hA; exact (k0.1 c1))), imI hA fun e1 => have c1 : y0_0 = true := (by have q := (notE hA e1); subst hA; exact q); ⟨imI hA fun e2 => have c2 : (((List.length a0) : Nat) : Int) ≤ (60 : Int) := (by have q := (cmpE (op := .gtr) hA e2); subst hA; exact q); ⟨imI hA fun e3 => have c3 : (((List.length a2) : Nat) : Int) > (60 : Int) := (by have q := (cmpE (op := .gtr) hA e3); subst hA; exact q); (by rw [W.rr]; exact (by subst hA; exact (((k0.2 c1).1 c2).1 c3))), imI hA fun e3 => have c3 : (((List.length a2) : Nat) : Int) ≤ (60 : Int) := (by have q := (cmpE (op := .gtr) hA e3); subst hA; exact q); ?_⟩, imI hA fun e2 => have c2 : (((List.length a0) : Nat) : Int) > (60 : Int) := (by have q := (cmpE (op := .gtr) hA e2); subst hA; exact q); (by rw [W.rr]; exact (by subst hA; exact ((k0.2 c1).2 c2)))⟩⟩
      · refine W.call 80 (by rfl) (((k0.2 c1).1 c2).2 c3) (by subst hA; rfl) (by subst hA; rfl) ?_
        rintro x rs vs hp4 hq4
        rcases hq4 with ⟨rfl, y4_0, rfl, rfl, k4⟩
        · cbv
          refine ⟨imI hA fun e5 => have c5 : y4_0 = true := (by have q := e5; subst hA; exact q); (by subst hA; exact (k4.1 c5)), imI hA fun e5 => have c5 : y4_0 = false := (by have q := e5; subst hA; exact q); (by subst hA; exact (k4.2 c5))⟩

end Go.Ab
