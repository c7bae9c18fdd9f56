/- PRINTED BY A PROGRAM (wip/tools/vc.py, AbVc.lean): what is to be shown of each function, from place to place, and that it is enough. -/
import Derived.Test.YtdmpiondalhonaaEdS
import Derived.Test.YtdmpiondalhonaaAbV0
namespace Go.Ab
open Go Go.Proofs
set_option linter.unusedVariables false
set_option linter.unusedSimpArgs false
set_option maxRecDepth 100000

-- 56: signalbox/sat.Add
section
structure V56 (EV Q : Nat → Rs → List Lf → Prop) : Prop where
  none : True

end
set_option maxHeartbeats 0 in
/-- To enter. -/
theorem E56 {Q : Nat → Rs → List Lf → Prop} {a0 : Int} {a1 : Int} (h : ∀ EV : Nat → Rs → List Lf → Prop, V56 EV Q →
    ((arS.c0 a0 a1) > (0 : Int) →
      Q 0 [] [(Lf.i (18446744073709551615 : Int))]) ∧
    ((arS.c0 a0 a1) ≤ (0 : Int) →
      Q 0 [] [(Lf.i (arS.s0 a0 a1))])) :
    EC Try.prog G56 [] [.i a0, .i a1] Q := by
  obtain ⟨A, hA⟩ : ∃ A, A = arS := ⟨_, rfl⟩
  refine Inst.enter (I := I56) hA mixed F56_at sg L56 80 rfl fun CE CK Dn EV RR W hp => ?_
  have h := h  EV ⟨trivial⟩
  cbv
  refine ⟨imI hA fun e0 => have c0 : (arS.c0 a0 a1) > (0 : Int) := (by have q := (cmpE (op := .gtr) hA e0); subst hA; exact q); (by rw [W.rr]; exact (by subst hA; exact (h.1 c0))), imI hA fun e0 => have c0 : (arS.c0 a0 a1) ≤ (0 : Int) := (by have q := (cmpE (op := .gtr) hA e0); subst hA; exact q); (by rw [W.rr]; exact (by subst hA; exact (h.2 c0)))⟩

-- 74: math/bits.Mul64
section
structure V74 (EV Q : Nat → Rs → List Lf → Prop) : Prop where
  none : True

end
set_option maxHeartbeats 0 in
/-- To enter. -/
theorem E74 {Q : Nat → Rs → List Lf → Prop} {a0 : Int} {a1 : Int} (h : ∀ EV : Nat → Rs → List Lf → Prop, V74 EV Q →
    ((0 : Int) ≤ (32 : Int)) ∧
    (Q 0 [] [(Lf.i (IntKind.wrap .u64 ((IntKind.wrap .u64 ((IntKind.wrap .u64 ((iopS .shr .u64 a0 (32 : Int)) * (iopS .shr .u64 a1 (32 : Int)))) + (iopS .shr .u64 (IntKind.wrap .u64 ((IntKind.wrap .u64 ((iopS .shr .u64 a0 (32 : Int)) * (iopS .and .u64 a1 (4294967295 : Int)))) + (iopS .shr .u64 (IntKind.wrap .u64 ((iopS .and .u64 a0 (4294967295 : Int)) * (iopS .and .u64 a1 (4294967295 : Int)))) (32 : Int)))) (32 : Int)))) + (iopS .shr .u64 (IntKind.wrap .u64 ((iopS .and .u64 (IntKind.wrap .u64 ((IntKind.wrap .u64 ((iopS .shr .u64 a0 (32 : Int)) * (iopS .and .u64 a1 (4294967295 : Int)))) + (iopS .shr .u64 (IntKind.wrap .u64 ((iopS .and .u64 a0 (4294967295 : Int)) * (iopS .and .u64 a1 (4294967295 : Int)))) (32 : Int)))) (4294967295 : Int)) + (IntKind.wrap .u64 ((iopS .and .u64 a0 (4294967295 : Int)) * (iopS .shr .u64 a1 (32 : Int)))))) (32 : Int))))), (Lf.i (IntKind.wrap .u64 (a0 * a1)))])) :
    EC Try.prog G74 [] [.i a0, .i a1] Q := by
  obtain ⟨A, hA⟩ : ∃ A, A = arS := ⟨_, rfl⟩
  refine Inst.enter (I := I74) hA mixed F74_at sg L74 80 rfl fun CE CK Dn EV RR W hp => ?_
  have h := h  EV ⟨trivial⟩
  cbv
  refine ⟨ndI hA (by subst hA; exact h.1), ⟨ndI hA (by subst hA; exact h.1), ⟨ndI hA (by subst hA; exact h.1), ⟨ndI hA (by subst hA; exact h.1), ⟨ndI hA (by subst hA; exact h.1), (by rw [W.rr]; exact (by subst hA; exact h.2))⟩⟩⟩⟩⟩

-- 57: signalbox/sat.Mul
section
structure V57 (EV Q : Nat → Rs → List Lf → Prop) : Prop where
  none : True

end
set_option maxHeartbeats 0 in
/-- To enter. -/
theorem E57 {Q : Nat → Rs → List Lf → Prop} {a0 : Int} {a1 : Int} (h : ∀ EV : Nat → Rs → List Lf → Prop, V57 EV Q →
    EC Try.prog G74 [] [(Lf.i a0), (Lf.i a1)] (fun x rs vs => (x = 0 ∧ ∃ (y0_0 : Int) (y0_1 : Int), rs = [] ∧ vs = [.i y0_0, .i y0_1] ∧
      ((y0_0 > (0 : Int) →
          Q 0 [] [(Lf.i (18446744073709551615 : Int))]) ∧
        (y0_0 ≤ (0 : Int) →
          Q 0 [] [(Lf.i y0_1)]))))) :
    EC Try.prog G57 [] [.i a0, .i a1] Q := by
  obtain ⟨A, hA⟩ : ∃ A, A = arS := ⟨_, rfl⟩
  refine Inst.enter (I := I57) hA mixed F57_at sg L57 80 rfl fun CE CK Dn EV RR W hp => ?_
  have h := h  EV ⟨trivial⟩
  cbv
  refine ?_
  · refine W.call 80 (by rfl) h (by subst hA; rfl) (by subst hA; rfl) ?_
    rintro x rs vs hp0 hq0
    rcases hq0 with ⟨rfl, y0_0, y0_1, rfl, rfl, k0⟩
    · cbv
      refine ⟨imI hA fun e1 => have c1 : y0_0 > (0 : Int) := (by have q := (cmpE (op := .gtr) hA e1); subst hA; exact q); (by rw [W.rr]; exact (by subst hA; exact (k0.1 c1))), imI hA fun e1 => have c1 : y0_0 ≤ (0 : Int) := (by have q := (cmpE (op := .gtr) hA e1); subst hA; exact q); (by rw [W.rr]; exact (by subst hA; exact (k0.2 c1)))⟩

-- 30: signalbox/edf.Demand
section
structure V30 (EV Q : Nat → Rs → List Lf → Prop) : Prop where
  p9 : ∀ {t1 : Int} {t5 : Int} {t9 : List (List AV)} {t10 : Int} {t11 : Int}, (
    (t11 < t10 →
      ((0 : Int) ≤ t11) ∧
      (t9[(Int.toNat t11)]? = some [(AV.int .u64 (cIS t9 (Int.toNat t11) 0)), (AV.int .u64 (cIS t9 (Int.toNat t11) 1)), (AV.int .u64 (cIS t9 (Int.toNat t11) 2))]) ∧
      (t1 < (cIS t9 (Int.toNat t11) 1) →
        EV 9 [] [(Lf.i t1), (Lf.i t5), (Lf.r t9), (Lf.i t10), (Lf.i (IntKind.wrap .i64 (t11 + (1 : Int))))]) ∧
      (t1 ≥ (cIS t9 (Int.toNat t11) 1) →
        ((cIS t9 (Int.toNat t11) 2) > (0 : Int) →
          ((cIS t9 (Int.toNat t11) 2) ≠ (0 : Int)) ∧
          (EC Try.prog G56 [] [(Lf.i (IntKind.wrap .u64 (Int.tdiv (IntKind.wrap .u64 (t1 - (cIS t9 (Int.toNat t11) 1))) (cIS t9 (Int.toNat t11) 2)))), (Lf.i (1 : Int))] (fun x rs vs => (x = 0 ∧ ∃ (y3_0 : Int), rs = [] ∧ vs = [.i y3_0] ∧
            (EV 33 [] [(Lf.i t1), (Lf.i t5), (Lf.i y3_0), (Lf.r t9), (Lf.i t10), (Lf.i t11), (Lf.i (cIS t9 (Int.toNat t11) 0)), (Lf.i (cIS t9 (Int.toNat t11) 1)), (Lf.i (cIS t9 (Int.toNat t11) 2))]))))) ∧
        ((cIS t9 (Int.toNat t11) 2) ≤ (0 : Int) →
          EV 33 [] [(Lf.i t1), (Lf.i t5), (Lf.i (18446744073709551615 : Int)), (Lf.r t9), (Lf.i t10), (Lf.i t11), (Lf.i (cIS t9 (Int.toNat t11) 0)), (Lf.i (cIS t9 (Int.toNat t11) 1)), (Lf.i (cIS t9 (Int.toNat t11) 2))]))) ∧
    (t11 ≥ t10 →
      Q 0 [] [(Lf.i t5)])) →
    EV 9 [] [.i t1, .i t5, .r t9, .i t10, .i t11]
  p33 : ∀ {t1 : Int} {t5 : Int} {t8 : Int} {t9 : List (List AV)} {t10 : Int} {t11 : Int} {tb0_0 : Int} {tb0_1 : Int} {tb0_2 : Int}, (
    EC Try.prog G57 [] [(Lf.i tb0_0), (Lf.i t8)] (fun x rs vs => (x = 0 ∧ ∃ (y0_0 : Int), rs = [] ∧ vs = [.i y0_0] ∧
      (EC Try.prog G56 [] [(Lf.i t5), (Lf.i y0_0)] (fun x rs vs => (x = 0 ∧ ∃ (y1_0 : Int), rs = [] ∧ vs = [.i y1_0] ∧
          (EV 9 [] [(Lf.i t1), (Lf.i y1_0), (Lf.r t9), (Lf.i t10), (Lf.i (IntKind.wrap .i64 (t11 + (1 : Int))))]))))))) →
    EV 33 [] [.i t1, .i t5, .i t8, .r t9, .i t10, .i t11, .i tb0_0, .i tb0_1, .i tb0_2]

set_option maxHeartbeats 0 in
theorem V30.of {Q : Nat → Rs → List Lf → Prop} {A : Ar} {CE : Nat → Rs → List Lf → (Nat → Rs → List Lf → Prop) → Prop} {CK : Nat → Rs → List Lf → Cont → Prop} {Dn : Nat → List Bool → List AItem → Nat → List Bool → List AV → List ABlk → Prop} {EV RR : Nat → Rs → List Lf → Prop} (W : Wk Try.prog Try.f30 I30 L30 Q A sg CE CK Dn EV RR) : V30 EV Q := by
  have hA := W.hA
  refine ⟨?_, ?_⟩
  · intro t1 t5 t9 t10 t11 h
    refine W.step 80 fun hp => ?_
    cbv
    refine ⟨imI hA fun e0 => have c0 : t11 < t10 := (by have q := (cmpE (op := .lss) hA e0); subst hA; exact q); ⟨ndI hA (And.intro (by subst hA; exact (h.1 c0).1) (by subst hA; exact (h.1 c0).2.1)), ⟨imI hA fun e1 => have c1 : t1 < (cIS t9 (Int.toNat t11) 1) := (by have q := (cmpE (op := .lss) hA e1); subst hA; exact q); (by subst hA; exact ((h.1 c0).2.2.1 c1)), imI hA fun e1 => have c1 : t1 ≥ (cIS t9 (Int.toNat t11) 1) := (by have q := (cmpE (op := .lss) hA e1); subst hA; exact q); ⟨imI hA fun e2 => have c2 : (cIS t9 (Int.toNat t11) 2) > (0 : Int) := (by have q := (cmpE (op := .gtr) hA e2); subst hA; exact q); ⟨ndI hA (by subst hA; exact (((h.1 c0).2.2.2 c1).1 c2).1), ?_⟩, imI hA fun e2 => have c2 : (cIS t9 (Int.toNat t11) 2) ≤ (0 : Int) := (by have q := (cmpE (op := .gtr) hA e2); subst hA; exact q); (by subst hA; exact (((h.1 c0).2.2.2 c1).2 c2))⟩⟩⟩, imI hA fun e0 => have c0 : t11 ≥ t10 := (by have q := (cmpE (op := .lss) hA e0); subst hA; exact q); (by rw [W.rr]; exact (by subst hA; exact (h.2 c0)))⟩
    · refine W.call 80 (by rfl) (((h.1 c0).2.2.2 c1).1 c2).2 (by subst hA; rfl) (by subst hA; rfl) ?_
      rintro x rs vs hp3 hq3
      rcases hq3 with ⟨rfl, y3_0, rfl, rfl, k3⟩
      · cbv
        refine (by subst hA; exact k3)
  · intro t1 t5 t8 t9 t10 t11 tb0_0 tb0_1 tb0_2 h
    refine W.step 80 fun hp => ?_
    cbv
    refine ?_
    · refine W.call 80 (by rfl) h (by subst hA; rfl) (by subst hA; rfl) ?_
      rintro x rs vs hp0 hq0
      rcases hq0 with ⟨rfl, y0_0, rfl, rfl, k0⟩
      · cbv
        refine ?_
        · refine W.call 80 (by rfl) k0 (by subst hA; rfl) (by subst hA; rfl) ?_
          rintro x rs vs hp1 hq1
          rcases hq1 with ⟨rfl, y1_0, rfl, rfl, k1⟩
          · cbv
            refine (by subst hA; exact k1)

end
set_option maxHeartbeats 0 in
/-- To enter. -/
theorem E30 {Q : Nat → Rs → List Lf → Prop} {a0 : List (List AV)} {a1 : Int} (h : ∀ EV : Nat → Rs → List Lf → Prop, V30 EV Q →
    EV 9 [] [(Lf.i a1), (Lf.i (0 : Int)), (Lf.r a0), (Lf.i (((List.length a0) : Nat) : Int)), (Lf.i (0 : Int))]) :
    EC Try.prog G30 [] [.r a0, .i a1] Q := by
  obtain ⟨A, hA⟩ : ∃ A, A = arS := ⟨_, rfl⟩
  refine Inst.enter (I := I30) hA mixed F30_at sg L30 80 rfl fun CE CK Dn EV RR W hp => ?_
  have h := h  EV (V30.of W)
  cbv
  refine (by subst hA; exact h)

-- 31: signalbox/edf.Fits
section
structure V31 (EV Q : Nat → Rs → List Lf → Prop) : Prop where
  p7 : ∀ {t0 : List (List AV)} {t1 : Int} {t5 : Int}, (
    (t5 ≤ (arS.mn t1 (65536 : Int)) →
      EC Try.prog G30 [] [(Lf.r t0), (Lf.i t5)] (fun x rs vs => (x = 0 ∧ ∃ (y1_0 : Int), rs = [] ∧ vs = [.i y1_0] ∧
        ((y1_0 > t5 →
            Q 0 [] [(Lf.b false)]) ∧
          (y1_0 ≤ t5 →
            EV 7 [] [(Lf.r t0), (Lf.i t1), (Lf.i (IntKind.wrap .u64 (t5 + (1 : Int))))]))))) ∧
    (t5 > (arS.mn t1 (65536 : Int)) →
      Q 0 [] [(Lf.b true)])) →
    EV 7 [] [.r t0, .i t1, .i t5]

set_option maxHeartbeats 0 in
theorem V31.of {Q : Nat → Rs → List Lf → Prop} {A : Ar} {CE : Nat → Rs → List Lf → (Nat → Rs → List Lf → Prop) → Prop} {CK : Nat → Rs → List Lf → Cont → Prop} {Dn : Nat → List Bool → List AItem → Nat → List Bool → List AV → List ABlk → Prop} {EV RR : Nat → Rs → List Lf → Prop} (W : Wk Try.prog Try.f31 I31 L31 Q A sg CE CK Dn EV RR) : V31 EV Q := by
  have hA := W.hA
  refine ⟨?_⟩
  · intro t0 t1 t5 h
    refine W.step 80 fun hp => ?_
    cbv
    refine ⟨imI hA fun e0 => have c0 : t5 ≤ (arS.mn t1 (65536 : Int)) := (by have q := (cmpE (op := .leq) hA e0); subst hA; exact q); ?_, imI hA fun e0 => have c0 : t5 > (arS.mn t1 (65536 : Int)) := (by have q := (cmpE (op := .leq) hA e0); subst hA; exact q); (by rw [W.rr]; exact (by subst hA; exact (h.2 c0)))⟩
    · refine W.call 80 (by rfl) (h.1 c0) (by subst hA; rfl) (by subst hA; rfl) ?_
      rintro x rs vs hp1 hq1
      rcases hq1 with ⟨rfl, y1_0, rfl, rfl, k1⟩
      · cbv
        refine ⟨imI hA fun e2 => have c2 : y1_0 > t5 := (by have q := (cmpE (op := .gtr) hA e2); subst hA; exact q); (by rw [W.rr]; exact (by subst hA; exact (k1.1 c2))), imI hA fun e2 => have c2 : y1_0 ≤ t5 := (by have q := (cmpE (op := .gtr) hA e2); subst hA; exact q); (by subst hA; exact (k1.2 c2))⟩

end
set_option maxHeartbeats 0 in
/-- To enter. -/
theorem E31 {Q : Nat → Rs → List Lf → Prop} {a0 : List (List AV)} {a1 : Int} (h : ∀ EV : Nat → Rs → List Lf → Prop, V31 EV Q →
    EV 7 [] [(Lf.r a0), (Lf.i a1), (Lf.i (1 : Int))]) :
    EC Try.prog G31 [] [.r a0, .i a1] Q := by
  obtain ⟨A, hA⟩ : ∃ A, A = arS := ⟨_, rfl⟩
  refine Inst.enter (I := I31) hA mixed F31_at sg L31 80 rfl fun CE CK Dn EV RR W hp => ?_
  have h := h  EV (V31.of W)
  cbv
  refine (by subst hA; exact h)

-- 9: signalbox/signalboxlaw33.EdfFits
section
structure V9 (EV Q : Nat → Rs → List Lf → Prop) : Prop where
  p27 : ∀ {R0 : List (List AV)} {t5 : Int} {t26 : List (List AV)} {t27 : Int} {t28 : Int}, (pursS R0 = true → 
    (t28 < t27 →
      ((0 : Int) ≤ t28) ∧
      (t26[(Int.toNat t28)]? = some [(AV.int .u64 (cIS t26 (Int.toNat t28) 0)), (AV.int .u64 (cIS t26 (Int.toNat t28) 1)), (AV.int .u64 (cIS t26 (Int.toNat t28) 2))]) ∧
      ((cIS t26 (Int.toNat t28) 2) ≠ (0 : Int) →
        ((cIS t26 (Int.toNat t28) 2) ≤ (1000 : Int) →
          ((cIS t26 (Int.toNat t28) 1) ≤ (1000 : Int) →
            ((cIS t26 (Int.toNat t28) 0) > (1000 : Int) →
              Q 0 [] [(Lf.b true)]) ∧
            ((cIS t26 (Int.toNat t28) 0) ≤ (1000 : Int) →
              EV 49 [R0] [(Lf.i t5), (Lf.i (0 : Int)), (Lf.r t26), (Lf.i t27), (Lf.i t28), (Lf.i (cIS t26 (Int.toNat t28) 0)), (Lf.i (cIS t26 (Int.toNat t28) 1)), (Lf.i (cIS t26 (Int.toNat t28) 2))])) ∧
          ((cIS t26 (Int.toNat t28) 1) > (1000 : Int) →
            Q 0 [] [(Lf.b true)])) ∧
        ((cIS t26 (Int.toNat t28) 2) > (1000 : Int) →
          Q 0 [] [(Lf.b true)])) ∧
      ((cIS t26 (Int.toNat t28) 2) = (0 : Int) →
        Q 0 [] [(Lf.b true)])) ∧
    (t28 ≥ t27 →
      EV 65 [R0] [(Lf.i (((List.length R0) : Nat) : Int)), (Lf.i (0 : Int))])) →
    EV 27 [R0] [.i t5, .r t26, .i t27, .i t28]
  p49 : ∀ {R0 : List (List AV)} {t5 : Int} {t9 : Int} {t26 : List (List AV)} {t27 : Int} {t28 : Int} {tb1_0 : Int} {tb1_1 : Int} {tb1_2 : Int}, (pursS R0 = true → 
    ((IntKind.wrap .u64 (t9 + tb1_1)) ≤ t5 →
      (((List.length R0) + 1) ≤ 140737488355328) ∧
      ((((List.length R0) + 1) * 24) ≤ 140737488355328) ∧
      (EV 49 [(R0 ++ [[(AV.int .i64 (IntKind.wrap .i64 t9)), (AV.int .i64 (IntKind.wrap .i64 tb1_0)), (AV.int .i64 (IntKind.wrap .i64 (IntKind.wrap .u64 (t9 + tb1_1))))]])] [(Lf.i t5), (Lf.i (IntKind.wrap .u64 (t9 + tb1_2))), (Lf.r t26), (Lf.i t27), (Lf.i t28), (Lf.i tb1_0), (Lf.i tb1_1), (Lf.i tb1_2)])) ∧
    ((IntKind.wrap .u64 (t9 + tb1_1)) > t5 →
      EV 27 [R0] [(Lf.i t5), (Lf.r t26), (Lf.i t27), (Lf.i (IntKind.wrap .i64 (t28 + (1 : Int))))])) →
    EV 49 [R0] [.i t5, .i t9, .r t26, .i t27, .i t28, .i tb1_0, .i tb1_1, .i tb1_2]
  p65 : ∀ {R0 : List (List AV)} {t76 : Int} {t77 : Int}, (pursS R0 = true → 
    (t77 < t76 →
      ((0 : Int) ≤ t77) ∧
      (t77 < (((List.length R0) : Nat) : Int)) ∧
      (R0[(Int.toNat t77)]? = some [(AV.int .i64 (cIS R0 (Int.toNat t77) 0)), (AV.int .i64 (cIS R0 (Int.toNat t77) 1)), (AV.int .i64 (cIS R0 (Int.toNat t77) 2))]) ∧
      ((cIS R0 (Int.toNat t77) 2) = (0 : Int) →
        ((cIS R0 (Int.toNat t77) 1) > (0 : Int) →
          Q 0 [] [(Lf.b true)]) ∧
        ((cIS R0 (Int.toNat t77) 1) ≤ (0 : Int) →
          EV 65 [R0] [(Lf.i t76), (Lf.i (IntKind.wrap .i64 (t77 + (1 : Int))))])) ∧
      ((cIS R0 (Int.toNat t77) 2) ≠ (0 : Int) →
        EV 65 [R0] [(Lf.i t76), (Lf.i (IntKind.wrap .i64 (t77 + (1 : Int))))])) ∧
    (t77 ≥ t76 →
      EC Try.prog G26 [] [(Lf.r (List.take (List.length R0) (List.drop 0 R0)))] (fun x rs vs => (x = 0 ∧ ∃ (Y1_0 : List (List AV)), rs = [Y1_0] ∧ vs = [] ∧
        (Q 0 [] [(Lf.b ((((List.length Y1_0) : Nat) : Int) == (0 : Int)))]))))) →
    EV 65 [R0] [.i t76, .i t77]

set_option maxHeartbeats 0 in
theorem V9.of {Q : Nat → Rs → List Lf → Prop} {A : Ar} {CE : Nat → Rs → List Lf → (Nat → Rs → List Lf → Prop) → Prop} {CK : Nat → Rs → List Lf → Cont → Prop} {Dn : Nat → List Bool → List AItem → Nat → List Bool → List AV → List ABlk → Prop} {EV RR : Nat → Rs → List Lf → Prop} (W : Wk Try.prog Try.f9 I9 L9 Q A sg CE CK Dn EV RR) : V9 EV Q := by
  have hA := W.hA
  refine ⟨?_, ?_, ?_⟩
  · intro R0 t5 t26 t27 t28 h
    refine W.step 80 fun hp => ?_
    have h := h hp.1
    cbv
    refine ⟨imI hA fun e0 => have c0 : t28 < t27 := (by have q := (cmpE (op := .lss) hA e0); subst hA; exact q); ⟨ndI hA (And.intro (by subst hA; exact (h.1 c0).1) (by subst hA; exact (h.1 c0).2.1)), ⟨imI hA fun e1 => have c1 : (cIS t26 (Int.toNat t28) 2) ≠ (0 : Int) := (by have q := (cmpE (op := .eql) hA e1); subst hA; exact q); ⟨imI hA fun e2 => have c2 : (cIS t26 (Int.toNat t28) 2) ≤ (1000 : Int) := (by have q := (cmpE (op := .gtr) hA e2); subst hA; exact q); ⟨imI hA fun e3 => have c3 : (cIS t26 (Int.toNat t28) 1) ≤ (1000 : Int) := (by have q := (cmpE (op := .gtr) hA e3); subst hA; exact q); ⟨imI hA fun e4 => have c4 : (cIS t26 (Int.toNat t28) 0) > (1000 : Int) := (by have q := (cmpE (op := .gtr) hA e4); subst hA; exact q); (by rw [W.rr]; exact (by subst hA; exact (((((h.1 c0).2.2.1 c1).1 c2).1 c3).1 c4))), imI hA fun e4 => have c4 : (cIS t26 (Int.toNat t28) 0) ≤ (1000 : Int) := (by have q := (cmpE (op := .gtr) hA e4); subst hA; exact q); ⟨ndI hA (And.intro rfl (And.intro rfl rfl)), ⟨ndI hA (by subst hA; exact hp.1), (by subst hA; exact (((((h.1 c0).2.2.1 c1).1 c2).1 c3).2 c4))⟩⟩⟩, imI hA fun e3 => have c3 : (cIS t26 (Int.toNat t28) 1) > (1000 : Int) := (by have q := (cmpE (op := .gtr) hA e3); subst hA; exact q); (by rw [W.rr]; exact (by subst hA; exact ((((h.1 c0).2.2.1 c1).1 c2).2 c3)))⟩, imI hA fun e2 => have c2 : (cIS t26 (Int.toNat t28) 2) > (1000 : Int) := (by have q := (cmpE (op := .gtr) hA e2); subst hA; exact q); (by rw [W.rr]; exact (by subst hA; exact (((h.1 c0).2.2.1 c1).2 c2)))⟩, imI hA fun e1 => have c1 : (cIS t26 (Int.toNat t28) 2) = (0 : Int) := (by have q := (cmpE (op := .eql) hA e1); subst hA; exact q); (by rw [W.rr]; exact (by subst hA; exact ((h.1 c0).2.2.2 c1)))⟩⟩, imI hA fun e0 => have c0 : t28 ≥ t27 := (by have q := (cmpE (op := .lss) hA e0); subst hA; exact q); ⟨ndI hA rfl, ⟨ndI hA (And.intro rfl (And.intro rfl rfl)), ⟨ndI hA (And.intro rfl (And.intro rfl rfl)), ⟨ndI hA (by subst hA; exact hp.1), (by subst hA; exact (h.2 c0))⟩⟩⟩⟩⟩
  · intro R0 t5 t9 t26 t27 t28 tb1_0 tb1_1 tb1_2 h
    refine W.step 80 fun hp => ?_
    have h := h hp.1
    cbv
    refine ⟨imI hA fun e0 => have c0 : (IntKind.wrap .u64 (t9 + tb1_1)) ≤ t5 := (by have q := (cmpE (op := .leq) hA e0); subst hA; exact q); ⟨ndI hA (And.intro rfl (And.intro (Nat.le_refl _) (And.intro (by subst hA; exact (h.1 c0).1) (by subst hA; exact (h.1 c0).2.1)))), ⟨ndI hA (And.intro rfl (And.intro rfl (by subst hA; show ((List.length R0) + 1) = (List.length (rappS R0 (List.length R0) [[(AV.int .i64 (IntKind.wrap .i64 t9)), (AV.int .i64 (IntKind.wrap .i64 tb1_0)), (AV.int .i64 (IntKind.wrap .i64 (IntKind.wrap .u64 (t9 + tb1_1))))]])); (first | rfl | simp [rappS_end] | (simp only [rappS_end, List.length_append, List.length_set, List.length_cons, List.length_nil]; omega))))), ⟨ndI hA (by subst hA; exact (vapp hp.1 vpur)), (by subst hA; show EV 49 [(rappS R0 (List.length R0) [[(AV.int .i64 (IntKind.wrap .i64 t9)), (AV.int .i64 (IntKind.wrap .i64 tb1_0)), (AV.int .i64 (IntKind.wrap .i64 (IntKind.wrap .u64 (t9 + tb1_1))))]])] [(Lf.i t5), (Lf.i (IntKind.wrap .u64 (t9 + tb1_2))), (Lf.r t26), (Lf.i t27), (Lf.i t28), (Lf.i tb1_0), (Lf.i tb1_1), (Lf.i tb1_2)]; (try simp only [rappS_end, Nat.zero_add, Int.toNat_natCast]); exact (h.1 c0).2.2)⟩⟩⟩, imI hA fun e0 => have c0 : (IntKind.wrap .u64 (t9 + tb1_1)) > t5 := (by have q := (cmpE (op := .leq) hA e0); subst hA; exact q); ⟨ndI hA (And.intro rfl (And.intro rfl rfl)), ⟨ndI hA (by subst hA; exact hp.1), (by subst hA; exact (h.2 c0))⟩⟩⟩
  · intro R0 t76 t77 h
    refine W.step 80 fun hp => ?_
    have h := h hp.1
    cbv
    refine ⟨imI hA fun e0 => have c0 : t77 < t76 := (by have q := (cmpE (op := .lss) hA e0); subst hA; exact q); ⟨ndI hA (And.intro (by subst hA; exact (h.1 c0).1) (And.intro (by subst hA; exact (h.1 c0).2.1) rfl)), ⟨ndI hA (And.intro rfl (by subst hA; show R0[(0 + (Int.toNat t77))]? = some [(AV.int .i64 (cIS R0 (0 + (Int.toNat t77)) 0)), (AV.int .i64 (cIS R0 (0 + (Int.toNat t77)) 1)), (AV.int .i64 (cIS R0 (0 + (Int.toNat t77)) 2))]; (try simp only [rappS_end, Nat.zero_add, Int.toNat_natCast]); exact (h.1 c0).2.2.1)), ⟨imI hA fun e1 => have c1 : (cIS R0 (Int.toNat t77) 2) = (0 : Int) := (by have q := (cmpE (op := .eql) hA e1); subst hA; have q : (cIS R0 (0 + (Int.toNat t77)) 2) = (0 : Int) := q; simpa only [rappS_end, Nat.zero_add, Int.toNat_natCast] using q); ⟨imI hA fun e2 => have c2 : (cIS R0 (Int.toNat t77) 1) > (0 : Int) := (by have q := (cmpE (op := .gtr) hA e2); subst hA; have q : (cIS R0 (0 + (Int.toNat t77)) 1) > (0 : Int) := q; simpa only [rappS_end, Nat.zero_add, Int.toNat_natCast] using q); (by rw [W.rr]; exact (by subst hA; exact (((h.1 c0).2.2.2.1 c1).1 c2))), imI hA fun e2 => have c2 : (cIS R0 (Int.toNat t77) 1) ≤ (0 : Int) := (by have q := (cmpE (op := .gtr) hA e2); subst hA; have q : (cIS R0 (0 + (Int.toNat t77)) 1) ≤ (0 : Int) := q; simpa only [rappS_end, Nat.zero_add, Int.toNat_natCast] using q); ⟨ndI hA (And.intro rfl (And.intro rfl rfl)), ⟨ndI hA (And.intro rfl (And.intro rfl rfl)), ⟨ndI hA (by subst hA; exact hp.1), (by subst hA; exact (((h.1 c0).2.2.2.1 c1).2 c2))⟩⟩⟩⟩, imI hA fun e1 => have c1 : (cIS R0 (Int.toNat t77) 2) ≠ (0 : Int) := (by have q := (cmpE (op := .eql) hA e1); subst hA; have q : (cIS R0 (0 + (Int.toNat t77)) 2) ≠ (0 : Int) := q; simpa only [rappS_end, Nat.zero_add, Int.toNat_natCast] using q); ⟨ndI hA (And.intro rfl (And.intro rfl rfl)), ⟨ndI hA (And.intro rfl (And.intro rfl rfl)), ⟨ndI hA (by subst hA; exact hp.1), (by subst hA; exact ((h.1 c0).2.2.2.2 c1))⟩⟩⟩⟩⟩⟩, imI hA fun e0 => have c0 : t77 ≥ t76 := (by have q := (cmpE (op := .lss) hA e0); subst hA; exact q); ⟨ndI hA (And.intro (And.intro (by subst hA; exact hp.1) trivial) (And.intro rfl trivial)), ?_⟩⟩
    · refine W.call 80 (by rfl) (h.2 c0) (by subst hA; rfl) (by subst hA; rfl) ?_
      rintro x rs vs hp1 hq1
      rcases hq1 with ⟨rfl, Y1_0, rfl, rfl, k1⟩
      · cbv
        refine ⟨ndI hA rfl, (by rw [W.rr]; exact (by subst hA; exact k1))⟩

end
set_option maxHeartbeats 0 in
/-- To enter. -/
theorem E9 {Q : Nat → Rs → List Lf → Prop} {a0 : List (List AV)} {a1 : Int} (h : ∀ EV : Nat → Rs → List Lf → Prop, V9 EV Q →
    EC Try.prog G22 [] [] (fun x rs vs => (x = 0 ∧ ∃ (y0_0 : Bool), rs = [] ∧ vs = [.b y0_0] ∧
      ((y0_0 = false →
          Q 0 [] [(Lf.b false)]) ∧
        (y0_0 = true →
          ((((List.length a0) : Nat) : Int) ≤ (5 : Int) →
            EC Try.prog G31 [] [(Lf.r a0), (Lf.i (IntKind.wrap .u64 (Int.tmod a1 (300 : Int))))] (fun x rs vs => (x = 0 ∧ ∃ (y3_0 : Bool), rs = [] ∧ vs = [.b y3_0] ∧
              ((y3_0 = false →
                  Q 0 [] [(Lf.b true)]) ∧
                (y3_0 = true →
                  EV 27 [[]] [(Lf.i (IntKind.wrap .u64 (Int.tmod a1 (300 : Int)))), (Lf.r a0), (Lf.i (((List.length a0) : Nat) : Int)), (Lf.i (0 : Int))]))))) ∧
          ((((List.length a0) : Nat) : Int) > (5 : Int) →
            Q 0 [] [(Lf.b true)])))))) :
    EC Try.prog G9 [] [.r a0, .i a1] Q := by
  obtain ⟨A, hA⟩ : ∃ A, A = arS := ⟨_, rfl⟩
  refine Inst.enter (I := I9) hA mixed F9_at sg L9 80 rfl fun CE CK Dn EV RR W hp => ?_
  have h := h  EV (V9.of W)
  cbv
  refine ?_
  · refine W.call 80 (by rfl) h (by subst hA; rfl) (by subst hA; rfl) ?_
    rintro x rs vs hp0 hq0
    rcases hq0 with ⟨rfl, y0_0, rfl, rfl, k0⟩
    · cbv
      refine ⟨imI hA fun e1 => have c1 : y0_0 = false := (by have q := (notE hA e1); subst hA; exact q); (by rw [W.rr]; exact (by subst hA; exact (k0.1 c1))), imI hA fun e1 => have c1 : y0_0 = true := (by have q := (notE hA e1); subst hA; exact q); ⟨ndI hA (show _ ≠ _ by decide), ⟨imI hA fun e2 => have c2 : (((List.length a0) : Nat) : Int) ≤ (5 : Int) := (by have q := (cmpE (op := .gtr) hA e2); subst hA; exact q); ?_, imI hA fun e2 => have c2 : (((List.length a0) : Nat) : Int) > (5 : Int) := (by have q := (cmpE (op := .gtr) hA e2); subst hA; exact q); (by rw [W.rr]; exact (by subst hA; exact ((k0.2 c1).2 c2)))⟩⟩⟩
      · refine W.call 80 (by rfl) ((k0.2 c1).1 c2) (by subst hA; rfl) (by subst hA; rfl) ?_
        rintro x rs vs hp3 hq3
        rcases hq3 with ⟨rfl, y3_0, rfl, rfl, k3⟩
        · cbv
          refine ⟨imI hA fun e4 => have c4 : y3_0 = false := (by have q := (notE hA e4); subst hA; exact q); (by rw [W.rr]; exact (by subst hA; exact (k3.1 c4))), imI hA fun e4 => have c4 : y3_0 = true := (by have q := (notE hA e4); subst hA; exact q); ⟨ndI hA (And.intro (by subst hA; show 0 = 0; (first | rfl | simp [rappS_end] | (simp only [rappS_end, List.length_append, List.length_set, List.length_cons, List.length_nil]; omega))) (And.intro rfl (by subst hA; show 0 = 0; (first | rfl | simp [rappS_end] | (simp only [rappS_end, List.length_append, List.length_set, List.length_cons, List.length_nil]; omega))))), ⟨ndI hA (by subst hA; exact vpur), (by subst hA; exact (k3.2 c4))⟩⟩⟩

end Go.Ab
