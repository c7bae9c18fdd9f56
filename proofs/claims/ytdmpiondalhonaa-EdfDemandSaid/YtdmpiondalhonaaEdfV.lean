/- PRINTED BY A PROGRAM (wip/tools/vc.py, AbVc.lean): what is to be shown of each function, from place to place, and that it is enough. -/
import Derived.Test.YtdmpiondalhonaaEdfS
import Derived.Test.YtdmpiondalhonaaAbV0
namespace Go.Ab
open Go Go.Proofs
set_option linter.unusedVariables false
set_option linter.unusedSimpArgs false
set_option maxRecDepth 100000

-- 56: signalbox/sat.Add
section
structure V56 (EV Q : Nat → Rs → List Lf → Prop) : Prop where
  none : True

end
set_option maxHeartbeats 0 in
/-- To enter. -/
theorem E56 {Q : Nat → Rs → List Lf → Prop} {a0 : Int} {a1 : Int} (h : ∀ EV : Nat → Rs → List Lf → Prop, V56 EV Q →
    ((arS.c0 a0 a1) > (0 : Int) →
      Q 0 [] [(Lf.i (18446744073709551615 : Int))]) ∧
    ((arS.c0 a0 a1) ≤ (0 : Int) →
      Q 0 [] [(Lf.i (arS.s0 a0 a1))])) :
    EC Try.prog G56 [] [.i a0, .i a1] Q := by
  obtain ⟨A, hA⟩ : ∃ A, A = arS := ⟨_, rfl⟩
  refine Inst.enter (I := I56) hA mixed F56_at sg L56 80 rfl fun CE CK Dn EV RR W hp => ?_
  have h := h  EV ⟨trivial⟩
  cbv
  refine ⟨imI hA fun e0 => have c0 : (arS.c0 a0 a1) > (0 : Int) := (by have q := (cmpE (op := .gtr) hA e0); subst hA; exact q); (by rw [W.rr]; exact (by subst hA; exact (h.1 c0))), imI hA fun e0 => have c0 : (arS.c0 a0 a1) ≤ (0 : Int) := (by have q := (cmpE (op := .gtr) hA e0); subst hA; exact q); (by rw [W.rr]; exact (by subst hA; exact (h.2 c0)))⟩

-- 74: math/bits.Mul64
section
structure V74 (EV Q : Nat → Rs → List Lf → Prop) : Prop where
  none : True

end
set_option maxHeartbeats 0 in
/-- To enter. -/
theorem E74 {Q : Nat → Rs → List Lf → Prop} {a0 : Int} {a1 : Int} (h : ∀ EV : Nat → Rs → List Lf → Prop, V74 EV Q →
    ((0 : Int) ≤ (32 : Int)) ∧
    (Q 0 [] [(Lf.i (IntKind.wrap .u64 ((IntKind.wrap .u64 ((IntKind.wrap .u64 ((iopS .shr .u64 a0 (32 : Int)) * (iopS .shr .u64 a1 (32 : Int)))) + (iopS .shr .u64 (IntKind.wrap .u64 ((IntKind.wrap .u64 ((iopS .shr .u64 a0 (32 : Int)) * (iopS .and .u64 a1 (4294967295 : Int)))) + (iopS .shr .u64 (IntKind.wrap .u64 ((iopS .and .u64 a0 (4294967295 : Int)) * (iopS .and .u64 a1 (4294967295 : Int)))) (32 : Int)))) (32 : Int)))) + (iopS .shr .u64 (IntKind.wrap .u64 ((iopS .and .u64 (IntKind.wrap .u64 ((IntKind.wrap .u64 ((iopS .shr .u64 a0 (32 : Int)) * (iopS .and .u64 a1 (4294967295 : Int)))) + (iopS .shr .u64 (IntKind.wrap .u64 ((iopS .and .u64 a0 (4294967295 : Int)) * (iopS .and .u64 a1 (4294967295 : Int)))) (32 : Int)))) (4294967295 : Int)) + (IntKind.wrap .u64 ((iopS .and .u64 a0 (4294967295 : Int)) * (iopS .shr .u64 a1 (32 : Int)))))) (32 : Int))))), (Lf.i (IntKind.wrap .u64 (a0 * a1)))])) :
    EC Try.prog G74 [] [.i a0, .i a1] Q := by
  obtain ⟨A, hA⟩ : ∃ A, A = arS := ⟨_, rfl⟩
  refine Inst.enter (I := I74) hA mixed F74_at sg L74 80 rfl fun CE CK Dn EV RR W hp => ?_
  have h := h  EV ⟨trivial⟩
  cbv
  refine ⟨ndI hA (by subst hA; exact h.1), ⟨ndI hA (by subst hA; exact h.1), ⟨ndI hA (by subst hA; exact h.1), ⟨ndI hA (by subst hA; exact h.1), ⟨ndI hA (by subst hA; exact h.1), (by rw [W.rr]; exact (by subst hA; exact h.2))⟩⟩⟩⟩⟩

-- 57: signalbox/sat.Mul
section
structure V57 (EV Q : Nat → Rs → List Lf → Prop) : Prop where
  none : True

end
set_option maxHeartbeats 0 in
/-- To enter. -/
theorem E57 {Q : Nat → Rs → List Lf → Prop} {a0 : Int} {a1 : Int} (h : ∀ EV : Nat → Rs → List Lf → Prop, V57 EV Q →
    EC Try.prog G74 [] [(Lf.i a0), (Lf.i a1)] (fun x rs vs => (x = 0 ∧ ∃ (y0_0 : Int) (y0_1 : Int), rs = [] ∧ vs = [.i y0_0, .i y0_1] ∧
      ((y0_0 > (0 : Int) →
          Q 0 [] [(Lf.i (18446744073709551615 : Int))]) ∧
        (y0_0 ≤ (0 : Int) →
          Q 0 [] [(Lf.i y0_1)]))))) :
    EC Try.prog G57 [] [.i a0, .i a1] Q := by
  obtain ⟨A, hA⟩ : ∃ A, A = arS := ⟨_, rfl⟩
  refine Inst.enter (I := I57) hA mixed F57_at sg L57 80 rfl fun CE CK Dn EV RR W hp => ?_
  have h := h  EV ⟨trivial⟩
  cbv
  refine ?_
  · refine W.call 80 (by rfl) h (by subst hA; rfl) (by subst hA; rfl) ?_
    rintro x rs vs hp0 hq0
    rcases hq0 with ⟨rfl, y0_0, y0_1, rfl, rfl, k0⟩
    · cbv
      refine ⟨imI hA fun e1 => have c1 : y0_0 > (0 : Int) := (by have q := (cmpE (op := .gtr) hA e1); subst hA; exact q); (by rw [W.rr]; exact (by subst hA; exact (k0.1 c1))), imI hA fun e1 => have c1 : y0_0 ≤ (0 : Int) := (by have q := (cmpE (op := .gtr) hA e1); subst hA; exact q); (by rw [W.rr]; exact (by subst hA; exact (k0.2 c1)))⟩

-- 30: signalbox/edf.Demand
section
structure V30 (EV Q : Nat → Rs → List Lf → Prop) : Prop where
  p9 : ∀ {t1 : Int} {t5 : Int} {t9 : List (List AV)} {t10 : Int} {t11 : Int}, (
    (t11 < t10 →
      ((0 : Int) ≤ t11) ∧
      (t9[(Int.toNat t11)]? = some [(AV.int .u64 (cIS t9 (Int.toNat t11) 0)), (AV.int .u64 (cIS t9 (Int.toNat t11) 1)), (AV.int .u64 (cIS t9 (Int.toNat t11) 2))]) ∧
      (t1 < (cIS t9 (Int.toNat t11) 1) →
        EV 9 [] [(Lf.i t1), (Lf.i t5), (Lf.r t9), (Lf.i t10), (Lf.i (IntKind.wrap .i64 (t11 + (1 : Int))))]) ∧
      (t1 ≥ (cIS t9 (Int.toNat t11) 1) →
        ((cIS t9 (Int.toNat t11) 2) > (0 : Int) →
          ((cIS t9 (Int.toNat t11) 2) ≠ (0 : Int)) ∧
          (EC Try.prog G56 [] [(Lf.i (IntKind.wrap .u64 (Int.tdiv (IntKind.wrap .u64 (t1 - (cIS t9 (Int.toNat t11) 1))) (cIS t9 (Int.toNat t11) 2)))), (Lf.i (1 : Int))] (fun x rs vs => (x = 0 ∧ ∃ (y3_0 : Int), rs = [] ∧ vs = [.i y3_0] ∧
            (EV 33 [] [(Lf.i t1), (Lf.i t5), (Lf.i y3_0), (Lf.r t9), (Lf.i t10), (Lf.i t11), (Lf.i (cIS t9 (Int.toNat t11) 0)), (Lf.i (cIS t9 (Int.toNat t11) 1)), (Lf.i (cIS t9 (Int.toNat t11) 2))]))))) ∧
        ((cIS t9 (Int.toNat t11) 2) ≤ (0 : Int) →
          EV 33 [] [(Lf.i t1), (Lf.i t5), (Lf.i (18446744073709551615 : Int)), (Lf.r t9), (Lf.i t10), (Lf.i t11), (Lf.i (cIS t9 (Int.toNat t11) 0)), (Lf.i (cIS t9 (Int.toNat t11) 1)), (Lf.i (cIS t9 (Int.toNat t11) 2))]))) ∧
    (t11 ≥ t10 →
      Q 0 [] [(Lf.i t5)])) →
    EV 9 [] [.i t1, .i t5, .r t9, .i t10, .i t11]
  p33 : ∀ {t1 : Int} {t5 : Int} {t8 : Int} {t9 : List (List AV)} {t10 : Int} {t11 : Int} {tb0_0 : Int} {tb0_1 : Int} {tb0_2 : Int}, (
    EC Try.prog G57 [] [(Lf.i tb0_0), (Lf.i t8)] (fun x rs vs => (x = 0 ∧ ∃ (y0_0 : Int), rs = [] ∧ vs = [.i y0_0] ∧
      (EC Try.prog G56 [] [(Lf.i t5), (Lf.i y0_0)] (fun x rs vs => (x = 0 ∧ ∃ (y1_0 : Int), rs = [] ∧ vs = [.i y1_0] ∧
          (EV 9 [] [(Lf.i t1), (Lf.i y1_0), (Lf.r t9), (Lf.i t10), (Lf.i (IntKind.wrap .i64 (t11 + (1 : Int))))]))))))) →
    EV 33 [] [.i t1, .i t5, .i t8, .r t9, .i t10, .i t11, .i tb0_0, .i tb0_1, .i tb0_2]

set_option maxHeartbeats 0 in
theorem V30.of {Q : Nat → Rs → List Lf → Prop} {A : Ar} {CE : Nat → Rs → List Lf → (Nat → Rs → List Lf → Prop) → Prop} {CK : Nat → Rs → List Lf → Cont → Prop} {Dn : Nat → List Bool → List AItem → Nat → List Bool → List AV → List ABlk → Prop} {EV RR : Nat → Rs → List Lf → Prop} (W : Wk Try.prog Try.f30 I30 L30 Q A sg CE CK Dn EV RR) : V30 EV Q := by
  have hA := W.hA
  refine ⟨?_, ?_⟩
  · intro t1 t5 t9 t10 t11 h
    refine W.step 80 fun hp => ?_
    cbv
    refine ⟨imI hA fun e0 => have c0 : t11 < t10 := (by have q := (cmpE (op := .lss) hA e0); subst hA; exact q); ⟨ndI hA (And.intro (by subst hA; exact (h.1 c0).1) (by subst hA; exact (h.1 c0).2.1)), ⟨imI hA fun e1 => have c1 : t1 < (cIS t9 (Int.toNat t11) 1) := (by have q := (cmpE (op := .lss) hA e1); subst hA; exact q); (by subst hA; exact ((h.1 c0).2.2.1 c1)), imI hA fun e1 => have c1 : t1 ≥ (cIS t9 (Int.toNat t11) 1) := (by have q := (cmpE (op := .lss) hA e1); subst hA; exact q); ⟨imI hA fun e2 => have c2 : (cIS t9 (Int.toNat t11) 2) > (0 : Int) := (by have q := (cmpE (op := .gtr) hA e2); subst hA; exact q); ⟨ndI hA (by subst hA; exact (((h.1 c0).2.2.2 c1).1 c2).1), ?_⟩, imI hA fun e2 => have c2 : (cIS t9 (Int.toNat t11) 2) ≤ (0 : Int) := (by have q := (cmpE (op := .gtr) hA e2); subst hA; exact q); (by subst hA; exact (((h.1 c0).2.2.2 c1).2 c2))⟩⟩⟩, imI hA fun e0 => have c0 : t11 ≥ t10 := (by have q := (cmpE (op := .lss) hA e0); subst hA; exact q); (by rw [W.rr]; exact (by subst hA; exact (h.2 c0)))⟩
    · refine W.call 80 (by rfl) (((h.1 c0).2.2.2 c1).1 c2).2 (by subst hA; rfl) (by subst hA; rfl) ?_
      rintro x rs vs hp3 hq3
      rcases hq3 with ⟨rfl, y3_0, rfl, rfl, k3⟩
      · cbv
        refine (by subst hA; exact k3)
  · intro t1 t5 t8 t9 t10 t11 tb0_0 tb0_1 tb0_2 h
    refine W.step 80 fun hp => ?_
    cbv
    refine ?_
    · refine W.call 80 (by rfl) h (by subst hA; rfl) (by subst hA; rfl) ?_
      rintro x rs vs hp0 hq0
      rcases hq0 with ⟨rfl, y0_0, rfl, rfl, k0⟩
      · cbv
        refine ?_
        · refine W.call 80 (by rfl) k0 (by subst hA; rfl) (by subst hA; rfl) ?_
          rintro x rs vs hp1 hq1
          rcases hq1 with ⟨rfl, y1_0, rfl, rfl, k1⟩
          · cbv
            refine (by subst hA; exact k1)

end
set_option maxHeartbeats 0 in
/-- To enter. -/
theorem E30 {Q : Nat → Rs → List Lf → Prop} {a0 : List (List AV)} {a1 : Int} (h : ∀ EV : Nat → Rs → List Lf → Prop, V30 EV Q →
    EV 9 [] [(Lf.i a1), (Lf.i (0 : Int)), (Lf.r a0), (Lf.i (((List.length a0) : Nat) : Int)), (Lf.i (0 : Int))]) :
    EC Try.prog G30 [] [.r a0, .i a1] Q := by
  obtain ⟨A, hA⟩ : ∃ A, A = arS := ⟨_, rfl⟩
  refine Inst.enter (I := I30) hA mixed F30_at sg L30 80 rfl fun CE CK Dn EV RR W hp => ?_
  have h := h  EV (V30.of W)
  cbv
  refine (by subst hA; exact h)

-- 31: signalbox/edf.Fits
section
structure V31 (EV Q : Nat → Rs → List Lf → Prop) : Prop where
  p7 : ∀ {t0 : List (List AV)} {t1 : Int} {t5 : Int}, (
    (t5 ≤ (arS.mn t1 (65536 : Int)) →
      EC Try.prog G30 [] [(Lf.r t0), (Lf.i t5)] (fun x rs vs => (x = 0 ∧ ∃ (y1_0 : Int), rs = [] ∧ vs = [.i y1_0] ∧
        ((y1_0 > t5 →
            Q 0 [] [(Lf.b false)]) ∧
          (y1_0 ≤ t5 →
            EV 7 [] [(Lf.r t0), (Lf.i t1), (Lf.i (IntKind.wrap .u64 (t5 + (1 : Int))))]))))) ∧
    (t5 > (arS.mn t1 (65536 : Int)) →
      Q 0 [] [(Lf.b true)])) →
    EV 7 [] [.r t0, .i t1, .i t5]

set_option maxHeartbeats 0 in
theorem V31.of {Q : Nat → Rs → List Lf → Prop} {A : Ar} {CE : Nat → Rs → List Lf → (Nat → Rs → List Lf → Prop) → Prop} {CK : Nat → Rs → List Lf → Cont → Prop} {Dn : Nat → List Bool → List AItem → Nat → List Bool → List AV → List ABlk → Prop} {EV RR : Nat → Rs → List Lf → Prop} (W : Wk Try.prog Try.f31 I31 L31 Q A sg CE CK Dn EV RR) : V31 EV Q := by
  have hA := W.hA
  refine ⟨?_⟩
  · intro t0 t1 t5 h
    refine W.step 80 fun hp => ?_
    cbv
    refine ⟨imI hA fun e0 => have c0 : t5 ≤ (arS.mn t1 (65536 : Int)) := (by have q := (cmpE (op := .leq) hA e0); subst hA; exact q); ?_, imI hA fun e0 => have c0 : t5 > (arS.mn t1 (65536 : Int)) := (by have q := (cmpE (op := .leq) hA e0); subst hA; exact q); (by rw [W.rr]; exact (by subst hA; exact (h.2 c0)))⟩
    · refine W.call 80 (by rfl) (h.1 c0) (by subst hA; rfl) (by subst hA; rfl) ?_
      rintro x rs vs hp1 hq1
      rcases hq1 with ⟨rfl, y1_0, rfl, rfl, k1⟩
      · cbv
        refine ⟨imI hA fun e2 => have c2 : y1_0 > t5 := (by have q := (cmpE (op := .gtr) hA e2); subst hA; exact q); (by rw [W.rr]; exact (by subst hA; exact (k1.1 c2))), imI hA fun e2 => have c2 : y1_0 ≤ t5 := (by have q := (cmpE (op := .gtr) hA e2); subst hA; exact q); (by subst hA; exact (k1.2 c2))⟩

end
set_option maxHeartbeats 0 in
/-- To enter. -/
theorem E31 {Q : Nat → Rs → List Lf → Prop} {a0 : List (List AV)} {a1 : Int} (h : ∀ EV : Nat → Rs → List Lf → Prop, V31 EV Q →
    EV 7 [] [(Lf.r a0), (Lf.i a1), (Lf.i (1 : Int))]) :
    EC Try.prog G31 [] [.r a0, .i a1] Q := by
  obtain ⟨A, hA⟩ : ∃ A, A = arS := ⟨_, rfl⟩
  refine Inst.enter (I := I31) hA mixed F31_at sg L31 80 rfl fun CE CK Dn EV RR W hp => ?_
  have h := h  EV (V31.of W)
  cbv
  refine (by subst hA; exact h)

-- 22: signalbox/signalboxlaw33.fixed
section
structure V22 (EV Q : Nat → Rs → List Lf → Prop) : Prop where
  none : True

end
set_option maxHeartbeats 0 in
/-- To enter. -/
theorem E22 {Q : Nat → Rs → List Lf → Prop}  (h : ∀ EV : Nat → Rs → List Lf → Prop, V22 EV Q →
    EC Try.prog G25 [] [(Lf.r [[(AV.int .i64 (0 : Int)), (AV.int .i64 (2 : Int)), (AV.int .i64 (4 : Int))], [(AV.int .i64 (0 : Int)), (AV.int .i64 (2 : Int)), (AV.int .i64 (2 : Int))]])] (fun x rs vs => (x = 0 ∧ ∃ (Y0_0 : List (List AV)), rs = [Y0_0] ∧ vs = [] ∧
      (EC Try.prog G27 [] [(Lf.r [[(AV.int .i64 (1 : Int)), (AV.int .i64 (1 : Int)), (AV.int .i64 (4 : Int))]]), (Lf.i (3 : Int))] (fun x rs vs => (x = 0 ∧ ∃ (Y1_0 : List (List AV)), rs = [Y1_0] ∧ vs = [] ∧
          (((((List.length Y0_0) : Nat) : Int) = (2 : Int) →
              ((0 : Int) < (((List.length Y0_0) : Nat) : Int)) ∧
              (Y0_0[(Int.toNat (0 : Int))]? = some [(AV.int .i64 (cIS Y0_0 (Int.toNat (0 : Int)) 0))]) ∧
              ((cIS Y0_0 (Int.toNat (0 : Int)) 0) = (4 : Int) →
                ((0 : Int) ≤ (1 : Int)) ∧
                ((1 : Int) < (((List.length Y0_0) : Nat) : Int)) ∧
                (Y0_0[(Int.toNat (1 : Int))]? = some [(AV.int .i64 (cIS Y0_0 (Int.toNat (1 : Int)) 0))]) ∧
                ((cIS Y0_0 (Int.toNat (1 : Int)) 0) = (2 : Int) →
                  ((((List.length Y1_0) : Nat) : Int) = (3 : Int) →
                    ((0 : Int) < (((List.length Y1_0) : Nat) : Int)) ∧
                    (Y1_0[(Int.toNat (0 : Int))]? = some [(AV.int .i64 (cIS Y1_0 (Int.toNat (0 : Int)) 0))]) ∧
                    ((cIS Y1_0 (Int.toNat (0 : Int)) 0) = (-1) →
                      ((0 : Int) ≤ (1 : Int)) ∧
                      ((1 : Int) < (((List.length Y1_0) : Nat) : Int)) ∧
                      (Y1_0[(Int.toNat (1 : Int))]? = some [(AV.int .i64 (cIS Y1_0 (Int.toNat (1 : Int)) 0))]) ∧
                      ((cIS Y1_0 (Int.toNat (1 : Int)) 0) = (0 : Int) →
                        EC Try.prog G26 [] [(Lf.r [[(AV.int .i64 (0 : Int)), (AV.int .i64 (2 : Int)), (AV.int .i64 (1 : Int))]])] (fun x rs vs => (x = 0 ∧ ∃ (Y8_0 : List (List AV)), rs = [Y8_0] ∧ vs = [] ∧
                          (((((List.length Y8_0) : Nat) : Int) = (1 : Int) →
                              EC Try.prog G30 [] [(Lf.r [[(AV.int .u64 (2 : Int)), (AV.int .u64 (5 : Int)), (AV.int .u64 (10 : Int))]]), (Lf.i (15 : Int))] (fun x rs vs => (x = 0 ∧ ∃ (y10_0 : Int), rs = [] ∧ vs = [.i y10_0] ∧
                                ((y10_0 = (4 : Int) →
                                    EC Try.prog G31 [] [(Lf.r [[(AV.int .u64 (2 : Int)), (AV.int .u64 (1 : Int)), (AV.int .u64 (10 : Int))]]), (Lf.i (5 : Int))] (fun x rs vs => (x = 0 ∧ ∃ (y12_0 : Bool), rs = [] ∧ vs = [.b y12_0] ∧
                                      (Q 0 [] [(Lf.b (!y12_0))])))) ∧
                                  (y10_0 ≠ (4 : Int) →
                                    Q 0 [] [(Lf.b false)]))))) ∧
                            ((((List.length Y8_0) : Nat) : Int) ≠ (1 : Int) →
                              Q 0 [] [(Lf.b false)]))))) ∧
                      ((cIS Y1_0 (Int.toNat (1 : Int)) 0) ≠ (0 : Int) →
                        Q 0 [] [(Lf.b false)])) ∧
                    ((cIS Y1_0 (Int.toNat (0 : Int)) 0) ≠ (-1) →
                      Q 0 [] [(Lf.b false)])) ∧
                  ((((List.length Y1_0) : Nat) : Int) ≠ (3 : Int) →
                    Q 0 [] [(Lf.b false)])) ∧
                ((cIS Y0_0 (Int.toNat (1 : Int)) 0) ≠ (2 : Int) →
                  Q 0 [] [(Lf.b false)])) ∧
              ((cIS Y0_0 (Int.toNat (0 : Int)) 0) ≠ (4 : Int) →
                Q 0 [] [(Lf.b false)])) ∧
            ((((List.length Y0_0) : Nat) : Int) ≠ (2 : Int) →
              Q 0 [] [(Lf.b false)])))))))) :
    EC Try.prog G22 [] [] Q := by
  obtain ⟨A, hA⟩ : ∃ A, A = arS := ⟨_, rfl⟩
  refine Inst.enter (I := I22) hA mixed F22_at sg L22 80 rfl fun CE CK Dn EV RR W hp => ?_
  have h := h  EV ⟨trivial⟩
  cbv
  refine ?_
  · refine W.call 80 (by rfl) h (by subst hA; rfl) (by subst hA; rfl) ?_
    rintro x rs vs hp0 hq0
    rcases hq0 with ⟨rfl, Y0_0, rfl, rfl, k0⟩
    · cbv
      refine ?_
      · refine W.call 80 (by rfl) k0 (by subst hA; rfl) (by subst hA; rfl) ?_
        rintro x rs vs hp1 hq1
        rcases hq1 with ⟨rfl, Y1_0, rfl, rfl, k1⟩
        · cbv
          refine ⟨ndI hA rfl, ⟨imI hA fun e2 => have c2 : (((List.length Y0_0) : Nat) : Int) = (2 : Int) := (by have q := (cmpE (op := .eql) hA e2); subst hA; exact q); ⟨ndI hA (And.intro (by subst hA; exact Int.le_refl _) (And.intro (by subst hA; exact (k1.1 c2).1) rfl)), ⟨ndI hA (And.intro rfl (by subst hA; show Y0_0[(0 + (Int.toNat (0 : Int)))]? = some [(AV.int .i64 (cIS Y0_0 (0 + (Int.toNat (0 : Int))) 0))]; simp only [rappS_end, Nat.zero_add, Int.toNat_natCast]; exact (k1.1 c2).2.1)), ⟨imI hA fun e3 => have c3 : (cIS Y0_0 (Int.toNat (0 : Int)) 0) = (4 : Int) := (by have q := (cmpE (op := .eql) hA e3); subst hA; have q : (cIS Y0_0 (0 + (Int.toNat (0 : Int))) 0) = (4 : Int) := q; simpa only [rappS_end, Nat.zero_add, Int.toNat_natCast] using q); ⟨ndI hA (And.intro (by subst hA; exact ((k1.1 c2).2.2.1 c3).1) (And.intro (by subst hA; exact ((k1.1 c2).2.2.1 c3).2.1) rfl)), ⟨ndI hA (And.intro rfl (by subst hA; show Y0_0[(0 + (Int.toNat (1 : Int)))]? = some [(AV.int .i64 (cIS Y0_0 (0 + (Int.toNat (1 : Int))) 0))]; simp only [rappS_end, Nat.zero_add, Int.toNat_natCast]; exact ((k1.1 c2).2.2.1 c3).2.2.1)), ⟨imI hA fun e4 => have c4 : (cIS Y0_0 (Int.toNat (1 : Int)) 0) = (2 : Int) := (by have q := (cmpE (op := .eql) hA e4); subst hA; have q : (cIS Y0_0 (0 + (Int.toNat (1 : Int))) 0) = (2 : Int) := q; simpa only [rappS_end, Nat.zero_add, Int.toNat_natCast] using q); ⟨ndI hA rfl, ⟨imI hA fun e5 => have c5 : (((List.length Y1_0) : Nat) : Int) = (3 : Int) := (by have q := (cmpE (op := .eql) hA e5); subst hA; exact q); ⟨ndI hA (And.intro (by subst hA; exact Int.le_refl _) (And.intro (by subst hA; exact ((((k1.1 c2).2.2.1 c3).2.2.2.1 c4).1 c5).1) rfl)), ⟨ndI hA (And.intro rfl (by subst hA; show Y1_0[(0 + (Int.toNat (0 : Int)))]? = some [(AV.int .i64 (cIS Y1_0 (0 + (Int.toNat (0 : Int))) 0))]; simp only [rappS_end, Nat.zero_add, Int.toNat_natCast]; exact ((((k1.1 c2).2.2.1 c3).2.2.2.1 c4).1 c5).2.1)), ⟨imI hA fun e6 => have c6 : (cIS Y1_0 (Int.toNat (0 : Int)) 0) = (-1) := (by have q := (cmpE (op := .eql) hA e6); subst hA; have q : (cIS Y1_0 (0 + (Int.toNat (0 : Int))) 0) = (-1) := q; simpa only [rappS_end, Nat.zero_add, Int.toNat_natCast] using q); ⟨ndI hA (And.intro (by subst hA; exact (((((k1.1 c2).2.2.1 c3).2.2.2.1 c4).1 c5).2.2.1 c6).1) (And.intro (by subst hA; exact (((((k1.1 c2).2.2.1 c3).2.2.2.1 c4).1 c5).2.2.1 c6).2.1) rfl)), ⟨ndI hA (And.intro rfl (by subst hA; show Y1_0[(0 + (Int.toNat (1 : Int)))]? = some [(AV.int .i64 (cIS Y1_0 (0 + (Int.toNat (1 : Int))) 0))]; simp only [rappS_end, Nat.zero_add, Int.toNat_natCast]; exact (((((k1.1 c2).2.2.1 c3).2.2.2.1 c4).1 c5).2.2.1 c6).2.2.1)), ⟨imI hA fun e7 => have c7 : (cIS Y1_0 (Int.toNat (1 : Int)) 0) = (0 : Int) := (by have q := (cmpE (op := .eql) hA e7); subst hA; have q : (cIS Y1_0 (0 + (Int.toNat (1 : Int))) 0) = (0 : Int) := q; simpa only [rappS_end, Nat.zero_add, Int.toNat_natCast] using q); ?_, imI hA fun e7 => have c7 : (cIS Y1_0 (Int.toNat (1 : Int)) 0) ≠ (0 : Int) := (by have q := (cmpE (op := .eql) hA e7); subst hA; have q : (cIS Y1_0 (0 + (Int.toNat (1 : Int))) 0) ≠ (0 : Int) := q; simpa only [rappS_end, Nat.zero_add, Int.toNat_natCast] using q); (by rw [W.rr]; exact (by subst hA; exact ((((((k1.1 c2).2.2.1 c3).2.2.2.1 c4).1 c5).2.2.1 c6).2.2.2.2 c7)))⟩⟩⟩, imI hA fun e6 => have c6 : (cIS Y1_0 (Int.toNat (0 : Int)) 0) ≠ (-1) := (by have q := (cmpE (op := .eql) hA e6); subst hA; have q : (cIS Y1_0 (0 + (Int.toNat (0 : Int))) 0) ≠ (-1) := q; simpa only [rappS_end, Nat.zero_add, Int.toNat_natCast] using q); (by rw [W.rr]; exact (by subst hA; exact (((((k1.1 c2).2.2.1 c3).2.2.2.1 c4).1 c5).2.2.2 c6)))⟩⟩⟩, imI hA fun e5 => have c5 : (((List.length Y1_0) : Nat) : Int) ≠ (3 : Int) := (by have q := (cmpE (op := .eql) hA e5); subst hA; exact q); (by rw [W.rr]; exact (by subst hA; exact ((((k1.1 c2).2.2.1 c3).2.2.2.1 c4).2 c5)))⟩⟩, imI hA fun e4 => have c4 : (cIS Y0_0 (Int.toNat (1 : Int)) 0) ≠ (2 : Int) := (by have q := (cmpE (op := .eql) hA e4); subst hA; have q : (cIS Y0_0 (0 + (Int.toNat (1 : Int))) 0) ≠ (2 : Int) := q; simpa only [rappS_end, Nat.zero_add, Int.toNat_natCast] using q); (by rw [W.rr]; exact (by subst hA; exact (((k1.1 c2).2.2.1 c3).2.2.2.2 c4)))⟩⟩⟩, imI hA fun e3 => have c3 : (cIS Y0_0 (Int.toNat (0 : Int)) 0) ≠ (4 : Int) := (by have q := (cmpE (op := .eql) hA e3); subst hA; have q : (cIS Y0_0 (0 + (Int.toNat (0 : Int))) 0) ≠ (4 : Int) := q; simpa only [rappS_end, Nat.zero_add, Int.toNat_natCast] using q); (by rw [W.rr]; exact (by subst hA; exact ((k1.1 c2).2.2.2 c3)))⟩⟩⟩, imI hA fun e2 => have c2 : (((List.length Y0_0) : Nat) : Int) ≠ (2 : Int) := (by have q := (cmpE (op := .eql) hA e2); subst hA; exact q); (by rw [W.rr]; exact (by subst hA; exact (k1.2 c2)))⟩⟩
          · refine W.call 80 (by rfl) ((((((k1.1 c2).2.2.1 c3).2.2.2.1 c4).1 c5).2.2.1 c6).2.2.2.1 c7) (by subst hA; rfl) (by subst hA; rfl) ?_
            rintro x rs vs hp8 hq8
            rcases hq8 with ⟨rfl, Y8_0, rfl, rfl, k8⟩
            · cbv
              refine ⟨ndI hA rfl, ⟨imI hA fun e9 => have c9 : (((List.length Y8_0) : Nat) : Int) = (1 : Int) := (by have q := (cmpE (op := .eql) hA e9); subst hA; exact q); ?_, imI hA fun e9 => have c9 : (((List.length Y8_0) : Nat) : Int) ≠ (1 : Int) := (by have q := (cmpE (op := .eql) hA e9); subst hA; exact q); (by rw [W.rr]; exact (by subst hA; exact (k8.2 c9)))⟩⟩
              · refine W.call 80 (by rfl) (k8.1 c9) (by subst hA; rfl) (by subst hA; rfl) ?_
                rintro x rs vs hp10 hq10
                rcases hq10 with ⟨rfl, y10_0, rfl, rfl, k10⟩
                · cbv
                  refine ⟨imI hA fun e11 => have c11 : y10_0 = (4 : Int) := (by have q := (cmpE (op := .eql) hA e11); subst hA; exact q); ?_, imI hA fun e11 => have c11 : y10_0 ≠ (4 : Int) := (by have q := (cmpE (op := .eql) hA e11); subst hA; exact q); (by rw [W.rr]; exact (by subst hA; exact (k10.2 c11)))⟩
                  · refine W.call 80 (by rfl) (k10.1 c11) (by subst hA; rfl) (by subst hA; rfl) ?_
                    rintro x rs vs hp12 hq12
                    rcases hq12 with ⟨rfl, y12_0, rfl, rfl, k12⟩
                    · cbv
                      refine (by rw [W.rr]; exact (by subst hA; exact k12))

-- 28: signalbox/signalboxref01.Add
section
structure V28 (EV Q : Nat → Rs → List Lf → Prop) : Prop where
  none : True

end
set_option maxHeartbeats 0 in
/-- To enter. -/
theorem E28 {Q : Nat → Rs → List Lf → Prop} {a0 : Int} {a1 : Int} (h : ∀ EV : Nat → Rs → List Lf → Prop, V28 EV Q →
    (a0 > (IntKind.wrap .u64 ((18446744073709551615 : Int) - a1)) →
      Q 0 [] [(Lf.i (18446744073709551615 : Int))]) ∧
    (a0 ≤ (IntKind.wrap .u64 ((18446744073709551615 : Int) - a1)) →
      Q 0 [] [(Lf.i (IntKind.wrap .u64 (a0 + a1)))])) :
    EC Try.prog G28 [] [.i a0, .i a1] Q := by
  obtain ⟨A, hA⟩ : ∃ A, A = arS := ⟨_, rfl⟩
  refine Inst.enter (I := I28) hA mixed F28_at sg L28 80 rfl fun CE CK Dn EV RR W hp => ?_
  have h := h  EV ⟨trivial⟩
  cbv
  refine ⟨imI hA fun e0 => have c0 : a0 > (IntKind.wrap .u64 ((18446744073709551615 : Int) - a1)) := (by have q := (cmpE (op := .gtr) hA e0); subst hA; exact q); (by rw [W.rr]; exact (by subst hA; exact (h.1 c0))), imI hA fun e0 => have c0 : a0 ≤ (IntKind.wrap .u64 ((18446744073709551615 : Int) - a1)) := (by have q := (cmpE (op := .gtr) hA e0); subst hA; exact q); (by rw [W.rr]; exact (by subst hA; exact (h.2 c0)))⟩

-- 55: signalbox/signalboxref01.Mul
section
structure V55 (EV Q : Nat → Rs → List Lf → Prop) : Prop where
  none : True

end
set_option maxHeartbeats 0 in
/-- To enter. -/
theorem E55 {Q : Nat → Rs → List Lf → Prop} {a0 : Int} {a1 : Int} (h : ∀ EV : Nat → Rs → List Lf → Prop, V55 EV Q →
    (a0 ≠ (0 : Int) →
      (a1 = (0 : Int) →
        Q 0 [] [(Lf.i (0 : Int))]) ∧
      (a1 ≠ (0 : Int) →
        ((Int.tmod a1 (2 : Int)) = (0 : Int) →
          EC Try.prog G55 [] [(Lf.i a0), (Lf.i (IntKind.wrap .u64 (Int.tdiv a1 (2 : Int))))] (fun x rs vs => (x = 0 ∧ ∃ (y3_0 : Int), rs = [] ∧ vs = [.i y3_0] ∧
            (EC Try.prog G28 [] [(Lf.i y3_0), (Lf.i y3_0)] (fun x rs vs => (x = 0 ∧ ∃ (y4_0 : Int), rs = [] ∧ vs = [.i y4_0] ∧
                (Q 0 [] [(Lf.i y4_0)]))))))) ∧
        ((Int.tmod a1 (2 : Int)) ≠ (0 : Int) →
          EC Try.prog G55 [] [(Lf.i a0), (Lf.i (IntKind.wrap .u64 (a1 - (1 : Int))))] (fun x rs vs => (x = 0 ∧ ∃ (y3_0 : Int), rs = [] ∧ vs = [.i y3_0] ∧
            (EC Try.prog G28 [] [(Lf.i a0), (Lf.i y3_0)] (fun x rs vs => (x = 0 ∧ ∃ (y4_0 : Int), rs = [] ∧ vs = [.i y4_0] ∧
                (Q 0 [] [(Lf.i y4_0)]))))))))) ∧
    (a0 = (0 : Int) →
      Q 0 [] [(Lf.i (0 : Int))])) :
    EC Try.prog G55 [] [.i a0, .i a1] Q := by
  obtain ⟨A, hA⟩ : ∃ A, A = arS := ⟨_, rfl⟩
  refine Inst.enter (I := I55) hA mixed F55_at sg L55 80 rfl fun CE CK Dn EV RR W hp => ?_
  have h := h  EV ⟨trivial⟩
  cbv
  refine ⟨imI hA fun e0 => have c0 : a0 ≠ (0 : Int) := (by have q := (cmpE (op := .eql) hA e0); subst hA; exact q); ⟨imI hA fun e1 => have c1 : a1 = (0 : Int) := (by have q := (cmpE (op := .eql) hA e1); subst hA; exact q); (by rw [W.rr]; exact (by subst hA; exact ((h.1 c0).1 c1))), imI hA fun e1 => have c1 : a1 ≠ (0 : Int) := (by have q := (cmpE (op := .eql) hA e1); subst hA; exact q); ⟨ndI hA (show _ ≠ _ by decide), ⟨imI hA fun e2 => have c2 : (Int.tmod a1 (2 : Int)) = (0 : Int) := (by have q := (cmpE (op := .eql) hA e2); subst hA; exact q); ⟨ndI hA (show _ ≠ _ by decide), ?_⟩, imI hA fun e2 => have c2 : (Int.tmod a1 (2 : Int)) ≠ (0 : Int) := (by have q := (cmpE (op := .eql) hA e2); subst hA; exact q); ?_⟩⟩⟩, imI hA fun e0 => have c0 : a0 = (0 : Int) := (by have q := (cmpE (op := .eql) hA e0); subst hA; exact q); (by rw [W.rr]; exact (by subst hA; exact (h.2 c0)))⟩
  · refine W.call 80 (by rfl) (((h.1 c0).2 c1).1 c2) (by subst hA; rfl) (by subst hA; rfl) ?_
    rintro x rs vs hp3 hq3
    rcases hq3 with ⟨rfl, y3_0, rfl, rfl, k3⟩
    · cbv
      refine ?_
      · refine W.call 80 (by rfl) k3 (by subst hA; rfl) (by subst hA; rfl) ?_
        rintro x rs vs hp4 hq4
        rcases hq4 with ⟨rfl, y4_0, rfl, rfl, k4⟩
        · cbv
          refine (by rw [W.rr]; exact (by subst hA; exact k4))
  · refine W.call 80 (by rfl) (((h.1 c0).2 c1).2 c2) (by subst hA; rfl) (by subst hA; rfl) ?_
    rintro x rs vs hp3 hq3
    rcases hq3 with ⟨rfl, y3_0, rfl, rfl, k3⟩
    · cbv
      refine ?_
      · refine W.call 80 (by rfl) k3 (by subst hA; rfl) (by subst hA; rfl) ?_
        rintro x rs vs hp4 hq4
        rcases hq4 with ⟨rfl, y4_0, rfl, rfl, k4⟩
        · cbv
          refine (by rw [W.rr]; exact (by subst hA; exact k4))

-- 29: signalbox/signalboxref33.Demand
section
structure V29 (EV Q : Nat → Rs → List Lf → Prop) : Prop where
  none : True

end
set_option maxHeartbeats 0 in
/-- To enter. -/
theorem E29 {Q : Nat → Rs → List Lf → Prop} {a0 : Int} {a1 : Int} {a2 : Int} {a3 : Int} (h : ∀ EV : Nat → Rs → List Lf → Prop, V29 EV Q →
    (a3 < a1 →
      Q 0 [] [(Lf.i (0 : Int))]) ∧
    (a3 ≥ a1 →
      (a2 = (0 : Int) →
        EC Try.prog G55 [] [(Lf.i a0), (Lf.i (18446744073709551615 : Int))] (fun x rs vs => (x = 0 ∧ ∃ (y2_0 : Int), rs = [] ∧ vs = [.i y2_0] ∧
          (Q 0 [] [(Lf.i y2_0)])))) ∧
      (a2 ≠ (0 : Int) →
        (a2 ≠ (0 : Int)) ∧
        (EC Try.prog G28 [] [(Lf.i (IntKind.wrap .u64 (Int.tdiv (IntKind.wrap .u64 (a3 - a1)) a2))), (Lf.i (1 : Int))] (fun x rs vs => (x = 0 ∧ ∃ (y2_0 : Int), rs = [] ∧ vs = [.i y2_0] ∧
          (EC Try.prog G55 [] [(Lf.i a0), (Lf.i y2_0)] (fun x rs vs => (x = 0 ∧ ∃ (y3_0 : Int), rs = [] ∧ vs = [.i y3_0] ∧
              (Q 0 [] [(Lf.i y3_0)])))))))))) :
    EC Try.prog G29 [] [.i a0, .i a1, .i a2, .i a3] Q := by
  obtain ⟨A, hA⟩ : ∃ A, A = arS := ⟨_, rfl⟩
  refine Inst.enter (I := I29) hA mixed F29_at sg L29 80 rfl fun CE CK Dn EV RR W hp => ?_
  have h := h  EV ⟨trivial⟩
  cbv
  refine ⟨imI hA fun e0 => have c0 : a3 < a1 := (by have q := (cmpE (op := .lss) hA e0); subst hA; exact q); (by rw [W.rr]; exact (by subst hA; exact (h.1 c0))), imI hA fun e0 => have c0 : a3 ≥ a1 := (by have q := (cmpE (op := .lss) hA e0); subst hA; exact q); ⟨imI hA fun e1 => have c1 : a2 = (0 : Int) := (by have q := (cmpE (op := .eql) hA e1); subst hA; exact q); ?_, imI hA fun e1 => have c1 : a2 ≠ (0 : Int) := (by have q := (cmpE (op := .eql) hA e1); subst hA; exact q); ⟨ndI hA (by subst hA; exact ((h.2 c0).2 c1).1), ?_⟩⟩⟩
  · refine W.call 80 (by rfl) ((h.2 c0).1 c1) (by subst hA; rfl) (by subst hA; rfl) ?_
    rintro x rs vs hp2 hq2
    rcases hq2 with ⟨rfl, y2_0, rfl, rfl, k2⟩
    · cbv
      refine (by rw [W.rr]; exact (by subst hA; exact k2))
  · refine W.call 80 (by rfl) ((h.2 c0).2 c1).2 (by subst hA; rfl) (by subst hA; rfl) ?_
    rintro x rs vs hp2 hq2
    rcases hq2 with ⟨rfl, y2_0, rfl, rfl, k2⟩
    · cbv
      refine ?_
      · refine W.call 80 (by rfl) k2 (by subst hA; rfl) (by subst hA; rfl) ?_
        rintro x rs vs hp3 hq3
        rcases hq3 with ⟨rfl, y3_0, rfl, rfl, k3⟩
        · cbv
          refine (by rw [W.rr]; exact (by subst hA; exact k3))

-- 8: signalbox/signalboxlaw33.EdfDemand
section
structure V8 (EV Q : Nat → Rs → List Lf → Prop) : Prop where
  p25 : ∀ {t0 : List (List AV)} {t1 : Int} {t2 : Int} {t7 : Int} {t24 : List (List AV)} {t25 : Int} {t26 : Int}, (
    (t26 < t25 →
      ((0 : Int) ≤ t26) ∧
      (t24[(Int.toNat t26)]? = some [(AV.int .u64 (cIS t24 (Int.toNat t26) 0)), (AV.int .u64 (cIS t24 (Int.toNat t26) 1)), (AV.int .u64 (cIS t24 (Int.toNat t26) 2))]) ∧
      (EC Try.prog G29 [] [(Lf.i (cIS t24 (Int.toNat t26) 0)), (Lf.i (cIS t24 (Int.toNat t26) 1)), (Lf.i (cIS t24 (Int.toNat t26) 2)), (Lf.i t1)] (fun x rs vs => (x = 0 ∧ ∃ (y1_0 : Int), rs = [] ∧ vs = [.i y1_0] ∧
        (EC Try.prog G28 [] [(Lf.i t7), (Lf.i y1_0)] (fun x rs vs => (x = 0 ∧ ∃ (y2_0 : Int), rs = [] ∧ vs = [.i y2_0] ∧
            (EV 25 [] [(Lf.r t0), (Lf.i t1), (Lf.i t2), (Lf.i y2_0), (Lf.r t24), (Lf.i t25), (Lf.i (IntKind.wrap .i64 (t26 + (1 : Int))))])))))))) ∧
    (t26 ≥ t25 →
      EV 42 [] [(Lf.r t0), (Lf.i t1), (Lf.i t2), (Lf.i t7), (Lf.b true), (Lf.i (1 : Int))])) →
    EV 25 [] [.r t0, .i t1, .i t2, .i t7, .r t24, .i t25, .i t26]
  p42 : ∀ {t0 : List (List AV)} {t1 : Int} {t2 : Int} {t7 : Int} {t8 : Bool} {t11 : Int}, (
    (t11 ≤ t2 →
      EV 57 [] [(Lf.r t0), (Lf.i t1), (Lf.i t2), (Lf.i t7), (Lf.b t8), (Lf.i t11), (Lf.i (0 : Int)), (Lf.r t0), (Lf.i (((List.length t0) : Nat) : Int)), (Lf.i (0 : Int))]) ∧
    (t11 > t2 →
      EC Try.prog G30 [] [(Lf.r t0), (Lf.i t1)] (fun x rs vs => (x = 0 ∧ ∃ (y1_0 : Int), rs = [] ∧ vs = [.i y1_0] ∧
        ((y1_0 = t7 →
            EC Try.prog G31 [] [(Lf.r t0), (Lf.i t2)] (fun x rs vs => (x = 0 ∧ ∃ (y3_0 : Bool), rs = [] ∧ vs = [.b y3_0] ∧
              (Q 0 [] [(Lf.b (y3_0 == t8))])))) ∧
          (y1_0 ≠ t7 →
            Q 0 [] [(Lf.b false)])))))) →
    EV 42 [] [.r t0, .i t1, .i t2, .i t7, .b t8, .i t11]
  p57 : ∀ {t0 : List (List AV)} {t1 : Int} {t2 : Int} {t7 : Int} {t8 : Bool} {t11 : Int} {t12 : Int} {t46 : List (List AV)} {t47 : Int} {t48 : Int}, (
    (t48 < t47 →
      ((0 : Int) ≤ t48) ∧
      (t46[(Int.toNat t48)]? = some [(AV.int .u64 (cIS t46 (Int.toNat t48) 0)), (AV.int .u64 (cIS t46 (Int.toNat t48) 1)), (AV.int .u64 (cIS t46 (Int.toNat t48) 2))]) ∧
      (EC Try.prog G29 [] [(Lf.i (cIS t46 (Int.toNat t48) 0)), (Lf.i (cIS t46 (Int.toNat t48) 1)), (Lf.i (cIS t46 (Int.toNat t48) 2)), (Lf.i t11)] (fun x rs vs => (x = 0 ∧ ∃ (y1_0 : Int), rs = [] ∧ vs = [.i y1_0] ∧
        (EC Try.prog G28 [] [(Lf.i t12), (Lf.i y1_0)] (fun x rs vs => (x = 0 ∧ ∃ (y2_0 : Int), rs = [] ∧ vs = [.i y2_0] ∧
            (EV 57 [] [(Lf.r t0), (Lf.i t1), (Lf.i t2), (Lf.i t7), (Lf.b t8), (Lf.i t11), (Lf.i y2_0), (Lf.r t46), (Lf.i t47), (Lf.i (IntKind.wrap .i64 (t48 + (1 : Int))))])))))))) ∧
    (t48 ≥ t47 →
      (t8 = true →
        EV 42 [] [(Lf.r t0), (Lf.i t1), (Lf.i t2), (Lf.i t7), (Lf.b (decide (t12 ≤ t11))), (Lf.i (IntKind.wrap .u64 (t11 + (1 : Int))))]) ∧
      (t8 = false →
        EV 42 [] [(Lf.r t0), (Lf.i t1), (Lf.i t2), (Lf.i t7), (Lf.b false), (Lf.i (IntKind.wrap .u64 (t11 + (1 : Int))))]))) →
    EV 57 [] [.r t0, .i t1, .i t2, .i t7, .b t8, .i t11, .i t12, .r t46, .i t47, .i t48]

set_option maxHeartbeats 0 in
theorem V8.of {Q : Nat → Rs → List Lf → Prop} {A : Ar} {CE : Nat → Rs → List Lf → (Nat → Rs → List Lf → Prop) → Prop} {CK : Nat → Rs → List Lf → Cont → Prop} {Dn : Nat → List Bool → List AItem → Nat → List Bool → List AV → List ABlk → Prop} {EV RR : Nat → Rs → List Lf → Prop} (W : Wk Try.prog Try.f8 I8 L8 Q A sg CE CK Dn EV RR) : V8 EV Q := by
  have hA := W.hA
  refine ⟨?_, ?_, ?_⟩
  · intro t0 t1 t2 t7 t24 t25 t26 h
    refine W.step 80 fun hp => ?_
    cbv
    refine ⟨imI hA fun e0 => have c0 : t26 < t25 := (by have q := (cmpE (op := .lss) hA e0); subst hA; exact q); ⟨ndI hA (And.intro (by subst hA; exact (h.1 c0).1) (by subst hA; exact (h.1 c0).2.1)), ?_⟩, imI hA fun e0 => have c0 : t26 ≥ t25 := (by have q := (cmpE (op := .lss) hA e0); subst hA; exact q); (by subst hA; exact (h.2 c0))⟩
    · refine W.call 80 (by rfl) (h.1 c0).2.2 (by subst hA; rfl) (by subst hA; rfl) ?_
      rintro x rs vs hp1 hq1
      rcases hq1 with ⟨rfl, y1_0, rfl, rfl, k1⟩
      · cbv
        refine ?_
        · refine W.call 80 (by rfl) k1 (by subst hA; rfl) (by subst hA; rfl) ?_
          rintro x rs vs hp2 hq2
          rcases hq2 with ⟨rfl, y2_0, rfl, rfl, k2⟩
          · cbv
            refine (by subst hA; exact k2)
  · intro t0 t1 t2 t7 t8 t11 h
    refine W.step 80 fun hp => ?_
    cbv
    refine ⟨imI hA fun e0 => have c0 : t11 ≤ t2 := (by have q := (cmpE (op := .leq) hA e0); subst hA; exact q); (by subst hA; exact (h.1 c0)), imI hA fun e0 => have c0 : t11 > t2 := (by have q := (cmpE (op := .leq) hA e0); subst hA; exact q); ?_⟩
    · refine W.call 80 (by rfl) (h.2 c0) (by subst hA; rfl) (by subst hA; rfl) ?_
      rintro x rs vs hp1 hq1
      rcases hq1 with ⟨rfl, y1_0, rfl, rfl, k1⟩
      · cbv
        refine ⟨imI hA fun e2 => have c2 : y1_0 = t7 := (by have q := (cmpE (op := .eql) hA e2); subst hA; exact q); ?_, imI hA fun e2 => have c2 : y1_0 ≠ t7 := (by have q := (cmpE (op := .eql) hA e2); subst hA; exact q); (by rw [W.rr]; exact (by subst hA; exact (k1.2 c2)))⟩
        · refine W.call 80 (by rfl) (k1.1 c2) (by subst hA; rfl) (by subst hA; rfl) ?_
          rintro x rs vs hp3 hq3
          rcases hq3 with ⟨rfl, y3_0, rfl, rfl, k3⟩
          · cbv
            refine (by rw [W.rr]; exact (by subst hA; exact k3))
  · intro t0 t1 t2 t7 t8 t11 t12 t46 t47 t48 h
    refine W.step 80 fun hp => ?_
    cbv
    refine ⟨imI hA fun e0 => have c0 : t48 < t47 := (by have q := (cmpE (op := .lss) hA e0); subst hA; exact q); ⟨ndI hA (And.intro (by subst hA; exact (h.1 c0).1) (by subst hA; exact (h.1 c0).2.1)), ?_⟩, imI hA fun e0 => have c0 : t48 ≥ t47 := (by have q := (cmpE (op := .lss) hA e0); subst hA; exact q); ⟨imI hA fun e1 => have c1 : t8 = true := (by have q := e1; subst hA; exact q); (by subst hA; exact ((h.2 c0).1 c1)), imI hA fun e1 => have c1 : t8 = false := (by have q := e1; subst hA; exact q); (by subst hA; exact ((h.2 c0).2 c1))⟩⟩
    · refine W.call 80 (by rfl) (h.1 c0).2.2 (by subst hA; rfl) (by subst hA; rfl) ?_
      rintro x rs vs hp1 hq1
      rcases hq1 with ⟨rfl, y1_0, rfl, rfl, k1⟩
      · cbv
        refine ?_
        · refine W.call 80 (by rfl) k1 (by subst hA; rfl) (by subst hA; rfl) ?_
          rintro x rs vs hp2 hq2
          rcases hq2 with ⟨rfl, y2_0, rfl, rfl, k2⟩
          · cbv
            refine (by subst hA; exact k2)

end
set_option maxHeartbeats 0 in
/-- To enter. -/
theorem E8 {Q : Nat → Rs → List Lf → Prop} {a0 : List (List AV)} {a1 : Int} {a2 : Int} (h : ∀ EV : Nat → Rs → List Lf → Prop, V8 EV Q →
    EC Try.prog G22 [] [] (fun x rs vs => (x = 0 ∧ ∃ (y0_0 : Bool), rs = [] ∧ vs = [.b y0_0] ∧
      ((y0_0 = false →
          Q 0 [] [(Lf.b false)]) ∧
        (y0_0 = true →
          ((((List.length a0) : Nat) : Int) ≤ (12 : Int) →
            (a2 > (400 : Int) →
              Q 0 [] [(Lf.b true)]) ∧
            (a2 ≤ (400 : Int) →
              EV 25 [] [(Lf.r a0), (Lf.i a1), (Lf.i a2), (Lf.i (0 : Int)), (Lf.r a0), (Lf.i (((List.length a0) : Nat) : Int)), (Lf.i (0 : Int))])) ∧
          ((((List.length a0) : Nat) : Int) > (12 : Int) →
            Q 0 [] [(Lf.b true)])))))) :
    EC Try.prog G8 [] [.r a0, .i a1, .i a2] Q := by
  obtain ⟨A, hA⟩ : ∃ A, A = arS := ⟨_, rfl⟩
  refine Inst.enter (I := I8) hA mixed F8_at sg L8 80 rfl fun CE CK Dn EV RR W hp => ?_
  have h := h  EV (V8.of W)
  cbv
  refine ?_
  · refine W.call 80 (by rfl) h (by subst hA; rfl) (by subst hA; rfl) ?_
    rintro x rs vs hp0 hq0
    rcases hq0 with ⟨rfl, y0_0, rfl, rfl, k0⟩
    · cbv
      refine ⟨imI hA fun e1 => have c1 : y0_0 = false := (by have q := (notE hA e1); subst hA; exact q); (by rw [W.rr]; exact (by subst hA; exact (k0.1 c1))), imI hA fun e1 => have c1 : y0_0 = true := (by have q := (notE hA e1); subst hA; exact q); ⟨imI hA fun e2 => have c2 : (((List.length a0) : Nat) : Int) ≤ (12 : Int) := (by have q := (cmpE (op := .gtr) hA e2); subst hA; exact q); ⟨imI hA fun e3 => have c3 : a2 > (400 : Int) := (by have q := (cmpE (op := .gtr) hA e3); subst hA; exact q); (by rw [W.rr]; exact (by subst hA; exact (((k0.2 c1).1 c2).1 c3))), imI hA fun e3 => have c3 : a2 ≤ (400 : Int) := (by have q := (cmpE (op := .gtr) hA e3); subst hA; exact q); (by subst hA; exact (((k0.2 c1).1 c2).2 c3))⟩, imI hA fun e2 => have c2 : (((List.length a0) : Nat) : Int) > (12 : Int) := (by have q := (cmpE (op := .gtr) hA e2); subst hA; exact q); (by rw [W.rr]; exact (by subst hA; exact ((k0.2 c1).2 c2)))⟩⟩

end Go.Ab
