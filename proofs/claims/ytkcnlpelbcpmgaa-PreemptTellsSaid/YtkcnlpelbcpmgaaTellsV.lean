/- PRINTED BY A PROGRAM (wip/tools/vc.py, AbVc.lean): what is to be shown of each function, from place to place, and that it is enough. -/
import Derived.Test.YtkcnlpelbcpmgaaTellsS
import Derived.Test.YtkcnlpelbcpmgaaAbV0
namespace Go.Ab
open Go Go.Proofs
set_option linter.unusedVariables false
set_option linter.unusedSimpArgs false
set_option maxRecDepth 100000

-- 35: signalbox/signalboxref07.Few
section
variable {Q : Nat → Rs → List Lf → Prop} {A : Ar} {CE : Nat → Rs → List Lf → (Nat → Rs → List Lf → Prop) → Prop} {CK : Nat → Rs → List Lf → Cont → Prop} {Dn : Nat → List Bool → List AItem → Nat → List Bool → List AV → List ABlk → Prop} {EV RR : Nat → Rs → List Lf → Prop}
set_option maxHeartbeats 2000000 in
theorem V35_p7 (W : Wk Try.prog Try.f35 I35 L35 Q A sg CE CK Dn EV RR) {t6 : List (List AV)} {t7 : Int} {t8 : Int} {tb0_0 : Int} {tb0_1 : Int} {tb0_2 : Int} {tb0_3 : Int} {tb0_4 : List (List AV)} {tb0_5 : Int} {tb0_6 : List (List AV)} {tb0_7 : List (List AV)} {tb0_8 : List (List AV)} {tb0_9 : List (List AV)} (h : 
    (t8 < t7 →
      ((0 : Int) ≤ t8) ∧
      (t6[(Int.toNat t8)]? = some [(AV.int .i64 (cIS t6 (Int.toNat t8) 0)), (AV.int .i64 (cIS t6 (Int.toNat t8) 1)), (AV.int .i64 (cIS t6 (Int.toNat t8) 2)), (AV.int .i64 (cIS t6 (Int.toNat t8) 3)), (AV.int .i64 (cIS t6 (Int.toNat t8) 4)), (AV.int .i64 (cIS t6 (Int.toNat t8) 5)), (AV.inl 3 (cRS t6 (Int.toNat t8) 6))]) ∧
      ((((List.length (cRS t6 (Int.toNat t8) 6)) : Nat) : Int) > (80 : Int) →
        Q 0 [] [(Lf.b false)]) ∧
      ((((List.length (cRS t6 (Int.toNat t8) 6)) : Nat) : Int) ≤ (80 : Int) →
        EV 7 [] [(Lf.r t6), (Lf.i t7), (Lf.i (IntKind.wrap .i64 (t8 + (1 : Int)))), (Lf.i tb0_0), (Lf.i tb0_1), (Lf.i tb0_2), (Lf.i tb0_3), (Lf.r tb0_4), (Lf.i tb0_5), (Lf.r tb0_6), (Lf.r tb0_7), (Lf.r tb0_8), (Lf.r tb0_9)])) ∧
    (t8 ≥ t7 →
      ((((List.length tb0_4) : Nat) : Int) ≤ (20 : Int) →
        ((((List.length tb0_6) : Nat) : Int) ≤ (20 : Int) →
          ((((List.length tb0_7) : Nat) : Int) ≤ (20 : Int) →
            ((((List.length tb0_8) : Nat) : Int) ≤ (20 : Int) →
              Q 0 [] [(Lf.b (decide ((((List.length tb0_9) : Nat) : Int) ≤ (20 : Int))))]) ∧
            ((((List.length tb0_8) : Nat) : Int) > (20 : Int) →
              Q 0 [] [(Lf.b false)])) ∧
          ((((List.length tb0_7) : Nat) : Int) > (20 : Int) →
            Q 0 [] [(Lf.b false)])) ∧
        ((((List.length tb0_6) : Nat) : Int) > (20 : Int) →
          Q 0 [] [(Lf.b false)])) ∧
      ((((List.length tb0_4) : Nat) : Int) > (20 : Int) →
        Q 0 [] [(Lf.b false)]))) :
    EV 7 [] [.r t6, .i t7, .i t8, .i tb0_0, .i tb0_1, .i tb0_2, .i tb0_3, .r tb0_4, .i tb0_5, .r tb0_6, .r tb0_7, .r tb0_8, .r tb0_9] := by
  have hA := W.hA
  refine W.step 80 fun hp => ?_
  cbv
  refine ⟨imI hA fun e0 => have c0 : t8 < t7 := (by have q := (cmpE (op := .lss) hA e0); subst hA; exact q); ⟨ndI hA (And.intro (by subst hA; exact (h.1 c0).1) (by subst hA; exact (h.1 c0).2.1)), ⟨imI hA fun e1 => have c1 : (((List.length (cRS t6 (Int.toNat t8) 6)) : Nat) : Int) > (80 : Int) := (by have q := (cmpE (op := .gtr) hA e1); subst hA; exact q); (by rw [W.rr]; exact (by subst hA; exact ((h.1 c0).2.2.1 c1))), imI hA fun e1 => have c1 : (((List.length (cRS t6 (Int.toNat t8) 6)) : Nat) : Int) ≤ (80 : Int) := (by have q := (cmpE (op := .gtr) hA e1); subst hA; exact q); (by subst hA; exact ((h.1 c0).2.2.2 c1))⟩⟩, imI hA fun e0 => have c0 : t8 ≥ t7 := (by have q := (cmpE (op := .lss) hA e0); subst hA; exact q); ⟨imI hA fun e1 => have c1 : (((List.length tb0_4) : Nat) : Int) ≤ (20 : Int) := (by have q := (cmpE (op := .leq) hA e1); subst hA; exact q); ⟨imI hA fun e2 => have c2 : (((List.length tb0_6) : Nat) : Int) ≤ (20 : Int) := (by have q := (cmpE (op := .leq) hA e2); subst hA; exact q); ⟨imI hA fun e3 => have c3 : (((List.length tb0_7) : Nat) : Int) ≤ (20 : Int) := (by have q := (cmpE (op := .leq) hA e3); subst hA; exact q); ⟨imI hA fun e4 => have c4 : (((List.length tb0_8) : Nat) : Int) ≤ (20 : Int) := (by have q := (cmpE (op := .leq) hA e4); subst hA; exact q); (by rw [W.rr]; exact (by subst hA; exact (((((h.2 c0).1 c1).1 c2).1 c3).1 c4))), imI hA fun e4 => have c4 : (((List.length tb0_8) : Nat) : Int) > (20 : Int) := (by have q := (cmpE (op := .leq) hA e4); subst hA; exact q); (by rw [W.rr]; exact (by subst hA; exact (((((h.2 c0).1 c1).1 c2).1 c3).2 c4)))⟩, imI hA fun e3 => have c3 : (((List.length tb0_7) : Nat) : Int) > (20 : Int) := (by have q := (cmpE (op := .leq) hA e3); subst hA; exact q); (by rw [W.rr]; exact (by subst hA; exact ((((h.2 c0).1 c1).1 c2).2 c3)))⟩, imI hA fun e2 => have c2 : (((List.length tb0_6) : Nat) : Int) > (20 : Int) := (by have q := (cmpE (op := .leq) hA e2); subst hA; exact q); (by rw [W.rr]; exact (by subst hA; exact (((h.2 c0).1 c1).2 c2)))⟩, imI hA fun e1 => have c1 : (((List.length tb0_4) : Nat) : Int) > (20 : Int) := (by have q := (cmpE (op := .leq) hA e1); subst hA; exact q); (by rw [W.rr]; exact (by subst hA; exact ((h.2 c0).2 c1)))⟩⟩

end
structure V35 (EV Q : Nat → Rs → List Lf → Prop) : Prop where
  p7 : ∀ {t6 : List (List AV)} {t7 : Int} {t8 : Int} {tb0_0 : Int} {tb0_1 : Int} {tb0_2 : Int} {tb0_3 : Int} {tb0_4 : List (List AV)} {tb0_5 : Int} {tb0_6 : List (List AV)} {tb0_7 : List (List AV)} {tb0_8 : List (List AV)} {tb0_9 : List (List AV)}, (
    (t8 < t7 →
      ((0 : Int) ≤ t8) ∧
      (t6[(Int.toNat t8)]? = some [(AV.int .i64 (cIS t6 (Int.toNat t8) 0)), (AV.int .i64 (cIS t6 (Int.toNat t8) 1)), (AV.int .i64 (cIS t6 (Int.toNat t8) 2)), (AV.int .i64 (cIS t6 (Int.toNat t8) 3)), (AV.int .i64 (cIS t6 (Int.toNat t8) 4)), (AV.int .i64 (cIS t6 (Int.toNat t8) 5)), (AV.inl 3 (cRS t6 (Int.toNat t8) 6))]) ∧
      ((((List.length (cRS t6 (Int.toNat t8) 6)) : Nat) : Int) > (80 : Int) →
        Q 0 [] [(Lf.b false)]) ∧
      ((((List.length (cRS t6 (Int.toNat t8) 6)) : Nat) : Int) ≤ (80 : Int) →
        EV 7 [] [(Lf.r t6), (Lf.i t7), (Lf.i (IntKind.wrap .i64 (t8 + (1 : Int)))), (Lf.i tb0_0), (Lf.i tb0_1), (Lf.i tb0_2), (Lf.i tb0_3), (Lf.r tb0_4), (Lf.i tb0_5), (Lf.r tb0_6), (Lf.r tb0_7), (Lf.r tb0_8), (Lf.r tb0_9)])) ∧
    (t8 ≥ t7 →
      ((((List.length tb0_4) : Nat) : Int) ≤ (20 : Int) →
        ((((List.length tb0_6) : Nat) : Int) ≤ (20 : Int) →
          ((((List.length tb0_7) : Nat) : Int) ≤ (20 : Int) →
            ((((List.length tb0_8) : Nat) : Int) ≤ (20 : Int) →
              Q 0 [] [(Lf.b (decide ((((List.length tb0_9) : Nat) : Int) ≤ (20 : Int))))]) ∧
            ((((List.length tb0_8) : Nat) : Int) > (20 : Int) →
              Q 0 [] [(Lf.b false)])) ∧
          ((((List.length tb0_7) : Nat) : Int) > (20 : Int) →
            Q 0 [] [(Lf.b false)])) ∧
        ((((List.length tb0_6) : Nat) : Int) > (20 : Int) →
          Q 0 [] [(Lf.b false)])) ∧
      ((((List.length tb0_4) : Nat) : Int) > (20 : Int) →
        Q 0 [] [(Lf.b false)]))) →
    EV 7 [] [.r t6, .i t7, .i t8, .i tb0_0, .i tb0_1, .i tb0_2, .i tb0_3, .r tb0_4, .i tb0_5, .r tb0_6, .r tb0_7, .r tb0_8, .r tb0_9]

set_option maxHeartbeats 2000000 in
/-- To enter. -/
theorem E35 {Q : Nat → Rs → List Lf → Prop} {a0_0 : Int} {a0_1 : Int} {a0_2 : Int} {a0_3 : Int} {a0_4 : List (List AV)} {a0_5 : Int} {a0_6 : List (List AV)} {a0_7 : List (List AV)} {a0_8 : List (List AV)} {a0_9 : List (List AV)} (h : ∀ EV : Nat → Rs → List Lf → Prop, V35 EV Q →
    EV 7 [] [(Lf.r a0_8), (Lf.i (((List.length a0_8) : Nat) : Int)), (Lf.i (0 : Int)), (Lf.i a0_0), (Lf.i a0_1), (Lf.i a0_2), (Lf.i a0_3), (Lf.r a0_4), (Lf.i a0_5), (Lf.r a0_6), (Lf.r a0_7), (Lf.r a0_8), (Lf.r a0_9)]) :
    EC Try.prog G35 [] [.i a0_0, .i a0_1, .i a0_2, .i a0_3, .r a0_4, .i a0_5, .r a0_6, .r a0_7, .r a0_8, .r a0_9] Q := by
  obtain ⟨A, hA⟩ : ∃ A, A = arS := ⟨_, rfl⟩
  refine Inst.enter (I := I35) hA mixed F35_at sg L35 80 rfl fun CE CK Dn EV RR W hp => ?_
  have h := h  EV ⟨V35_p7 W⟩
  cbv
  refine (by subst hA; exact h)

-- 26: signalbox/signalboxlaw27.few
section
variable {Q : Nat → Rs → List Lf → Prop} {A : Ar} {CE : Nat → Rs → List Lf → (Nat → Rs → List Lf → Prop) → Prop} {CK : Nat → Rs → List Lf → Cont → Prop} {Dn : Nat → List Bool → List AItem → Nat → List Bool → List AV → List ABlk → Prop} {EV RR : Nat → Rs → List Lf → Prop}
set_option maxHeartbeats 2000000 in
theorem V26_p7 (W : Wk Try.prog Try.f26 I26 L26 Q A sg CE CK Dn EV RR) {t11 : List (List AV)} {t12 : Int} {t13 : Int} {tb0_0 : Int} {tb0_1 : Int} {tb0_2 : Int} {tb0_3 : Int} {tb0_4 : List (List AV)} {tb0_5 : Int} {tb0_6 : List (List AV)} {tb0_7 : List (List AV)} {tb0_8 : List (List AV)} {tb0_9 : List (List AV)} (h : 
    (t13 < t12 →
      ((0 : Int) ≤ t13) ∧
      (t11[(Int.toNat t13)]? = some [(AV.int .i64 (cIS t11 (Int.toNat t13) 0))]) ∧
      ((cIS t11 (Int.toNat t13) 0) ≤ (64 : Int) →
        ((cIS t11 (Int.toNat t13) 0) < (-64) →
          Q 0 [] [(Lf.b false)]) ∧
        ((cIS t11 (Int.toNat t13) 0) ≥ (-64) →
          EV 7 [] [(Lf.r t11), (Lf.i t12), (Lf.i (IntKind.wrap .i64 (t13 + (1 : Int)))), (Lf.i tb0_0), (Lf.i tb0_1), (Lf.i tb0_2), (Lf.i tb0_3), (Lf.r tb0_4), (Lf.i tb0_5), (Lf.r tb0_6), (Lf.r tb0_7), (Lf.r tb0_8), (Lf.r tb0_9)])) ∧
      ((cIS t11 (Int.toNat t13) 0) > (64 : Int) →
        Q 0 [] [(Lf.b false)])) ∧
    (t13 ≥ t12 →
      EV 30 [] [(Lf.r tb0_8), (Lf.i (((List.length tb0_8) : Nat) : Int)), (Lf.i (0 : Int)), (Lf.i tb0_0), (Lf.i tb0_1), (Lf.i tb0_2), (Lf.i tb0_3), (Lf.r tb0_4), (Lf.i tb0_5), (Lf.r tb0_6), (Lf.r tb0_7), (Lf.r tb0_8), (Lf.r tb0_9)])) :
    EV 7 [] [.r t11, .i t12, .i t13, .i tb0_0, .i tb0_1, .i tb0_2, .i tb0_3, .r tb0_4, .i tb0_5, .r tb0_6, .r tb0_7, .r tb0_8, .r tb0_9] := by
  have hA := W.hA
  refine W.step 80 fun hp => ?_
  cbv
  refine ⟨imI hA fun e0 => have c0 : t13 < t12 := (by have q := (cmpE (op := .lss) hA e0); subst hA; exact q); ⟨ndI hA (And.intro (by subst hA; exact (h.1 c0).1) (by subst hA; exact (h.1 c0).2.1)), ⟨imI hA fun e1 => have c1 : (cIS t11 (Int.toNat t13) 0) ≤ (64 : Int) := (by have q := (cmpE (op := .gtr) hA e1); subst hA; exact q); ⟨imI hA fun e2 => have c2 : (cIS t11 (Int.toNat t13) 0) < (-64) := (by have q := (cmpE (op := .lss) hA e2); subst hA; exact q); (by rw [W.rr]; exact (by subst hA; exact (((h.1 c0).2.2.1 c1).1 c2))), imI hA fun e2 => have c2 : (cIS t11 (Int.toNat t13) 0) ≥ (-64) := (by have q := (cmpE (op := .lss) hA e2); subst hA; exact q); (by subst hA; exact (((h.1 c0).2.2.1 c1).2 c2))⟩, imI hA fun e1 => have c1 : (cIS t11 (Int.toNat t13) 0) > (64 : Int) := (by have q := (cmpE (op := .gtr) hA e1); subst hA; exact q); (by rw [W.rr]; exact (by subst hA; exact ((h.1 c0).2.2.2 c1)))⟩⟩, imI hA fun e0 => have c0 : t13 ≥ t12 := (by have q := (cmpE (op := .lss) hA e0); subst hA; exact q); (by subst hA; exact (h.2 c0))⟩

set_option maxHeartbeats 2000000 in
theorem V26_p30 (W : Wk Try.prog Try.f26 I26 L26 Q A sg CE CK Dn EV RR) {t25 : List (List AV)} {t26 : Int} {t27 : Int} {tb0_0 : Int} {tb0_1 : Int} {tb0_2 : Int} {tb0_3 : Int} {tb0_4 : List (List AV)} {tb0_5 : Int} {tb0_6 : List (List AV)} {tb0_7 : List (List AV)} {tb0_8 : List (List AV)} {tb0_9 : List (List AV)} (h : 
    (t27 < t26 →
      ((0 : Int) ≤ t27) ∧
      (t25[(Int.toNat t27)]? = some [(AV.int .i64 (cIS t25 (Int.toNat t27) 0)), (AV.int .i64 (cIS t25 (Int.toNat t27) 1)), (AV.int .i64 (cIS t25 (Int.toNat t27) 2)), (AV.int .i64 (cIS t25 (Int.toNat t27) 3)), (AV.int .i64 (cIS t25 (Int.toNat t27) 4)), (AV.int .i64 (cIS t25 (Int.toNat t27) 5)), (AV.inl 3 (cRS t25 (Int.toNat t27) 6))]) ∧
      ((cIS t25 (Int.toNat t27) 1) ≤ (64 : Int) →
        ((cIS t25 (Int.toNat t27) 1) ≥ (-64) →
          ((((List.length (cRS t25 (Int.toNat t27) 6)) : Nat) : Int) ≤ (30 : Int) →
            ((cIS t25 (Int.toNat t27) 5) > (1099511627776 : Int) →
              Q 0 [] [(Lf.b false)]) ∧
            ((cIS t25 (Int.toNat t27) 5) ≤ (1099511627776 : Int) →
              EV 54 [[]] [(Lf.r t25), (Lf.i t26), (Lf.i t27), (Lf.r (cRS t25 (Int.toNat t27) 6)), (Lf.i (((List.length (cRS t25 (Int.toNat t27) 6)) : Nat) : Int)), (Lf.i (0 : Int)), (Lf.i tb0_0), (Lf.i tb0_1), (Lf.i tb0_2), (Lf.i tb0_3), (Lf.r tb0_4), (Lf.i tb0_5), (Lf.r tb0_6), (Lf.r tb0_7), (Lf.r tb0_8), (Lf.r tb0_9)])) ∧
          ((((List.length (cRS t25 (Int.toNat t27) 6)) : Nat) : Int) > (30 : Int) →
            Q 0 [] [(Lf.b false)])) ∧
        ((cIS t25 (Int.toNat t27) 1) < (-64) →
          Q 0 [] [(Lf.b false)])) ∧
      ((cIS t25 (Int.toNat t27) 1) > (64 : Int) →
        Q 0 [] [(Lf.b false)])) ∧
    (t27 ≥ t26 →
      EC Try.prog G35 [] [(Lf.i tb0_0), (Lf.i tb0_1), (Lf.i tb0_2), (Lf.i tb0_3), (Lf.r tb0_4), (Lf.i tb0_5), (Lf.r tb0_6), (Lf.r tb0_7), (Lf.r tb0_8), (Lf.r tb0_9)] (fun x rs vs => (x = 0 ∧ ∃ (y1_0 : Bool), rs = [] ∧ vs = [.b y1_0] ∧
        (Q 0 [] [(Lf.b y1_0)]))))) :
    EV 30 [] [.r t25, .i t26, .i t27, .i tb0_0, .i tb0_1, .i tb0_2, .i tb0_3, .r tb0_4, .i tb0_5, .r tb0_6, .r tb0_7, .r tb0_8, .r tb0_9] := by
  have hA := W.hA
  refine W.step 80 fun hp => ?_
  cbv
  refine ⟨imI hA fun e0 => have c0 : t27 < t26 := (by have q := (cmpE (op := .lss) hA e0); subst hA; exact q); ⟨ndI hA (And.intro (by subst hA; exact (h.1 c0).1) (by subst hA; exact (h.1 c0).2.1)), ⟨imI hA fun e1 => have c1 : (cIS t25 (Int.toNat t27) 1) ≤ (64 : Int) := (by have q := (cmpE (op := .gtr) hA e1); subst hA; exact q); ⟨imI hA fun e2 => have c2 : (cIS t25 (Int.toNat t27) 1) ≥ (-64) := (by have q := (cmpE (op := .lss) hA e2); subst hA; exact q); ⟨imI hA fun e3 => have c3 : (((List.length (cRS t25 (Int.toNat t27) 6)) : Nat) : Int) ≤ (30 : Int) := (by have q := (cmpE (op := .gtr) hA e3); subst hA; exact q); ⟨imI hA fun e4 => have c4 : (cIS t25 (Int.toNat t27) 5) > (1099511627776 : Int) := (by have q := (cmpE (op := .gtr) hA e4); subst hA; exact q); (by rw [W.rr]; exact (by subst hA; exact (((((h.1 c0).2.2.1 c1).1 c2).1 c3).1 c4))), imI hA fun e4 => have c4 : (cIS t25 (Int.toNat t27) 5) ≤ (1099511627776 : Int) := (by have q := (cmpE (op := .gtr) hA e4); subst hA; exact q); ⟨ndI hA (by subst hA; exact vpur), (by subst hA; exact (((((h.1 c0).2.2.1 c1).1 c2).1 c3).2 c4))⟩⟩, imI hA fun e3 => have c3 : (((List.length (cRS t25 (Int.toNat t27) 6)) : Nat) : Int) > (30 : Int) := (by have q := (cmpE (op := .gtr) hA e3); subst hA; exact q); (by rw [W.rr]; exact (by subst hA; exact ((((h.1 c0).2.2.1 c1).1 c2).2 c3)))⟩, imI hA fun e2 => have c2 : (cIS t25 (Int.toNat t27) 1) < (-64) := (by have q := (cmpE (op := .lss) hA e2); subst hA; exact q); (by rw [W.rr]; exact (by subst hA; exact (((h.1 c0).2.2.1 c1).2 c2)))⟩, imI hA fun e1 => have c1 : (cIS t25 (Int.toNat t27) 1) > (64 : Int) := (by have q := (cmpE (op := .gtr) hA e1); subst hA; exact q); (by rw [W.rr]; exact (by subst hA; exact ((h.1 c0).2.2.2 c1)))⟩⟩, imI hA fun e0 => have c0 : t27 ≥ t26 := (by have q := (cmpE (op := .lss) hA e0); subst hA; exact q); ?_⟩
  · refine W.call 80 (by rfl) (h.2 c0) (by subst hA; rfl) (by subst hA; rfl) ?_
    rintro x rs vs hp1 hq1
    rcases hq1 with ⟨rfl, y1_0, rfl, rfl, k1⟩
    · cbv
      refine (by rw [W.rr]; exact (by subst hA; exact k1))

set_option maxHeartbeats 2000000 in
theorem V26_p54 (W : Wk Try.prog Try.f26 I26 L26 Q A sg CE CK Dn EV RR) {R0 : List (List AV)} {t25 : List (List AV)} {t26 : Int} {t27 : Int} {t52 : List (List AV)} {t53 : Int} {t54 : Int} {tb0_0 : Int} {tb0_1 : Int} {tb0_2 : Int} {tb0_3 : Int} {tb0_4 : List (List AV)} {tb0_5 : Int} {tb0_6 : List (List AV)} {tb0_7 : List (List AV)} {tb0_8 : List (List AV)} {tb0_9 : List (List AV)} (h : pursS R0 = true → 
    (t54 < t53 →
      ((0 : Int) ≤ t54) ∧
      (t52[(Int.toNat t54)]? = some [(AV.int .i64 (cIS t52 (Int.toNat t54) 0)), (AV.int .i64 (cIS t52 (Int.toNat t54) 1)), (AV.int .i64 (cIS t52 (Int.toNat t54) 2))]) ∧
      ((cIS t52 (Int.toNat t54) 0) = (5 : Int) →
        (mgetS .i64 (cIS t52 (Int.toNat t54) 1) (AV.bool false) R0 = some (AV.bool (mBS R0 .i64 (cIS t52 (Int.toNat t54) 1)))) ∧
        ((mBS R0 .i64 (cIS t52 (Int.toNat t54) 1)) = true →
          Q 0 [] [(Lf.b false)]) ∧
        ((mBS R0 .i64 (cIS t52 (Int.toNat t54) 1)) = false →
          ((cIS t52 (Int.toNat t54) 0) ≠ (5 : Int) →
            ((cIS t52 (Int.toNat t54) 0) = (6 : Int) →
              (msetS .i64 (cIS t52 (Int.toNat t54) 1) (AV.bool ((cIS t52 (Int.toNat t54) 0) == (5 : Int))) R0 = some (mSS R0 .i64 (cIS t52 (Int.toNat t54) 1) (AV.bool ((cIS t52 (Int.toNat t54) 0) == (5 : Int))))) ∧
              (EV 54 [(mSS R0 .i64 (cIS t52 (Int.toNat t54) 1) (AV.bool ((cIS t52 (Int.toNat t54) 0) == (5 : Int))))] [(Lf.r t25), (Lf.i t26), (Lf.i t27), (Lf.r t52), (Lf.i t53), (Lf.i (IntKind.wrap .i64 (t54 + (1 : Int)))), (Lf.i tb0_0), (Lf.i tb0_1), (Lf.i tb0_2), (Lf.i tb0_3), (Lf.r tb0_4), (Lf.i tb0_5), (Lf.r tb0_6), (Lf.r tb0_7), (Lf.r tb0_8), (Lf.r tb0_9)])) ∧
            ((cIS t52 (Int.toNat t54) 0) ≠ (6 : Int) →
              EV 54 [R0] [(Lf.r t25), (Lf.i t26), (Lf.i t27), (Lf.r t52), (Lf.i t53), (Lf.i (IntKind.wrap .i64 (t54 + (1 : Int)))), (Lf.i tb0_0), (Lf.i tb0_1), (Lf.i tb0_2), (Lf.i tb0_3), (Lf.r tb0_4), (Lf.i tb0_5), (Lf.r tb0_6), (Lf.r tb0_7), (Lf.r tb0_8), (Lf.r tb0_9)])) ∧
          ((cIS t52 (Int.toNat t54) 0) = (5 : Int) →
            (msetS .i64 (cIS t52 (Int.toNat t54) 1) (AV.bool ((cIS t52 (Int.toNat t54) 0) == (5 : Int))) R0 = some (mSS R0 .i64 (cIS t52 (Int.toNat t54) 1) (AV.bool ((cIS t52 (Int.toNat t54) 0) == (5 : Int))))) ∧
            (EV 54 [(mSS R0 .i64 (cIS t52 (Int.toNat t54) 1) (AV.bool ((cIS t52 (Int.toNat t54) 0) == (5 : Int))))] [(Lf.r t25), (Lf.i t26), (Lf.i t27), (Lf.r t52), (Lf.i t53), (Lf.i (IntKind.wrap .i64 (t54 + (1 : Int)))), (Lf.i tb0_0), (Lf.i tb0_1), (Lf.i tb0_2), (Lf.i tb0_3), (Lf.r tb0_4), (Lf.i tb0_5), (Lf.r tb0_6), (Lf.r tb0_7), (Lf.r tb0_8), (Lf.r tb0_9)])))) ∧
      ((cIS t52 (Int.toNat t54) 0) ≠ (5 : Int) →
        ((cIS t52 (Int.toNat t54) 0) ≠ (5 : Int) →
          ((cIS t52 (Int.toNat t54) 0) = (6 : Int) →
            (msetS .i64 (cIS t52 (Int.toNat t54) 1) (AV.bool ((cIS t52 (Int.toNat t54) 0) == (5 : Int))) R0 = some (mSS R0 .i64 (cIS t52 (Int.toNat t54) 1) (AV.bool ((cIS t52 (Int.toNat t54) 0) == (5 : Int))))) ∧
            (EV 54 [(mSS R0 .i64 (cIS t52 (Int.toNat t54) 1) (AV.bool ((cIS t52 (Int.toNat t54) 0) == (5 : Int))))] [(Lf.r t25), (Lf.i t26), (Lf.i t27), (Lf.r t52), (Lf.i t53), (Lf.i (IntKind.wrap .i64 (t54 + (1 : Int)))), (Lf.i tb0_0), (Lf.i tb0_1), (Lf.i tb0_2), (Lf.i tb0_3), (Lf.r tb0_4), (Lf.i tb0_5), (Lf.r tb0_6), (Lf.r tb0_7), (Lf.r tb0_8), (Lf.r tb0_9)])) ∧
          ((cIS t52 (Int.toNat t54) 0) ≠ (6 : Int) →
            EV 54 [R0] [(Lf.r t25), (Lf.i t26), (Lf.i t27), (Lf.r t52), (Lf.i t53), (Lf.i (IntKind.wrap .i64 (t54 + (1 : Int)))), (Lf.i tb0_0), (Lf.i tb0_1), (Lf.i tb0_2), (Lf.i tb0_3), (Lf.r tb0_4), (Lf.i tb0_5), (Lf.r tb0_6), (Lf.r tb0_7), (Lf.r tb0_8), (Lf.r tb0_9)])) ∧
        ((cIS t52 (Int.toNat t54) 0) = (5 : Int) →
          (msetS .i64 (cIS t52 (Int.toNat t54) 1) (AV.bool ((cIS t52 (Int.toNat t54) 0) == (5 : Int))) R0 = some (mSS R0 .i64 (cIS t52 (Int.toNat t54) 1) (AV.bool ((cIS t52 (Int.toNat t54) 0) == (5 : Int))))) ∧
          (EV 54 [(mSS R0 .i64 (cIS t52 (Int.toNat t54) 1) (AV.bool ((cIS t52 (Int.toNat t54) 0) == (5 : Int))))] [(Lf.r t25), (Lf.i t26), (Lf.i t27), (Lf.r t52), (Lf.i t53), (Lf.i (IntKind.wrap .i64 (t54 + (1 : Int)))), (Lf.i tb0_0), (Lf.i tb0_1), (Lf.i tb0_2), (Lf.i tb0_3), (Lf.r tb0_4), (Lf.i tb0_5), (Lf.r tb0_6), (Lf.r tb0_7), (Lf.r tb0_8), (Lf.r tb0_9)])))) ∧
    (t54 ≥ t53 →
      EV 30 [] [(Lf.r t25), (Lf.i t26), (Lf.i (IntKind.wrap .i64 (t27 + (1 : Int)))), (Lf.i tb0_0), (Lf.i tb0_1), (Lf.i tb0_2), (Lf.i tb0_3), (Lf.r tb0_4), (Lf.i tb0_5), (Lf.r tb0_6), (Lf.r tb0_7), (Lf.r tb0_8), (Lf.r tb0_9)])) :
    EV 54 [R0] [.r t25, .i t26, .i t27, .r t52, .i t53, .i t54, .i tb0_0, .i tb0_1, .i tb0_2, .i tb0_3, .r tb0_4, .i tb0_5, .r tb0_6, .r tb0_7, .r tb0_8, .r tb0_9] := by
  have hA := W.hA
  refine W.step 80 fun hp => ?_
  have h := h hp.1
  cbv
  refine ⟨imI hA fun e0 => have c0 : t54 < t53 := (by have q := (cmpE (op := .lss) hA e0); subst hA; exact q); ⟨ndI hA (And.intro (by subst hA; exact (h.1 c0).1) (by subst hA; exact (h.1 c0).2.1)), ⟨imI hA fun e1 => have c1 : (cIS t52 (Int.toNat t54) 0) = (5 : Int) := (by have q := (cmpE (op := .eql) hA e1); subst hA; exact q); ⟨ndI hA (by subst hA; exact ((h.1 c0).2.2.1 c1).1), ⟨imI hA fun e2 => have c2 : (mBS R0 .i64 (cIS t52 (Int.toNat t54) 1)) = true := (by have q := e2; subst hA; exact q); (by rw [W.rr]; exact (by subst hA; exact (((h.1 c0).2.2.1 c1).2.1 c2))), imI hA fun e2 => have c2 : (mBS R0 .i64 (cIS t52 (Int.toNat t54) 1)) = false := (by have q := e2; subst hA; exact q); ⟨imI hA fun e3 => have c3 : (cIS t52 (Int.toNat t54) 0) ≠ (5 : Int) := (by have q := (cmpE (op := .eql) hA e3); subst hA; exact q); ⟨imI hA fun e4 => have c4 : (cIS t52 (Int.toNat t54) 0) = (6 : Int) := (by have q := (cmpE (op := .eql) hA e4); subst hA; exact q); ⟨ndI hA (by subst hA; exact (((((h.1 c0).2.2.1 c1).2.2 c2).1 c3).1 c4).1), ⟨ndI hA (by subst hA; exact (vmset hp.1 rfl)), (by subst hA; exact (((((h.1 c0).2.2.1 c1).2.2 c2).1 c3).1 c4).2)⟩⟩, imI hA fun e4 => have c4 : (cIS t52 (Int.toNat t54) 0) ≠ (6 : Int) := (by have q := (cmpE (op := .eql) hA e4); subst hA; exact q); ⟨ndI hA (by subst hA; exact hp.1), (by subst hA; exact (((((h.1 c0).2.2.1 c1).2.2 c2).1 c3).2 c4))⟩⟩, imI hA fun e3 => have c3 : (cIS t52 (Int.toNat t54) 0) = (5 : Int) := (by have q := (cmpE (op := .eql) hA e3); subst hA; exact q); ⟨ndI hA (by subst hA; exact ((((h.1 c0).2.2.1 c1).2.2 c2).2 c3).1), ⟨ndI hA (by subst hA; exact (vmset hp.1 rfl)), (by subst hA; exact ((((h.1 c0).2.2.1 c1).2.2 c2).2 c3).2)⟩⟩⟩⟩⟩, imI hA fun e1 => have c1 : (cIS t52 (Int.toNat t54) 0) ≠ (5 : Int) := (by have q := (cmpE (op := .eql) hA e1); subst hA; exact q); ⟨imI hA fun e2 => have c2 : (cIS t52 (Int.toNat t54) 0) ≠ (5 : Int) := (by have q := (cmpE (op := .eql) hA e2); subst hA; exact q); ⟨imI hA fun e3 => have c3 : (cIS t52 (Int.toNat t54) 0) = (6 : Int) := (by have q := (cmpE (op := .eql) hA e3); subst hA; exact q); ⟨ndI hA (by subst hA; exact ((((h.1 c0).2.2.2 c1).1 c2).1 c3).1), ⟨ndI hA (by subst hA; exact (vmset hp.1 rfl)), (by subst hA; exact ((((h.1 c0).2.2.2 c1).1 c2).1 c3).2)⟩⟩, imI hA fun e3 => have c3 : (cIS t52 (Int.toNat t54) 0) ≠ (6 : Int) := (by have q := (cmpE (op := .eql) hA e3); subst hA; exact q); ⟨ndI hA (by subst hA; exact hp.1), (by subst hA; exact ((((h.1 c0).2.2.2 c1).1 c2).2 c3))⟩⟩, imI hA fun e2 => have c2 : (cIS t52 (Int.toNat t54) 0) = (5 : Int) := (by have q := (cmpE (op := .eql) hA e2); subst hA; exact q); ⟨ndI hA (by subst hA; exact (((h.1 c0).2.2.2 c1).2 c2).1), ⟨ndI hA (by subst hA; exact (vmset hp.1 rfl)), (by subst hA; exact (((h.1 c0).2.2.2 c1).2 c2).2)⟩⟩⟩⟩⟩, imI hA fun e0 => have c0 : t54 ≥ t53 := (by have q := (cmpE (op := .lss) hA e0); subst hA; exact q); (by subst hA; exact (h.2 c0))⟩

end
structure V26 (EV Q : Nat → Rs → List Lf → Prop) : Prop where
  p7 : ∀ {t11 : List (List AV)} {t12 : Int} {t13 : Int} {tb0_0 : Int} {tb0_1 : Int} {tb0_2 : Int} {tb0_3 : Int} {tb0_4 : List (List AV)} {tb0_5 : Int} {tb0_6 : List (List AV)} {tb0_7 : List (List AV)} {tb0_8 : List (List AV)} {tb0_9 : List (List AV)}, (
    (t13 < t12 →
      ((0 : Int) ≤ t13) ∧
      (t11[(Int.toNat t13)]? = some [(AV.int .i64 (cIS t11 (Int.toNat t13) 0))]) ∧
      ((cIS t11 (Int.toNat t13) 0) ≤ (64 : Int) →
        ((cIS t11 (Int.toNat t13) 0) < (-64) →
          Q 0 [] [(Lf.b false)]) ∧
        ((cIS t11 (Int.toNat t13) 0) ≥ (-64) →
          EV 7 [] [(Lf.r t11), (Lf.i t12), (Lf.i (IntKind.wrap .i64 (t13 + (1 : Int)))), (Lf.i tb0_0), (Lf.i tb0_1), (Lf.i tb0_2), (Lf.i tb0_3), (Lf.r tb0_4), (Lf.i tb0_5), (Lf.r tb0_6), (Lf.r tb0_7), (Lf.r tb0_8), (Lf.r tb0_9)])) ∧
      ((cIS t11 (Int.toNat t13) 0) > (64 : Int) →
        Q 0 [] [(Lf.b false)])) ∧
    (t13 ≥ t12 →
      EV 30 [] [(Lf.r tb0_8), (Lf.i (((List.length tb0_8) : Nat) : Int)), (Lf.i (0 : Int)), (Lf.i tb0_0), (Lf.i tb0_1), (Lf.i tb0_2), (Lf.i tb0_3), (Lf.r tb0_4), (Lf.i tb0_5), (Lf.r tb0_6), (Lf.r tb0_7), (Lf.r tb0_8), (Lf.r tb0_9)])) →
    EV 7 [] [.r t11, .i t12, .i t13, .i tb0_0, .i tb0_1, .i tb0_2, .i tb0_3, .r tb0_4, .i tb0_5, .r tb0_6, .r tb0_7, .r tb0_8, .r tb0_9]
  p30 : ∀ {t25 : List (List AV)} {t26 : Int} {t27 : Int} {tb0_0 : Int} {tb0_1 : Int} {tb0_2 : Int} {tb0_3 : Int} {tb0_4 : List (List AV)} {tb0_5 : Int} {tb0_6 : List (List AV)} {tb0_7 : List (List AV)} {tb0_8 : List (List AV)} {tb0_9 : List (List AV)}, (
    (t27 < t26 →
      ((0 : Int) ≤ t27) ∧
      (t25[(Int.toNat t27)]? = some [(AV.int .i64 (cIS t25 (Int.toNat t27) 0)), (AV.int .i64 (cIS t25 (Int.toNat t27) 1)), (AV.int .i64 (cIS t25 (Int.toNat t27) 2)), (AV.int .i64 (cIS t25 (Int.toNat t27) 3)), (AV.int .i64 (cIS t25 (Int.toNat t27) 4)), (AV.int .i64 (cIS t25 (Int.toNat t27) 5)), (AV.inl 3 (cRS t25 (Int.toNat t27) 6))]) ∧
      ((cIS t25 (Int.toNat t27) 1) ≤ (64 : Int) →
        ((cIS t25 (Int.toNat t27) 1) ≥ (-64) →
          ((((List.length (cRS t25 (Int.toNat t27) 6)) : Nat) : Int) ≤ (30 : Int) →
            ((cIS t25 (Int.toNat t27) 5) > (1099511627776 : Int) →
              Q 0 [] [(Lf.b false)]) ∧
            ((cIS t25 (Int.toNat t27) 5) ≤ (1099511627776 : Int) →
              EV 54 [[]] [(Lf.r t25), (Lf.i t26), (Lf.i t27), (Lf.r (cRS t25 (Int.toNat t27) 6)), (Lf.i (((List.length (cRS t25 (Int.toNat t27) 6)) : Nat) : Int)), (Lf.i (0 : Int)), (Lf.i tb0_0), (Lf.i tb0_1), (Lf.i tb0_2), (Lf.i tb0_3), (Lf.r tb0_4), (Lf.i tb0_5), (Lf.r tb0_6), (Lf.r tb0_7), (Lf.r tb0_8), (Lf.r tb0_9)])) ∧
          ((((List.length (cRS t25 (Int.toNat t27) 6)) : Nat) : Int) > (30 : Int) →
            Q 0 [] [(Lf.b false)])) ∧
        ((cIS t25 (Int.toNat t27) 1) < (-64) →
          Q 0 [] [(Lf.b false)])) ∧
      ((cIS t25 (Int.toNat t27) 1) > (64 : Int) →
        Q 0 [] [(Lf.b false)])) ∧
    (t27 ≥ t26 →
      EC Try.prog G35 [] [(Lf.i tb0_0), (Lf.i tb0_1), (Lf.i tb0_2), (Lf.i tb0_3), (Lf.r tb0_4), (Lf.i tb0_5), (Lf.r tb0_6), (Lf.r tb0_7), (Lf.r tb0_8), (Lf.r tb0_9)] (fun x rs vs => (x = 0 ∧ ∃ (y1_0 : Bool), rs = [] ∧ vs = [.b y1_0] ∧
        (Q 0 [] [(Lf.b y1_0)]))))) →
    EV 30 [] [.r t25, .i t26, .i t27, .i tb0_0, .i tb0_1, .i tb0_2, .i tb0_3, .r tb0_4, .i tb0_5, .r tb0_6, .r tb0_7, .r tb0_8, .r tb0_9]
  p54 : ∀ {R0 : List (List AV)} {t25 : List (List AV)} {t26 : Int} {t27 : Int} {t52 : List (List AV)} {t53 : Int} {t54 : Int} {tb0_0 : Int} {tb0_1 : Int} {tb0_2 : Int} {tb0_3 : Int} {tb0_4 : List (List AV)} {tb0_5 : Int} {tb0_6 : List (List AV)} {tb0_7 : List (List AV)} {tb0_8 : List (List AV)} {tb0_9 : List (List AV)}, (pursS R0 = true → 
    (t54 < t53 →
      ((0 : Int) ≤ t54) ∧
      (t52[(Int.toNat t54)]? = some [(AV.int .i64 (cIS t52 (Int.toNat t54) 0)), (AV.int .i64 (cIS t52 (Int.toNat t54) 1)), (AV.int .i64 (cIS t52 (Int.toNat t54) 2))]) ∧
      ((cIS t52 (Int.toNat t54) 0) = (5 : Int) →
        (mgetS .i64 (cIS t52 (Int.toNat t54) 1) (AV.bool false) R0 = some (AV.bool (mBS R0 .i64 (cIS t52 (Int.toNat t54) 1)))) ∧
        ((mBS R0 .i64 (cIS t52 (Int.toNat t54) 1)) = true →
          Q 0 [] [(Lf.b false)]) ∧
        ((mBS R0 .i64 (cIS t52 (Int.toNat t54) 1)) = false →
          ((cIS t52 (Int.toNat t54) 0) ≠ (5 : Int) →
            ((cIS t52 (Int.toNat t54) 0) = (6 : Int) →
              (msetS .i64 (cIS t52 (Int.toNat t54) 1) (AV.bool ((cIS t52 (Int.toNat t54) 0) == (5 : Int))) R0 = some (mSS R0 .i64 (cIS t52 (Int.toNat t54) 1) (AV.bool ((cIS t52 (Int.toNat t54) 0) == (5 : Int))))) ∧
              (EV 54 [(mSS R0 .i64 (cIS t52 (Int.toNat t54) 1) (AV.bool ((cIS t52 (Int.toNat t54) 0) == (5 : Int))))] [(Lf.r t25), (Lf.i t26), (Lf.i t27), (Lf.r t52), (Lf.i t53), (Lf.i (IntKind.wrap .i64 (t54 + (1 : Int)))), (Lf.i tb0_0), (Lf.i tb0_1), (Lf.i tb0_2), (Lf.i tb0_3), (Lf.r tb0_4), (Lf.i tb0_5), (Lf.r tb0_6), (Lf.r tb0_7), (Lf.r tb0_8), (Lf.r tb0_9)])) ∧
            ((cIS t52 (Int.toNat t54) 0) ≠ (6 : Int) →
              EV 54 [R0] [(Lf.r t25), (Lf.i t26), (Lf.i t27), (Lf.r t52), (Lf.i t53), (Lf.i (IntKind.wrap .i64 (t54 + (1 : Int)))), (Lf.i tb0_0), (Lf.i tb0_1), (Lf.i tb0_2), (Lf.i tb0_3), (Lf.r tb0_4), (Lf.i tb0_5), (Lf.r tb0_6), (Lf.r tb0_7), (Lf.r tb0_8), (Lf.r tb0_9)])) ∧
          ((cIS t52 (Int.toNat t54) 0) = (5 : Int) →
            (msetS .i64 (cIS t52 (Int.toNat t54) 1) (AV.bool ((cIS t52 (Int.toNat t54) 0) == (5 : Int))) R0 = some (mSS R0 .i64 (cIS t52 (Int.toNat t54) 1) (AV.bool ((cIS t52 (Int.toNat t54) 0) == (5 : Int))))) ∧
            (EV 54 [(mSS R0 .i64 (cIS t52 (Int.toNat t54) 1) (AV.bool ((cIS t52 (Int.toNat t54) 0) == (5 : Int))))] [(Lf.r t25), (Lf.i t26), (Lf.i t27), (Lf.r t52), (Lf.i t53), (Lf.i (IntKind.wrap .i64 (t54 + (1 : Int)))), (Lf.i tb0_0), (Lf.i tb0_1), (Lf.i tb0_2), (Lf.i tb0_3), (Lf.r tb0_4), (Lf.i tb0_5), (Lf.r tb0_6), (Lf.r tb0_7), (Lf.r tb0_8), (Lf.r tb0_9)])))) ∧
      ((cIS t52 (Int.toNat t54) 0) ≠ (5 : Int) →
        ((cIS t52 (Int.toNat t54) 0) ≠ (5 : Int) →
          ((cIS t52 (Int.toNat t54) 0) = (6 : Int) →
            (msetS .i64 (cIS t52 (Int.toNat t54) 1) (AV.bool ((cIS t52 (Int.toNat t54) 0) == (5 : Int))) R0 = some (mSS R0 .i64 (cIS t52 (Int.toNat t54) 1) (AV.bool ((cIS t52 (Int.toNat t54) 0) == (5 : Int))))) ∧
            (EV 54 [(mSS R0 .i64 (cIS t52 (Int.toNat t54) 1) (AV.bool ((cIS t52 (Int.toNat t54) 0) == (5 : Int))))] [(Lf.r t25), (Lf.i t26), (Lf.i t27), (Lf.r t52), (Lf.i t53), (Lf.i (IntKind.wrap .i64 (t54 + (1 : Int)))), (Lf.i tb0_0), (Lf.i tb0_1), (Lf.i tb0_2), (Lf.i tb0_3), (Lf.r tb0_4), (Lf.i tb0_5), (Lf.r tb0_6), (Lf.r tb0_7), (Lf.r tb0_8), (Lf.r tb0_9)])) ∧
          ((cIS t52 (Int.toNat t54) 0) ≠ (6 : Int) →
            EV 54 [R0] [(Lf.r t25), (Lf.i t26), (Lf.i t27), (Lf.r t52), (Lf.i t53), (Lf.i (IntKind.wrap .i64 (t54 + (1 : Int)))), (Lf.i tb0_0), (Lf.i tb0_1), (Lf.i tb0_2), (Lf.i tb0_3), (Lf.r tb0_4), (Lf.i tb0_5), (Lf.r tb0_6), (Lf.r tb0_7), (Lf.r tb0_8), (Lf.r tb0_9)])) ∧
        ((cIS t52 (Int.toNat t54) 0) = (5 : Int) →
          (msetS .i64 (cIS t52 (Int.toNat t54) 1) (AV.bool ((cIS t52 (Int.toNat t54) 0) == (5 : Int))) R0 = some (mSS R0 .i64 (cIS t52 (Int.toNat t54) 1) (AV.bool ((cIS t52 (Int.toNat t54) 0) == (5 : Int))))) ∧
          (EV 54 [(mSS R0 .i64 (cIS t52 (Int.toNat t54) 1) (AV.bool ((cIS t52 (Int.toNat t54) 0) == (5 : Int))))] [(Lf.r t25), (Lf.i t26), (Lf.i t27), (Lf.r t52), (Lf.i t53), (Lf.i (IntKind.wrap .i64 (t54 + (1 : Int)))), (Lf.i tb0_0), (Lf.i tb0_1), (Lf.i tb0_2), (Lf.i tb0_3), (Lf.r tb0_4), (Lf.i tb0_5), (Lf.r tb0_6), (Lf.r tb0_7), (Lf.r tb0_8), (Lf.r tb0_9)])))) ∧
    (t54 ≥ t53 →
      EV 30 [] [(Lf.r t25), (Lf.i t26), (Lf.i (IntKind.wrap .i64 (t27 + (1 : Int)))), (Lf.i tb0_0), (Lf.i tb0_1), (Lf.i tb0_2), (Lf.i tb0_3), (Lf.r tb0_4), (Lf.i tb0_5), (Lf.r tb0_6), (Lf.r tb0_7), (Lf.r tb0_8), (Lf.r tb0_9)])) →
    EV 54 [R0] [.r t25, .i t26, .i t27, .r t52, .i t53, .i t54, .i tb0_0, .i tb0_1, .i tb0_2, .i tb0_3, .r tb0_4, .i tb0_5, .r tb0_6, .r tb0_7, .r tb0_8, .r tb0_9]

set_option maxHeartbeats 2000000 in
/-- To enter. -/
theorem E26 {Q : Nat → Rs → List Lf → Prop} {a0_0 : Int} {a0_1 : Int} {a0_2 : Int} {a0_3 : Int} {a0_4 : List (List AV)} {a0_5 : Int} {a0_6 : List (List AV)} {a0_7 : List (List AV)} {a0_8 : List (List AV)} {a0_9 : List (List AV)} (h : ∀ EV : Nat → Rs → List Lf → Prop, V26 EV Q →
    EV 7 [] [(Lf.r a0_7), (Lf.i (((List.length a0_7) : Nat) : Int)), (Lf.i (0 : Int)), (Lf.i a0_0), (Lf.i a0_1), (Lf.i a0_2), (Lf.i a0_3), (Lf.r a0_4), (Lf.i a0_5), (Lf.r a0_6), (Lf.r a0_7), (Lf.r a0_8), (Lf.r a0_9)]) :
    EC Try.prog G26 [] [.i a0_0, .i a0_1, .i a0_2, .i a0_3, .r a0_4, .i a0_5, .r a0_6, .r a0_7, .r a0_8, .r a0_9] Q := by
  obtain ⟨A, hA⟩ : ∃ A, A = arS := ⟨_, rfl⟩
  refine Inst.enter (I := I26) hA mixed F26_at sg L26 80 rfl fun CE CK Dn EV RR W hp => ?_
  have h := h  EV ⟨V26_p7 W, V26_p30 W, V26_p54 W⟩
  cbv
  refine (by subst hA; exact h)

-- 59: signalbox/reload.is
section
variable {Q : Nat → Rs → List Lf → Prop} {A : Ar} {CE : Nat → Rs → List Lf → (Nat → Rs → List Lf → Prop) → Prop} {CK : Nat → Rs → List Lf → Cont → Prop} {Dn : Nat → List Bool → List AItem → Nat → List Bool → List AV → List ABlk → Prop} {EV RR : Nat → Rs → List Lf → Prop}
end
structure V59 (EV Q : Nat → Rs → List Lf → Prop) : Prop where
  none : True

set_option maxHeartbeats 2000000 in
/-- To enter. -/
theorem E59 {Q : Nat → Rs → List Lf → Prop} {a0_0 : Int} {a0_1 : Int} {a0_2 : Int} {a0_3 : Int} {a0_4 : List (List AV)} {a0_5 : Int} {a0_6 : List (List AV)} {a0_7 : List (List AV)} {a0_8 : List (List AV)} {a0_9 : List (List AV)} {a1 : Int} (h : ∀ EV : Nat → Rs → List Lf → Prop, V59 EV Q →
    (a1 ≥ (0 : Int) →
      Q 0 [] [(Lf.b (decide (a1 < (((List.length a0_8) : Nat) : Int))))]) ∧
    (a1 < (0 : Int) →
      Q 0 [] [(Lf.b false)])) :
    EC Try.prog G59 [] [.i a0_0, .i a0_1, .i a0_2, .i a0_3, .r a0_4, .i a0_5, .r a0_6, .r a0_7, .r a0_8, .r a0_9, .i a1] Q := by
  obtain ⟨A, hA⟩ : ∃ A, A = arS := ⟨_, rfl⟩
  refine Inst.enter (I := I59) hA mixed F59_at sg L59 80 rfl fun CE CK Dn EV RR W hp => ?_
  have h := h  EV ⟨trivial⟩
  cbv
  refine ⟨imI hA fun e0 => have c0 : a1 ≥ (0 : Int) := (by have q := (cmpE (op := .geq) hA e0); subst hA; exact q); (by rw [W.rr]; exact (by subst hA; exact (h.1 c0))), imI hA fun e0 => have c0 : a1 < (0 : Int) := (by have q := (cmpE (op := .geq) hA e0); subst hA; exact q); (by rw [W.rr]; exact (by subst hA; exact (h.2 c0)))⟩

-- 40: signalbox/reload.Above DRAWN
section
variable {Q : Nat → Rs → List Lf → Prop} {A : Ar} {CE : Nat → Rs → List Lf → (Nat → Rs → List Lf → Prop) → Prop} {CK : Nat → Rs → List Lf → Cont → Prop} {Dn : Nat → List Bool → List AItem → Nat → List Bool → List AV → List ABlk → Prop} {EV RR : Nat → Rs → List Lf → Prop}
set_option maxHeartbeats 2000000 in
theorem V40_p17 (W : Wk Try.prog Try.f40 I40 L40 Q A sg CE CK Dn EV RR) {R0 : List (List AV)} {t1 : Int} {t13 : List (List AV)} {t14 : Int} {t15 : Int} {tb0_0 : Int} {tb0_1 : Int} {tb0_2 : Int} {tb0_3 : Int} {tb0_4 : List (List AV)} {tb0_5 : Int} {tb0_6 : List (List AV)} {tb0_7 : List (List AV)} {tb0_8 : List (List AV)} {tb0_9 : List (List AV)} (h : pursS R0 = true → 
    (t15 < t14 →
      ((0 : Int) ≤ t15) ∧
      (t13[(Int.toNat t15)]? = some [(AV.int .i64 (cIS t13 (Int.toNat t15) 0)), (AV.int .i64 (cIS t13 (Int.toNat t15) 1)), (AV.int .i64 (cIS t13 (Int.toNat t15) 2)), (AV.int .i64 (cIS t13 (Int.toNat t15) 3)), (AV.int .i64 (cIS t13 (Int.toNat t15) 4)), (AV.int .i64 (cIS t13 (Int.toNat t15) 5)), (AV.inl 3 (cRS t13 (Int.toNat t15) 6))]) ∧
      ((0 : Int) ≤ t1) ∧
      (tb0_8[(Int.toNat t1)]? = some [(AV.int .i64 (cIS tb0_8 (Int.toNat t1) 0)), (AV.int .i64 (cIS tb0_8 (Int.toNat t1) 1)), (AV.int .i64 (cIS tb0_8 (Int.toNat t1) 2)), (AV.int .i64 (cIS tb0_8 (Int.toNat t1) 3)), (AV.int .i64 (cIS tb0_8 (Int.toNat t1) 4)), (AV.int .i64 (cIS tb0_8 (Int.toNat t1) 5)), (AV.inl 3 (cRS tb0_8 (Int.toNat t1) 6))]) ∧
      ((cIS t13 (Int.toNat t15) 0) > (cIS tb0_8 (Int.toNat t1) 1) →
        (((List.length R0) + 1) ≤ 140737488355328) ∧
        ((((List.length R0) + 1) * 8) ≤ 140737488355328) ∧
        (EV 17 [(R0 ++ [[(AV.int .i64 t15)]])] [(Lf.i t1), (Lf.r t13), (Lf.i t14), (Lf.i (IntKind.wrap .i64 (t15 + (1 : Int)))), (Lf.i tb0_0), (Lf.i tb0_1), (Lf.i tb0_2), (Lf.i tb0_3), (Lf.r tb0_4), (Lf.i tb0_5), (Lf.r tb0_6), (Lf.r tb0_7), (Lf.r tb0_8), (Lf.r tb0_9)])) ∧
      ((cIS t13 (Int.toNat t15) 0) ≤ (cIS tb0_8 (Int.toNat t1) 1) →
        EV 17 [R0] [(Lf.i t1), (Lf.r t13), (Lf.i t14), (Lf.i (IntKind.wrap .i64 (t15 + (1 : Int)))), (Lf.i tb0_0), (Lf.i tb0_1), (Lf.i tb0_2), (Lf.i tb0_3), (Lf.r tb0_4), (Lf.i tb0_5), (Lf.r tb0_6), (Lf.r tb0_7), (Lf.r tb0_8), (Lf.r tb0_9)])) ∧
    (t15 ≥ t14 →
      Q 0 [R0] [])) :
    EV 17 [R0] [.i t1, .r t13, .i t14, .i t15, .i tb0_0, .i tb0_1, .i tb0_2, .i tb0_3, .r tb0_4, .i tb0_5, .r tb0_6, .r tb0_7, .r tb0_8, .r tb0_9] := by
  have hA := W.hA
  refine W.step 80 fun hp => ?_
  have h := h hp.1
  cbv
  refine ⟨imI hA fun e0 => have c0 : t15 < t14 := (by have q := (cmpE (op := .lss) hA e0); subst hA; exact q); ⟨ndI hA (And.intro (by subst hA; exact (h.1 c0).1) (by subst hA; exact (h.1 c0).2.1)), ⟨ndI hA (And.intro (by subst hA; exact (h.1 c0).2.2.1) (by subst hA; exact (h.1 c0).2.2.2.1)), ⟨imI hA fun e1 => have c1 : (cIS t13 (Int.toNat t15) 0) > (cIS tb0_8 (Int.toNat t1) 1) := (by have q := (cmpE (op := .gtr) hA e1); subst hA; exact q); ⟨ndI hA (And.intro rfl (And.intro (Nat.le_refl _) (And.intro (by subst hA; exact ((h.1 c0).2.2.2.2.1 c1).1) (by subst hA; exact ((h.1 c0).2.2.2.2.1 c1).2.1)))), ⟨ndI hA (And.intro rfl (And.intro rfl (by subst hA; show ((List.length R0) + 1) = (List.length (rappS R0 (List.length R0) [[(AV.int .i64 t15)]])); (first | rfl | simp [rappS_end] | (simp only [rappS_end, List.length_append, List.length_set, List.length_cons, List.length_nil]; omega))))), ⟨ndI hA (by subst hA; exact (vapp hp.1 vpur)), (by subst hA; show EV 17 [(rappS R0 (List.length R0) [[(AV.int .i64 t15)]])] [(Lf.i t1), (Lf.r t13), (Lf.i t14), (Lf.i (IntKind.wrap .i64 (t15 + (1 : Int)))), (Lf.i tb0_0), (Lf.i tb0_1), (Lf.i tb0_2), (Lf.i tb0_3), (Lf.r tb0_4), (Lf.i tb0_5), (Lf.r tb0_6), (Lf.r tb0_7), (Lf.r tb0_8), (Lf.r tb0_9)]; simp only [rappS_end, Nat.zero_add, Int.toNat_natCast]; exact ((h.1 c0).2.2.2.2.1 c1).2.2)⟩⟩⟩, imI hA fun e1 => have c1 : (cIS t13 (Int.toNat t15) 0) ≤ (cIS tb0_8 (Int.toNat t1) 1) := (by have q := (cmpE (op := .gtr) hA e1); subst hA; exact q); ⟨ndI hA (And.intro rfl (And.intro rfl rfl)), ⟨ndI hA (by subst hA; exact hp.1), (by subst hA; exact ((h.1 c0).2.2.2.2.2 c1))⟩⟩⟩⟩⟩, imI hA fun e0 => have c0 : t15 ≥ t14 := (by have q := (cmpE (op := .lss) hA e0); subst hA; exact q); ⟨ndI hA (And.intro rfl (And.intro rfl rfl)), ⟨ndI hA (by subst hA; exact hp.1), (by rw [W.rr]; exact (by subst hA; exact (h.2 c0)))⟩⟩⟩

end
structure V40 (EV Q : Nat → Rs → List Lf → Prop) : Prop where
  p17 : ∀ {R0 : List (List AV)} {t1 : Int} {t13 : List (List AV)} {t14 : Int} {t15 : Int} {tb0_0 : Int} {tb0_1 : Int} {tb0_2 : Int} {tb0_3 : Int} {tb0_4 : List (List AV)} {tb0_5 : Int} {tb0_6 : List (List AV)} {tb0_7 : List (List AV)} {tb0_8 : List (List AV)} {tb0_9 : List (List AV)}, (pursS R0 = true → 
    (t15 < t14 →
      ((0 : Int) ≤ t15) ∧
      (t13[(Int.toNat t15)]? = some [(AV.int .i64 (cIS t13 (Int.toNat t15) 0)), (AV.int .i64 (cIS t13 (Int.toNat t15) 1)), (AV.int .i64 (cIS t13 (Int.toNat t15) 2)), (AV.int .i64 (cIS t13 (Int.toNat t15) 3)), (AV.int .i64 (cIS t13 (Int.toNat t15) 4)), (AV.int .i64 (cIS t13 (Int.toNat t15) 5)), (AV.inl 3 (cRS t13 (Int.toNat t15) 6))]) ∧
      ((0 : Int) ≤ t1) ∧
      (tb0_8[(Int.toNat t1)]? = some [(AV.int .i64 (cIS tb0_8 (Int.toNat t1) 0)), (AV.int .i64 (cIS tb0_8 (Int.toNat t1) 1)), (AV.int .i64 (cIS tb0_8 (Int.toNat t1) 2)), (AV.int .i64 (cIS tb0_8 (Int.toNat t1) 3)), (AV.int .i64 (cIS tb0_8 (Int.toNat t1) 4)), (AV.int .i64 (cIS tb0_8 (Int.toNat t1) 5)), (AV.inl 3 (cRS tb0_8 (Int.toNat t1) 6))]) ∧
      ((cIS t13 (Int.toNat t15) 0) > (cIS tb0_8 (Int.toNat t1) 1) →
        (((List.length R0) + 1) ≤ 140737488355328) ∧
        ((((List.length R0) + 1) * 8) ≤ 140737488355328) ∧
        (EV 17 [(R0 ++ [[(AV.int .i64 t15)]])] [(Lf.i t1), (Lf.r t13), (Lf.i t14), (Lf.i (IntKind.wrap .i64 (t15 + (1 : Int)))), (Lf.i tb0_0), (Lf.i tb0_1), (Lf.i tb0_2), (Lf.i tb0_3), (Lf.r tb0_4), (Lf.i tb0_5), (Lf.r tb0_6), (Lf.r tb0_7), (Lf.r tb0_8), (Lf.r tb0_9)])) ∧
      ((cIS t13 (Int.toNat t15) 0) ≤ (cIS tb0_8 (Int.toNat t1) 1) →
        EV 17 [R0] [(Lf.i t1), (Lf.r t13), (Lf.i t14), (Lf.i (IntKind.wrap .i64 (t15 + (1 : Int)))), (Lf.i tb0_0), (Lf.i tb0_1), (Lf.i tb0_2), (Lf.i tb0_3), (Lf.r tb0_4), (Lf.i tb0_5), (Lf.r tb0_6), (Lf.r tb0_7), (Lf.r tb0_8), (Lf.r tb0_9)])) ∧
    (t15 ≥ t14 →
      Q 0 [R0] [])) →
    EV 17 [R0] [.i t1, .r t13, .i t14, .i t15, .i tb0_0, .i tb0_1, .i tb0_2, .i tb0_3, .r tb0_4, .i tb0_5, .r tb0_6, .r tb0_7, .r tb0_8, .r tb0_9]

set_option maxHeartbeats 2000000 in
/-- To enter. -/
theorem E40 {Q : Nat → Rs → List Lf → Prop} {a0_0 : Int} {a0_1 : Int} {a0_2 : Int} {a0_3 : Int} {a0_4 : List (List AV)} {a0_5 : Int} {a0_6 : List (List AV)} {a0_7 : List (List AV)} {a0_8 : List (List AV)} {a0_9 : List (List AV)} {a1 : Int} (h : ∀ EV : Nat → Rs → List Lf → Prop, V40 EV Q →
    EC Try.prog G59 [] [(Lf.i a0_0), (Lf.i a0_1), (Lf.i a0_2), (Lf.i a0_3), (Lf.r a0_4), (Lf.i a0_5), (Lf.r a0_6), (Lf.r a0_7), (Lf.r a0_8), (Lf.r a0_9), (Lf.i a1)] (fun x rs vs => (x = 0 ∧ ∃ (y0_0 : Bool), rs = [] ∧ vs = [.b y0_0] ∧
      ((y0_0 = false →
          Q 0 [[]] []) ∧
        (y0_0 = true →
          EV 17 [[]] [(Lf.i a1), (Lf.r a0_8), (Lf.i (((List.length a0_8) : Nat) : Int)), (Lf.i (0 : Int)), (Lf.i a0_0), (Lf.i a0_1), (Lf.i a0_2), (Lf.i a0_3), (Lf.r a0_4), (Lf.i a0_5), (Lf.r a0_6), (Lf.r a0_7), (Lf.r a0_8), (Lf.r a0_9)]))))) :
    EC Try.prog G40 [] [.i a0_0, .i a0_1, .i a0_2, .i a0_3, .r a0_4, .i a0_5, .r a0_6, .r a0_7, .r a0_8, .r a0_9, .i a1] Q := by
  obtain ⟨A, hA⟩ : ∃ A, A = arS := ⟨_, rfl⟩
  refine Inst.enter (I := I40) hA mixed F40_at sg L40 80 rfl fun CE CK Dn EV RR W hp => ?_
  have h := h  EV ⟨V40_p17 W⟩
  cbv
  refine ?_
  · refine W.call 80 (by rfl) h (by subst hA; rfl) (by subst hA; rfl) ?_
    rintro x rs vs hp0 hq0
    rcases hq0 with ⟨rfl, y0_0, rfl, rfl, k0⟩
    · cbv
      refine ⟨imI hA fun e1 => have c1 : y0_0 = false := (by have q := (notE hA e1); subst hA; exact q); ⟨ndI hA (And.intro (by subst hA; show 0 = 0; (first | rfl | simp [rappS_end] | (simp only [rappS_end, List.length_append, List.length_set, List.length_cons, List.length_nil]; omega))) (And.intro rfl (by subst hA; show 0 = 0; (first | rfl | simp [rappS_end] | (simp only [rappS_end, List.length_append, List.length_set, List.length_cons, List.length_nil]; omega))))), ⟨ndI hA (by subst hA; exact vpur), (by rw [W.rr]; exact (by subst hA; exact (k0.1 c1)))⟩⟩, imI hA fun e1 => have c1 : y0_0 = true := (by have q := (notE hA e1); subst hA; exact q); ⟨ndI hA (And.intro (by subst hA; show 0 = 0; (first | rfl | simp [rappS_end] | (simp only [rappS_end, List.length_append, List.length_set, List.length_cons, List.length_nil]; omega))) (And.intro rfl (by subst hA; show 0 = 0; (first | rfl | simp [rappS_end] | (simp only [rappS_end, List.length_append, List.length_set, List.length_cons, List.length_nil]; omega))))), ⟨ndI hA (by subst hA; exact vpur), (by subst hA; exact (k0.2 c1))⟩⟩⟩

-- 43: signalbox/sat.Of
section
variable {Q : Nat → Rs → List Lf → Prop} {A : Ar} {CE : Nat → Rs → List Lf → (Nat → Rs → List Lf → Prop) → Prop} {CK : Nat → Rs → List Lf → Cont → Prop} {Dn : Nat → List Bool → List AItem → Nat → List Bool → List AV → List ABlk → Prop} {EV RR : Nat → Rs → List Lf → Prop}
end
structure V43 (EV Q : Nat → Rs → List Lf → Prop) : Prop where
  none : True

set_option maxHeartbeats 2000000 in
/-- To enter. -/
theorem E43 {Q : Nat → Rs → List Lf → Prop} {a0 : Int} (h : ∀ EV : Nat → Rs → List Lf → Prop, V43 EV Q →
    Q 0 [] [(Lf.i (IntKind.wrap .u64 (arS.mx a0 (0 : Int))))]) :
    EC Try.prog G43 [] [.i a0] Q := by
  obtain ⟨A, hA⟩ : ∃ A, A = arS := ⟨_, rfl⟩
  refine Inst.enter (I := I43) hA mixed F43_at sg L43 80 rfl fun CE CK Dn EV RR W hp => ?_
  have h := h  EV ⟨trivial⟩
  cbv
  refine (by rw [W.rr]; exact (by subst hA; exact h))

-- 42: signalbox/sat.Ceil
section
variable {Q : Nat → Rs → List Lf → Prop} {A : Ar} {CE : Nat → Rs → List Lf → (Nat → Rs → List Lf → Prop) → Prop} {CK : Nat → Rs → List Lf → Cont → Prop} {Dn : Nat → List Bool → List AItem → Nat → List Bool → List AV → List ABlk → Prop} {EV RR : Nat → Rs → List Lf → Prop}
end
structure V42 (EV Q : Nat → Rs → List Lf → Prop) : Prop where
  none : True

set_option maxHeartbeats 2000000 in
/-- To enter. -/
theorem E42 {Q : Nat → Rs → List Lf → Prop} {a0 : Int} {a1 : Int} (h : ∀ EV : Nat → Rs → List Lf → Prop, V42 EV Q →
    (a0 = (0 : Int) →
      Q 0 [] [(Lf.i (0 : Int))]) ∧
    (a0 ≠ (0 : Int) →
      (a1 ≠ (0 : Int) →
        (a0 = (18446744073709551615 : Int) →
          Q 0 [] [(Lf.i (18446744073709551615 : Int))]) ∧
        (a0 ≠ (18446744073709551615 : Int) →
          (a1 ≠ (0 : Int)) ∧
          (Q 0 [] [(Lf.i (IntKind.wrap .u64 ((IntKind.wrap .u64 (Int.tdiv (IntKind.wrap .u64 (a0 - (1 : Int))) a1)) + (1 : Int))))]))) ∧
      (a1 = (0 : Int) →
        Q 0 [] [(Lf.i (18446744073709551615 : Int))]))) :
    EC Try.prog G42 [] [.i a0, .i a1] Q := by
  obtain ⟨A, hA⟩ : ∃ A, A = arS := ⟨_, rfl⟩
  refine Inst.enter (I := I42) hA mixed F42_at sg L42 80 rfl fun CE CK Dn EV RR W hp => ?_
  have h := h  EV ⟨trivial⟩
  cbv
  refine ⟨imI hA fun e0 => have c0 : a0 = (0 : Int) := (by have q := (cmpE (op := .eql) hA e0); subst hA; exact q); (by rw [W.rr]; exact (by subst hA; exact (h.1 c0))), imI hA fun e0 => have c0 : a0 ≠ (0 : Int) := (by have q := (cmpE (op := .eql) hA e0); subst hA; exact q); ⟨imI hA fun e1 => have c1 : a1 ≠ (0 : Int) := (by have q := (cmpE (op := .eql) hA e1); subst hA; exact q); ⟨imI hA fun e2 => have c2 : a0 = (18446744073709551615 : Int) := (by have q := (cmpE (op := .eql) hA e2); subst hA; exact q); (by rw [W.rr]; exact (by subst hA; exact (((h.2 c0).1 c1).1 c2))), imI hA fun e2 => have c2 : a0 ≠ (18446744073709551615 : Int) := (by have q := (cmpE (op := .eql) hA e2); subst hA; exact q); ⟨ndI hA (by subst hA; exact (((h.2 c0).1 c1).2 c2).1), (by rw [W.rr]; exact (by subst hA; exact (((h.2 c0).1 c1).2 c2).2))⟩⟩, imI hA fun e1 => have c1 : a1 = (0 : Int) := (by have q := (cmpE (op := .eql) hA e1); subst hA; exact q); (by rw [W.rr]; exact (by subst hA; exact ((h.2 c0).2 c1)))⟩⟩

-- 41: signalbox/sat.Add
section
variable {Q : Nat → Rs → List Lf → Prop} {A : Ar} {CE : Nat → Rs → List Lf → (Nat → Rs → List Lf → Prop) → Prop} {CK : Nat → Rs → List Lf → Cont → Prop} {Dn : Nat → List Bool → List AItem → Nat → List Bool → List AV → List ABlk → Prop} {EV RR : Nat → Rs → List Lf → Prop}
end
structure V41 (EV Q : Nat → Rs → List Lf → Prop) : Prop where
  none : True

set_option maxHeartbeats 2000000 in
/-- To enter. -/
theorem E41 {Q : Nat → Rs → List Lf → Prop} {a0 : Int} {a1 : Int} (h : ∀ EV : Nat → Rs → List Lf → Prop, V41 EV Q →
    ((arS.c0 a0 a1) > (0 : Int) →
      Q 0 [] [(Lf.i (18446744073709551615 : Int))]) ∧
    ((arS.c0 a0 a1) ≤ (0 : Int) →
      Q 0 [] [(Lf.i (arS.s0 a0 a1))])) :
    EC Try.prog G41 [] [.i a0, .i a1] Q := by
  obtain ⟨A, hA⟩ : ∃ A, A = arS := ⟨_, rfl⟩
  refine Inst.enter (I := I41) hA mixed F41_at sg L41 80 rfl fun CE CK Dn EV RR W hp => ?_
  have h := h  EV ⟨trivial⟩
  cbv
  refine ⟨imI hA fun e0 => have c0 : (arS.c0 a0 a1) > (0 : Int) := (by have q := (cmpE (op := .gtr) hA e0); subst hA; exact q); (by rw [W.rr]; exact (by subst hA; exact (h.1 c0))), imI hA fun e0 => have c0 : (arS.c0 a0 a1) ≤ (0 : Int) := (by have q := (cmpE (op := .gtr) hA e0); subst hA; exact q); (by rw [W.rr]; exact (by subst hA; exact (h.2 c0)))⟩

-- 27: signalbox/preempt.Count
section
variable {Q : Nat → Rs → List Lf → Prop} {A : Ar} {CE : Nat → Rs → List Lf → (Nat → Rs → List Lf → Prop) → Prop} {CK : Nat → Rs → List Lf → Cont → Prop} {Dn : Nat → List Bool → List AItem → Nat → List Bool → List AV → List ABlk → Prop} {EV RR : Nat → Rs → List Lf → Prop}
set_option maxHeartbeats 2000000 in
theorem V27_p9 (W : Wk Try.prog Try.f27 I27 L27 Q A sg CE CK Dn EV RR) {R0 : List (List AV)} {t2 : Int} {t7 : Int} {t13 : Int} {t14 : Int} {tb0_0 : Int} {tb0_1 : Int} {tb0_2 : Int} {tb0_3 : Int} {tb0_4 : List (List AV)} {tb0_5 : Int} {tb0_6 : List (List AV)} {tb0_7 : List (List AV)} {tb0_8 : List (List AV)} {tb0_9 : List (List AV)} (h : pursS R0 = true → 
    (t14 < t13 →
      ((0 : Int) ≤ t14) ∧
      (t14 < (((List.length R0) : Nat) : Int)) ∧
      (R0[(Int.toNat t14)]? = some [(AV.int .i64 (cIS R0 (Int.toNat t14) 0))]) ∧
      ((0 : Int) ≤ (cIS R0 (Int.toNat t14) 0)) ∧
      (tb0_8[(Int.toNat (cIS R0 (Int.toNat t14) 0))]? = some [(AV.int .i64 (cIS tb0_8 (Int.toNat (cIS R0 (Int.toNat t14) 0)) 0)), (AV.int .i64 (cIS tb0_8 (Int.toNat (cIS R0 (Int.toNat t14) 0)) 1)), (AV.int .i64 (cIS tb0_8 (Int.toNat (cIS R0 (Int.toNat t14) 0)) 2)), (AV.int .i64 (cIS tb0_8 (Int.toNat (cIS R0 (Int.toNat t14) 0)) 3)), (AV.int .i64 (cIS tb0_8 (Int.toNat (cIS R0 (Int.toNat t14) 0)) 4)), (AV.int .i64 (cIS tb0_8 (Int.toNat (cIS R0 (Int.toNat t14) 0)) 5)), (AV.inl 3 (cRS tb0_8 (Int.toNat (cIS R0 (Int.toNat t14) 0)) 6))]) ∧
      (EC Try.prog G43 [] [(Lf.i (cIS tb0_8 (Int.toNat (cIS R0 (Int.toNat t14) 0)) 2))] (fun x rs vs => (x = 0 ∧ ∃ (y1_0 : Int), rs = [] ∧ vs = [.i y1_0] ∧
        (EC Try.prog G42 [] [(Lf.i t2), (Lf.i y1_0)] (fun x rs vs => (x = 0 ∧ ∃ (y2_0 : Int), rs = [] ∧ vs = [.i y2_0] ∧
            (EC Try.prog G41 [] [(Lf.i t7), (Lf.i y2_0)] (fun x rs vs => (x = 0 ∧ ∃ (y3_0 : Int), rs = [] ∧ vs = [.i y3_0] ∧
                (EV 9 [R0] [(Lf.i t2), (Lf.i y3_0), (Lf.i t13), (Lf.i (IntKind.wrap .i64 (t14 + (1 : Int)))), (Lf.i tb0_0), (Lf.i tb0_1), (Lf.i tb0_2), (Lf.i tb0_3), (Lf.r tb0_4), (Lf.i tb0_5), (Lf.r tb0_6), (Lf.r tb0_7), (Lf.r tb0_8), (Lf.r tb0_9)]))))))))))) ∧
    (t14 ≥ t13 →
      Q 0 [] [(Lf.i t7)])) :
    EV 9 [R0] [.i t2, .i t7, .i t13, .i t14, .i tb0_0, .i tb0_1, .i tb0_2, .i tb0_3, .r tb0_4, .i tb0_5, .r tb0_6, .r tb0_7, .r tb0_8, .r tb0_9] := by
  have hA := W.hA
  refine W.step 80 fun hp => ?_
  have h := h hp.1
  cbv
  refine ⟨imI hA fun e0 => have c0 : t14 < t13 := (by have q := (cmpE (op := .lss) hA e0); subst hA; exact q); ⟨ndI hA (And.intro (by subst hA; exact (h.1 c0).1) (And.intro (by subst hA; exact (h.1 c0).2.1) rfl)), ⟨ndI hA (And.intro rfl (by subst hA; show R0[(0 + (Int.toNat t14))]? = some [(AV.int .i64 (cIS R0 (0 + (Int.toNat t14)) 0))]; simp only [rappS_end, Nat.zero_add, Int.toNat_natCast]; exact (h.1 c0).2.2.1)), ⟨ndI hA (And.intro (by subst hA; show (0 : Int) ≤ (cIS R0 (0 + (Int.toNat t14)) 0); simp only [rappS_end, Nat.zero_add, Int.toNat_natCast]; exact (h.1 c0).2.2.2.1) (by subst hA; show tb0_8[(Int.toNat (cIS R0 (0 + (Int.toNat t14)) 0))]? = some [(AV.int .i64 (cIS tb0_8 (Int.toNat (cIS R0 (0 + (Int.toNat t14)) 0)) 0)), (AV.int .i64 (cIS tb0_8 (Int.toNat (cIS R0 (0 + (Int.toNat t14)) 0)) 1)), (AV.int .i64 (cIS tb0_8 (Int.toNat (cIS R0 (0 + (Int.toNat t14)) 0)) 2)), (AV.int .i64 (cIS tb0_8 (Int.toNat (cIS R0 (0 + (Int.toNat t14)) 0)) 3)), (AV.int .i64 (cIS tb0_8 (Int.toNat (cIS R0 (0 + (Int.toNat t14)) 0)) 4)), (AV.int .i64 (cIS tb0_8 (Int.toNat (cIS R0 (0 + (Int.toNat t14)) 0)) 5)), (AV.inl 3 (cRS tb0_8 (Int.toNat (cIS R0 (0 + (Int.toNat t14)) 0)) 6))]; simp only [rappS_end, Nat.zero_add, Int.toNat_natCast]; exact (h.1 c0).2.2.2.2.1)), ?_⟩⟩⟩, imI hA fun e0 => have c0 : t14 ≥ t13 := (by have q := (cmpE (op := .lss) hA e0); subst hA; exact q); (by rw [W.rr]; exact (by subst hA; exact (h.2 c0)))⟩
  · refine W.call 80 (by rfl) (h.1 c0).2.2.2.2.2 (by subst hA; show [] = []; simp only [rappS_end, Nat.zero_add, Int.toNat_natCast]) (by subst hA; show [(Lf.i (cIS tb0_8 (Int.toNat (cIS R0 (0 + (Int.toNat t14)) 0)) 2))] = [(Lf.i (cIS tb0_8 (Int.toNat (cIS R0 (Int.toNat t14) 0)) 2))]; simp only [rappS_end, Nat.zero_add, Int.toNat_natCast]) ?_
    rintro x rs vs hp1 hq1
    rcases hq1 with ⟨rfl, y1_0, rfl, rfl, k1⟩
    · cbv
      refine ?_
      · refine W.call 80 (by rfl) k1 (by subst hA; rfl) (by subst hA; rfl) ?_
        rintro x rs vs hp2 hq2
        rcases hq2 with ⟨rfl, y2_0, rfl, rfl, k2⟩
        · cbv
          refine ?_
          · refine W.call 80 (by rfl) k2 (by subst hA; rfl) (by subst hA; rfl) ?_
            rintro x rs vs hp3 hq3
            rcases hq3 with ⟨rfl, y3_0, rfl, rfl, k3⟩
            · cbv
              refine ⟨ndI hA (And.intro rfl (And.intro rfl rfl)), ⟨ndI hA (by subst hA; exact hp.1), (by subst hA; exact k3)⟩⟩

end
structure V27 (EV Q : Nat → Rs → List Lf → Prop) : Prop where
  p9 : ∀ {R0 : List (List AV)} {t2 : Int} {t7 : Int} {t13 : Int} {t14 : Int} {tb0_0 : Int} {tb0_1 : Int} {tb0_2 : Int} {tb0_3 : Int} {tb0_4 : List (List AV)} {tb0_5 : Int} {tb0_6 : List (List AV)} {tb0_7 : List (List AV)} {tb0_8 : List (List AV)} {tb0_9 : List (List AV)}, (pursS R0 = true → 
    (t14 < t13 →
      ((0 : Int) ≤ t14) ∧
      (t14 < (((List.length R0) : Nat) : Int)) ∧
      (R0[(Int.toNat t14)]? = some [(AV.int .i64 (cIS R0 (Int.toNat t14) 0))]) ∧
      ((0 : Int) ≤ (cIS R0 (Int.toNat t14) 0)) ∧
      (tb0_8[(Int.toNat (cIS R0 (Int.toNat t14) 0))]? = some [(AV.int .i64 (cIS tb0_8 (Int.toNat (cIS R0 (Int.toNat t14) 0)) 0)), (AV.int .i64 (cIS tb0_8 (Int.toNat (cIS R0 (Int.toNat t14) 0)) 1)), (AV.int .i64 (cIS tb0_8 (Int.toNat (cIS R0 (Int.toNat t14) 0)) 2)), (AV.int .i64 (cIS tb0_8 (Int.toNat (cIS R0 (Int.toNat t14) 0)) 3)), (AV.int .i64 (cIS tb0_8 (Int.toNat (cIS R0 (Int.toNat t14) 0)) 4)), (AV.int .i64 (cIS tb0_8 (Int.toNat (cIS R0 (Int.toNat t14) 0)) 5)), (AV.inl 3 (cRS tb0_8 (Int.toNat (cIS R0 (Int.toNat t14) 0)) 6))]) ∧
      (EC Try.prog G43 [] [(Lf.i (cIS tb0_8 (Int.toNat (cIS R0 (Int.toNat t14) 0)) 2))] (fun x rs vs => (x = 0 ∧ ∃ (y1_0 : Int), rs = [] ∧ vs = [.i y1_0] ∧
        (EC Try.prog G42 [] [(Lf.i t2), (Lf.i y1_0)] (fun x rs vs => (x = 0 ∧ ∃ (y2_0 : Int), rs = [] ∧ vs = [.i y2_0] ∧
            (EC Try.prog G41 [] [(Lf.i t7), (Lf.i y2_0)] (fun x rs vs => (x = 0 ∧ ∃ (y3_0 : Int), rs = [] ∧ vs = [.i y3_0] ∧
                (EV 9 [R0] [(Lf.i t2), (Lf.i y3_0), (Lf.i t13), (Lf.i (IntKind.wrap .i64 (t14 + (1 : Int)))), (Lf.i tb0_0), (Lf.i tb0_1), (Lf.i tb0_2), (Lf.i tb0_3), (Lf.r tb0_4), (Lf.i tb0_5), (Lf.r tb0_6), (Lf.r tb0_7), (Lf.r tb0_8), (Lf.r tb0_9)]))))))))))) ∧
    (t14 ≥ t13 →
      Q 0 [] [(Lf.i t7)])) →
    EV 9 [R0] [.i t2, .i t7, .i t13, .i t14, .i tb0_0, .i tb0_1, .i tb0_2, .i tb0_3, .r tb0_4, .i tb0_5, .r tb0_6, .r tb0_7, .r tb0_8, .r tb0_9]

set_option maxHeartbeats 2000000 in
/-- To enter. -/
theorem E27 {Q : Nat → Rs → List Lf → Prop} {a0_0 : Int} {a0_1 : Int} {a0_2 : Int} {a0_3 : Int} {a0_4 : List (List AV)} {a0_5 : Int} {a0_6 : List (List AV)} {a0_7 : List (List AV)} {a0_8 : List (List AV)} {a0_9 : List (List AV)} {a1 : Int} {a2 : Int} (h : ∀ EV : Nat → Rs → List Lf → Prop, V27 EV Q →
    EC Try.prog G40 [] [(Lf.i a0_0), (Lf.i a0_1), (Lf.i a0_2), (Lf.i a0_3), (Lf.r a0_4), (Lf.i a0_5), (Lf.r a0_6), (Lf.r a0_7), (Lf.r a0_8), (Lf.r a0_9), (Lf.i a1)] (fun x rs vs => (x = 0 ∧ ∃ (Y0_0 : List (List AV)), rs = [Y0_0] ∧ vs = [] ∧
      (EV 9 [Y0_0] [(Lf.i a2), (Lf.i (0 : Int)), (Lf.i (((List.length Y0_0) : Nat) : Int)), (Lf.i (0 : Int)), (Lf.i a0_0), (Lf.i a0_1), (Lf.i a0_2), (Lf.i a0_3), (Lf.r a0_4), (Lf.i a0_5), (Lf.r a0_6), (Lf.r a0_7), (Lf.r a0_8), (Lf.r a0_9)])))) :
    EC Try.prog G27 [] [.i a0_0, .i a0_1, .i a0_2, .i a0_3, .r a0_4, .i a0_5, .r a0_6, .r a0_7, .r a0_8, .r a0_9, .i a1, .i a2] Q := by
  obtain ⟨A, hA⟩ : ∃ A, A = arS := ⟨_, rfl⟩
  refine Inst.enter (I := I27) hA mixed F27_at sg L27 80 rfl fun CE CK Dn EV RR W hp => ?_
  have h := h  EV ⟨V27_p9 W⟩
  cbv
  refine ?_
  · refine W.call 80 (by rfl) h (by subst hA; rfl) (by subst hA; rfl) ?_
    rintro x rs vs hp0 hq0
    rcases hq0 with ⟨rfl, Y0_0, rfl, rfl, k0⟩
    · cbv
      refine ⟨ndI hA rfl, ⟨ndI hA (And.intro rfl (And.intro rfl rfl)), ⟨ndI hA (by subst hA; exact hp0.1), (by subst hA; exact k0)⟩⟩⟩

-- 44: signalbox/preempt.is
section
variable {Q : Nat → Rs → List Lf → Prop} {A : Ar} {CE : Nat → Rs → List Lf → (Nat → Rs → List Lf → Prop) → Prop} {CK : Nat → Rs → List Lf → Cont → Prop} {Dn : Nat → List Bool → List AItem → Nat → List Bool → List AV → List ABlk → Prop} {EV RR : Nat → Rs → List Lf → Prop}
end
structure V44 (EV Q : Nat → Rs → List Lf → Prop) : Prop where
  none : True

set_option maxHeartbeats 2000000 in
/-- To enter. -/
theorem E44 {Q : Nat → Rs → List Lf → Prop} {a0_0 : Int} {a0_1 : Int} {a0_2 : Int} {a0_3 : Int} {a0_4 : List (List AV)} {a0_5 : Int} {a0_6 : List (List AV)} {a0_7 : List (List AV)} {a0_8 : List (List AV)} {a0_9 : List (List AV)} {a1 : Int} (h : ∀ EV : Nat → Rs → List Lf → Prop, V44 EV Q →
    (a1 ≥ (0 : Int) →
      Q 0 [] [(Lf.b (decide (a1 < (((List.length a0_8) : Nat) : Int))))]) ∧
    (a1 < (0 : Int) →
      Q 0 [] [(Lf.b false)])) :
    EC Try.prog G44 [] [.i a0_0, .i a0_1, .i a0_2, .i a0_3, .r a0_4, .i a0_5, .r a0_6, .r a0_7, .r a0_8, .r a0_9, .i a1] Q := by
  obtain ⟨A, hA⟩ : ∃ A, A = arS := ⟨_, rfl⟩
  refine Inst.enter (I := I44) hA mixed F44_at sg L44 80 rfl fun CE CK Dn EV RR W hp => ?_
  have h := h  EV ⟨trivial⟩
  cbv
  refine ⟨imI hA fun e0 => have c0 : a1 ≥ (0 : Int) := (by have q := (cmpE (op := .geq) hA e0); subst hA; exact q); (by rw [W.rr]; exact (by subst hA; exact (h.1 c0))), imI hA fun e0 => have c0 : a1 < (0 : Int) := (by have q := (cmpE (op := .geq) hA e0); subst hA; exact q); (by rw [W.rr]; exact (by subst hA; exact (h.2 c0)))⟩

-- 49: signalbox/preempt.Lower$1
section
variable {Q : Nat → Rs → List Lf → Prop} {A : Ar} {CE : Nat → Rs → List Lf → (Nat → Rs → List Lf → Prop) → Prop} {CK : Nat → Rs → List Lf → Cont → Prop} {Dn : Nat → List Bool → List AItem → Nat → List Bool → List AV → List ABlk → Prop} {EV RR : Nat → Rs → List Lf → Prop}
end
structure V49 (EV Q : Nat → Rs → List Lf → Prop) : Prop where
  none : True

set_option maxHeartbeats 2000000 in
/-- To enter. -/
theorem E49 {Q : Nat → Rs → List Lf → Prop} {a0_0 : Int} {a0_1 : Int} {a0_2 : Int} {a0_3 : Int} {a0_4 : Int} {a0_5 : Int} {a0_6 : List (List AV)} {a1_0 : Int} {a1_1 : Int} {a1_2 : Int} {a1_3 : Int} {a1_4 : Int} {a1_5 : Int} {a1_6 : List (List AV)} (h : ∀ EV : Nat → Rs → List Lf → Prop, V49 EV Q →
    Q 0 [] [(Lf.b (decide (a0_0 < a1_0)))]) :
    EC Try.prog G49 [] [.i a0_0, .i a0_1, .i a0_2, .i a0_3, .i a0_4, .i a0_5, .r a0_6, .i a1_0, .i a1_1, .i a1_2, .i a1_3, .i a1_4, .i a1_5, .r a1_6] Q := by
  obtain ⟨A, hA⟩ : ∃ A, A = arS := ⟨_, rfl⟩
  refine Inst.enter (I := I49) hA mixed F49_at sg L49 80 rfl fun CE CK Dn EV RR W hp => ?_
  have h := h  EV ⟨trivial⟩
  cbv
  refine (by rw [W.rr]; exact (by subst hA; exact h))

-- 48: signalbox/preempt.some DRAWN
section
variable {Q : Nat → Rs → List Lf → Prop} {A : Ar} {CE : Nat → Rs → List Lf → (Nat → Rs → List Lf → Prop) → Prop} {CK : Nat → Rs → List Lf → Cont → Prop} {Dn : Nat → List Bool → List AItem → Nat → List Bool → List AV → List ABlk → Prop} {EV RR : Nat → Rs → List Lf → Prop}
set_option maxHeartbeats 2000000 in
theorem V48_p17 (W : Wk Try.prog Try.f48 I48 L48 Q A sg CE CK Dn EV RR) {R0 : List (List AV)} {t1 : Int} {t15 : List (List AV)} {t16 : Int} {t17 : Int} {tb0_0 : Int} {tb0_1 : Int} {tb0_2 : Int} {tb0_3 : Int} {tb0_4 : List (List AV)} {tb0_5 : Int} {tb0_6 : List (List AV)} {tb0_7 : List (List AV)} {tb0_8 : List (List AV)} {tb0_9 : List (List AV)} (h : pursS R0 = true → 
    (t17 < t16 →
      ((0 : Int) ≤ t17) ∧
      (t15[(Int.toNat t17)]? = some [(AV.int .i64 (cIS t15 (Int.toNat t17) 0)), (AV.int .i64 (cIS t15 (Int.toNat t17) 1)), (AV.int .i64 (cIS t15 (Int.toNat t17) 2)), (AV.int .i64 (cIS t15 (Int.toNat t17) 3)), (AV.int .i64 (cIS t15 (Int.toNat t17) 4)), (AV.int .i64 (cIS t15 (Int.toNat t17) 5)), (AV.inl 3 (cRS t15 (Int.toNat t17) 6))]) ∧
      ((0 : Int) ≤ t1) ∧
      (tb0_8[(Int.toNat t1)]? = some [(AV.int .i64 (cIS tb0_8 (Int.toNat t1) 0)), (AV.int .i64 (cIS tb0_8 (Int.toNat t1) 1)), (AV.int .i64 (cIS tb0_8 (Int.toNat t1) 2)), (AV.int .i64 (cIS tb0_8 (Int.toNat t1) 3)), (AV.int .i64 (cIS tb0_8 (Int.toNat t1) 4)), (AV.int .i64 (cIS tb0_8 (Int.toNat t1) 5)), (AV.inl 3 (cRS tb0_8 (Int.toNat t1) 6))]) ∧
      (EC Try.prog G49 [] [(Lf.i (cIS t15 (Int.toNat t17) 0)), (Lf.i (cIS t15 (Int.toNat t17) 1)), (Lf.i (cIS t15 (Int.toNat t17) 2)), (Lf.i (cIS t15 (Int.toNat t17) 3)), (Lf.i (cIS t15 (Int.toNat t17) 4)), (Lf.i (cIS t15 (Int.toNat t17) 5)), (Lf.r (cRS t15 (Int.toNat t17) 6)), (Lf.i (cIS tb0_8 (Int.toNat t1) 0)), (Lf.i (cIS tb0_8 (Int.toNat t1) 1)), (Lf.i (cIS tb0_8 (Int.toNat t1) 2)), (Lf.i (cIS tb0_8 (Int.toNat t1) 3)), (Lf.i (cIS tb0_8 (Int.toNat t1) 4)), (Lf.i (cIS tb0_8 (Int.toNat t1) 5)), (Lf.r (cRS tb0_8 (Int.toNat t1) 6))] (fun x rs vs => (x = 0 ∧ ∃ (y1_0 : Bool), rs = [] ∧ vs = [.b y1_0] ∧
        ((y1_0 = true →
            (((List.length R0) + 1) ≤ 140737488355328) ∧
            ((((List.length R0) + 1) * 8) ≤ 140737488355328) ∧
            (EV 17 [(R0 ++ [[(AV.int .i64 t17)]])] [(Lf.i t1), (Lf.r t15), (Lf.i t16), (Lf.i (IntKind.wrap .i64 (t17 + (1 : Int)))), (Lf.i tb0_0), (Lf.i tb0_1), (Lf.i tb0_2), (Lf.i tb0_3), (Lf.r tb0_4), (Lf.i tb0_5), (Lf.r tb0_6), (Lf.r tb0_7), (Lf.r tb0_8), (Lf.r tb0_9)])) ∧
          (y1_0 = false →
            EV 17 [R0] [(Lf.i t1), (Lf.r t15), (Lf.i t16), (Lf.i (IntKind.wrap .i64 (t17 + (1 : Int)))), (Lf.i tb0_0), (Lf.i tb0_1), (Lf.i tb0_2), (Lf.i tb0_3), (Lf.r tb0_4), (Lf.i tb0_5), (Lf.r tb0_6), (Lf.r tb0_7), (Lf.r tb0_8), (Lf.r tb0_9)])))))) ∧
    (t17 ≥ t16 →
      Q 0 [R0] [])) :
    EV 17 [R0] [.i t1, .r t15, .i t16, .i t17, .i tb0_0, .i tb0_1, .i tb0_2, .i tb0_3, .r tb0_4, .i tb0_5, .r tb0_6, .r tb0_7, .r tb0_8, .r tb0_9] := by
  have hA := W.hA
  refine W.step 80 fun hp => ?_
  have h := h hp.1
  cbv
  refine ⟨imI hA fun e0 => have c0 : t17 < t16 := (by have q := (cmpE (op := .lss) hA e0); subst hA; exact q); ⟨ndI hA (And.intro (by subst hA; exact (h.1 c0).1) (by subst hA; exact (h.1 c0).2.1)), ⟨ndI hA (And.intro (by subst hA; exact (h.1 c0).2.2.1) (by subst hA; exact (h.1 c0).2.2.2.1)), ⟨?_, trivial⟩⟩⟩, imI hA fun e0 => have c0 : t17 ≥ t16 := (by have q := (cmpE (op := .lss) hA e0); subst hA; exact q); ⟨ndI hA (And.intro rfl (And.intro rfl rfl)), ⟨ndI hA (by subst hA; exact hp.1), (by rw [W.rr]; exact (by subst hA; exact (h.2 c0)))⟩⟩⟩
  · refine W.callD (by rfl) (h.1 c0).2.2.2.2 (by subst hA; rfl) (by subst hA; rfl) ?_
    rintro x rs vs hp1 hq1
    rcases hq1 with ⟨rfl, y1_0, rfl, rfl, k1⟩
    · cbv
      refine ?_
      · refine W.draw 80 (by rfl) ?_
        cbv
        refine ⟨imI hA fun e2 => have c2 : y1_0 = true := (by have q := e2; subst hA; exact q); ⟨ndI hA (And.intro rfl (And.intro (Nat.le_refl _) (And.intro (by subst hA; exact (k1.1 c2).1) (by subst hA; exact (k1.1 c2).2.1)))), ⟨ndI hA (And.intro rfl (And.intro rfl (by subst hA; show ((List.length R0) + 1) = (List.length (rappS R0 (List.length R0) [[(AV.int .i64 t17)]])); (first | rfl | simp [rappS_end] | (simp only [rappS_end, List.length_append, List.length_set, List.length_cons, List.length_nil]; omega))))), ⟨ndI hA (by subst hA; exact (vapp hp.1 vpur)), (by subst hA; show EV 17 [(rappS R0 (List.length R0) [[(AV.int .i64 t17)]])] [(Lf.i t1), (Lf.r t15), (Lf.i t16), (Lf.i (IntKind.wrap .i64 (t17 + (1 : Int)))), (Lf.i tb0_0), (Lf.i tb0_1), (Lf.i tb0_2), (Lf.i tb0_3), (Lf.r tb0_4), (Lf.i tb0_5), (Lf.r tb0_6), (Lf.r tb0_7), (Lf.r tb0_8), (Lf.r tb0_9)]; simp only [rappS_end, Nat.zero_add, Int.toNat_natCast]; exact (k1.1 c2).2.2)⟩⟩⟩, imI hA fun e2 => have c2 : y1_0 = false := (by have q := e2; subst hA; exact q); ⟨ndI hA (And.intro rfl (And.intro rfl rfl)), ⟨ndI hA (by subst hA; exact hp.1), (by subst hA; exact (k1.2 c2))⟩⟩⟩

end
structure V48 (EV Q : Nat → Rs → List Lf → Prop) : Prop where
  p17 : ∀ {R0 : List (List AV)} {t1 : Int} {t15 : List (List AV)} {t16 : Int} {t17 : Int} {tb0_0 : Int} {tb0_1 : Int} {tb0_2 : Int} {tb0_3 : Int} {tb0_4 : List (List AV)} {tb0_5 : Int} {tb0_6 : List (List AV)} {tb0_7 : List (List AV)} {tb0_8 : List (List AV)} {tb0_9 : List (List AV)}, (pursS R0 = true → 
    (t17 < t16 →
      ((0 : Int) ≤ t17) ∧
      (t15[(Int.toNat t17)]? = some [(AV.int .i64 (cIS t15 (Int.toNat t17) 0)), (AV.int .i64 (cIS t15 (Int.toNat t17) 1)), (AV.int .i64 (cIS t15 (Int.toNat t17) 2)), (AV.int .i64 (cIS t15 (Int.toNat t17) 3)), (AV.int .i64 (cIS t15 (Int.toNat t17) 4)), (AV.int .i64 (cIS t15 (Int.toNat t17) 5)), (AV.inl 3 (cRS t15 (Int.toNat t17) 6))]) ∧
      ((0 : Int) ≤ t1) ∧
      (tb0_8[(Int.toNat t1)]? = some [(AV.int .i64 (cIS tb0_8 (Int.toNat t1) 0)), (AV.int .i64 (cIS tb0_8 (Int.toNat t1) 1)), (AV.int .i64 (cIS tb0_8 (Int.toNat t1) 2)), (AV.int .i64 (cIS tb0_8 (Int.toNat t1) 3)), (AV.int .i64 (cIS tb0_8 (Int.toNat t1) 4)), (AV.int .i64 (cIS tb0_8 (Int.toNat t1) 5)), (AV.inl 3 (cRS tb0_8 (Int.toNat t1) 6))]) ∧
      (EC Try.prog G49 [] [(Lf.i (cIS t15 (Int.toNat t17) 0)), (Lf.i (cIS t15 (Int.toNat t17) 1)), (Lf.i (cIS t15 (Int.toNat t17) 2)), (Lf.i (cIS t15 (Int.toNat t17) 3)), (Lf.i (cIS t15 (Int.toNat t17) 4)), (Lf.i (cIS t15 (Int.toNat t17) 5)), (Lf.r (cRS t15 (Int.toNat t17) 6)), (Lf.i (cIS tb0_8 (Int.toNat t1) 0)), (Lf.i (cIS tb0_8 (Int.toNat t1) 1)), (Lf.i (cIS tb0_8 (Int.toNat t1) 2)), (Lf.i (cIS tb0_8 (Int.toNat t1) 3)), (Lf.i (cIS tb0_8 (Int.toNat t1) 4)), (Lf.i (cIS tb0_8 (Int.toNat t1) 5)), (Lf.r (cRS tb0_8 (Int.toNat t1) 6))] (fun x rs vs => (x = 0 ∧ ∃ (y1_0 : Bool), rs = [] ∧ vs = [.b y1_0] ∧
        ((y1_0 = true →
            (((List.length R0) + 1) ≤ 140737488355328) ∧
            ((((List.length R0) + 1) * 8) ≤ 140737488355328) ∧
            (EV 17 [(R0 ++ [[(AV.int .i64 t17)]])] [(Lf.i t1), (Lf.r t15), (Lf.i t16), (Lf.i (IntKind.wrap .i64 (t17 + (1 : Int)))), (Lf.i tb0_0), (Lf.i tb0_1), (Lf.i tb0_2), (Lf.i tb0_3), (Lf.r tb0_4), (Lf.i tb0_5), (Lf.r tb0_6), (Lf.r tb0_7), (Lf.r tb0_8), (Lf.r tb0_9)])) ∧
          (y1_0 = false →
            EV 17 [R0] [(Lf.i t1), (Lf.r t15), (Lf.i t16), (Lf.i (IntKind.wrap .i64 (t17 + (1 : Int)))), (Lf.i tb0_0), (Lf.i tb0_1), (Lf.i tb0_2), (Lf.i tb0_3), (Lf.r tb0_4), (Lf.i tb0_5), (Lf.r tb0_6), (Lf.r tb0_7), (Lf.r tb0_8), (Lf.r tb0_9)])))))) ∧
    (t17 ≥ t16 →
      Q 0 [R0] [])) →
    EV 17 [R0] [.i t1, .r t15, .i t16, .i t17, .i tb0_0, .i tb0_1, .i tb0_2, .i tb0_3, .r tb0_4, .i tb0_5, .r tb0_6, .r tb0_7, .r tb0_8, .r tb0_9]

set_option maxHeartbeats 2000000 in
/-- To enter. -/
theorem E48 {Q : Nat → Rs → List Lf → Prop} {a0_0 : Int} {a0_1 : Int} {a0_2 : Int} {a0_3 : Int} {a0_4 : List (List AV)} {a0_5 : Int} {a0_6 : List (List AV)} {a0_7 : List (List AV)} {a0_8 : List (List AV)} {a0_9 : List (List AV)} {a1 : Int} (h : ∀ EV : Nat → Rs → List Lf → Prop, V48 EV Q →
    EC Try.prog G44 [] [(Lf.i a0_0), (Lf.i a0_1), (Lf.i a0_2), (Lf.i a0_3), (Lf.r a0_4), (Lf.i a0_5), (Lf.r a0_6), (Lf.r a0_7), (Lf.r a0_8), (Lf.r a0_9), (Lf.i a1)] (fun x rs vs => (x = 0 ∧ ∃ (y0_0 : Bool), rs = [] ∧ vs = [.b y0_0] ∧
      ((y0_0 = false →
          Q 0 [[]] []) ∧
        (y0_0 = true →
          EV 17 [[]] [(Lf.i a1), (Lf.r a0_8), (Lf.i (((List.length a0_8) : Nat) : Int)), (Lf.i (0 : Int)), (Lf.i a0_0), (Lf.i a0_1), (Lf.i a0_2), (Lf.i a0_3), (Lf.r a0_4), (Lf.i a0_5), (Lf.r a0_6), (Lf.r a0_7), (Lf.r a0_8), (Lf.r a0_9)]))))) :
    EC Try.prog G48 [] [.i a0_0, .i a0_1, .i a0_2, .i a0_3, .r a0_4, .i a0_5, .r a0_6, .r a0_7, .r a0_8, .r a0_9, .i a1] Q := by
  obtain ⟨A, hA⟩ : ∃ A, A = arS := ⟨_, rfl⟩
  refine Inst.enter (I := I48) hA mixed F48_at sg L48 80 rfl fun CE CK Dn EV RR W hp => ?_
  have h := h  EV ⟨V48_p17 W⟩
  cbv
  refine ?_
  · refine W.call 80 (by rfl) h (by subst hA; rfl) (by subst hA; rfl) ?_
    rintro x rs vs hp0 hq0
    rcases hq0 with ⟨rfl, y0_0, rfl, rfl, k0⟩
    · cbv
      refine ⟨imI hA fun e1 => have c1 : y0_0 = false := (by have q := (notE hA e1); subst hA; exact q); ⟨ndI hA (And.intro (by subst hA; show 0 = 0; (first | rfl | simp [rappS_end] | (simp only [rappS_end, List.length_append, List.length_set, List.length_cons, List.length_nil]; omega))) (And.intro rfl (by subst hA; show 0 = 0; (first | rfl | simp [rappS_end] | (simp only [rappS_end, List.length_append, List.length_set, List.length_cons, List.length_nil]; omega))))), ⟨ndI hA (by subst hA; exact vpur), (by rw [W.rr]; exact (by subst hA; exact (k0.1 c1)))⟩⟩, imI hA fun e1 => have c1 : y0_0 = true := (by have q := (notE hA e1); subst hA; exact q); ⟨ndI hA (And.intro (by subst hA; show 0 = 0; (first | rfl | simp [rappS_end] | (simp only [rappS_end, List.length_append, List.length_set, List.length_cons, List.length_nil]; omega))) (And.intro rfl (by subst hA; show 0 = 0; (first | rfl | simp [rappS_end] | (simp only [rappS_end, List.length_append, List.length_set, List.length_cons, List.length_nil]; omega))))), ⟨ndI hA (by subst hA; exact vpur), (by subst hA; exact (k0.2 c1))⟩⟩⟩

-- 30: signalbox/preempt.Lower
section
variable {Q : Nat → Rs → List Lf → Prop} {A : Ar} {CE : Nat → Rs → List Lf → (Nat → Rs → List Lf → Prop) → Prop} {CK : Nat → Rs → List Lf → Cont → Prop} {Dn : Nat → List Bool → List AItem → Nat → List Bool → List AV → List ABlk → Prop} {EV RR : Nat → Rs → List Lf → Prop}
end
structure V30 (EV Q : Nat → Rs → List Lf → Prop) : Prop where
  none : True

set_option maxHeartbeats 2000000 in
/-- To enter. -/
theorem E30 {Q : Nat → Rs → List Lf → Prop} {a0_0 : Int} {a0_1 : Int} {a0_2 : Int} {a0_3 : Int} {a0_4 : List (List AV)} {a0_5 : Int} {a0_6 : List (List AV)} {a0_7 : List (List AV)} {a0_8 : List (List AV)} {a0_9 : List (List AV)} {a1 : Int} (h : ∀ EV : Nat → Rs → List Lf → Prop, V30 EV Q →
    EC Try.prog G48 [] [(Lf.i a0_0), (Lf.i a0_1), (Lf.i a0_2), (Lf.i a0_3), (Lf.r a0_4), (Lf.i a0_5), (Lf.r a0_6), (Lf.r a0_7), (Lf.r a0_8), (Lf.r a0_9), (Lf.i a1)] (fun x rs vs => (x = 0 ∧ ∃ (Y0_0 : List (List AV)), rs = [Y0_0] ∧ vs = [] ∧
      (Q 0 [Y0_0] [])))) :
    EC Try.prog G30 [] [.i a0_0, .i a0_1, .i a0_2, .i a0_3, .r a0_4, .i a0_5, .r a0_6, .r a0_7, .r a0_8, .r a0_9, .i a1] Q := by
  obtain ⟨A, hA⟩ : ∃ A, A = arS := ⟨_, rfl⟩
  refine Inst.enter (I := I30) hA mixed F30_at sg L30 80 rfl fun CE CK Dn EV RR W hp => ?_
  have h := h  EV ⟨trivial⟩
  cbv
  refine ?_
  · refine W.call 80 (by rfl) h (by subst hA; rfl) (by subst hA; rfl) ?_
    rintro x rs vs hp0 hq0
    rcases hq0 with ⟨rfl, Y0_0, rfl, rfl, k0⟩
    · cbv
      refine ⟨ndI hA (And.intro rfl (And.intro rfl rfl)), ⟨ndI hA (by subst hA; exact hp0.1), (by rw [W.rr]; exact (by subst hA; exact k0))⟩⟩

-- 68: signalbox/cost.clamp
section
variable {Q : Nat → Rs → List Lf → Prop} {A : Ar} {CE : Nat → Rs → List Lf → (Nat → Rs → List Lf → Prop) → Prop} {CK : Nat → Rs → List Lf → Cont → Prop} {Dn : Nat → List Bool → List AItem → Nat → List Bool → List AV → List ABlk → Prop} {EV RR : Nat → Rs → List Lf → Prop}
end
structure V68 (EV Q : Nat → Rs → List Lf → Prop) : Prop where
  none : True

set_option maxHeartbeats 2000000 in
/-- To enter. -/
theorem E68 {Q : Nat → Rs → List Lf → Prop} {a0 : Int} (h : ∀ EV : Nat → Rs → List Lf → Prop, V68 EV Q →
    Q 0 [] [(Lf.i (arS.mn (arS.mx a0 (0 : Int)) (1073741824 : Int)))]) :
    EC Try.prog G68 [] [.i a0] Q := by
  obtain ⟨A, hA⟩ : ∃ A, A = arS := ⟨_, rfl⟩
  refine Inst.enter (I := I68) hA mixed F68_at sg L68 80 rfl fun CE CK Dn EV RR W hp => ?_
  have h := h  EV ⟨trivial⟩
  cbv
  refine (by rw [W.rr]; exact (by subst hA; exact h))

-- 63: signalbox/cost.Of
section
variable {Q : Nat → Rs → List Lf → Prop} {A : Ar} {CE : Nat → Rs → List Lf → (Nat → Rs → List Lf → Prop) → Prop} {CK : Nat → Rs → List Lf → Cont → Prop} {Dn : Nat → List Bool → List AItem → Nat → List Bool → List AV → List ABlk → Prop} {EV RR : Nat → Rs → List Lf → Prop}
end
structure V63 (EV Q : Nat → Rs → List Lf → Prop) : Prop where
  none : True

set_option maxHeartbeats 2000000 in
/-- To enter. -/
theorem E63 {Q : Nat → Rs → List Lf → Prop} {a0_0 : Int} {a0_1 : Int} {a0_2 : Int} {a1_0 : Int} {a1_1 : Int} {a1_2 : Int} {a1_3 : Int} {a2 : Bool} (h : ∀ EV : Nat → Rs → List Lf → Prop, V63 EV Q →
    (a0_0 = (1 : Int) →
      EC Try.prog G68 [] [(Lf.i a0_1)] (fun x rs vs => (x = 0 ∧ ∃ (y1_0 : Int), rs = [] ∧ vs = [.i y1_0] ∧
        (Q 0 [] [(Lf.i y1_0)])))) ∧
    (a0_0 ≠ (1 : Int) →
      (a0_0 ≠ (2 : Int) →
        Q 0 [] [(Lf.i (1 : Int))]) ∧
      (a0_0 = (2 : Int) →
        (a2 = true →
          EC Try.prog G68 [] [(Lf.i a1_2)] (fun x rs vs => (x = 0 ∧ ∃ (y3_0 : Int), rs = [] ∧ vs = [.i y3_0] ∧
            (Q 0 [] [(Lf.i y3_0)])))) ∧
        (a2 = false →
          EC Try.prog G68 [] [(Lf.i a1_3)] (fun x rs vs => (x = 0 ∧ ∃ (y3_0 : Int), rs = [] ∧ vs = [.i y3_0] ∧
            (Q 0 [] [(Lf.i y3_0)]))))))) :
    EC Try.prog G63 [] [.i a0_0, .i a0_1, .i a0_2, .i a1_0, .i a1_1, .i a1_2, .i a1_3, .b a2] Q := by
  obtain ⟨A, hA⟩ : ∃ A, A = arS := ⟨_, rfl⟩
  refine Inst.enter (I := I63) hA mixed F63_at sg L63 80 rfl fun CE CK Dn EV RR W hp => ?_
  have h := h  EV ⟨trivial⟩
  cbv
  refine ⟨imI hA fun e0 => have c0 : a0_0 = (1 : Int) := (by have q := (cmpE (op := .eql) hA e0); subst hA; exact q); ?_, imI hA fun e0 => have c0 : a0_0 ≠ (1 : Int) := (by have q := (cmpE (op := .eql) hA e0); subst hA; exact q); ⟨imI hA fun e1 => have c1 : a0_0 ≠ (2 : Int) := (by have q := (cmpE (op := .neq) hA e1); subst hA; exact q); (by rw [W.rr]; exact (by subst hA; exact ((h.2 c0).1 c1))), imI hA fun e1 => have c1 : a0_0 = (2 : Int) := (by have q := (cmpE (op := .neq) hA e1); subst hA; exact q); ⟨imI hA fun e2 => have c2 : a2 = true := (by have q := e2; subst hA; exact q); ?_, imI hA fun e2 => have c2 : a2 = false := (by have q := e2; subst hA; exact q); ?_⟩⟩⟩
  · refine W.call 80 (by rfl) (h.1 c0) (by subst hA; rfl) (by subst hA; rfl) ?_
    rintro x rs vs hp1 hq1
    rcases hq1 with ⟨rfl, y1_0, rfl, rfl, k1⟩
    · cbv
      refine (by rw [W.rr]; exact (by subst hA; exact k1))
  · refine W.call 80 (by rfl) (((h.2 c0).2 c1).1 c2) (by subst hA; rfl) (by subst hA; rfl) ?_
    rintro x rs vs hp3 hq3
    rcases hq3 with ⟨rfl, y3_0, rfl, rfl, k3⟩
    · cbv
      refine (by rw [W.rr]; exact (by subst hA; exact k3))
  · refine W.call 80 (by rfl) (((h.2 c0).2 c1).2 c2) (by subst hA; rfl) (by subst hA; rfl) ?_
    rintro x rs vs hp3 hq3
    rcases hq3 with ⟨rfl, y3_0, rfl, rfl, k3⟩
    · cbv
      refine (by rw [W.rr]; exact (by subst hA; exact k3))

-- 61: signalbox/cost.sum
section
variable {Q : Nat → Rs → List Lf → Prop} {A : Ar} {CE : Nat → Rs → List Lf → (Nat → Rs → List Lf → Prop) → Prop} {CK : Nat → Rs → List Lf → Cont → Prop} {Dn : Nat → List Bool → List AItem → Nat → List Bool → List AV → List ABlk → Prop} {EV RR : Nat → Rs → List Lf → Prop}
set_option maxHeartbeats 2000000 in
theorem V61_p9 (W : Wk Try.prog Try.f61 I61 L61 Q A sg CE CK Dn EV RR) {t2 : Bool} {t7 : Int} {t10 : List (List AV)} {t11 : Int} {t12 : Int} {tb0_0 : Int} {tb0_1 : Int} {tb0_2 : Int} {tb0_3 : Int} (h : 
    (t12 < t11 →
      ((0 : Int) ≤ t12) ∧
      (t10[(Int.toNat t12)]? = some [(AV.int .i64 (cIS t10 (Int.toNat t12) 0)), (AV.int .i64 (cIS t10 (Int.toNat t12) 1)), (AV.int .i64 (cIS t10 (Int.toNat t12) 2))]) ∧
      (EC Try.prog G63 [] [(Lf.i (cIS t10 (Int.toNat t12) 0)), (Lf.i (cIS t10 (Int.toNat t12) 1)), (Lf.i (cIS t10 (Int.toNat t12) 2)), (Lf.i tb0_0), (Lf.i tb0_1), (Lf.i tb0_2), (Lf.i tb0_3), (Lf.b t2)] (fun x rs vs => (x = 0 ∧ ∃ (y1_0 : Int), rs = [] ∧ vs = [.i y1_0] ∧
        (EV 9 [] [(Lf.b t2), (Lf.i (IntKind.wrap .i64 (t7 + y1_0))), (Lf.r t10), (Lf.i t11), (Lf.i (IntKind.wrap .i64 (t12 + (1 : Int)))), (Lf.i tb0_0), (Lf.i tb0_1), (Lf.i tb0_2), (Lf.i tb0_3)]))))) ∧
    (t12 ≥ t11 →
      Q 0 [] [(Lf.i t7)])) :
    EV 9 [] [.b t2, .i t7, .r t10, .i t11, .i t12, .i tb0_0, .i tb0_1, .i tb0_2, .i tb0_3] := by
  have hA := W.hA
  refine W.step 80 fun hp => ?_
  cbv
  refine ⟨imI hA fun e0 => have c0 : t12 < t11 := (by have q := (cmpE (op := .lss) hA e0); subst hA; exact q); ⟨ndI hA (And.intro (by subst hA; exact (h.1 c0).1) (by subst hA; exact (h.1 c0).2.1)), ?_⟩, imI hA fun e0 => have c0 : t12 ≥ t11 := (by have q := (cmpE (op := .lss) hA e0); subst hA; exact q); (by rw [W.rr]; exact (by subst hA; exact (h.2 c0)))⟩
  · refine W.call 80 (by rfl) (h.1 c0).2.2 (by subst hA; rfl) (by subst hA; rfl) ?_
    rintro x rs vs hp1 hq1
    rcases hq1 with ⟨rfl, y1_0, rfl, rfl, k1⟩
    · cbv
      refine (by subst hA; exact k1)

end
structure V61 (EV Q : Nat → Rs → List Lf → Prop) : Prop where
  p9 : ∀ {t2 : Bool} {t7 : Int} {t10 : List (List AV)} {t11 : Int} {t12 : Int} {tb0_0 : Int} {tb0_1 : Int} {tb0_2 : Int} {tb0_3 : Int}, (
    (t12 < t11 →
      ((0 : Int) ≤ t12) ∧
      (t10[(Int.toNat t12)]? = some [(AV.int .i64 (cIS t10 (Int.toNat t12) 0)), (AV.int .i64 (cIS t10 (Int.toNat t12) 1)), (AV.int .i64 (cIS t10 (Int.toNat t12) 2))]) ∧
      (EC Try.prog G63 [] [(Lf.i (cIS t10 (Int.toNat t12) 0)), (Lf.i (cIS t10 (Int.toNat t12) 1)), (Lf.i (cIS t10 (Int.toNat t12) 2)), (Lf.i tb0_0), (Lf.i tb0_1), (Lf.i tb0_2), (Lf.i tb0_3), (Lf.b t2)] (fun x rs vs => (x = 0 ∧ ∃ (y1_0 : Int), rs = [] ∧ vs = [.i y1_0] ∧
        (EV 9 [] [(Lf.b t2), (Lf.i (IntKind.wrap .i64 (t7 + y1_0))), (Lf.r t10), (Lf.i t11), (Lf.i (IntKind.wrap .i64 (t12 + (1 : Int)))), (Lf.i tb0_0), (Lf.i tb0_1), (Lf.i tb0_2), (Lf.i tb0_3)]))))) ∧
    (t12 ≥ t11 →
      Q 0 [] [(Lf.i t7)])) →
    EV 9 [] [.b t2, .i t7, .r t10, .i t11, .i t12, .i tb0_0, .i tb0_1, .i tb0_2, .i tb0_3]

set_option maxHeartbeats 2000000 in
/-- To enter. -/
theorem E61 {Q : Nat → Rs → List Lf → Prop} {a0 : List (List AV)} {a1_0 : Int} {a1_1 : Int} {a1_2 : Int} {a1_3 : Int} {a2 : Bool} (h : ∀ EV : Nat → Rs → List Lf → Prop, V61 EV Q →
    EV 9 [] [(Lf.b a2), (Lf.i (0 : Int)), (Lf.r a0), (Lf.i (((List.length a0) : Nat) : Int)), (Lf.i (0 : Int)), (Lf.i a1_0), (Lf.i a1_1), (Lf.i a1_2), (Lf.i a1_3)]) :
    EC Try.prog G61 [] [.r a0, .i a1_0, .i a1_1, .i a1_2, .i a1_3, .b a2] Q := by
  obtain ⟨A, hA⟩ : ∃ A, A = arS := ⟨_, rfl⟩
  refine Inst.enter (I := I61) hA mixed F61_at sg L61 80 rfl fun CE CK Dn EV RR W hp => ?_
  have h := h  EV ⟨V61_p9 W⟩
  cbv
  refine (by subst hA; exact h)

-- 45: signalbox/cost.Worst
section
variable {Q : Nat → Rs → List Lf → Prop} {A : Ar} {CE : Nat → Rs → List Lf → (Nat → Rs → List Lf → Prop) → Prop} {CK : Nat → Rs → List Lf → Cont → Prop} {Dn : Nat → List Bool → List AItem → Nat → List Bool → List AV → List ABlk → Prop} {EV RR : Nat → Rs → List Lf → Prop}
end
structure V45 (EV Q : Nat → Rs → List Lf → Prop) : Prop where
  none : True

set_option maxHeartbeats 2000000 in
/-- To enter. -/
theorem E45 {Q : Nat → Rs → List Lf → Prop} {a0 : List (List AV)} {a1_0 : Int} {a1_1 : Int} {a1_2 : Int} {a1_3 : Int} (h : ∀ EV : Nat → Rs → List Lf → Prop, V45 EV Q →
    EC Try.prog G61 [] [(Lf.r a0), (Lf.i a1_0), (Lf.i a1_1), (Lf.i a1_2), (Lf.i a1_3), (Lf.b false)] (fun x rs vs => (x = 0 ∧ ∃ (y0_0 : Int), rs = [] ∧ vs = [.i y0_0] ∧
      (Q 0 [] [(Lf.i y0_0)])))) :
    EC Try.prog G45 [] [.r a0, .i a1_0, .i a1_1, .i a1_2, .i a1_3] Q := by
  obtain ⟨A, hA⟩ : ∃ A, A = arS := ⟨_, rfl⟩
  refine Inst.enter (I := I45) hA mixed F45_at sg L45 80 rfl fun CE CK Dn EV RR W hp => ?_
  have h := h  EV ⟨trivial⟩
  cbv
  refine ?_
  · refine W.call 80 (by rfl) h (by subst hA; rfl) (by subst hA; rfl) ?_
    rintro x rs vs hp0 hq0
    rcases hq0 with ⟨rfl, y0_0, rfl, rfl, k0⟩
    · cbv
      refine (by rw [W.rr]; exact (by subst hA; exact k0))

-- 66: signalbox/section.is
section
variable {Q : Nat → Rs → List Lf → Prop} {A : Ar} {CE : Nat → Rs → List Lf → (Nat → Rs → List Lf → Prop) → Prop} {CK : Nat → Rs → List Lf → Cont → Prop} {Dn : Nat → List Bool → List AItem → Nat → List Bool → List AV → List ABlk → Prop} {EV RR : Nat → Rs → List Lf → Prop}
end
structure V66 (EV Q : Nat → Rs → List Lf → Prop) : Prop where
  none : True

set_option maxHeartbeats 2000000 in
/-- To enter. -/
theorem E66 {Q : Nat → Rs → List Lf → Prop} {a0_0 : Int} {a0_1 : Int} {a0_2 : Int} {a0_3 : Int} {a0_4 : List (List AV)} {a0_5 : Int} {a0_6 : List (List AV)} {a0_7 : List (List AV)} {a0_8 : List (List AV)} {a0_9 : List (List AV)} {a1 : Int} (h : ∀ EV : Nat → Rs → List Lf → Prop, V66 EV Q →
    (a1 ≥ (0 : Int) →
      Q 0 [] [(Lf.b (decide (a1 < (((List.length a0_8) : Nat) : Int))))]) ∧
    (a1 < (0 : Int) →
      Q 0 [] [(Lf.b false)])) :
    EC Try.prog G66 [] [.i a0_0, .i a0_1, .i a0_2, .i a0_3, .r a0_4, .i a0_5, .r a0_6, .r a0_7, .r a0_8, .r a0_9, .i a1] Q := by
  obtain ⟨A, hA⟩ : ∃ A, A = arS := ⟨_, rfl⟩
  refine Inst.enter (I := I66) hA mixed F66_at sg L66 80 rfl fun CE CK Dn EV RR W hp => ?_
  have h := h  EV ⟨trivial⟩
  cbv
  refine ⟨imI hA fun e0 => have c0 : a1 ≥ (0 : Int) := (by have q := (cmpE (op := .geq) hA e0); subst hA; exact q); (by rw [W.rr]; exact (by subst hA; exact (h.1 c0))), imI hA fun e0 => have c0 : a1 < (0 : Int) := (by have q := (cmpE (op := .geq) hA e0); subst hA; exact q); (by rw [W.rr]; exact (by subst hA; exact (h.2 c0)))⟩

-- 10: signalbox/ceiling.New
section
variable {Q : Nat → Rs → List Lf → Prop} {A : Ar} {CE : Nat → Rs → List Lf → (Nat → Rs → List Lf → Prop) → Prop} {CK : Nat → Rs → List Lf → Cont → Prop} {Dn : Nat → List Bool → List AItem → Nat → List Bool → List AV → List ABlk → Prop} {EV RR : Nat → Rs → List Lf → Prop}
set_option maxHeartbeats 2000000 in
theorem V10_p9 (W : Wk Try.prog Try.f10 I10 L10 Q A sg CE CK Dn EV RR) {R0 : List (List AV)} {t8 : List (List AV)} {t9 : Int} {t10 : Int} (h : pursS R0 = true → 
    (t10 < t9 →
      ((0 : Int) ≤ t10) ∧
      (t8[(Int.toNat t10)]? = some [(AV.int .i64 (cIS t8 (Int.toNat t10) 0))]) ∧
      (((List.length R0) + 1) ≤ 140737488355328) ∧
      ((((List.length R0) + 1) * 24) ≤ 140737488355328) ∧
      (EV 9 [(R0 ++ [[(AV.int .i64 (cIS t8 (Int.toNat t10) 0)), (AV.int .i64 (0 : Int)), (AV.bool false)]])] [(Lf.r t8), (Lf.i t9), (Lf.i (IntKind.wrap .i64 (t10 + (1 : Int))))])) ∧
    (t10 ≥ t9 →
      Q 0 [R0] [])) :
    EV 9 [R0] [.r t8, .i t9, .i t10] := by
  have hA := W.hA
  refine W.step 80 fun hp => ?_
  have h := h hp.1
  cbv
  refine ⟨imI hA fun e0 => have c0 : t10 < t9 := (by have q := (cmpE (op := .lss) hA e0); subst hA; exact q); ⟨ndI hA (And.intro (by subst hA; exact (h.1 c0).1) (by subst hA; exact (h.1 c0).2.1)), ⟨ndI hA (And.intro rfl (And.intro (Nat.le_refl _) (And.intro (by subst hA; exact (h.1 c0).2.2.1) (by subst hA; exact (h.1 c0).2.2.2.1)))), ⟨ndI hA (And.intro rfl (And.intro rfl (by subst hA; show ((List.length R0) + 1) = (List.length (rappS R0 (List.length R0) [[(AV.int .i64 (cIS t8 (Int.toNat t10) 0)), (AV.int .i64 (0 : Int)), (AV.bool false)]])); (first | rfl | simp [rappS_end] | (simp only [rappS_end, List.length_append, List.length_set, List.length_cons, List.length_nil]; omega))))), ⟨ndI hA (by subst hA; exact (vapp hp.1 vpur)), (by subst hA; show EV 9 [(rappS R0 (List.length R0) [[(AV.int .i64 (cIS t8 (Int.toNat t10) 0)), (AV.int .i64 (0 : Int)), (AV.bool false)]])] [(Lf.r t8), (Lf.i t9), (Lf.i (IntKind.wrap .i64 (t10 + (1 : Int))))]; simp only [rappS_end, Nat.zero_add, Int.toNat_natCast]; exact (h.1 c0).2.2.2.2)⟩⟩⟩⟩, imI hA fun e0 => have c0 : t10 ≥ t9 := (by have q := (cmpE (op := .lss) hA e0); subst hA; exact q); ⟨ndI hA (And.intro rfl (And.intro rfl rfl)), ⟨ndI hA (by subst hA; exact hp.1), (by rw [W.rr]; exact (by subst hA; exact (h.2 c0)))⟩⟩⟩

end
structure V10 (EV Q : Nat → Rs → List Lf → Prop) : Prop where
  p9 : ∀ {R0 : List (List AV)} {t8 : List (List AV)} {t9 : Int} {t10 : Int}, (pursS R0 = true → 
    (t10 < t9 →
      ((0 : Int) ≤ t10) ∧
      (t8[(Int.toNat t10)]? = some [(AV.int .i64 (cIS t8 (Int.toNat t10) 0))]) ∧
      (((List.length R0) + 1) ≤ 140737488355328) ∧
      ((((List.length R0) + 1) * 24) ≤ 140737488355328) ∧
      (EV 9 [(R0 ++ [[(AV.int .i64 (cIS t8 (Int.toNat t10) 0)), (AV.int .i64 (0 : Int)), (AV.bool false)]])] [(Lf.r t8), (Lf.i t9), (Lf.i (IntKind.wrap .i64 (t10 + (1 : Int))))])) ∧
    (t10 ≥ t9 →
      Q 0 [R0] [])) →
    EV 9 [R0] [.r t8, .i t9, .i t10]

set_option maxHeartbeats 2000000 in
/-- To enter. -/
theorem E10 {Q : Nat → Rs → List Lf → Prop} {a0 : List (List AV)} (h : ∀ EV : Nat → Rs → List Lf → Prop, V10 EV Q →
    EV 9 [[]] [(Lf.r a0), (Lf.i (((List.length a0) : Nat) : Int)), (Lf.i (0 : Int))]) :
    EC Try.prog G10 [] [.r a0] Q := by
  obtain ⟨A, hA⟩ : ∃ A, A = arS := ⟨_, rfl⟩
  refine Inst.enter (I := I10) hA mixed F10_at sg L10 80 rfl fun CE CK Dn EV RR W hp => ?_
  have h := h  EV ⟨V10_p9 W⟩
  cbv
  refine ⟨ndI hA (And.intro (by subst hA; show 0 = 0; (first | rfl | simp [rappS_end] | (simp only [rappS_end, List.length_append, List.length_set, List.length_cons, List.length_nil]; omega))) (And.intro rfl (by subst hA; show 0 = 0; (first | rfl | simp [rappS_end] | (simp only [rappS_end, List.length_append, List.length_set, List.length_cons, List.length_nil]; omega))))), ⟨ndI hA (by subst hA; exact vpur), (by subst hA; exact h)⟩⟩

-- 17: (*signalbox/ceiling.Locks).Len
section
variable {Q : Nat → Rs → List Lf → Prop} {A : Ar} {CE : Nat → Rs → List Lf → (Nat → Rs → List Lf → Prop) → Prop} {CK : Nat → Rs → List Lf → Cont → Prop} {Dn : Nat → List Bool → List AItem → Nat → List Bool → List AV → List ABlk → Prop} {EV RR : Nat → Rs → List Lf → Prop}
end
structure V17 (EV Q : Nat → Rs → List Lf → Prop) : Prop where
  none : True

set_option maxHeartbeats 2000000 in
/-- To enter. -/
theorem E17 {Q : Nat → Rs → List Lf → Prop} {R0 : List (List AV)} (h : pursS R0 = true → ∀ EV : Nat → Rs → List Lf → Prop, V17 EV Q →
    Q 0 [R0] [(Lf.i (((List.length R0) : Nat) : Int))]) :
    EC Try.prog G17 [R0] [] Q := by
  obtain ⟨A, hA⟩ : ∃ A, A = arS := ⟨_, rfl⟩
  refine Inst.enter (I := I17) hA mixed F17_at sg L17 80 rfl fun CE CK Dn EV RR W hp => ?_
  have h := h hp.1 EV ⟨trivial⟩
  cbv
  refine ⟨ndI hA rfl, ⟨ndI hA (And.intro rfl (And.intro rfl rfl)), ⟨ndI hA (by subst hA; exact hp.1), (by rw [W.rr]; exact (by subst hA; exact h))⟩⟩⟩

-- 36: (*signalbox/ceiling.Locks).at
section
variable {Q : Nat → Rs → List Lf → Prop} {A : Ar} {CE : Nat → Rs → List Lf → (Nat → Rs → List Lf → Prop) → Prop} {CK : Nat → Rs → List Lf → Cont → Prop} {Dn : Nat → List Bool → List AItem → Nat → List Bool → List AV → List ABlk → Prop} {EV RR : Nat → Rs → List Lf → Prop}
end
structure V36 (EV Q : Nat → Rs → List Lf → Prop) : Prop where
  none : True

set_option maxHeartbeats 2000000 in
/-- To enter. -/
theorem E36 {Q : Nat → Rs → List Lf → Prop} {R0 : List (List AV)} {a1 : Int} (h : pursS R0 = true → ∀ EV : Nat → Rs → List Lf → Prop, V36 EV Q →
    (a1 ≥ (0 : Int) →
      EC Try.prog G17 [R0] [] (fun x rs vs => (x = 0 ∧ ∃ (Y1_0 : List (List AV)) (y1_0 : Int), rs = [Y1_0] ∧ vs = [.i y1_0] ∧
        ((a1 ≥ y1_0 →
            Q 0 [Y1_0] []) ∧
          (a1 < y1_0 →
            ((0 : Int) ≤ a1) ∧
            (a1 < (((List.length Y1_0) : Nat) : Int)) ∧
            (Q 1 [Y1_0] [(Lf.n (Int.toNat a1))])))))) ∧
    (a1 < (0 : Int) →
      Q 0 [R0] [])) :
    EC Try.prog G36 [R0] [.i a1] Q := by
  obtain ⟨A, hA⟩ : ∃ A, A = arS := ⟨_, rfl⟩
  refine Inst.enter (I := I36) hA mixed F36_at sg L36 80 rfl fun CE CK Dn EV RR W hp => ?_
  have h := h hp.1 EV ⟨trivial⟩
  cbv
  refine ⟨imI hA fun e0 => have c0 : a1 ≥ (0 : Int) := (by have q := (cmpE (op := .lss) hA e0); subst hA; exact q); ⟨ndI hA (And.intro rfl (And.intro rfl rfl)), ⟨ndI hA (by subst hA; exact hp.1), ?_⟩⟩, imI hA fun e0 => have c0 : a1 < (0 : Int) := (by have q := (cmpE (op := .lss) hA e0); subst hA; exact q); ⟨ndI hA (And.intro rfl (And.intro rfl rfl)), ⟨ndI hA (by subst hA; exact hp.1), (by rw [W.rr]; exact (by subst hA; exact (h.2 c0)))⟩⟩⟩
  · refine W.call 80 (by rfl) (h.1 c0) (by subst hA; rfl) (by subst hA; rfl) ?_
    rintro x rs vs hp1 hq1
    rcases hq1 with ⟨rfl, Y1_0, y1_0, rfl, rfl, k1⟩
    · cbv
      refine ⟨imI hA fun e2 => have c2 : a1 ≥ y1_0 := (by have q := (cmpE (op := .geq) hA e2); subst hA; exact q); ⟨ndI hA (And.intro rfl (And.intro rfl rfl)), ⟨ndI hA (by subst hA; exact hp1.1), (by rw [W.rr]; exact (by subst hA; exact (k1.1 c2)))⟩⟩, imI hA fun e2 => have c2 : a1 < y1_0 := (by have q := (cmpE (op := .geq) hA e2); subst hA; exact q); ⟨ndI hA (And.intro (by subst hA; exact (k1.2 c2).1) (And.intro (by subst hA; exact (k1.2 c2).2.1) rfl)), ⟨ndI hA rfl, ⟨ndI hA (And.intro rfl (And.intro rfl rfl)), ⟨ndI hA (by subst hA; exact hp1.1), (by rw [W.rr]; exact (by subst hA; show Q 1 [Y1_0] [(Lf.n (0 + (Int.toNat a1)))]; simp only [rappS_end, Nat.zero_add, Int.toNat_natCast]; exact (k1.2 c2).2.2))⟩⟩⟩⟩⟩

-- 14: (*signalbox/ceiling.Locks).Held
section
variable {Q : Nat → Rs → List Lf → Prop} {A : Ar} {CE : Nat → Rs → List Lf → (Nat → Rs → List Lf → Prop) → Prop} {CK : Nat → Rs → List Lf → Cont → Prop} {Dn : Nat → List Bool → List AItem → Nat → List Bool → List AV → List ABlk → Prop} {EV RR : Nat → Rs → List Lf → Prop}
set_option maxHeartbeats 2000000 in
theorem V14_p9 (W : Wk Try.prog Try.f14 I14 L14 Q A sg CE CK Dn EV RR) {R0 : List (List AV)} {R1 : List (List AV)} {t1 : Int} {t9 : Int} {t10 : Int} (h : pursS R0 = true → pursS R1 = true → 
    (t10 < t9 →
      EC Try.prog G36 [R0] [(Lf.i t10)] (fun x rs vs => (x = 0 ∧ ∃ (Y1_0 : List (List AV)), rs = [Y1_0] ∧ vs = [] ∧
        (False)) ∨ (x = 1 ∧ ∃ (Y1_0 : List (List AV)) (y1_0 : Nat), rs = [Y1_0] ∧ vs = [.n y1_0] ∧
        ((Y1_0[y1_0]? = some [(AV.int .i64 (cIS Y1_0 y1_0 0)), (AV.int .i64 (cIS Y1_0 y1_0 1)), (AV.bool (cBS Y1_0 y1_0 2))]) ∧
          ((cBS Y1_0 y1_0 2) = true →
            (Y1_0[y1_0]? = some [(AV.int .i64 (cIS Y1_0 y1_0 0)), (AV.int .i64 (cIS Y1_0 y1_0 1)), (AV.bool (cBS Y1_0 y1_0 2))]) ∧
            ((cIS Y1_0 y1_0 1) = t1 →
              (((List.length R1) + 1) ≤ 140737488355328) ∧
              ((((List.length R1) + 1) * 8) ≤ 140737488355328) ∧
              (EV 9 [Y1_0, (R1 ++ [[(AV.int .i64 t10)]])] [(Lf.i t1), (Lf.i t9), (Lf.i (IntKind.wrap .i64 (t10 + (1 : Int))))])) ∧
            ((cIS Y1_0 y1_0 1) ≠ t1 →
              EV 9 [Y1_0, R1] [(Lf.i t1), (Lf.i t9), (Lf.i (IntKind.wrap .i64 (t10 + (1 : Int))))])) ∧
          ((cBS Y1_0 y1_0 2) = false →
            EV 9 [Y1_0, R1] [(Lf.i t1), (Lf.i t9), (Lf.i (IntKind.wrap .i64 (t10 + (1 : Int))))]))))) ∧
    (t10 ≥ t9 →
      Q 0 [R0, R1] [])) :
    EV 9 [R0, R1] [.i t1, .i t9, .i t10] := by
  have hA := W.hA
  refine W.step 80 fun hp => ?_
  have h := h hp.1 hp.2.1
  cbv
  refine ⟨imI hA fun e0 => have c0 : t10 < t9 := (by have q := (cmpE (op := .lss) hA e0); subst hA; exact q); ⟨ndI hA (And.intro rfl (And.intro rfl rfl)), ⟨ndI hA (by subst hA; exact hp.1), ?_⟩⟩, imI hA fun e0 => have c0 : t10 ≥ t9 := (by have q := (cmpE (op := .lss) hA e0); subst hA; exact q); ⟨ndI hA (And.intro rfl (And.intro rfl rfl)), ⟨ndI hA (And.intro rfl (And.intro rfl rfl)), ⟨ndI hA (by subst hA; exact hp.1), ⟨ndI hA (by subst hA; exact hp.2.1), (by rw [W.rr]; exact (by subst hA; exact (h.2 c0)))⟩⟩⟩⟩⟩
  · refine W.call 80 (by rfl) (h.1 c0) (by subst hA; rfl) (by subst hA; rfl) ?_
    rintro x rs vs hp1 hq1
    rcases hq1 with ⟨rfl, Y1_0, rfl, rfl, k1⟩ | ⟨rfl, Y1_0, y1_0, rfl, rfl, k1⟩
    · cbv
      refine k1
    · cbv
      refine ⟨ndI hA (And.intro rfl (by subst hA; exact k1.1)), ⟨imI hA fun e2 => have c2 : (cBS Y1_0 y1_0 2) = true := (by have q := e2; subst hA; exact q); ⟨ndI hA (And.intro rfl (by subst hA; exact (k1.2.1 c2).1)), ⟨imI hA fun e3 => have c3 : (cIS Y1_0 y1_0 1) = t1 := (by have q := (cmpE (op := .eql) hA e3); subst hA; exact q); ⟨ndI hA (And.intro rfl (And.intro (Nat.le_refl _) (And.intro (by subst hA; exact ((k1.2.1 c2).2.1 c3).1) (by subst hA; exact ((k1.2.1 c2).2.1 c3).2.1)))), ⟨ndI hA (And.intro rfl (And.intro rfl (by subst hA; show ((List.length R1) + 1) = (List.length (rappS R1 (List.length R1) [[(AV.int .i64 t10)]])); (first | rfl | simp [rappS_end] | (simp only [rappS_end, List.length_append, List.length_set, List.length_cons, List.length_nil]; omega))))), ⟨ndI hA (And.intro rfl (And.intro rfl rfl)), ⟨ndI hA (by subst hA; exact hp1.1), ⟨ndI hA (by subst hA; exact (vapp hp.2.1 vpur)), (by subst hA; show EV 9 [Y1_0, (rappS R1 (List.length R1) [[(AV.int .i64 t10)]])] [(Lf.i t1), (Lf.i t9), (Lf.i (IntKind.wrap .i64 (t10 + (1 : Int))))]; simp only [rappS_end, Nat.zero_add, Int.toNat_natCast]; exact ((k1.2.1 c2).2.1 c3).2.2)⟩⟩⟩⟩⟩, imI hA fun e3 => have c3 : (cIS Y1_0 y1_0 1) ≠ t1 := (by have q := (cmpE (op := .eql) hA e3); subst hA; exact q); ⟨ndI hA (And.intro rfl (And.intro rfl rfl)), ⟨ndI hA (And.intro rfl (And.intro rfl rfl)), ⟨ndI hA (by subst hA; exact hp1.1), ⟨ndI hA (by subst hA; exact hp.2.1), (by subst hA; exact ((k1.2.1 c2).2.2 c3))⟩⟩⟩⟩⟩⟩, imI hA fun e2 => have c2 : (cBS Y1_0 y1_0 2) = false := (by have q := e2; subst hA; exact q); ⟨ndI hA (And.intro rfl (And.intro rfl rfl)), ⟨ndI hA (And.intro rfl (And.intro rfl rfl)), ⟨ndI hA (by subst hA; exact hp1.1), ⟨ndI hA (by subst hA; exact hp.2.1), (by subst hA; exact (k1.2.2 c2))⟩⟩⟩⟩⟩⟩

end
structure V14 (EV Q : Nat → Rs → List Lf → Prop) : Prop where
  p9 : ∀ {R0 : List (List AV)} {R1 : List (List AV)} {t1 : Int} {t9 : Int} {t10 : Int}, (pursS R0 = true → pursS R1 = true → 
    (t10 < t9 →
      EC Try.prog G36 [R0] [(Lf.i t10)] (fun x rs vs => (x = 0 ∧ ∃ (Y1_0 : List (List AV)), rs = [Y1_0] ∧ vs = [] ∧
        (False)) ∨ (x = 1 ∧ ∃ (Y1_0 : List (List AV)) (y1_0 : Nat), rs = [Y1_0] ∧ vs = [.n y1_0] ∧
        ((Y1_0[y1_0]? = some [(AV.int .i64 (cIS Y1_0 y1_0 0)), (AV.int .i64 (cIS Y1_0 y1_0 1)), (AV.bool (cBS Y1_0 y1_0 2))]) ∧
          ((cBS Y1_0 y1_0 2) = true →
            (Y1_0[y1_0]? = some [(AV.int .i64 (cIS Y1_0 y1_0 0)), (AV.int .i64 (cIS Y1_0 y1_0 1)), (AV.bool (cBS Y1_0 y1_0 2))]) ∧
            ((cIS Y1_0 y1_0 1) = t1 →
              (((List.length R1) + 1) ≤ 140737488355328) ∧
              ((((List.length R1) + 1) * 8) ≤ 140737488355328) ∧
              (EV 9 [Y1_0, (R1 ++ [[(AV.int .i64 t10)]])] [(Lf.i t1), (Lf.i t9), (Lf.i (IntKind.wrap .i64 (t10 + (1 : Int))))])) ∧
            ((cIS Y1_0 y1_0 1) ≠ t1 →
              EV 9 [Y1_0, R1] [(Lf.i t1), (Lf.i t9), (Lf.i (IntKind.wrap .i64 (t10 + (1 : Int))))])) ∧
          ((cBS Y1_0 y1_0 2) = false →
            EV 9 [Y1_0, R1] [(Lf.i t1), (Lf.i t9), (Lf.i (IntKind.wrap .i64 (t10 + (1 : Int))))]))))) ∧
    (t10 ≥ t9 →
      Q 0 [R0, R1] [])) →
    EV 9 [R0, R1] [.i t1, .i t9, .i t10]

set_option maxHeartbeats 2000000 in
/-- To enter. -/
theorem E14 {Q : Nat → Rs → List Lf → Prop} {R0 : List (List AV)} {a1 : Int} (h : pursS R0 = true → ∀ EV : Nat → Rs → List Lf → Prop, V14 EV Q →
    EC Try.prog G17 [R0] [] (fun x rs vs => (x = 0 ∧ ∃ (Y0_0 : List (List AV)) (y0_0 : Int), rs = [Y0_0] ∧ vs = [.i y0_0] ∧
      (EV 9 [Y0_0, []] [(Lf.i a1), (Lf.i y0_0), (Lf.i (0 : Int))])))) :
    EC Try.prog G14 [R0] [.i a1] Q := by
  obtain ⟨A, hA⟩ : ∃ A, A = arS := ⟨_, rfl⟩
  refine Inst.enter (I := I14) hA mixed F14_at sg L14 80 rfl fun CE CK Dn EV RR W hp => ?_
  have h := h hp.1 EV ⟨V14_p9 W⟩
  cbv
  refine ⟨ndI hA (And.intro rfl (And.intro rfl rfl)), ⟨ndI hA (by subst hA; exact hp.1), ?_⟩⟩
  · refine W.call 80 (by rfl) h (by subst hA; rfl) (by subst hA; rfl) ?_
    rintro x rs vs hp0 hq0
    rcases hq0 with ⟨rfl, Y0_0, y0_0, rfl, rfl, k0⟩
    · cbv
      refine ⟨ndI hA (And.intro (by subst hA; show 0 = 0; (first | rfl | simp [rappS_end] | (simp only [rappS_end, List.length_append, List.length_set, List.length_cons, List.length_nil]; omega))) (And.intro rfl (by subst hA; show 0 = 0; (first | rfl | simp [rappS_end] | (simp only [rappS_end, List.length_append, List.length_set, List.length_cons, List.length_nil]; omega))))), ⟨ndI hA (And.intro rfl (And.intro rfl rfl)), ⟨ndI hA (by subst hA; exact hp0.1), ⟨ndI hA (by subst hA; exact vpur), (by subst hA; exact k0)⟩⟩⟩⟩

-- 16: (*signalbox/ceiling.Locks).Level
section
variable {Q : Nat → Rs → List Lf → Prop} {A : Ar} {CE : Nat → Rs → List Lf → (Nat → Rs → List Lf → Prop) → Prop} {CK : Nat → Rs → List Lf → Cont → Prop} {Dn : Nat → List Bool → List AItem → Nat → List Bool → List AV → List ABlk → Prop} {EV RR : Nat → Rs → List Lf → Prop}
set_option maxHeartbeats 2000000 in
theorem V16_p7 (W : Wk Try.prog Try.f16 I16 L16 Q A sg CE CK Dn EV RR) {R0 : List (List AV)} {R1 : List (List AV)} {t2 : Int} {t12 : Int} {t13 : Int} (h : pursS R0 = true → pursS R1 = true → 
    (t13 < t12 →
      ((0 : Int) ≤ t13) ∧
      (t13 < (((List.length R1) : Nat) : Int)) ∧
      (R1[(Int.toNat t13)]? = some [(AV.int .i64 (cIS R1 (Int.toNat t13) 0))]) ∧
      (EC Try.prog G36 [R0] [(Lf.i (cIS R1 (Int.toNat t13) 0))] (fun x rs vs => (x = 0 ∧ ∃ (Y1_0 : List (List AV)), rs = [Y1_0] ∧ vs = [] ∧
        (False)) ∨ (x = 1 ∧ ∃ (Y1_0 : List (List AV)) (y1_0 : Nat), rs = [Y1_0] ∧ vs = [.n y1_0] ∧
        ((Y1_0[y1_0]? = some [(AV.int .i64 (cIS Y1_0 y1_0 0)), (AV.int .i64 (cIS Y1_0 y1_0 1)), (AV.bool (cBS Y1_0 y1_0 2))]) ∧
          (EV 7 [Y1_0, R1] [(Lf.i (arS.mx t2 (cIS Y1_0 y1_0 0))), (Lf.i t12), (Lf.i (IntKind.wrap .i64 (t13 + (1 : Int))))])))))) ∧
    (t13 ≥ t12 →
      Q 0 [R0] [(Lf.i t2)])) :
    EV 7 [R0, R1] [.i t2, .i t12, .i t13] := by
  have hA := W.hA
  refine W.step 80 fun hp => ?_
  have h := h hp.1 hp.2.1
  cbv
  refine ⟨imI hA fun e0 => have c0 : t13 < t12 := (by have q := (cmpE (op := .lss) hA e0); subst hA; exact q); ⟨ndI hA (And.intro (by subst hA; exact (h.1 c0).1) (And.intro (by subst hA; exact (h.1 c0).2.1) rfl)), ⟨ndI hA (And.intro rfl (by subst hA; show R1[(0 + (Int.toNat t13))]? = some [(AV.int .i64 (cIS R1 (0 + (Int.toNat t13)) 0))]; simp only [rappS_end, Nat.zero_add, Int.toNat_natCast]; exact (h.1 c0).2.2.1)), ⟨ndI hA (And.intro rfl (And.intro rfl rfl)), ⟨ndI hA (by subst hA; exact hp.1), ?_⟩⟩⟩⟩, imI hA fun e0 => have c0 : t13 ≥ t12 := (by have q := (cmpE (op := .lss) hA e0); subst hA; exact q); ⟨ndI hA (And.intro rfl (And.intro rfl rfl)), ⟨ndI hA (by subst hA; exact hp.1), (by rw [W.rr]; exact (by subst hA; exact (h.2 c0)))⟩⟩⟩
  · refine W.call 80 (by rfl) (h.1 c0).2.2.2 (by subst hA; show [R0] = [R0]; simp only [rappS_end, Nat.zero_add, Int.toNat_natCast]) (by subst hA; show [(Lf.i (cIS R1 (0 + (Int.toNat t13)) 0))] = [(Lf.i (cIS R1 (Int.toNat t13) 0))]; simp only [rappS_end, Nat.zero_add, Int.toNat_natCast]) ?_
    rintro x rs vs hp1 hq1
    rcases hq1 with ⟨rfl, Y1_0, rfl, rfl, k1⟩ | ⟨rfl, Y1_0, y1_0, rfl, rfl, k1⟩
    · cbv
      refine k1
    · cbv
      refine ⟨ndI hA (And.intro rfl (by subst hA; exact k1.1)), ⟨ndI hA (And.intro rfl (And.intro rfl rfl)), ⟨ndI hA (And.intro rfl (And.intro rfl rfl)), ⟨ndI hA (by subst hA; exact hp1.1), ⟨ndI hA (by subst hA; exact hp.2.1), (by subst hA; exact k1.2)⟩⟩⟩⟩⟩

end
structure V16 (EV Q : Nat → Rs → List Lf → Prop) : Prop where
  p7 : ∀ {R0 : List (List AV)} {R1 : List (List AV)} {t2 : Int} {t12 : Int} {t13 : Int}, (pursS R0 = true → pursS R1 = true → 
    (t13 < t12 →
      ((0 : Int) ≤ t13) ∧
      (t13 < (((List.length R1) : Nat) : Int)) ∧
      (R1[(Int.toNat t13)]? = some [(AV.int .i64 (cIS R1 (Int.toNat t13) 0))]) ∧
      (EC Try.prog G36 [R0] [(Lf.i (cIS R1 (Int.toNat t13) 0))] (fun x rs vs => (x = 0 ∧ ∃ (Y1_0 : List (List AV)), rs = [Y1_0] ∧ vs = [] ∧
        (False)) ∨ (x = 1 ∧ ∃ (Y1_0 : List (List AV)) (y1_0 : Nat), rs = [Y1_0] ∧ vs = [.n y1_0] ∧
        ((Y1_0[y1_0]? = some [(AV.int .i64 (cIS Y1_0 y1_0 0)), (AV.int .i64 (cIS Y1_0 y1_0 1)), (AV.bool (cBS Y1_0 y1_0 2))]) ∧
          (EV 7 [Y1_0, R1] [(Lf.i (arS.mx t2 (cIS Y1_0 y1_0 0))), (Lf.i t12), (Lf.i (IntKind.wrap .i64 (t13 + (1 : Int))))])))))) ∧
    (t13 ≥ t12 →
      Q 0 [R0] [(Lf.i t2)])) →
    EV 7 [R0, R1] [.i t2, .i t12, .i t13]

set_option maxHeartbeats 2000000 in
/-- To enter. -/
theorem E16 {Q : Nat → Rs → List Lf → Prop} {R0 : List (List AV)} {a1 : Int} {a2 : Int} (h : pursS R0 = true → ∀ EV : Nat → Rs → List Lf → Prop, V16 EV Q →
    EC Try.prog G14 [R0] [(Lf.i a1)] (fun x rs vs => (x = 0 ∧ ∃ (Y0_0 : List (List AV)) (Y0_1 : List (List AV)), rs = [Y0_0, Y0_1] ∧ vs = [] ∧
      (EV 7 [Y0_0, Y0_1] [(Lf.i a2), (Lf.i (((List.length Y0_1) : Nat) : Int)), (Lf.i (0 : Int))])))) :
    EC Try.prog G16 [R0] [.i a1, .i a2] Q := by
  obtain ⟨A, hA⟩ : ∃ A, A = arS := ⟨_, rfl⟩
  refine Inst.enter (I := I16) hA mixed F16_at sg L16 80 rfl fun CE CK Dn EV RR W hp => ?_
  have h := h hp.1 EV ⟨V16_p7 W⟩
  cbv
  refine ⟨ndI hA (And.intro rfl (And.intro rfl rfl)), ⟨ndI hA (by subst hA; exact hp.1), ?_⟩⟩
  · refine W.call 80 (by rfl) h (by subst hA; rfl) (by subst hA; rfl) ?_
    rintro x rs vs hp0 hq0
    rcases hq0 with ⟨rfl, Y0_0, Y0_1, rfl, rfl, k0⟩
    · cbv
      refine ⟨ndI hA rfl, ⟨ndI hA (And.intro rfl (And.intro rfl rfl)), ⟨ndI hA (And.intro rfl (And.intro rfl rfl)), ⟨ndI hA (by subst hA; exact hp0.1), ⟨ndI hA (by subst hA; exact hp0.2.1), (by subst hA; exact k0)⟩⟩⟩⟩⟩

-- 70: (*signalbox/section.walker).level DRAWN
section
variable {Q : Nat → Rs → List Lf → Prop} {A : Ar} {CE : Nat → Rs → List Lf → (Nat → Rs → List Lf → Prop) → Prop} {CK : Nat → Rs → List Lf → Cont → Prop} {Dn : Nat → List Bool → List AItem → Nat → List Bool → List AV → List ABlk → Prop} {EV RR : Nat → Rs → List Lf → Prop}
end
structure V70 (EV Q : Nat → Rs → List Lf → Prop) : Prop where
  none : True

set_option maxHeartbeats 2000000 in
/-- To enter. -/
theorem E70 {Q : Nat → Rs → List Lf → Prop} {R0 : List (List AV)} {ab0_0 : Int} {ab0_1 : Int} (h : pursS R0 = true → ∀ EV : Nat → Rs → List Lf → Prop, V70 EV Q →
    (ab0_1 > (0 : Int) →
      Q 0 [R0] [(Lf.i (64 : Int)), (Lf.i ab0_0), (Lf.i ab0_1)]) ∧
    (ab0_1 ≤ (0 : Int) →
      EC Try.prog G16 [R0] [(Lf.i (0 : Int)), (Lf.i ab0_0)] (fun x rs vs => (x = 0 ∧ ∃ (Y1_0 : List (List AV)) (y1_0 : Int), rs = [Y1_0] ∧ vs = [.i y1_0] ∧
        (Q 0 [Y1_0] [(Lf.i y1_0), (Lf.i ab0_0), (Lf.i ab0_1)]))))) :
    EC Try.prog G70 [R0] [.i ab0_0, .i ab0_1] Q := by
  obtain ⟨A, hA⟩ : ∃ A, A = arS := ⟨_, rfl⟩
  refine Inst.enter (I := I70) hA mixed F70_at sg L70 80 rfl fun CE CK Dn EV RR W hp => ?_
  have h := h hp.1 EV ⟨trivial⟩
  cbv
  refine ⟨imI hA fun e0 => have c0 : ab0_1 > (0 : Int) := (by have q := (cmpE (op := .gtr) hA e0); subst hA; exact q); ⟨ndI hA (And.intro rfl (And.intro rfl rfl)), ⟨ndI hA (by subst hA; exact hp.1), (by rw [W.rr]; exact (by subst hA; exact (h.1 c0)))⟩⟩, imI hA fun e0 => have c0 : ab0_1 ≤ (0 : Int) := (by have q := (cmpE (op := .gtr) hA e0); subst hA; exact q); ⟨⟨ndI hA (And.intro rfl (And.intro rfl rfl)), ⟨ndI hA (by subst hA; exact hp.1), ?_⟩⟩, trivial⟩⟩
  · refine W.callD (by rfl) (h.2 c0) (by subst hA; rfl) (by subst hA; rfl) ?_
    rintro x rs vs hp1 hq1
    rcases hq1 with ⟨rfl, Y1_0, y1_0, rfl, rfl, k1⟩
    · cbv
      refine ?_
      · refine W.draw 80 (by rfl) ?_
        cbv
        refine ⟨ndI hA (And.intro rfl (And.intro rfl rfl)), ⟨ndI hA (by subst hA; exact hp1.1), (by rw [W.rr]; exact (by subst hA; exact k1))⟩⟩

-- 11: (*signalbox/ceiling.Locks).Lock
section
variable {Q : Nat → Rs → List Lf → Prop} {A : Ar} {CE : Nat → Rs → List Lf → (Nat → Rs → List Lf → Prop) → Prop} {CK : Nat → Rs → List Lf → Cont → Prop} {Dn : Nat → List Bool → List AItem → Nat → List Bool → List AV → List ABlk → Prop} {EV RR : Nat → Rs → List Lf → Prop}
end
structure V11 (EV Q : Nat → Rs → List Lf → Prop) : Prop where
  none : True

set_option maxHeartbeats 2000000 in
/-- To enter. -/
theorem E11 {Q : Nat → Rs → List Lf → Prop} {R0 : List (List AV)} {a1 : Int} {a2 : Int} (h : pursS R0 = true → ∀ EV : Nat → Rs → List Lf → Prop, V11 EV Q →
    EC Try.prog G36 [R0] [(Lf.i a1)] (fun x rs vs => (x = 0 ∧ ∃ (Y0_0 : List (List AV)), rs = [Y0_0] ∧ vs = [] ∧
      (Q 0 [Y0_0] [(Lf.i (6 : Int))])) ∨ (x = 1 ∧ ∃ (Y0_0 : List (List AV)) (y0_0 : Nat), rs = [Y0_0] ∧ vs = [.n y0_0] ∧
      ((Y0_0[y0_0]? = some [(AV.int .i64 (cIS Y0_0 y0_0 0)), (AV.int .i64 (cIS Y0_0 y0_0 1)), (AV.bool (cBS Y0_0 y0_0 2))]) ∧
        ((cBS Y0_0 y0_0 2) = true →
          Q 0 [Y0_0] [(Lf.i (10 : Int))]) ∧
        ((cBS Y0_0 y0_0 2) = false →
          (Y0_0[y0_0]? = some [(AV.int .i64 (cIS Y0_0 y0_0 0)), (AV.int .i64 (cIS Y0_0 y0_0 1)), (AV.bool (cBS Y0_0 y0_0 2))]) ∧
          ((List.set Y0_0 y0_0 [(AV.int .i64 (cIS Y0_0 y0_0 0)), (AV.int .i64 a2), (AV.bool (cBS Y0_0 y0_0 2))])[y0_0]? = some [(AV.int .i64 (cIS (List.set Y0_0 y0_0 [(AV.int .i64 (cIS Y0_0 y0_0 0)), (AV.int .i64 a2), (AV.bool (cBS Y0_0 y0_0 2))]) y0_0 0)), (AV.int .i64 (cIS (List.set Y0_0 y0_0 [(AV.int .i64 (cIS Y0_0 y0_0 0)), (AV.int .i64 a2), (AV.bool (cBS Y0_0 y0_0 2))]) y0_0 1)), (AV.bool (cBS (List.set Y0_0 y0_0 [(AV.int .i64 (cIS Y0_0 y0_0 0)), (AV.int .i64 a2), (AV.bool (cBS Y0_0 y0_0 2))]) y0_0 2))]) ∧
          (Q 0 [(List.set (List.set Y0_0 y0_0 [(AV.int .i64 (cIS Y0_0 y0_0 0)), (AV.int .i64 a2), (AV.bool (cBS Y0_0 y0_0 2))]) y0_0 [(AV.int .i64 (cIS (List.set Y0_0 y0_0 [(AV.int .i64 (cIS Y0_0 y0_0 0)), (AV.int .i64 a2), (AV.bool (cBS Y0_0 y0_0 2))]) y0_0 0)), (AV.int .i64 (cIS (List.set Y0_0 y0_0 [(AV.int .i64 (cIS Y0_0 y0_0 0)), (AV.int .i64 a2), (AV.bool (cBS Y0_0 y0_0 2))]) y0_0 1)), (AV.bool true)])] [(Lf.i (0 : Int))])))))) :
    EC Try.prog G11 [R0] [.i a1, .i a2] Q := by
  obtain ⟨A, hA⟩ : ∃ A, A = arS := ⟨_, rfl⟩
  refine Inst.enter (I := I11) hA mixed F11_at sg L11 80 rfl fun CE CK Dn EV RR W hp => ?_
  have h := h hp.1 EV ⟨trivial⟩
  cbv
  refine ⟨ndI hA (And.intro rfl (And.intro rfl rfl)), ⟨ndI hA (by subst hA; exact hp.1), ?_⟩⟩
  · refine W.call 80 (by rfl) h (by subst hA; rfl) (by subst hA; rfl) ?_
    rintro x rs vs hp0 hq0
    rcases hq0 with ⟨rfl, Y0_0, rfl, rfl, k0⟩ | ⟨rfl, Y0_0, y0_0, rfl, rfl, k0⟩
    · cbv
      refine ⟨ndI hA (And.intro rfl (And.intro rfl rfl)), ⟨ndI hA (by subst hA; exact hp0.1), (by rw [W.rr]; exact (by subst hA; exact k0))⟩⟩
    · cbv
      refine ⟨ndI hA (And.intro rfl (by subst hA; exact k0.1)), ⟨imI hA fun e1 => have c1 : (cBS Y0_0 y0_0 2) = true := (by have q := e1; subst hA; exact q); ⟨ndI hA (And.intro rfl (And.intro rfl rfl)), ⟨ndI hA (by subst hA; exact hp0.1), (by rw [W.rr]; exact (by subst hA; exact (k0.2.1 c1)))⟩⟩, imI hA fun e1 => have c1 : (cBS Y0_0 y0_0 2) = false := (by have q := e1; subst hA; exact q); ⟨ndI hA (And.intro rfl (by subst hA; exact (k0.2.2 c1).1)), ⟨ndI hA (And.intro (by subst hA; show (List.length Y0_0) = (List.length (List.set Y0_0 y0_0 [(AV.int .i64 (cIS Y0_0 y0_0 0)), (AV.int .i64 a2), (AV.bool (cBS Y0_0 y0_0 2))])); (first | rfl | simp [rappS_end] | (simp only [rappS_end, List.length_append, List.length_set, List.length_cons, List.length_nil]; omega))) (by subst hA; exact (k0.2.2 c1).2.1)), ⟨ndI hA (And.intro (by subst hA; show (List.length Y0_0) = (List.length (List.set (List.set Y0_0 y0_0 [(AV.int .i64 (cIS Y0_0 y0_0 0)), (AV.int .i64 a2), (AV.bool (cBS Y0_0 y0_0 2))]) y0_0 [(AV.int .i64 (cIS (List.set Y0_0 y0_0 [(AV.int .i64 (cIS Y0_0 y0_0 0)), (AV.int .i64 a2), (AV.bool (cBS Y0_0 y0_0 2))]) y0_0 0)), (AV.int .i64 (cIS (List.set Y0_0 y0_0 [(AV.int .i64 (cIS Y0_0 y0_0 0)), (AV.int .i64 a2), (AV.bool (cBS Y0_0 y0_0 2))]) y0_0 1)), (AV.bool true)])); (first | rfl | simp [rappS_end] | (simp only [rappS_end, List.length_append, List.length_set, List.length_cons, List.length_nil]; omega))) (And.intro rfl (by subst hA; show (List.length Y0_0) = (List.length (List.set (List.set Y0_0 y0_0 [(AV.int .i64 (cIS Y0_0 y0_0 0)), (AV.int .i64 a2), (AV.bool (cBS Y0_0 y0_0 2))]) y0_0 [(AV.int .i64 (cIS (List.set Y0_0 y0_0 [(AV.int .i64 (cIS Y0_0 y0_0 0)), (AV.int .i64 a2), (AV.bool (cBS Y0_0 y0_0 2))]) y0_0 0)), (AV.int .i64 (cIS (List.set Y0_0 y0_0 [(AV.int .i64 (cIS Y0_0 y0_0 0)), (AV.int .i64 a2), (AV.bool (cBS Y0_0 y0_0 2))]) y0_0 1)), (AV.bool true)])); (first | rfl | simp [rappS_end] | (simp only [rappS_end, List.length_append, List.length_set, List.length_cons, List.length_nil]; omega))))), ⟨ndI hA (by subst hA; exact (vset (vset hp0.1 rfl) rfl)), (by rw [W.rr]; exact (by subst hA; exact (k0.2.2 c1).2.2))⟩⟩⟩⟩⟩⟩

-- 12: (*signalbox/ceiling.Locks).Unlock
section
variable {Q : Nat → Rs → List Lf → Prop} {A : Ar} {CE : Nat → Rs → List Lf → (Nat → Rs → List Lf → Prop) → Prop} {CK : Nat → Rs → List Lf → Cont → Prop} {Dn : Nat → List Bool → List AItem → Nat → List Bool → List AV → List ABlk → Prop} {EV RR : Nat → Rs → List Lf → Prop}
end
structure V12 (EV Q : Nat → Rs → List Lf → Prop) : Prop where
  none : True

set_option maxHeartbeats 2000000 in
/-- To enter. -/
theorem E12 {Q : Nat → Rs → List Lf → Prop} {R0 : List (List AV)} {a1 : Int} {a2 : Int} (h : pursS R0 = true → ∀ EV : Nat → Rs → List Lf → Prop, V12 EV Q →
    EC Try.prog G36 [R0] [(Lf.i a1)] (fun x rs vs => (x = 0 ∧ ∃ (Y0_0 : List (List AV)), rs = [Y0_0] ∧ vs = [] ∧
      (Q 0 [Y0_0] [(Lf.i (6 : Int))])) ∨ (x = 1 ∧ ∃ (Y0_0 : List (List AV)) (y0_0 : Nat), rs = [Y0_0] ∧ vs = [.n y0_0] ∧
      ((Y0_0[y0_0]? = some [(AV.int .i64 (cIS Y0_0 y0_0 0)), (AV.int .i64 (cIS Y0_0 y0_0 1)), (AV.bool (cBS Y0_0 y0_0 2))]) ∧
        ((cBS Y0_0 y0_0 2) = true →
          (Y0_0[y0_0]? = some [(AV.int .i64 (cIS Y0_0 y0_0 0)), (AV.int .i64 (cIS Y0_0 y0_0 1)), (AV.bool (cBS Y0_0 y0_0 2))]) ∧
          ((cIS Y0_0 y0_0 1) ≠ a2 →
            Q 0 [Y0_0] [(Lf.i (8 : Int))]) ∧
          ((cIS Y0_0 y0_0 1) = a2 →
            (Y0_0[y0_0]? = some [(AV.int .i64 (cIS Y0_0 y0_0 0)), (AV.int .i64 (cIS Y0_0 y0_0 1)), (AV.bool (cBS Y0_0 y0_0 2))]) ∧
            ((List.set Y0_0 y0_0 [(AV.int .i64 (cIS Y0_0 y0_0 0)), (AV.int .i64 (0 : Int)), (AV.bool (cBS Y0_0 y0_0 2))])[y0_0]? = some [(AV.int .i64 (cIS (List.set Y0_0 y0_0 [(AV.int .i64 (cIS Y0_0 y0_0 0)), (AV.int .i64 (0 : Int)), (AV.bool (cBS Y0_0 y0_0 2))]) y0_0 0)), (AV.int .i64 (cIS (List.set Y0_0 y0_0 [(AV.int .i64 (cIS Y0_0 y0_0 0)), (AV.int .i64 (0 : Int)), (AV.bool (cBS Y0_0 y0_0 2))]) y0_0 1)), (AV.bool (cBS (List.set Y0_0 y0_0 [(AV.int .i64 (cIS Y0_0 y0_0 0)), (AV.int .i64 (0 : Int)), (AV.bool (cBS Y0_0 y0_0 2))]) y0_0 2))]) ∧
            (Q 0 [(List.set (List.set Y0_0 y0_0 [(AV.int .i64 (cIS Y0_0 y0_0 0)), (AV.int .i64 (0 : Int)), (AV.bool (cBS Y0_0 y0_0 2))]) y0_0 [(AV.int .i64 (cIS (List.set Y0_0 y0_0 [(AV.int .i64 (cIS Y0_0 y0_0 0)), (AV.int .i64 (0 : Int)), (AV.bool (cBS Y0_0 y0_0 2))]) y0_0 0)), (AV.int .i64 (cIS (List.set Y0_0 y0_0 [(AV.int .i64 (cIS Y0_0 y0_0 0)), (AV.int .i64 (0 : Int)), (AV.bool (cBS Y0_0 y0_0 2))]) y0_0 1)), (AV.bool false)])] [(Lf.i (0 : Int))]))) ∧
        ((cBS Y0_0 y0_0 2) = false →
          Q 0 [Y0_0] [(Lf.i (8 : Int))]))))) :
    EC Try.prog G12 [R0] [.i a1, .i a2] Q := by
  obtain ⟨A, hA⟩ : ∃ A, A = arS := ⟨_, rfl⟩
  refine Inst.enter (I := I12) hA mixed F12_at sg L12 80 rfl fun CE CK Dn EV RR W hp => ?_
  have h := h hp.1 EV ⟨trivial⟩
  cbv
  refine ⟨ndI hA (And.intro rfl (And.intro rfl rfl)), ⟨ndI hA (by subst hA; exact hp.1), ?_⟩⟩
  · refine W.call 80 (by rfl) h (by subst hA; rfl) (by subst hA; rfl) ?_
    rintro x rs vs hp0 hq0
    rcases hq0 with ⟨rfl, Y0_0, rfl, rfl, k0⟩ | ⟨rfl, Y0_0, y0_0, rfl, rfl, k0⟩
    · cbv
      refine ⟨ndI hA (And.intro rfl (And.intro rfl rfl)), ⟨ndI hA (by subst hA; exact hp0.1), (by rw [W.rr]; exact (by subst hA; exact k0))⟩⟩
    · cbv
      refine ⟨ndI hA (And.intro rfl (by subst hA; exact k0.1)), ⟨imI hA fun e1 => have c1 : (cBS Y0_0 y0_0 2) = true := (by have q := (notE hA e1); subst hA; exact q); ⟨ndI hA (And.intro rfl (by subst hA; exact (k0.2.1 c1).1)), ⟨imI hA fun e2 => have c2 : (cIS Y0_0 y0_0 1) ≠ a2 := (by have q := (cmpE (op := .neq) hA e2); subst hA; exact q); ⟨ndI hA (And.intro rfl (And.intro rfl rfl)), ⟨ndI hA (by subst hA; exact hp0.1), (by rw [W.rr]; exact (by subst hA; exact ((k0.2.1 c1).2.1 c2)))⟩⟩, imI hA fun e2 => have c2 : (cIS Y0_0 y0_0 1) = a2 := (by have q := (cmpE (op := .neq) hA e2); subst hA; exact q); ⟨ndI hA (And.intro rfl (by subst hA; exact ((k0.2.1 c1).2.2 c2).1)), ⟨ndI hA (And.intro (by subst hA; show (List.length Y0_0) = (List.length (List.set Y0_0 y0_0 [(AV.int .i64 (cIS Y0_0 y0_0 0)), (AV.int .i64 (0 : Int)), (AV.bool (cBS Y0_0 y0_0 2))])); (first | rfl | simp [rappS_end] | (simp only [rappS_end, List.length_append, List.length_set, List.length_cons, List.length_nil]; omega))) (by subst hA; exact ((k0.2.1 c1).2.2 c2).2.1)), ⟨ndI hA (And.intro (by subst hA; show (List.length Y0_0) = (List.length (List.set (List.set Y0_0 y0_0 [(AV.int .i64 (cIS Y0_0 y0_0 0)), (AV.int .i64 (0 : Int)), (AV.bool (cBS Y0_0 y0_0 2))]) y0_0 [(AV.int .i64 (cIS (List.set Y0_0 y0_0 [(AV.int .i64 (cIS Y0_0 y0_0 0)), (AV.int .i64 (0 : Int)), (AV.bool (cBS Y0_0 y0_0 2))]) y0_0 0)), (AV.int .i64 (cIS (List.set Y0_0 y0_0 [(AV.int .i64 (cIS Y0_0 y0_0 0)), (AV.int .i64 (0 : Int)), (AV.bool (cBS Y0_0 y0_0 2))]) y0_0 1)), (AV.bool false)])); (first | rfl | simp [rappS_end] | (simp only [rappS_end, List.length_append, List.length_set, List.length_cons, List.length_nil]; omega))) (And.intro rfl (by subst hA; show (List.length Y0_0) = (List.length (List.set (List.set Y0_0 y0_0 [(AV.int .i64 (cIS Y0_0 y0_0 0)), (AV.int .i64 (0 : Int)), (AV.bool (cBS Y0_0 y0_0 2))]) y0_0 [(AV.int .i64 (cIS (List.set Y0_0 y0_0 [(AV.int .i64 (cIS Y0_0 y0_0 0)), (AV.int .i64 (0 : Int)), (AV.bool (cBS Y0_0 y0_0 2))]) y0_0 0)), (AV.int .i64 (cIS (List.set Y0_0 y0_0 [(AV.int .i64 (cIS Y0_0 y0_0 0)), (AV.int .i64 (0 : Int)), (AV.bool (cBS Y0_0 y0_0 2))]) y0_0 1)), (AV.bool false)])); (first | rfl | simp [rappS_end] | (simp only [rappS_end, List.length_append, List.length_set, List.length_cons, List.length_nil]; omega))))), ⟨ndI hA (by subst hA; exact (vset (vset hp0.1 rfl) rfl)), (by rw [W.rr]; exact (by subst hA; exact ((k0.2.1 c1).2.2 c2).2.2))⟩⟩⟩⟩⟩⟩, imI hA fun e1 => have c1 : (cBS Y0_0 y0_0 2) = false := (by have q := (notE hA e1); subst hA; exact q); ⟨ndI hA (And.intro rfl (And.intro rfl rfl)), ⟨ndI hA (by subst hA; exact hp0.1), (by rw [W.rr]; exact (by subst hA; exact (k0.2.2 c1)))⟩⟩⟩⟩

-- 67: (*signalbox/section.walker).step DRAWN
section
variable {Q : Nat → Rs → List Lf → Prop} {A : Ar} {CE : Nat → Rs → List Lf → (Nat → Rs → List Lf → Prop) → Prop} {CK : Nat → Rs → List Lf → Cont → Prop} {Dn : Nat → List Bool → List AItem → Nat → List Bool → List AV → List ABlk → Prop} {EV RR : Nat → Rs → List Lf → Prop}
set_option maxHeartbeats 2000000 in
theorem V67_p25 (W : Wk Try.prog Try.f67 I67 L67 Q A sg CE CK Dn EV RR) {R0 : List (List AV)} {tb0_0 : Int} {tb0_1 : Int} {tb3_0 : Int} {tb3_1 : Int} {tb4_0 : Int} {tb4_1 : Int} (h : pursS R0 = true → 
    EC Try.prog G70 [R0] [(Lf.i tb0_0), (Lf.i tb0_1)] (fun x rs vs => (x = 0 ∧ ∃ (Y0_0 : List (List AV)) (y0_0 : Int) (y0_b0_0 : Int) (y0_b0_1 : Int), rs = [Y0_0] ∧ vs = [.i y0_0, .i y0_b0_0, .i y0_b0_1] ∧
      (Q 0 [Y0_0] [(Lf.i tb4_0), (Lf.i y0_0), (Lf.i y0_b0_0), (Lf.i y0_b0_1)])))) :
    EV 25 [R0] [.i tb0_0, .i tb0_1, .i tb3_0, .i tb3_1, .i tb4_0, .i tb4_1] := by
  have hA := W.hA
  refine W.step 80 fun hp => ?_
  have h := h hp.1
  cbv
  refine ⟨ndI hA (And.intro rfl (And.intro rfl rfl)), ⟨ndI hA (by subst hA; exact hp.1), ?_⟩⟩
  · refine W.call 80 (by rfl) h (by subst hA; rfl) (by subst hA; rfl) ?_
    rintro x rs vs hp0 hq0
    rcases hq0 with ⟨rfl, Y0_0, y0_0, y0_b0_0, y0_b0_1, rfl, rfl, k0⟩
    · cbv
      refine ⟨ndI hA (And.intro rfl (And.intro rfl rfl)), ⟨ndI hA (by subst hA; exact hp0.1), (by rw [W.rr]; exact (by subst hA; exact k0))⟩⟩

end
structure V67 (EV Q : Nat → Rs → List Lf → Prop) : Prop where
  p25 : ∀ {R0 : List (List AV)} {tb0_0 : Int} {tb0_1 : Int} {tb3_0 : Int} {tb3_1 : Int} {tb4_0 : Int} {tb4_1 : Int}, (pursS R0 = true → 
    EC Try.prog G70 [R0] [(Lf.i tb0_0), (Lf.i tb0_1)] (fun x rs vs => (x = 0 ∧ ∃ (Y0_0 : List (List AV)) (y0_0 : Int) (y0_b0_0 : Int) (y0_b0_1 : Int), rs = [Y0_0] ∧ vs = [.i y0_0, .i y0_b0_0, .i y0_b0_1] ∧
      (Q 0 [Y0_0] [(Lf.i tb4_0), (Lf.i y0_0), (Lf.i y0_b0_0), (Lf.i y0_b0_1)])))) →
    EV 25 [R0] [.i tb0_0, .i tb0_1, .i tb3_0, .i tb3_1, .i tb4_0, .i tb4_1]

set_option maxHeartbeats 2000000 in
/-- To enter. -/
theorem E67 {Q : Nat → Rs → List Lf → Prop} {R0 : List (List AV)} {a1_0 : Int} {a1_1 : Int} {a1_2 : Int} {ab0_0 : Int} {ab0_1 : Int} (h : pursS R0 = true → ∀ EV : Nat → Rs → List Lf → Prop, V67 EV Q →
    EC Try.prog G70 [R0] [(Lf.i ab0_0), (Lf.i ab0_1)] (fun x rs vs => (x = 0 ∧ ∃ (Y0_0 : List (List AV)) (y0_0 : Int) (y0_b0_0 : Int) (y0_b0_1 : Int), rs = [Y0_0] ∧ vs = [.i y0_0, .i y0_b0_0, .i y0_b0_1] ∧
      ((a1_0 = (3 : Int) →
          EV 25 [Y0_0] [(Lf.i y0_b0_0), (Lf.i (IntKind.wrap .i64 (y0_b0_1 + (1 : Int)))), (Lf.i (0 : Int)), (Lf.i (0 : Int)), (Lf.i y0_0), (Lf.i (0 : Int))]) ∧
        (a1_0 ≠ (3 : Int) →
          (a1_0 = (4 : Int) →
            EV 25 [Y0_0] [(Lf.i y0_b0_0), (Lf.i (arS.mx (IntKind.wrap .i64 (y0_b0_1 - (1 : Int))) (0 : Int))), (Lf.i (0 : Int)), (Lf.i (0 : Int)), (Lf.i y0_0), (Lf.i (0 : Int))]) ∧
          (a1_0 ≠ (4 : Int) →
            (a1_0 = (5 : Int) →
              EC Try.prog G11 [Y0_0] [(Lf.i a1_1), (Lf.i (0 : Int))] (fun x rs vs => (x = 0 ∧ ∃ (Y4_0 : List (List AV)) (y4_0 : Int), rs = [Y4_0] ∧ vs = [.i y4_0] ∧
                (EV 25 [Y4_0] [(Lf.i y0_b0_0), (Lf.i y0_b0_1), (Lf.i (0 : Int)), (Lf.i (0 : Int)), (Lf.i y0_0), (Lf.i (0 : Int))])))) ∧
            (a1_0 ≠ (5 : Int) →
              (a1_0 = (6 : Int) →
                EC Try.prog G12 [Y0_0] [(Lf.i a1_1), (Lf.i (0 : Int))] (fun x rs vs => (x = 0 ∧ ∃ (Y5_0 : List (List AV)) (y5_0 : Int), rs = [Y5_0] ∧ vs = [.i y5_0] ∧
                  (EV 25 [Y5_0] [(Lf.i y0_b0_0), (Lf.i y0_b0_1), (Lf.i (0 : Int)), (Lf.i (0 : Int)), (Lf.i y0_0), (Lf.i (0 : Int))])))) ∧
              (a1_0 ≠ (6 : Int) →
                EV 25 [Y0_0] [(Lf.i y0_b0_0), (Lf.i y0_b0_1), (Lf.i (0 : Int)), (Lf.i (0 : Int)), (Lf.i y0_0), (Lf.i (0 : Int))])))))))) :
    EC Try.prog G67 [R0] [.i a1_0, .i a1_1, .i a1_2, .i ab0_0, .i ab0_1] Q := by
  obtain ⟨A, hA⟩ : ∃ A, A = arS := ⟨_, rfl⟩
  refine Inst.enter (I := I67) hA mixed F67_at sg L67 80 rfl fun CE CK Dn EV RR W hp => ?_
  have h := h hp.1 EV ⟨V67_p25 W⟩
  cbv
  refine ⟨ndI hA (And.intro rfl (And.intro rfl rfl)), ⟨ndI hA (by subst hA; exact hp.1), ?_⟩⟩
  · refine W.call 80 (by rfl) h (by subst hA; rfl) (by subst hA; rfl) ?_
    rintro x rs vs hp0 hq0
    rcases hq0 with ⟨rfl, Y0_0, y0_0, y0_b0_0, y0_b0_1, rfl, rfl, k0⟩
    · cbv
      refine ⟨imI hA fun e1 => have c1 : a1_0 = (3 : Int) := (by have q := (cmpE (op := .eql) hA e1); subst hA; exact q); ⟨ndI hA (And.intro rfl (And.intro rfl rfl)), ⟨ndI hA (by subst hA; exact hp0.1), (by subst hA; exact (k0.1 c1))⟩⟩, imI hA fun e1 => have c1 : a1_0 ≠ (3 : Int) := (by have q := (cmpE (op := .eql) hA e1); subst hA; exact q); ⟨imI hA fun e2 => have c2 : a1_0 = (4 : Int) := (by have q := (cmpE (op := .eql) hA e2); subst hA; exact q); ⟨ndI hA (And.intro rfl (And.intro rfl rfl)), ⟨ndI hA (by subst hA; exact hp0.1), (by subst hA; exact ((k0.2 c1).1 c2))⟩⟩, imI hA fun e2 => have c2 : a1_0 ≠ (4 : Int) := (by have q := (cmpE (op := .eql) hA e2); subst hA; exact q); ⟨imI hA fun e3 => have c3 : a1_0 = (5 : Int) := (by have q := (cmpE (op := .eql) hA e3); subst hA; exact q); ⟨⟨⟨ndI hA (And.intro rfl (And.intro rfl rfl)), ⟨ndI hA (by subst hA; exact hp0.1), ?_⟩⟩, trivial⟩, trivial⟩, imI hA fun e3 => have c3 : a1_0 ≠ (5 : Int) := (by have q := (cmpE (op := .eql) hA e3); subst hA; exact q); ⟨imI hA fun e4 => have c4 : a1_0 = (6 : Int) := (by have q := (cmpE (op := .eql) hA e4); subst hA; exact q); ⟨⟨⟨ndI hA (And.intro rfl (And.intro rfl rfl)), ⟨ndI hA (by subst hA; exact hp0.1), ?_⟩⟩, trivial⟩, trivial⟩, imI hA fun e4 => have c4 : a1_0 ≠ (6 : Int) := (by have q := (cmpE (op := .eql) hA e4); subst hA; exact q); ⟨ndI hA (And.intro rfl (And.intro rfl rfl)), ⟨ndI hA (by subst hA; exact hp0.1), (by subst hA; exact ((((k0.2 c1).2 c2).2 c3).2 c4))⟩⟩⟩⟩⟩⟩
      · refine W.callD (by rfl) (((k0.2 c1).2 c2).1 c3) (by subst hA; rfl) (by subst hA; rfl) ?_
        rintro x rs vs hp4 hq4
        rcases hq4 with ⟨rfl, Y4_0, y4_0, rfl, rfl, k4⟩
        · cbv
          refine ?_
          · refine W.draw 80 (by rfl) ?_
            cbv
            refine ⟨ndI hA (And.intro rfl (And.intro rfl rfl)), ⟨ndI hA (by subst hA; exact hp4.1), (by subst hA; exact k4)⟩⟩
      · refine W.callD (by rfl) ((((k0.2 c1).2 c2).2 c3).1 c4) (by subst hA; rfl) (by subst hA; rfl) ?_
        rintro x rs vs hp5 hq5
        rcases hq5 with ⟨rfl, Y5_0, y5_0, rfl, rfl, k5⟩
        · cbv
          refine ?_
          · refine W.draw 80 (by rfl) ?_
            cbv
            refine ⟨ndI hA (And.intro rfl (And.intro rfl rfl)), ⟨ndI hA (by subst hA; exact hp5.1), (by subst hA; exact k5)⟩⟩

-- 62: signalbox/section.Levels DRAWN
section
variable {Q : Nat → Rs → List Lf → Prop} {A : Ar} {CE : Nat → Rs → List Lf → (Nat → Rs → List Lf → Prop) → Prop} {CK : Nat → Rs → List Lf → Cont → Prop} {Dn : Nat → List Bool → List AItem → Nat → List Bool → List AV → List ABlk → Prop} {EV RR : Nat → Rs → List Lf → Prop}
set_option maxHeartbeats 2000000 in
theorem V62_p12 (W : Wk Try.prog Try.f62 I62 L62 Q A sg CE CK Dn EV RR) {R0 : List (List AV)} {t1 : Int} {tb0_0 : Int} {tb0_1 : Int} {tb0_2 : Int} {tb0_3 : Int} {tb0_4 : List (List AV)} {tb0_5 : Int} {tb0_6 : List (List AV)} {tb0_7 : List (List AV)} {tb0_8 : List (List AV)} {tb0_9 : List (List AV)} {tb1_0 : Int} {tb1_1 : Int} (h : pursS R0 = true → 
    ((0 : Int) ≤ t1) ∧
    (tb0_8[(Int.toNat t1)]? = some [(AV.int .i64 (cIS tb0_8 (Int.toNat t1) 0)), (AV.int .i64 (cIS tb0_8 (Int.toNat t1) 1)), (AV.int .i64 (cIS tb0_8 (Int.toNat t1) 2)), (AV.int .i64 (cIS tb0_8 (Int.toNat t1) 3)), (AV.int .i64 (cIS tb0_8 (Int.toNat t1) 4)), (AV.int .i64 (cIS tb0_8 (Int.toNat t1) 5)), (AV.inl 3 (cRS tb0_8 (Int.toNat t1) 6))]) ∧
    (EV 19 [[], R0] [(Lf.r (cRS tb0_8 (Int.toNat t1) 6)), (Lf.i (((List.length (cRS tb0_8 (Int.toNat t1) 6)) : Nat) : Int)), (Lf.i (0 : Int)), (Lf.i tb1_0), (Lf.i tb1_1)])) :
    EV 12 [R0] [.i t1, .i tb0_0, .i tb0_1, .i tb0_2, .i tb0_3, .r tb0_4, .i tb0_5, .r tb0_6, .r tb0_7, .r tb0_8, .r tb0_9, .i tb1_0, .i tb1_1] := by
  have hA := W.hA
  refine W.step 80 fun hp => ?_
  have h := h hp.1
  cbv
  refine ⟨ndI hA (And.intro (by subst hA; exact h.1) (by subst hA; exact h.2.1)), ⟨ndI hA (And.intro (by subst hA; show 0 = 0; (first | rfl | simp [rappS_end] | (simp only [rappS_end, List.length_append, List.length_set, List.length_cons, List.length_nil]; omega))) (And.intro rfl (by subst hA; show 0 = 0; (first | rfl | simp [rappS_end] | (simp only [rappS_end, List.length_append, List.length_set, List.length_cons, List.length_nil]; omega))))), ⟨ndI hA (by subst hA; exact vpur), ⟨ndI hA (And.intro rfl (And.intro rfl rfl)), ⟨ndI hA (by subst hA; exact hp.1), (by subst hA; exact h.2.2)⟩⟩⟩⟩⟩

set_option maxHeartbeats 2000000 in
theorem V62_p19 (W : Wk Try.prog Try.f62 I62 L62 Q A sg CE CK Dn EV RR) {R0 : List (List AV)} {R1 : List (List AV)} {t29 : List (List AV)} {t30 : Int} {t31 : Int} {tb0_0 : Int} {tb0_1 : Int} (h : pursS R0 = true → pursS R1 = true → 
    (t31 < t30 →
      ((0 : Int) ≤ t31) ∧
      (t29[(Int.toNat t31)]? = some [(AV.int .i64 (cIS t29 (Int.toNat t31) 0)), (AV.int .i64 (cIS t29 (Int.toNat t31) 1)), (AV.int .i64 (cIS t29 (Int.toNat t31) 2))]) ∧
      (EC Try.prog G67 [R1] [(Lf.i (cIS t29 (Int.toNat t31) 0)), (Lf.i (cIS t29 (Int.toNat t31) 1)), (Lf.i (cIS t29 (Int.toNat t31) 2)), (Lf.i tb0_0), (Lf.i tb0_1)] (fun x rs vs => (x = 0 ∧ ∃ (Y1_0 : List (List AV)) (y1_0_0 : Int) (y1_0_1 : Int) (y1_b0_0 : Int) (y1_b0_1 : Int), rs = [Y1_0] ∧ vs = [.i y1_0_0, .i y1_0_1, .i y1_b0_0, .i y1_b0_1] ∧
        ((((List.length R0) + 1) ≤ 140737488355328) ∧
          ((((List.length R0) + 1) * 16) ≤ 140737488355328) ∧
          (EV 19 [(R0 ++ [[(AV.int .i64 y1_0_0), (AV.int .i64 y1_0_1)]]), Y1_0] [(Lf.r t29), (Lf.i t30), (Lf.i (IntKind.wrap .i64 (t31 + (1 : Int)))), (Lf.i y1_b0_0), (Lf.i y1_b0_1)])))))) ∧
    (t31 ≥ t30 →
      Q 0 [R0] [])) :
    EV 19 [R0, R1] [.r t29, .i t30, .i t31, .i tb0_0, .i tb0_1] := by
  have hA := W.hA
  refine W.step 80 fun hp => ?_
  have h := h hp.1 hp.2.1
  cbv
  refine ⟨imI hA fun e0 => have c0 : t31 < t30 := (by have q := (cmpE (op := .lss) hA e0); subst hA; exact q); ⟨ndI hA (And.intro (by subst hA; exact (h.1 c0).1) (by subst hA; exact (h.1 c0).2.1)), ⟨ndI hA (And.intro rfl (And.intro rfl rfl)), ⟨ndI hA (by subst hA; exact hp.2.1), ?_⟩⟩⟩, imI hA fun e0 => have c0 : t31 ≥ t30 := (by have q := (cmpE (op := .lss) hA e0); subst hA; exact q); ⟨ndI hA (And.intro rfl (And.intro rfl rfl)), ⟨ndI hA (by subst hA; exact hp.1), (by rw [W.rr]; exact (by subst hA; exact (h.2 c0)))⟩⟩⟩
  · refine W.call 80 (by rfl) (h.1 c0).2.2 (by subst hA; rfl) (by subst hA; rfl) ?_
    rintro x rs vs hp1 hq1
    rcases hq1 with ⟨rfl, Y1_0, y1_0_0, y1_0_1, y1_b0_0, y1_b0_1, rfl, rfl, k1⟩
    · cbv
      refine ⟨ndI hA (And.intro rfl (And.intro (Nat.le_refl _) (And.intro (by subst hA; exact k1.1) (by subst hA; exact k1.2.1)))), ⟨ndI hA (And.intro rfl (And.intro rfl (by subst hA; show ((List.length R0) + 1) = (List.length (rappS R0 (List.length R0) [[(AV.int .i64 y1_0_0), (AV.int .i64 y1_0_1)]])); (first | rfl | simp [rappS_end] | (simp only [rappS_end, List.length_append, List.length_set, List.length_cons, List.length_nil]; omega))))), ⟨ndI hA (by subst hA; exact (vapp hp.1 vpur)), ⟨ndI hA (And.intro rfl (And.intro rfl rfl)), ⟨ndI hA (by subst hA; exact hp1.1), (by subst hA; show EV 19 [(rappS R0 (List.length R0) [[(AV.int .i64 y1_0_0), (AV.int .i64 y1_0_1)]]), Y1_0] [(Lf.r t29), (Lf.i t30), (Lf.i (IntKind.wrap .i64 (t31 + (1 : Int)))), (Lf.i y1_b0_0), (Lf.i y1_b0_1)]; simp only [rappS_end, Nat.zero_add, Int.toNat_natCast]; exact k1.2.2)⟩⟩⟩⟩⟩

end
structure V62 (EV Q : Nat → Rs → List Lf → Prop) : Prop where
  p12 : ∀ {R0 : List (List AV)} {t1 : Int} {tb0_0 : Int} {tb0_1 : Int} {tb0_2 : Int} {tb0_3 : Int} {tb0_4 : List (List AV)} {tb0_5 : Int} {tb0_6 : List (List AV)} {tb0_7 : List (List AV)} {tb0_8 : List (List AV)} {tb0_9 : List (List AV)} {tb1_0 : Int} {tb1_1 : Int}, (pursS R0 = true → 
    ((0 : Int) ≤ t1) ∧
    (tb0_8[(Int.toNat t1)]? = some [(AV.int .i64 (cIS tb0_8 (Int.toNat t1) 0)), (AV.int .i64 (cIS tb0_8 (Int.toNat t1) 1)), (AV.int .i64 (cIS tb0_8 (Int.toNat t1) 2)), (AV.int .i64 (cIS tb0_8 (Int.toNat t1) 3)), (AV.int .i64 (cIS tb0_8 (Int.toNat t1) 4)), (AV.int .i64 (cIS tb0_8 (Int.toNat t1) 5)), (AV.inl 3 (cRS tb0_8 (Int.toNat t1) 6))]) ∧
    (EV 19 [[], R0] [(Lf.r (cRS tb0_8 (Int.toNat t1) 6)), (Lf.i (((List.length (cRS tb0_8 (Int.toNat t1) 6)) : Nat) : Int)), (Lf.i (0 : Int)), (Lf.i tb1_0), (Lf.i tb1_1)])) →
    EV 12 [R0] [.i t1, .i tb0_0, .i tb0_1, .i tb0_2, .i tb0_3, .r tb0_4, .i tb0_5, .r tb0_6, .r tb0_7, .r tb0_8, .r tb0_9, .i tb1_0, .i tb1_1]
  p19 : ∀ {R0 : List (List AV)} {R1 : List (List AV)} {t29 : List (List AV)} {t30 : Int} {t31 : Int} {tb0_0 : Int} {tb0_1 : Int}, (pursS R0 = true → pursS R1 = true → 
    (t31 < t30 →
      ((0 : Int) ≤ t31) ∧
      (t29[(Int.toNat t31)]? = some [(AV.int .i64 (cIS t29 (Int.toNat t31) 0)), (AV.int .i64 (cIS t29 (Int.toNat t31) 1)), (AV.int .i64 (cIS t29 (Int.toNat t31) 2))]) ∧
      (EC Try.prog G67 [R1] [(Lf.i (cIS t29 (Int.toNat t31) 0)), (Lf.i (cIS t29 (Int.toNat t31) 1)), (Lf.i (cIS t29 (Int.toNat t31) 2)), (Lf.i tb0_0), (Lf.i tb0_1)] (fun x rs vs => (x = 0 ∧ ∃ (Y1_0 : List (List AV)) (y1_0_0 : Int) (y1_0_1 : Int) (y1_b0_0 : Int) (y1_b0_1 : Int), rs = [Y1_0] ∧ vs = [.i y1_0_0, .i y1_0_1, .i y1_b0_0, .i y1_b0_1] ∧
        ((((List.length R0) + 1) ≤ 140737488355328) ∧
          ((((List.length R0) + 1) * 16) ≤ 140737488355328) ∧
          (EV 19 [(R0 ++ [[(AV.int .i64 y1_0_0), (AV.int .i64 y1_0_1)]]), Y1_0] [(Lf.r t29), (Lf.i t30), (Lf.i (IntKind.wrap .i64 (t31 + (1 : Int)))), (Lf.i y1_b0_0), (Lf.i y1_b0_1)])))))) ∧
    (t31 ≥ t30 →
      Q 0 [R0] [])) →
    EV 19 [R0, R1] [.r t29, .i t30, .i t31, .i tb0_0, .i tb0_1]

set_option maxHeartbeats 2000000 in
/-- To enter. -/
theorem E62 {Q : Nat → Rs → List Lf → Prop} {a0_0 : Int} {a0_1 : Int} {a0_2 : Int} {a0_3 : Int} {a0_4 : List (List AV)} {a0_5 : Int} {a0_6 : List (List AV)} {a0_7 : List (List AV)} {a0_8 : List (List AV)} {a0_9 : List (List AV)} {a1 : Int} (h : ∀ EV : Nat → Rs → List Lf → Prop, V62 EV Q →
    EC Try.prog G66 [] [(Lf.i a0_0), (Lf.i a0_1), (Lf.i a0_2), (Lf.i a0_3), (Lf.r a0_4), (Lf.i a0_5), (Lf.r a0_6), (Lf.r a0_7), (Lf.r a0_8), (Lf.r a0_9), (Lf.i a1)] (fun x rs vs => (x = 0 ∧ ∃ (y0_0 : Bool), rs = [] ∧ vs = [.b y0_0] ∧
      ((y0_0 = false →
          Q 0 [[]] []) ∧
        (y0_0 = true →
          ((0 : Int) ≤ a1) ∧
          (a0_8[(Int.toNat a1)]? = some [(AV.int .i64 (cIS a0_8 (Int.toNat a1) 0)), (AV.int .i64 (cIS a0_8 (Int.toNat a1) 1)), (AV.int .i64 (cIS a0_8 (Int.toNat a1) 2)), (AV.int .i64 (cIS a0_8 (Int.toNat a1) 3)), (AV.int .i64 (cIS a0_8 (Int.toNat a1) 4)), (AV.int .i64 (cIS a0_8 (Int.toNat a1) 5)), (AV.inl 3 (cRS a0_8 (Int.toNat a1) 6))]) ∧
          (EC Try.prog G10 [] [(Lf.r a0_7)] (fun x rs vs => (x = 0 ∧ ∃ (Y2_0 : List (List AV)), rs = [Y2_0] ∧ vs = [] ∧
            (EV 12 [Y2_0] [(Lf.i a1), (Lf.i a0_0), (Lf.i a0_1), (Lf.i a0_2), (Lf.i a0_3), (Lf.r a0_4), (Lf.i a0_5), (Lf.r a0_6), (Lf.r a0_7), (Lf.r a0_8), (Lf.r a0_9), (Lf.i (cIS a0_8 (Int.toNat a1) 1)), (Lf.i (0 : Int))]))))))))) :
    EC Try.prog G62 [] [.i a0_0, .i a0_1, .i a0_2, .i a0_3, .r a0_4, .i a0_5, .r a0_6, .r a0_7, .r a0_8, .r a0_9, .i a1] Q := by
  obtain ⟨A, hA⟩ : ∃ A, A = arS := ⟨_, rfl⟩
  refine Inst.enter (I := I62) hA mixed F62_at sg L62 80 rfl fun CE CK Dn EV RR W hp => ?_
  have h := h  EV ⟨V62_p12 W, V62_p19 W⟩
  cbv
  refine ?_
  · refine W.call 80 (by rfl) h (by subst hA; rfl) (by subst hA; rfl) ?_
    rintro x rs vs hp0 hq0
    rcases hq0 with ⟨rfl, y0_0, rfl, rfl, k0⟩
    · cbv
      refine ⟨imI hA fun e1 => have c1 : y0_0 = false := (by have q := (notE hA e1); subst hA; exact q); ⟨ndI hA (And.intro (by subst hA; show 0 = 0; (first | rfl | simp [rappS_end] | (simp only [rappS_end, List.length_append, List.length_set, List.length_cons, List.length_nil]; omega))) (And.intro rfl (by subst hA; show 0 = 0; (first | rfl | simp [rappS_end] | (simp only [rappS_end, List.length_append, List.length_set, List.length_cons, List.length_nil]; omega))))), ⟨ndI hA (by subst hA; exact vpur), (by rw [W.rr]; exact (by subst hA; exact (k0.1 c1)))⟩⟩, imI hA fun e1 => have c1 : y0_0 = true := (by have q := (notE hA e1); subst hA; exact q); ⟨ndI hA (And.intro (by subst hA; exact (k0.2 c1).1) (by subst hA; exact (k0.2 c1).2.1)), ⟨?_, trivial⟩⟩⟩
      · refine W.callD (by rfl) (k0.2 c1).2.2 (by subst hA; rfl) (by subst hA; rfl) ?_
        rintro x rs vs hp2 hq2
        rcases hq2 with ⟨rfl, Y2_0, rfl, rfl, k2⟩
        · cbv
          refine ?_
          · refine W.draw 80 (by rfl) ?_
            cbv
            refine ⟨⟨ndI hA (And.intro rfl (And.intro rfl rfl)), ⟨ndI hA (by subst hA; exact hp2.1), (by subst hA; exact k2)⟩⟩, trivial⟩

-- 46: signalbox/section.Longest DRAWN
section
variable {Q : Nat → Rs → List Lf → Prop} {A : Ar} {CE : Nat → Rs → List Lf → (Nat → Rs → List Lf → Prop) → Prop} {CK : Nat → Rs → List Lf → Cont → Prop} {Dn : Nat → List Bool → List AItem → Nat → List Bool → List AV → List ABlk → Prop} {EV RR : Nat → Rs → List Lf → Prop}
set_option maxHeartbeats 2000000 in
theorem V46_p9 (W : Wk Try.prog Try.f46 I46 L46 Q A sg CE CK Dn EV RR) {R0 : List (List AV)} {t1 : Int} {t2 : Int} {t7 : Int} {t8 : Int} {t14 : Int} {t15 : Int} {tb0_0 : Int} {tb0_1 : Int} {tb0_2 : Int} {tb0_3 : Int} {tb0_4 : List (List AV)} {tb0_5 : Int} {tb0_6 : List (List AV)} {tb0_7 : List (List AV)} {tb0_8 : List (List AV)} {tb0_9 : List (List AV)} (h : pursS R0 = true → 
    (t15 < t14 →
      ((0 : Int) ≤ t15) ∧
      (t15 < (((List.length R0) : Nat) : Int)) ∧
      (R0[(Int.toNat t15)]? = some [(AV.int .i64 (cIS R0 (Int.toNat t15) 0)), (AV.int .i64 (cIS R0 (Int.toNat t15) 1))]) ∧
      ((arS.mx (cIS R0 (Int.toNat t15) 0) (cIS R0 (Int.toNat t15) 1)) < t2 →
        EV 9 [R0] [(Lf.i t1), (Lf.i t2), (Lf.i t7), (Lf.i (0 : Int)), (Lf.i t14), (Lf.i (IntKind.wrap .i64 (t15 + (1 : Int)))), (Lf.i tb0_0), (Lf.i tb0_1), (Lf.i tb0_2), (Lf.i tb0_3), (Lf.r tb0_4), (Lf.i tb0_5), (Lf.r tb0_6), (Lf.r tb0_7), (Lf.r tb0_8), (Lf.r tb0_9)]) ∧
      ((arS.mx (cIS R0 (Int.toNat t15) 0) (cIS R0 (Int.toNat t15) 1)) ≥ t2 →
        ((0 : Int) ≤ t1) ∧
        (tb0_8[(Int.toNat t1)]? = some [(AV.int .i64 (cIS tb0_8 (Int.toNat t1) 0)), (AV.int .i64 (cIS tb0_8 (Int.toNat t1) 1)), (AV.int .i64 (cIS tb0_8 (Int.toNat t1) 2)), (AV.int .i64 (cIS tb0_8 (Int.toNat t1) 3)), (AV.int .i64 (cIS tb0_8 (Int.toNat t1) 4)), (AV.int .i64 (cIS tb0_8 (Int.toNat t1) 5)), (AV.inl 3 (cRS tb0_8 (Int.toNat t1) 6))]) ∧
        ((0 : Int) ≤ t15) ∧
        ((cRS tb0_8 (Int.toNat t1) 6)[(Int.toNat t15)]? = some [(AV.int .i64 (cIS (cRS tb0_8 (Int.toNat t1) 6) (Int.toNat t15) 0)), (AV.int .i64 (cIS (cRS tb0_8 (Int.toNat t1) 6) (Int.toNat t15) 1)), (AV.int .i64 (cIS (cRS tb0_8 (Int.toNat t1) 6) (Int.toNat t15) 2))]) ∧
        (EC Try.prog G63 [] [(Lf.i (cIS (cRS tb0_8 (Int.toNat t1) 6) (Int.toNat t15) 0)), (Lf.i (cIS (cRS tb0_8 (Int.toNat t1) 6) (Int.toNat t15) 1)), (Lf.i (cIS (cRS tb0_8 (Int.toNat t1) 6) (Int.toNat t15) 2)), (Lf.i tb0_0), (Lf.i tb0_1), (Lf.i tb0_2), (Lf.i tb0_3), (Lf.b false)] (fun x rs vs => (x = 0 ∧ ∃ (y2_0 : Int), rs = [] ∧ vs = [.i y2_0] ∧
          (EV 9 [R0] [(Lf.i t1), (Lf.i t2), (Lf.i (arS.mx t7 (IntKind.wrap .i64 (t8 + y2_0)))), (Lf.i (IntKind.wrap .i64 (t8 + y2_0))), (Lf.i t14), (Lf.i (IntKind.wrap .i64 (t15 + (1 : Int)))), (Lf.i tb0_0), (Lf.i tb0_1), (Lf.i tb0_2), (Lf.i tb0_3), (Lf.r tb0_4), (Lf.i tb0_5), (Lf.r tb0_6), (Lf.r tb0_7), (Lf.r tb0_8), (Lf.r tb0_9)])))))) ∧
    (t15 ≥ t14 →
      Q 0 [] [(Lf.i t7)])) :
    EV 9 [R0] [.i t1, .i t2, .i t7, .i t8, .i t14, .i t15, .i tb0_0, .i tb0_1, .i tb0_2, .i tb0_3, .r tb0_4, .i tb0_5, .r tb0_6, .r tb0_7, .r tb0_8, .r tb0_9] := by
  have hA := W.hA
  refine W.step 80 fun hp => ?_
  have h := h hp.1
  cbv
  refine ⟨imI hA fun e0 => have c0 : t15 < t14 := (by have q := (cmpE (op := .lss) hA e0); subst hA; exact q); ⟨ndI hA (And.intro (by subst hA; exact (h.1 c0).1) (And.intro (by subst hA; exact (h.1 c0).2.1) rfl)), ⟨ndI hA (And.intro rfl (by subst hA; show R0[(0 + (Int.toNat t15))]? = some [(AV.int .i64 (cIS R0 (0 + (Int.toNat t15)) 0)), (AV.int .i64 (cIS R0 (0 + (Int.toNat t15)) 1))]; simp only [rappS_end, Nat.zero_add, Int.toNat_natCast]; exact (h.1 c0).2.2.1)), ⟨imI hA fun e1 => have c1 : (arS.mx (cIS R0 (Int.toNat t15) 0) (cIS R0 (Int.toNat t15) 1)) < t2 := (by have q := (cmpE (op := .lss) hA e1); subst hA; have q : (arS.mx (cIS R0 (0 + (Int.toNat t15)) 0) (cIS R0 (0 + (Int.toNat t15)) 1)) < t2 := q; simpa only [rappS_end, Nat.zero_add, Int.toNat_natCast] using q); ⟨ndI hA (And.intro rfl (And.intro rfl rfl)), ⟨ndI hA (by subst hA; exact hp.1), (by subst hA; exact ((h.1 c0).2.2.2.1 c1))⟩⟩, imI hA fun e1 => have c1 : (arS.mx (cIS R0 (Int.toNat t15) 0) (cIS R0 (Int.toNat t15) 1)) ≥ t2 := (by have q := (cmpE (op := .lss) hA e1); subst hA; have q : (arS.mx (cIS R0 (0 + (Int.toNat t15)) 0) (cIS R0 (0 + (Int.toNat t15)) 1)) ≥ t2 := q; simpa only [rappS_end, Nat.zero_add, Int.toNat_natCast] using q); ⟨ndI hA (And.intro (by subst hA; exact ((h.1 c0).2.2.2.2 c1).1) (by subst hA; exact ((h.1 c0).2.2.2.2 c1).2.1)), ⟨ndI hA (And.intro (by subst hA; exact ((h.1 c0).2.2.2.2 c1).2.2.1) (by subst hA; exact ((h.1 c0).2.2.2.2 c1).2.2.2.1)), ⟨?_, trivial⟩⟩⟩⟩⟩⟩, imI hA fun e0 => have c0 : t15 ≥ t14 := (by have q := (cmpE (op := .lss) hA e0); subst hA; exact q); (by rw [W.rr]; exact (by subst hA; exact (h.2 c0)))⟩
  · refine W.callD (by rfl) ((h.1 c0).2.2.2.2 c1).2.2.2.2 (by subst hA; rfl) (by subst hA; rfl) ?_
    rintro x rs vs hp2 hq2
    rcases hq2 with ⟨rfl, y2_0, rfl, rfl, k2⟩
    · cbv
      refine ?_
      · refine W.draw 80 (by rfl) ?_
        cbv
        refine ⟨ndI hA (And.intro rfl (And.intro rfl rfl)), ⟨ndI hA (by subst hA; exact hp.1), (by subst hA; exact k2)⟩⟩

end
structure V46 (EV Q : Nat → Rs → List Lf → Prop) : Prop where
  p9 : ∀ {R0 : List (List AV)} {t1 : Int} {t2 : Int} {t7 : Int} {t8 : Int} {t14 : Int} {t15 : Int} {tb0_0 : Int} {tb0_1 : Int} {tb0_2 : Int} {tb0_3 : Int} {tb0_4 : List (List AV)} {tb0_5 : Int} {tb0_6 : List (List AV)} {tb0_7 : List (List AV)} {tb0_8 : List (List AV)} {tb0_9 : List (List AV)}, (pursS R0 = true → 
    (t15 < t14 →
      ((0 : Int) ≤ t15) ∧
      (t15 < (((List.length R0) : Nat) : Int)) ∧
      (R0[(Int.toNat t15)]? = some [(AV.int .i64 (cIS R0 (Int.toNat t15) 0)), (AV.int .i64 (cIS R0 (Int.toNat t15) 1))]) ∧
      ((arS.mx (cIS R0 (Int.toNat t15) 0) (cIS R0 (Int.toNat t15) 1)) < t2 →
        EV 9 [R0] [(Lf.i t1), (Lf.i t2), (Lf.i t7), (Lf.i (0 : Int)), (Lf.i t14), (Lf.i (IntKind.wrap .i64 (t15 + (1 : Int)))), (Lf.i tb0_0), (Lf.i tb0_1), (Lf.i tb0_2), (Lf.i tb0_3), (Lf.r tb0_4), (Lf.i tb0_5), (Lf.r tb0_6), (Lf.r tb0_7), (Lf.r tb0_8), (Lf.r tb0_9)]) ∧
      ((arS.mx (cIS R0 (Int.toNat t15) 0) (cIS R0 (Int.toNat t15) 1)) ≥ t2 →
        ((0 : Int) ≤ t1) ∧
        (tb0_8[(Int.toNat t1)]? = some [(AV.int .i64 (cIS tb0_8 (Int.toNat t1) 0)), (AV.int .i64 (cIS tb0_8 (Int.toNat t1) 1)), (AV.int .i64 (cIS tb0_8 (Int.toNat t1) 2)), (AV.int .i64 (cIS tb0_8 (Int.toNat t1) 3)), (AV.int .i64 (cIS tb0_8 (Int.toNat t1) 4)), (AV.int .i64 (cIS tb0_8 (Int.toNat t1) 5)), (AV.inl 3 (cRS tb0_8 (Int.toNat t1) 6))]) ∧
        ((0 : Int) ≤ t15) ∧
        ((cRS tb0_8 (Int.toNat t1) 6)[(Int.toNat t15)]? = some [(AV.int .i64 (cIS (cRS tb0_8 (Int.toNat t1) 6) (Int.toNat t15) 0)), (AV.int .i64 (cIS (cRS tb0_8 (Int.toNat t1) 6) (Int.toNat t15) 1)), (AV.int .i64 (cIS (cRS tb0_8 (Int.toNat t1) 6) (Int.toNat t15) 2))]) ∧
        (EC Try.prog G63 [] [(Lf.i (cIS (cRS tb0_8 (Int.toNat t1) 6) (Int.toNat t15) 0)), (Lf.i (cIS (cRS tb0_8 (Int.toNat t1) 6) (Int.toNat t15) 1)), (Lf.i (cIS (cRS tb0_8 (Int.toNat t1) 6) (Int.toNat t15) 2)), (Lf.i tb0_0), (Lf.i tb0_1), (Lf.i tb0_2), (Lf.i tb0_3), (Lf.b false)] (fun x rs vs => (x = 0 ∧ ∃ (y2_0 : Int), rs = [] ∧ vs = [.i y2_0] ∧
          (EV 9 [R0] [(Lf.i t1), (Lf.i t2), (Lf.i (arS.mx t7 (IntKind.wrap .i64 (t8 + y2_0)))), (Lf.i (IntKind.wrap .i64 (t8 + y2_0))), (Lf.i t14), (Lf.i (IntKind.wrap .i64 (t15 + (1 : Int)))), (Lf.i tb0_0), (Lf.i tb0_1), (Lf.i tb0_2), (Lf.i tb0_3), (Lf.r tb0_4), (Lf.i tb0_5), (Lf.r tb0_6), (Lf.r tb0_7), (Lf.r tb0_8), (Lf.r tb0_9)])))))) ∧
    (t15 ≥ t14 →
      Q 0 [] [(Lf.i t7)])) →
    EV 9 [R0] [.i t1, .i t2, .i t7, .i t8, .i t14, .i t15, .i tb0_0, .i tb0_1, .i tb0_2, .i tb0_3, .r tb0_4, .i tb0_5, .r tb0_6, .r tb0_7, .r tb0_8, .r tb0_9]

set_option maxHeartbeats 2000000 in
/-- To enter. -/
theorem E46 {Q : Nat → Rs → List Lf → Prop} {a0_0 : Int} {a0_1 : Int} {a0_2 : Int} {a0_3 : Int} {a0_4 : List (List AV)} {a0_5 : Int} {a0_6 : List (List AV)} {a0_7 : List (List AV)} {a0_8 : List (List AV)} {a0_9 : List (List AV)} {a1 : Int} {a2 : Int} (h : ∀ EV : Nat → Rs → List Lf → Prop, V46 EV Q →
    EC Try.prog G62 [] [(Lf.i a0_0), (Lf.i a0_1), (Lf.i a0_2), (Lf.i a0_3), (Lf.r a0_4), (Lf.i a0_5), (Lf.r a0_6), (Lf.r a0_7), (Lf.r a0_8), (Lf.r a0_9), (Lf.i a1)] (fun x rs vs => (x = 0 ∧ ∃ (Y0_0 : List (List AV)), rs = [Y0_0] ∧ vs = [] ∧
      (EV 9 [Y0_0] [(Lf.i a1), (Lf.i a2), (Lf.i (0 : Int)), (Lf.i (0 : Int)), (Lf.i (((List.length Y0_0) : Nat) : Int)), (Lf.i (0 : Int)), (Lf.i a0_0), (Lf.i a0_1), (Lf.i a0_2), (Lf.i a0_3), (Lf.r a0_4), (Lf.i a0_5), (Lf.r a0_6), (Lf.r a0_7), (Lf.r a0_8), (Lf.r a0_9)])))) :
    EC Try.prog G46 [] [.i a0_0, .i a0_1, .i a0_2, .i a0_3, .r a0_4, .i a0_5, .r a0_6, .r a0_7, .r a0_8, .r a0_9, .i a1, .i a2] Q := by
  obtain ⟨A, hA⟩ : ∃ A, A = arS := ⟨_, rfl⟩
  refine Inst.enter (I := I46) hA mixed F46_at sg L46 80 rfl fun CE CK Dn EV RR W hp => ?_
  have h := h  EV ⟨V46_p9 W⟩
  cbv
  refine ?_
  · refine W.call 80 (by rfl) h (by subst hA; rfl) (by subst hA; rfl) ?_
    rintro x rs vs hp0 hq0
    rcases hq0 with ⟨rfl, Y0_0, rfl, rfl, k0⟩
    · cbv
      refine ⟨ndI hA rfl, ⟨ndI hA (And.intro rfl (And.intro rfl rfl)), ⟨ndI hA (by subst hA; exact hp0.1), (by subst hA; exact k0)⟩⟩⟩

-- 47: signalbox/sat.Sum
section
variable {Q : Nat → Rs → List Lf → Prop} {A : Ar} {CE : Nat → Rs → List Lf → (Nat → Rs → List Lf → Prop) → Prop} {CK : Nat → Rs → List Lf → Cont → Prop} {Dn : Nat → List Bool → List AItem → Nat → List Bool → List AV → List ABlk → Prop} {EV RR : Nat → Rs → List Lf → Prop}
set_option maxHeartbeats 2000000 in
theorem V47_p9 (W : Wk Try.prog Try.f47 I47 L47 Q A sg CE CK Dn EV RR) {t3 : Int} {t6 : List (List AV)} {t7 : Int} {t8 : Int} (h : 
    (t8 < t7 →
      ((0 : Int) ≤ t8) ∧
      (t6[(Int.toNat t8)]? = some [(AV.int .u64 (cIS t6 (Int.toNat t8) 0))]) ∧
      (EC Try.prog G41 [] [(Lf.i t3), (Lf.i (cIS t6 (Int.toNat t8) 0))] (fun x rs vs => (x = 0 ∧ ∃ (y1_0 : Int), rs = [] ∧ vs = [.i y1_0] ∧
        (EV 9 [] [(Lf.i y1_0), (Lf.r t6), (Lf.i t7), (Lf.i (IntKind.wrap .i64 (t8 + (1 : Int))))]))))) ∧
    (t8 ≥ t7 →
      Q 0 [] [(Lf.i t3)])) :
    EV 9 [] [.i t3, .r t6, .i t7, .i t8] := by
  have hA := W.hA
  refine W.step 80 fun hp => ?_
  cbv
  refine ⟨imI hA fun e0 => have c0 : t8 < t7 := (by have q := (cmpE (op := .lss) hA e0); subst hA; exact q); ⟨ndI hA (And.intro (by subst hA; exact (h.1 c0).1) (by subst hA; exact (h.1 c0).2.1)), ?_⟩, imI hA fun e0 => have c0 : t8 ≥ t7 := (by have q := (cmpE (op := .lss) hA e0); subst hA; exact q); (by rw [W.rr]; exact (by subst hA; exact (h.2 c0)))⟩
  · refine W.call 80 (by rfl) (h.1 c0).2.2 (by subst hA; rfl) (by subst hA; rfl) ?_
    rintro x rs vs hp1 hq1
    rcases hq1 with ⟨rfl, y1_0, rfl, rfl, k1⟩
    · cbv
      refine (by subst hA; exact k1)

end
structure V47 (EV Q : Nat → Rs → List Lf → Prop) : Prop where
  p9 : ∀ {t3 : Int} {t6 : List (List AV)} {t7 : Int} {t8 : Int}, (
    (t8 < t7 →
      ((0 : Int) ≤ t8) ∧
      (t6[(Int.toNat t8)]? = some [(AV.int .u64 (cIS t6 (Int.toNat t8) 0))]) ∧
      (EC Try.prog G41 [] [(Lf.i t3), (Lf.i (cIS t6 (Int.toNat t8) 0))] (fun x rs vs => (x = 0 ∧ ∃ (y1_0 : Int), rs = [] ∧ vs = [.i y1_0] ∧
        (EV 9 [] [(Lf.i y1_0), (Lf.r t6), (Lf.i t7), (Lf.i (IntKind.wrap .i64 (t8 + (1 : Int))))]))))) ∧
    (t8 ≥ t7 →
      Q 0 [] [(Lf.i t3)])) →
    EV 9 [] [.i t3, .r t6, .i t7, .i t8]

set_option maxHeartbeats 2000000 in
/-- To enter. -/
theorem E47 {Q : Nat → Rs → List Lf → Prop} {a0 : List (List AV)} (h : ∀ EV : Nat → Rs → List Lf → Prop, V47 EV Q →
    EV 9 [] [(Lf.i (0 : Int)), (Lf.r a0), (Lf.i (((List.length a0) : Nat) : Int)), (Lf.i (0 : Int))]) :
    EC Try.prog G47 [] [.r a0] Q := by
  obtain ⟨A, hA⟩ : ∃ A, A = arS := ⟨_, rfl⟩
  refine Inst.enter (I := I47) hA mixed F47_at sg L47 80 rfl fun CE CK Dn EV RR W hp => ?_
  have h := h  EV ⟨V47_p9 W⟩
  cbv
  refine (by subst hA; exact h)

-- 29: signalbox/preempt.Blocking DRAWN
section
variable {Q : Nat → Rs → List Lf → Prop} {A : Ar} {CE : Nat → Rs → List Lf → (Nat → Rs → List Lf → Prop) → Prop} {CK : Nat → Rs → List Lf → Cont → Prop} {Dn : Nat → List Bool → List AItem → Nat → List Bool → List AV → List ABlk → Prop} {EV RR : Nat → Rs → List Lf → Prop}
set_option maxHeartbeats 2000000 in
theorem V29_p12 (W : Wk Try.prog Try.f29 I29 L29 Q A sg CE CK Dn EV RR) {t1 : Int} {t8 : Int} {tb0_0 : Int} {tb0_1 : Int} {tb0_2 : Int} {tb0_3 : Int} {tb0_4 : List (List AV)} {tb0_5 : Int} {tb0_6 : List (List AV)} {tb0_7 : List (List AV)} {tb0_8 : List (List AV)} {tb0_9 : List (List AV)} {tb1_0 : Int} {tb1_1 : Int} {tb1_2 : Int} {tb1_3 : Int} {tb1_4 : Int} {tb1_5 : Int} {tb1_6 : List (List AV)} (h : 
    EC Try.prog G45 [] [(Lf.r tb1_6), (Lf.i tb0_0), (Lf.i tb0_1), (Lf.i tb0_2), (Lf.i tb0_3)] (fun x rs vs => (x = 0 ∧ ∃ (y0_0 : Int), rs = [] ∧ vs = [.i y0_0] ∧
      (EC Try.prog G43 [] [(Lf.i y0_0)] (fun x rs vs => (x = 0 ∧ ∃ (y1_0 : Int), rs = [] ∧ vs = [.i y1_0] ∧
          ((tb1_1 ≥ t8 →
              Q 0 [] [(Lf.i y1_0)]) ∧
            (tb1_1 < t8 →
              EC Try.prog G46 [] [(Lf.i tb0_0), (Lf.i tb0_1), (Lf.i tb0_2), (Lf.i tb0_3), (Lf.r tb0_4), (Lf.i tb0_5), (Lf.r tb0_6), (Lf.r tb0_7), (Lf.r tb0_8), (Lf.r tb0_9), (Lf.i t1), (Lf.i t8)] (fun x rs vs => (x = 0 ∧ ∃ (y3_0 : Int), rs = [] ∧ vs = [.i y3_0] ∧
                (EC Try.prog G43 [] [(Lf.i y3_0)] (fun x rs vs => (x = 0 ∧ ∃ (y4_0 : Int), rs = [] ∧ vs = [.i y4_0] ∧
                    ((tb1_5 > (0 : Int) →
                        EC Try.prog G43 [] [(Lf.i tb1_5)] (fun x rs vs => (x = 0 ∧ ∃ (y6_0 : Int), rs = [] ∧ vs = [.i y6_0] ∧
                          (EC Try.prog G47 [] [(Lf.r [[(AV.int .u64 y6_0)], [(AV.int .u64 y4_0)], [(AV.int .u64 y4_0)]])] (fun x rs vs => (x = 0 ∧ ∃ (y7_0 : Int), rs = [] ∧ vs = [.i y7_0] ∧
                              (Q 0 [] [(Lf.i (arS.mn y1_0 y7_0))]))))))) ∧
                      (tb1_5 ≤ (0 : Int) →
                        Q 0 [] [(Lf.i (arS.mn y1_0 y4_0))]))))))))))))))) :
    EV 12 [] [.i t1, .i t8, .i tb0_0, .i tb0_1, .i tb0_2, .i tb0_3, .r tb0_4, .i tb0_5, .r tb0_6, .r tb0_7, .r tb0_8, .r tb0_9, .i tb1_0, .i tb1_1, .i tb1_2, .i tb1_3, .i tb1_4, .i tb1_5, .r tb1_6] := by
  have hA := W.hA
  refine W.step 80 fun hp => ?_
  cbv
  refine ?_
  · refine W.call 80 (by rfl) h (by subst hA; rfl) (by subst hA; rfl) ?_
    rintro x rs vs hp0 hq0
    rcases hq0 with ⟨rfl, y0_0, rfl, rfl, k0⟩
    · cbv
      refine ?_
      · refine W.call 80 (by rfl) k0 (by subst hA; rfl) (by subst hA; rfl) ?_
        rintro x rs vs hp1 hq1
        rcases hq1 with ⟨rfl, y1_0, rfl, rfl, k1⟩
        · cbv
          refine ⟨imI hA fun e2 => have c2 : tb1_1 ≥ t8 := (by have q := (cmpE (op := .geq) hA e2); subst hA; exact q); (by rw [W.rr]; exact (by subst hA; exact (k1.1 c2))), imI hA fun e2 => have c2 : tb1_1 < t8 := (by have q := (cmpE (op := .geq) hA e2); subst hA; exact q); ?_⟩
          · refine W.call 80 (by rfl) (k1.2 c2) (by subst hA; rfl) (by subst hA; rfl) ?_
            rintro x rs vs hp3 hq3
            rcases hq3 with ⟨rfl, y3_0, rfl, rfl, k3⟩
            · cbv
              refine ?_
              · refine W.call 80 (by rfl) k3 (by subst hA; rfl) (by subst hA; rfl) ?_
                rintro x rs vs hp4 hq4
                rcases hq4 with ⟨rfl, y4_0, rfl, rfl, k4⟩
                · cbv
                  refine ⟨imI hA fun e5 => have c5 : tb1_5 > (0 : Int) := (by have q := (cmpE (op := .gtr) hA e5); subst hA; exact q); ?_, imI hA fun e5 => have c5 : tb1_5 ≤ (0 : Int) := (by have q := (cmpE (op := .gtr) hA e5); subst hA; exact q); (by rw [W.rr]; exact (by subst hA; exact (k4.2 c5)))⟩
                  · refine W.call 80 (by rfl) (k4.1 c5) (by subst hA; rfl) (by subst hA; rfl) ?_
                    rintro x rs vs hp6 hq6
                    rcases hq6 with ⟨rfl, y6_0, rfl, rfl, k6⟩
                    · cbv
                      refine ?_
                      · refine W.call 80 (by rfl) k6 (by subst hA; rfl) (by subst hA; rfl) ?_
                        rintro x rs vs hp7 hq7
                        rcases hq7 with ⟨rfl, y7_0, rfl, rfl, k7⟩
                        · cbv
                          refine (by rw [W.rr]; exact (by subst hA; exact k7))

end
structure V29 (EV Q : Nat → Rs → List Lf → Prop) : Prop where
  p12 : ∀ {t1 : Int} {t8 : Int} {tb0_0 : Int} {tb0_1 : Int} {tb0_2 : Int} {tb0_3 : Int} {tb0_4 : List (List AV)} {tb0_5 : Int} {tb0_6 : List (List AV)} {tb0_7 : List (List AV)} {tb0_8 : List (List AV)} {tb0_9 : List (List AV)} {tb1_0 : Int} {tb1_1 : Int} {tb1_2 : Int} {tb1_3 : Int} {tb1_4 : Int} {tb1_5 : Int} {tb1_6 : List (List AV)}, (
    EC Try.prog G45 [] [(Lf.r tb1_6), (Lf.i tb0_0), (Lf.i tb0_1), (Lf.i tb0_2), (Lf.i tb0_3)] (fun x rs vs => (x = 0 ∧ ∃ (y0_0 : Int), rs = [] ∧ vs = [.i y0_0] ∧
      (EC Try.prog G43 [] [(Lf.i y0_0)] (fun x rs vs => (x = 0 ∧ ∃ (y1_0 : Int), rs = [] ∧ vs = [.i y1_0] ∧
          ((tb1_1 ≥ t8 →
              Q 0 [] [(Lf.i y1_0)]) ∧
            (tb1_1 < t8 →
              EC Try.prog G46 [] [(Lf.i tb0_0), (Lf.i tb0_1), (Lf.i tb0_2), (Lf.i tb0_3), (Lf.r tb0_4), (Lf.i tb0_5), (Lf.r tb0_6), (Lf.r tb0_7), (Lf.r tb0_8), (Lf.r tb0_9), (Lf.i t1), (Lf.i t8)] (fun x rs vs => (x = 0 ∧ ∃ (y3_0 : Int), rs = [] ∧ vs = [.i y3_0] ∧
                (EC Try.prog G43 [] [(Lf.i y3_0)] (fun x rs vs => (x = 0 ∧ ∃ (y4_0 : Int), rs = [] ∧ vs = [.i y4_0] ∧
                    ((tb1_5 > (0 : Int) →
                        EC Try.prog G43 [] [(Lf.i tb1_5)] (fun x rs vs => (x = 0 ∧ ∃ (y6_0 : Int), rs = [] ∧ vs = [.i y6_0] ∧
                          (EC Try.prog G47 [] [(Lf.r [[(AV.int .u64 y6_0)], [(AV.int .u64 y4_0)], [(AV.int .u64 y4_0)]])] (fun x rs vs => (x = 0 ∧ ∃ (y7_0 : Int), rs = [] ∧ vs = [.i y7_0] ∧
                              (Q 0 [] [(Lf.i (arS.mn y1_0 y7_0))]))))))) ∧
                      (tb1_5 ≤ (0 : Int) →
                        Q 0 [] [(Lf.i (arS.mn y1_0 y4_0))]))))))))))))))) →
    EV 12 [] [.i t1, .i t8, .i tb0_0, .i tb0_1, .i tb0_2, .i tb0_3, .r tb0_4, .i tb0_5, .r tb0_6, .r tb0_7, .r tb0_8, .r tb0_9, .i tb1_0, .i tb1_1, .i tb1_2, .i tb1_3, .i tb1_4, .i tb1_5, .r tb1_6]

set_option maxHeartbeats 2000000 in
/-- To enter. -/
theorem E29 {Q : Nat → Rs → List Lf → Prop} {a0_0 : Int} {a0_1 : Int} {a0_2 : Int} {a0_3 : Int} {a0_4 : List (List AV)} {a0_5 : Int} {a0_6 : List (List AV)} {a0_7 : List (List AV)} {a0_8 : List (List AV)} {a0_9 : List (List AV)} {a1 : Int} {a2 : Int} (h : ∀ EV : Nat → Rs → List Lf → Prop, V29 EV Q →
    EC Try.prog G44 [] [(Lf.i a0_0), (Lf.i a0_1), (Lf.i a0_2), (Lf.i a0_3), (Lf.r a0_4), (Lf.i a0_5), (Lf.r a0_6), (Lf.r a0_7), (Lf.r a0_8), (Lf.r a0_9), (Lf.i a1)] (fun x rs vs => (x = 0 ∧ ∃ (y0_0 : Bool), rs = [] ∧ vs = [.b y0_0] ∧
      ((y0_0 = true →
          EC Try.prog G44 [] [(Lf.i a0_0), (Lf.i a0_1), (Lf.i a0_2), (Lf.i a0_3), (Lf.r a0_4), (Lf.i a0_5), (Lf.r a0_6), (Lf.r a0_7), (Lf.r a0_8), (Lf.r a0_9), (Lf.i a2)] (fun x rs vs => (x = 0 ∧ ∃ (y2_0 : Bool), rs = [] ∧ vs = [.b y2_0] ∧
            ((y2_0 = false →
                Q 0 [] [(Lf.i (0 : Int))]) ∧
              (y2_0 = true →
                ((0 : Int) ≤ a1) ∧
                (a0_8[(Int.toNat a1)]? = some [(AV.int .i64 (cIS a0_8 (Int.toNat a1) 0)), (AV.int .i64 (cIS a0_8 (Int.toNat a1) 1)), (AV.int .i64 (cIS a0_8 (Int.toNat a1) 2)), (AV.int .i64 (cIS a0_8 (Int.toNat a1) 3)), (AV.int .i64 (cIS a0_8 (Int.toNat a1) 4)), (AV.int .i64 (cIS a0_8 (Int.toNat a1) 5)), (AV.inl 3 (cRS a0_8 (Int.toNat a1) 6))]) ∧
                ((0 : Int) ≤ a2) ∧
                (a0_8[(Int.toNat a2)]? = some [(AV.int .i64 (cIS a0_8 (Int.toNat a2) 0)), (AV.int .i64 (cIS a0_8 (Int.toNat a2) 1)), (AV.int .i64 (cIS a0_8 (Int.toNat a2) 2)), (AV.int .i64 (cIS a0_8 (Int.toNat a2) 3)), (AV.int .i64 (cIS a0_8 (Int.toNat a2) 4)), (AV.int .i64 (cIS a0_8 (Int.toNat a2) 5)), (AV.inl 3 (cRS a0_8 (Int.toNat a2) 6))]) ∧
                (EV 12 [] [(Lf.i a1), (Lf.i (cIS a0_8 (Int.toNat a2) 0)), (Lf.i a0_0), (Lf.i a0_1), (Lf.i a0_2), (Lf.i a0_3), (Lf.r a0_4), (Lf.i a0_5), (Lf.r a0_6), (Lf.r a0_7), (Lf.r a0_8), (Lf.r a0_9), (Lf.i (cIS a0_8 (Int.toNat a1) 0)), (Lf.i (cIS a0_8 (Int.toNat a1) 1)), (Lf.i (cIS a0_8 (Int.toNat a1) 2)), (Lf.i (cIS a0_8 (Int.toNat a1) 3)), (Lf.i (cIS a0_8 (Int.toNat a1) 4)), (Lf.i (cIS a0_8 (Int.toNat a1) 5)), (Lf.r (cRS a0_8 (Int.toNat a1) 6))])))))) ∧
        (y0_0 = false →
          Q 0 [] [(Lf.i (0 : Int))]))))) :
    EC Try.prog G29 [] [.i a0_0, .i a0_1, .i a0_2, .i a0_3, .r a0_4, .i a0_5, .r a0_6, .r a0_7, .r a0_8, .r a0_9, .i a1, .i a2] Q := by
  obtain ⟨A, hA⟩ : ∃ A, A = arS := ⟨_, rfl⟩
  refine Inst.enter (I := I29) hA mixed F29_at sg L29 80 rfl fun CE CK Dn EV RR W hp => ?_
  have h := h  EV ⟨V29_p12 W⟩
  cbv
  refine ?_
  · refine W.call 80 (by rfl) h (by subst hA; rfl) (by subst hA; rfl) ?_
    rintro x rs vs hp0 hq0
    rcases hq0 with ⟨rfl, y0_0, rfl, rfl, k0⟩
    · cbv
      refine ⟨imI hA fun e1 => have c1 : y0_0 = true := (by have q := (notE hA e1); subst hA; exact q); ?_, imI hA fun e1 => have c1 : y0_0 = false := (by have q := (notE hA e1); subst hA; exact q); (by rw [W.rr]; exact (by subst hA; exact (k0.2 c1)))⟩
      · refine W.call 80 (by rfl) (k0.1 c1) (by subst hA; rfl) (by subst hA; rfl) ?_
        rintro x rs vs hp2 hq2
        rcases hq2 with ⟨rfl, y2_0, rfl, rfl, k2⟩
        · cbv
          refine ⟨imI hA fun e3 => have c3 : y2_0 = false := (by have q := (notE hA e3); subst hA; exact q); (by rw [W.rr]; exact (by subst hA; exact (k2.1 c3))), imI hA fun e3 => have c3 : y2_0 = true := (by have q := (notE hA e3); subst hA; exact q); ⟨ndI hA (And.intro (by subst hA; exact (k2.2 c3).1) (by subst hA; exact (k2.2 c3).2.1)), ⟨ndI hA (And.intro (by subst hA; exact (k2.2 c3).2.2.1) (by subst hA; exact (k2.2 c3).2.2.2.1)), ⟨⟨(by subst hA; exact (k2.2 c3).2.2.2.2), trivial⟩, trivial⟩⟩⟩⟩

-- 28: signalbox/preempt.Delay
section
variable {Q : Nat → Rs → List Lf → Prop} {A : Ar} {CE : Nat → Rs → List Lf → (Nat → Rs → List Lf → Prop) → Prop} {CK : Nat → Rs → List Lf → Cont → Prop} {Dn : Nat → List Bool → List AItem → Nat → List Bool → List AV → List ABlk → Prop} {EV RR : Nat → Rs → List Lf → Prop}
set_option maxHeartbeats 2000000 in
theorem V28_p9 (W : Wk Try.prog Try.f28 I28 L28 Q A sg CE CK Dn EV RR) {R0 : List (List AV)} {t1 : Int} {t5 : Int} {t11 : Int} {t12 : Int} {tb0_0 : Int} {tb0_1 : Int} {tb0_2 : Int} {tb0_3 : Int} {tb0_4 : List (List AV)} {tb0_5 : Int} {tb0_6 : List (List AV)} {tb0_7 : List (List AV)} {tb0_8 : List (List AV)} {tb0_9 : List (List AV)} (h : pursS R0 = true → 
    (t12 < t11 →
      ((0 : Int) ≤ t12) ∧
      (t12 < (((List.length R0) : Nat) : Int)) ∧
      (R0[(Int.toNat t12)]? = some [(AV.int .i64 (cIS R0 (Int.toNat t12) 0))]) ∧
      (EC Try.prog G29 [] [(Lf.i tb0_0), (Lf.i tb0_1), (Lf.i tb0_2), (Lf.i tb0_3), (Lf.r tb0_4), (Lf.i tb0_5), (Lf.r tb0_6), (Lf.r tb0_7), (Lf.r tb0_8), (Lf.r tb0_9), (Lf.i (cIS R0 (Int.toNat t12) 0)), (Lf.i t1)] (fun x rs vs => (x = 0 ∧ ∃ (y1_0 : Int), rs = [] ∧ vs = [.i y1_0] ∧
        (EV 9 [R0] [(Lf.i t1), (Lf.i (arS.mx t5 y1_0)), (Lf.i t11), (Lf.i (IntKind.wrap .i64 (t12 + (1 : Int)))), (Lf.i tb0_0), (Lf.i tb0_1), (Lf.i tb0_2), (Lf.i tb0_3), (Lf.r tb0_4), (Lf.i tb0_5), (Lf.r tb0_6), (Lf.r tb0_7), (Lf.r tb0_8), (Lf.r tb0_9)]))))) ∧
    (t12 ≥ t11 →
      Q 0 [] [(Lf.i t5)])) :
    EV 9 [R0] [.i t1, .i t5, .i t11, .i t12, .i tb0_0, .i tb0_1, .i tb0_2, .i tb0_3, .r tb0_4, .i tb0_5, .r tb0_6, .r tb0_7, .r tb0_8, .r tb0_9] := by
  have hA := W.hA
  refine W.step 80 fun hp => ?_
  have h := h hp.1
  cbv
  refine ⟨imI hA fun e0 => have c0 : t12 < t11 := (by have q := (cmpE (op := .lss) hA e0); subst hA; exact q); ⟨ndI hA (And.intro (by subst hA; exact (h.1 c0).1) (And.intro (by subst hA; exact (h.1 c0).2.1) rfl)), ⟨ndI hA (And.intro rfl (by subst hA; show R0[(0 + (Int.toNat t12))]? = some [(AV.int .i64 (cIS R0 (0 + (Int.toNat t12)) 0))]; simp only [rappS_end, Nat.zero_add, Int.toNat_natCast]; exact (h.1 c0).2.2.1)), ?_⟩⟩, imI hA fun e0 => have c0 : t12 ≥ t11 := (by have q := (cmpE (op := .lss) hA e0); subst hA; exact q); (by rw [W.rr]; exact (by subst hA; exact (h.2 c0)))⟩
  · refine W.call 80 (by rfl) (h.1 c0).2.2.2 (by subst hA; show [] = []; simp only [rappS_end, Nat.zero_add, Int.toNat_natCast]) (by subst hA; show [(Lf.i tb0_0), (Lf.i tb0_1), (Lf.i tb0_2), (Lf.i tb0_3), (Lf.r tb0_4), (Lf.i tb0_5), (Lf.r tb0_6), (Lf.r tb0_7), (Lf.r tb0_8), (Lf.r tb0_9), (Lf.i (cIS R0 (0 + (Int.toNat t12)) 0)), (Lf.i t1)] = [(Lf.i tb0_0), (Lf.i tb0_1), (Lf.i tb0_2), (Lf.i tb0_3), (Lf.r tb0_4), (Lf.i tb0_5), (Lf.r tb0_6), (Lf.r tb0_7), (Lf.r tb0_8), (Lf.r tb0_9), (Lf.i (cIS R0 (Int.toNat t12) 0)), (Lf.i t1)]; simp only [rappS_end, Nat.zero_add, Int.toNat_natCast]) ?_
    rintro x rs vs hp1 hq1
    rcases hq1 with ⟨rfl, y1_0, rfl, rfl, k1⟩
    · cbv
      refine ⟨ndI hA (And.intro rfl (And.intro rfl rfl)), ⟨ndI hA (by subst hA; exact hp.1), (by subst hA; exact k1)⟩⟩

end
structure V28 (EV Q : Nat → Rs → List Lf → Prop) : Prop where
  p9 : ∀ {R0 : List (List AV)} {t1 : Int} {t5 : Int} {t11 : Int} {t12 : Int} {tb0_0 : Int} {tb0_1 : Int} {tb0_2 : Int} {tb0_3 : Int} {tb0_4 : List (List AV)} {tb0_5 : Int} {tb0_6 : List (List AV)} {tb0_7 : List (List AV)} {tb0_8 : List (List AV)} {tb0_9 : List (List AV)}, (pursS R0 = true → 
    (t12 < t11 →
      ((0 : Int) ≤ t12) ∧
      (t12 < (((List.length R0) : Nat) : Int)) ∧
      (R0[(Int.toNat t12)]? = some [(AV.int .i64 (cIS R0 (Int.toNat t12) 0))]) ∧
      (EC Try.prog G29 [] [(Lf.i tb0_0), (Lf.i tb0_1), (Lf.i tb0_2), (Lf.i tb0_3), (Lf.r tb0_4), (Lf.i tb0_5), (Lf.r tb0_6), (Lf.r tb0_7), (Lf.r tb0_8), (Lf.r tb0_9), (Lf.i (cIS R0 (Int.toNat t12) 0)), (Lf.i t1)] (fun x rs vs => (x = 0 ∧ ∃ (y1_0 : Int), rs = [] ∧ vs = [.i y1_0] ∧
        (EV 9 [R0] [(Lf.i t1), (Lf.i (arS.mx t5 y1_0)), (Lf.i t11), (Lf.i (IntKind.wrap .i64 (t12 + (1 : Int)))), (Lf.i tb0_0), (Lf.i tb0_1), (Lf.i tb0_2), (Lf.i tb0_3), (Lf.r tb0_4), (Lf.i tb0_5), (Lf.r tb0_6), (Lf.r tb0_7), (Lf.r tb0_8), (Lf.r tb0_9)]))))) ∧
    (t12 ≥ t11 →
      Q 0 [] [(Lf.i t5)])) →
    EV 9 [R0] [.i t1, .i t5, .i t11, .i t12, .i tb0_0, .i tb0_1, .i tb0_2, .i tb0_3, .r tb0_4, .i tb0_5, .r tb0_6, .r tb0_7, .r tb0_8, .r tb0_9]

set_option maxHeartbeats 2000000 in
/-- To enter. -/
theorem E28 {Q : Nat → Rs → List Lf → Prop} {a0_0 : Int} {a0_1 : Int} {a0_2 : Int} {a0_3 : Int} {a0_4 : List (List AV)} {a0_5 : Int} {a0_6 : List (List AV)} {a0_7 : List (List AV)} {a0_8 : List (List AV)} {a0_9 : List (List AV)} {a1 : Int} (h : ∀ EV : Nat → Rs → List Lf → Prop, V28 EV Q →
    EC Try.prog G30 [] [(Lf.i a0_0), (Lf.i a0_1), (Lf.i a0_2), (Lf.i a0_3), (Lf.r a0_4), (Lf.i a0_5), (Lf.r a0_6), (Lf.r a0_7), (Lf.r a0_8), (Lf.r a0_9), (Lf.i a1)] (fun x rs vs => (x = 0 ∧ ∃ (Y0_0 : List (List AV)), rs = [Y0_0] ∧ vs = [] ∧
      (EV 9 [Y0_0] [(Lf.i a1), (Lf.i (0 : Int)), (Lf.i (((List.length Y0_0) : Nat) : Int)), (Lf.i (0 : Int)), (Lf.i a0_0), (Lf.i a0_1), (Lf.i a0_2), (Lf.i a0_3), (Lf.r a0_4), (Lf.i a0_5), (Lf.r a0_6), (Lf.r a0_7), (Lf.r a0_8), (Lf.r a0_9)])))) :
    EC Try.prog G28 [] [.i a0_0, .i a0_1, .i a0_2, .i a0_3, .r a0_4, .i a0_5, .r a0_6, .r a0_7, .r a0_8, .r a0_9, .i a1] Q := by
  obtain ⟨A, hA⟩ : ∃ A, A = arS := ⟨_, rfl⟩
  refine Inst.enter (I := I28) hA mixed F28_at sg L28 80 rfl fun CE CK Dn EV RR W hp => ?_
  have h := h  EV ⟨V28_p9 W⟩
  cbv
  refine ?_
  · refine W.call 80 (by rfl) h (by subst hA; rfl) (by subst hA; rfl) ?_
    rintro x rs vs hp0 hq0
    rcases hq0 with ⟨rfl, Y0_0, rfl, rfl, k0⟩
    · cbv
      refine ⟨ndI hA rfl, ⟨ndI hA (And.intro rfl (And.intro rfl rfl)), ⟨ndI hA (by subst hA; exact hp0.1), (by subst hA; exact k0)⟩⟩⟩

-- 50: signalbox/preempt.Higher$1
section
variable {Q : Nat → Rs → List Lf → Prop} {A : Ar} {CE : Nat → Rs → List Lf → (Nat → Rs → List Lf → Prop) → Prop} {CK : Nat → Rs → List Lf → Cont → Prop} {Dn : Nat → List Bool → List AItem → Nat → List Bool → List AV → List ABlk → Prop} {EV RR : Nat → Rs → List Lf → Prop}
end
structure V50 (EV Q : Nat → Rs → List Lf → Prop) : Prop where
  none : True

set_option maxHeartbeats 2000000 in
/-- To enter. -/
theorem E50 {Q : Nat → Rs → List Lf → Prop} {a0_0 : Int} {a0_1 : Int} {a0_2 : Int} {a0_3 : Int} {a0_4 : Int} {a0_5 : Int} {a0_6 : List (List AV)} {a1_0 : Int} {a1_1 : Int} {a1_2 : Int} {a1_3 : Int} {a1_4 : Int} {a1_5 : Int} {a1_6 : List (List AV)} (h : ∀ EV : Nat → Rs → List Lf → Prop, V50 EV Q →
    Q 0 [] [(Lf.b (decide (a0_0 ≥ a1_0)))]) :
    EC Try.prog G50 [] [.i a0_0, .i a0_1, .i a0_2, .i a0_3, .i a0_4, .i a0_5, .r a0_6, .i a1_0, .i a1_1, .i a1_2, .i a1_3, .i a1_4, .i a1_5, .r a1_6] Q := by
  obtain ⟨A, hA⟩ : ∃ A, A = arS := ⟨_, rfl⟩
  refine Inst.enter (I := I50) hA mixed F50_at sg L50 80 rfl fun CE CK Dn EV RR W hp => ?_
  have h := h  EV ⟨trivial⟩
  cbv
  refine (by rw [W.rr]; exact (by subst hA; exact h))

-- 48a: signalbox/preempt.some DRAWN
section
variable {Q : Nat → Rs → List Lf → Prop} {A : Ar} {CE : Nat → Rs → List Lf → (Nat → Rs → List Lf → Prop) → Prop} {CK : Nat → Rs → List Lf → Cont → Prop} {Dn : Nat → List Bool → List AItem → Nat → List Bool → List AV → List ABlk → Prop} {EV RR : Nat → Rs → List Lf → Prop}
set_option maxHeartbeats 2000000 in
theorem V48a_p17 (W : Wk Try.prog Try.f48 I48a L48a Q A sg CE CK Dn EV RR) {R0 : List (List AV)} {t1 : Int} {t15 : List (List AV)} {t16 : Int} {t17 : Int} {tb0_0 : Int} {tb0_1 : Int} {tb0_2 : Int} {tb0_3 : Int} {tb0_4 : List (List AV)} {tb0_5 : Int} {tb0_6 : List (List AV)} {tb0_7 : List (List AV)} {tb0_8 : List (List AV)} {tb0_9 : List (List AV)} (h : pursS R0 = true → 
    (t17 < t16 →
      ((0 : Int) ≤ t17) ∧
      (t15[(Int.toNat t17)]? = some [(AV.int .i64 (cIS t15 (Int.toNat t17) 0)), (AV.int .i64 (cIS t15 (Int.toNat t17) 1)), (AV.int .i64 (cIS t15 (Int.toNat t17) 2)), (AV.int .i64 (cIS t15 (Int.toNat t17) 3)), (AV.int .i64 (cIS t15 (Int.toNat t17) 4)), (AV.int .i64 (cIS t15 (Int.toNat t17) 5)), (AV.inl 3 (cRS t15 (Int.toNat t17) 6))]) ∧
      ((0 : Int) ≤ t1) ∧
      (tb0_8[(Int.toNat t1)]? = some [(AV.int .i64 (cIS tb0_8 (Int.toNat t1) 0)), (AV.int .i64 (cIS tb0_8 (Int.toNat t1) 1)), (AV.int .i64 (cIS tb0_8 (Int.toNat t1) 2)), (AV.int .i64 (cIS tb0_8 (Int.toNat t1) 3)), (AV.int .i64 (cIS tb0_8 (Int.toNat t1) 4)), (AV.int .i64 (cIS tb0_8 (Int.toNat t1) 5)), (AV.inl 3 (cRS tb0_8 (Int.toNat t1) 6))]) ∧
      (EC Try.prog G50 [] [(Lf.i (cIS t15 (Int.toNat t17) 0)), (Lf.i (cIS t15 (Int.toNat t17) 1)), (Lf.i (cIS t15 (Int.toNat t17) 2)), (Lf.i (cIS t15 (Int.toNat t17) 3)), (Lf.i (cIS t15 (Int.toNat t17) 4)), (Lf.i (cIS t15 (Int.toNat t17) 5)), (Lf.r (cRS t15 (Int.toNat t17) 6)), (Lf.i (cIS tb0_8 (Int.toNat t1) 0)), (Lf.i (cIS tb0_8 (Int.toNat t1) 1)), (Lf.i (cIS tb0_8 (Int.toNat t1) 2)), (Lf.i (cIS tb0_8 (Int.toNat t1) 3)), (Lf.i (cIS tb0_8 (Int.toNat t1) 4)), (Lf.i (cIS tb0_8 (Int.toNat t1) 5)), (Lf.r (cRS tb0_8 (Int.toNat t1) 6))] (fun x rs vs => (x = 0 ∧ ∃ (y1_0 : Bool), rs = [] ∧ vs = [.b y1_0] ∧
        ((y1_0 = true →
            (((List.length R0) + 1) ≤ 140737488355328) ∧
            ((((List.length R0) + 1) * 8) ≤ 140737488355328) ∧
            (EV 17 [(R0 ++ [[(AV.int .i64 t17)]])] [(Lf.i t1), (Lf.r t15), (Lf.i t16), (Lf.i (IntKind.wrap .i64 (t17 + (1 : Int)))), (Lf.i tb0_0), (Lf.i tb0_1), (Lf.i tb0_2), (Lf.i tb0_3), (Lf.r tb0_4), (Lf.i tb0_5), (Lf.r tb0_6), (Lf.r tb0_7), (Lf.r tb0_8), (Lf.r tb0_9)])) ∧
          (y1_0 = false →
            EV 17 [R0] [(Lf.i t1), (Lf.r t15), (Lf.i t16), (Lf.i (IntKind.wrap .i64 (t17 + (1 : Int)))), (Lf.i tb0_0), (Lf.i tb0_1), (Lf.i tb0_2), (Lf.i tb0_3), (Lf.r tb0_4), (Lf.i tb0_5), (Lf.r tb0_6), (Lf.r tb0_7), (Lf.r tb0_8), (Lf.r tb0_9)])))))) ∧
    (t17 ≥ t16 →
      Q 0 [R0] [])) :
    EV 17 [R0] [.i t1, .r t15, .i t16, .i t17, .i tb0_0, .i tb0_1, .i tb0_2, .i tb0_3, .r tb0_4, .i tb0_5, .r tb0_6, .r tb0_7, .r tb0_8, .r tb0_9] := by
  have hA := W.hA
  refine W.step 80 fun hp => ?_
  have h := h hp.1
  cbv
  refine ⟨imI hA fun e0 => have c0 : t17 < t16 := (by have q := (cmpE (op := .lss) hA e0); subst hA; exact q); ⟨ndI hA (And.intro (by subst hA; exact (h.1 c0).1) (by subst hA; exact (h.1 c0).2.1)), ⟨ndI hA (And.intro (by subst hA; exact (h.1 c0).2.2.1) (by subst hA; exact (h.1 c0).2.2.2.1)), ⟨?_, trivial⟩⟩⟩, imI hA fun e0 => have c0 : t17 ≥ t16 := (by have q := (cmpE (op := .lss) hA e0); subst hA; exact q); ⟨ndI hA (And.intro rfl (And.intro rfl rfl)), ⟨ndI hA (by subst hA; exact hp.1), (by rw [W.rr]; exact (by subst hA; exact (h.2 c0)))⟩⟩⟩
  · refine W.callD (by rfl) (h.1 c0).2.2.2.2 (by subst hA; rfl) (by subst hA; rfl) ?_
    rintro x rs vs hp1 hq1
    rcases hq1 with ⟨rfl, y1_0, rfl, rfl, k1⟩
    · cbv
      refine ?_
      · refine W.draw 80 (by rfl) ?_
        cbv
        refine ⟨imI hA fun e2 => have c2 : y1_0 = true := (by have q := e2; subst hA; exact q); ⟨ndI hA (And.intro rfl (And.intro (Nat.le_refl _) (And.intro (by subst hA; exact (k1.1 c2).1) (by subst hA; exact (k1.1 c2).2.1)))), ⟨ndI hA (And.intro rfl (And.intro rfl (by subst hA; show ((List.length R0) + 1) = (List.length (rappS R0 (List.length R0) [[(AV.int .i64 t17)]])); (first | rfl | simp [rappS_end] | (simp only [rappS_end, List.length_append, List.length_set, List.length_cons, List.length_nil]; omega))))), ⟨ndI hA (by subst hA; exact (vapp hp.1 vpur)), (by subst hA; show EV 17 [(rappS R0 (List.length R0) [[(AV.int .i64 t17)]])] [(Lf.i t1), (Lf.r t15), (Lf.i t16), (Lf.i (IntKind.wrap .i64 (t17 + (1 : Int)))), (Lf.i tb0_0), (Lf.i tb0_1), (Lf.i tb0_2), (Lf.i tb0_3), (Lf.r tb0_4), (Lf.i tb0_5), (Lf.r tb0_6), (Lf.r tb0_7), (Lf.r tb0_8), (Lf.r tb0_9)]; simp only [rappS_end, Nat.zero_add, Int.toNat_natCast]; exact (k1.1 c2).2.2)⟩⟩⟩, imI hA fun e2 => have c2 : y1_0 = false := (by have q := e2; subst hA; exact q); ⟨ndI hA (And.intro rfl (And.intro rfl rfl)), ⟨ndI hA (by subst hA; exact hp.1), (by subst hA; exact (k1.2 c2))⟩⟩⟩

end
structure V48a (EV Q : Nat → Rs → List Lf → Prop) : Prop where
  p17 : ∀ {R0 : List (List AV)} {t1 : Int} {t15 : List (List AV)} {t16 : Int} {t17 : Int} {tb0_0 : Int} {tb0_1 : Int} {tb0_2 : Int} {tb0_3 : Int} {tb0_4 : List (List AV)} {tb0_5 : Int} {tb0_6 : List (List AV)} {tb0_7 : List (List AV)} {tb0_8 : List (List AV)} {tb0_9 : List (List AV)}, (pursS R0 = true → 
    (t17 < t16 →
      ((0 : Int) ≤ t17) ∧
      (t15[(Int.toNat t17)]? = some [(AV.int .i64 (cIS t15 (Int.toNat t17) 0)), (AV.int .i64 (cIS t15 (Int.toNat t17) 1)), (AV.int .i64 (cIS t15 (Int.toNat t17) 2)), (AV.int .i64 (cIS t15 (Int.toNat t17) 3)), (AV.int .i64 (cIS t15 (Int.toNat t17) 4)), (AV.int .i64 (cIS t15 (Int.toNat t17) 5)), (AV.inl 3 (cRS t15 (Int.toNat t17) 6))]) ∧
      ((0 : Int) ≤ t1) ∧
      (tb0_8[(Int.toNat t1)]? = some [(AV.int .i64 (cIS tb0_8 (Int.toNat t1) 0)), (AV.int .i64 (cIS tb0_8 (Int.toNat t1) 1)), (AV.int .i64 (cIS tb0_8 (Int.toNat t1) 2)), (AV.int .i64 (cIS tb0_8 (Int.toNat t1) 3)), (AV.int .i64 (cIS tb0_8 (Int.toNat t1) 4)), (AV.int .i64 (cIS tb0_8 (Int.toNat t1) 5)), (AV.inl 3 (cRS tb0_8 (Int.toNat t1) 6))]) ∧
      (EC Try.prog G50 [] [(Lf.i (cIS t15 (Int.toNat t17) 0)), (Lf.i (cIS t15 (Int.toNat t17) 1)), (Lf.i (cIS t15 (Int.toNat t17) 2)), (Lf.i (cIS t15 (Int.toNat t17) 3)), (Lf.i (cIS t15 (Int.toNat t17) 4)), (Lf.i (cIS t15 (Int.toNat t17) 5)), (Lf.r (cRS t15 (Int.toNat t17) 6)), (Lf.i (cIS tb0_8 (Int.toNat t1) 0)), (Lf.i (cIS tb0_8 (Int.toNat t1) 1)), (Lf.i (cIS tb0_8 (Int.toNat t1) 2)), (Lf.i (cIS tb0_8 (Int.toNat t1) 3)), (Lf.i (cIS tb0_8 (Int.toNat t1) 4)), (Lf.i (cIS tb0_8 (Int.toNat t1) 5)), (Lf.r (cRS tb0_8 (Int.toNat t1) 6))] (fun x rs vs => (x = 0 ∧ ∃ (y1_0 : Bool), rs = [] ∧ vs = [.b y1_0] ∧
        ((y1_0 = true →
            (((List.length R0) + 1) ≤ 140737488355328) ∧
            ((((List.length R0) + 1) * 8) ≤ 140737488355328) ∧
            (EV 17 [(R0 ++ [[(AV.int .i64 t17)]])] [(Lf.i t1), (Lf.r t15), (Lf.i t16), (Lf.i (IntKind.wrap .i64 (t17 + (1 : Int)))), (Lf.i tb0_0), (Lf.i tb0_1), (Lf.i tb0_2), (Lf.i tb0_3), (Lf.r tb0_4), (Lf.i tb0_5), (Lf.r tb0_6), (Lf.r tb0_7), (Lf.r tb0_8), (Lf.r tb0_9)])) ∧
          (y1_0 = false →
            EV 17 [R0] [(Lf.i t1), (Lf.r t15), (Lf.i t16), (Lf.i (IntKind.wrap .i64 (t17 + (1 : Int)))), (Lf.i tb0_0), (Lf.i tb0_1), (Lf.i tb0_2), (Lf.i tb0_3), (Lf.r tb0_4), (Lf.i tb0_5), (Lf.r tb0_6), (Lf.r tb0_7), (Lf.r tb0_8), (Lf.r tb0_9)])))))) ∧
    (t17 ≥ t16 →
      Q 0 [R0] [])) →
    EV 17 [R0] [.i t1, .r t15, .i t16, .i t17, .i tb0_0, .i tb0_1, .i tb0_2, .i tb0_3, .r tb0_4, .i tb0_5, .r tb0_6, .r tb0_7, .r tb0_8, .r tb0_9]

set_option maxHeartbeats 2000000 in
/-- To enter. -/
theorem E48a {Q : Nat → Rs → List Lf → Prop} {a0_0 : Int} {a0_1 : Int} {a0_2 : Int} {a0_3 : Int} {a0_4 : List (List AV)} {a0_5 : Int} {a0_6 : List (List AV)} {a0_7 : List (List AV)} {a0_8 : List (List AV)} {a0_9 : List (List AV)} {a1 : Int} (h : ∀ EV : Nat → Rs → List Lf → Prop, V48a EV Q →
    EC Try.prog G44 [] [(Lf.i a0_0), (Lf.i a0_1), (Lf.i a0_2), (Lf.i a0_3), (Lf.r a0_4), (Lf.i a0_5), (Lf.r a0_6), (Lf.r a0_7), (Lf.r a0_8), (Lf.r a0_9), (Lf.i a1)] (fun x rs vs => (x = 0 ∧ ∃ (y0_0 : Bool), rs = [] ∧ vs = [.b y0_0] ∧
      ((y0_0 = false →
          Q 0 [[]] []) ∧
        (y0_0 = true →
          EV 17 [[]] [(Lf.i a1), (Lf.r a0_8), (Lf.i (((List.length a0_8) : Nat) : Int)), (Lf.i (0 : Int)), (Lf.i a0_0), (Lf.i a0_1), (Lf.i a0_2), (Lf.i a0_3), (Lf.r a0_4), (Lf.i a0_5), (Lf.r a0_6), (Lf.r a0_7), (Lf.r a0_8), (Lf.r a0_9)]))))) :
    EC Try.prog G48a [] [.i a0_0, .i a0_1, .i a0_2, .i a0_3, .r a0_4, .i a0_5, .r a0_6, .r a0_7, .r a0_8, .r a0_9, .i a1] Q := by
  obtain ⟨A, hA⟩ : ∃ A, A = arS := ⟨_, rfl⟩
  refine Inst.enter (I := I48a) hA mixed F48_at sg L48a 80 rfl fun CE CK Dn EV RR W hp => ?_
  have h := h  EV ⟨V48a_p17 W⟩
  cbv
  refine ?_
  · refine W.call 80 (by rfl) h (by subst hA; rfl) (by subst hA; rfl) ?_
    rintro x rs vs hp0 hq0
    rcases hq0 with ⟨rfl, y0_0, rfl, rfl, k0⟩
    · cbv
      refine ⟨imI hA fun e1 => have c1 : y0_0 = false := (by have q := (notE hA e1); subst hA; exact q); ⟨ndI hA (And.intro (by subst hA; show 0 = 0; (first | rfl | simp [rappS_end] | (simp only [rappS_end, List.length_append, List.length_set, List.length_cons, List.length_nil]; omega))) (And.intro rfl (by subst hA; show 0 = 0; (first | rfl | simp [rappS_end] | (simp only [rappS_end, List.length_append, List.length_set, List.length_cons, List.length_nil]; omega))))), ⟨ndI hA (by subst hA; exact vpur), (by rw [W.rr]; exact (by subst hA; exact (k0.1 c1)))⟩⟩, imI hA fun e1 => have c1 : y0_0 = true := (by have q := (notE hA e1); subst hA; exact q); ⟨ndI hA (And.intro (by subst hA; show 0 = 0; (first | rfl | simp [rappS_end] | (simp only [rappS_end, List.length_append, List.length_set, List.length_cons, List.length_nil]; omega))) (And.intro rfl (by subst hA; show 0 = 0; (first | rfl | simp [rappS_end] | (simp only [rappS_end, List.length_append, List.length_set, List.length_cons, List.length_nil]; omega))))), ⟨ndI hA (by subst hA; exact vpur), (by subst hA; exact (k0.2 c1))⟩⟩⟩

-- 31: signalbox/preempt.Higher
section
variable {Q : Nat → Rs → List Lf → Prop} {A : Ar} {CE : Nat → Rs → List Lf → (Nat → Rs → List Lf → Prop) → Prop} {CK : Nat → Rs → List Lf → Cont → Prop} {Dn : Nat → List Bool → List AItem → Nat → List Bool → List AV → List ABlk → Prop} {EV RR : Nat → Rs → List Lf → Prop}
end
structure V31 (EV Q : Nat → Rs → List Lf → Prop) : Prop where
  none : True

set_option maxHeartbeats 2000000 in
/-- To enter. -/
theorem E31 {Q : Nat → Rs → List Lf → Prop} {a0_0 : Int} {a0_1 : Int} {a0_2 : Int} {a0_3 : Int} {a0_4 : List (List AV)} {a0_5 : Int} {a0_6 : List (List AV)} {a0_7 : List (List AV)} {a0_8 : List (List AV)} {a0_9 : List (List AV)} {a1 : Int} (h : ∀ EV : Nat → Rs → List Lf → Prop, V31 EV Q →
    EC Try.prog G48a [] [(Lf.i a0_0), (Lf.i a0_1), (Lf.i a0_2), (Lf.i a0_3), (Lf.r a0_4), (Lf.i a0_5), (Lf.r a0_6), (Lf.r a0_7), (Lf.r a0_8), (Lf.r a0_9), (Lf.i a1)] (fun x rs vs => (x = 0 ∧ ∃ (Y0_0 : List (List AV)), rs = [Y0_0] ∧ vs = [] ∧
      (Q 0 [Y0_0] [])))) :
    EC Try.prog G31 [] [.i a0_0, .i a0_1, .i a0_2, .i a0_3, .r a0_4, .i a0_5, .r a0_6, .r a0_7, .r a0_8, .r a0_9, .i a1] Q := by
  obtain ⟨A, hA⟩ : ∃ A, A = arS := ⟨_, rfl⟩
  refine Inst.enter (I := I31) hA mixed F31_at sg L31 80 rfl fun CE CK Dn EV RR W hp => ?_
  have h := h  EV ⟨trivial⟩
  cbv
  refine ?_
  · refine W.call 80 (by rfl) h (by subst hA; rfl) (by subst hA; rfl) ?_
    rintro x rs vs hp0 hq0
    rcases hq0 with ⟨rfl, Y0_0, rfl, rfl, k0⟩
    · cbv
      refine ⟨ndI hA (And.intro rfl (And.intro rfl rfl)), ⟨ndI hA (by subst hA; exact hp0.1), (by rw [W.rr]; exact (by subst hA; exact k0))⟩⟩

-- 51: signalbox/signalboxref23.Above DRAWN
section
variable {Q : Nat → Rs → List Lf → Prop} {A : Ar} {CE : Nat → Rs → List Lf → (Nat → Rs → List Lf → Prop) → Prop} {CK : Nat → Rs → List Lf → Cont → Prop} {Dn : Nat → List Bool → List AItem → Nat → List Bool → List AV → List ABlk → Prop} {EV RR : Nat → Rs → List Lf → Prop}
set_option maxHeartbeats 2000000 in
theorem V51_p9 (W : Wk Try.prog Try.f51 I51 L51 Q A sg CE CK Dn EV RR) {R0 : List (List AV)} {t1 : Int} {t9 : List (List AV)} {t10 : Int} {t11 : Int} {tb0_0 : Int} {tb0_1 : Int} {tb0_2 : Int} {tb0_3 : Int} {tb0_4 : List (List AV)} {tb0_5 : Int} {tb0_6 : List (List AV)} {tb0_7 : List (List AV)} {tb0_8 : List (List AV)} {tb0_9 : List (List AV)} (h : pursS R0 = true → 
    (t11 < t10 →
      ((0 : Int) ≤ t11) ∧
      (t9[(Int.toNat t11)]? = some [(AV.int .i64 (cIS t9 (Int.toNat t11) 0)), (AV.int .i64 (cIS t9 (Int.toNat t11) 1)), (AV.int .i64 (cIS t9 (Int.toNat t11) 2)), (AV.int .i64 (cIS t9 (Int.toNat t11) 3)), (AV.int .i64 (cIS t9 (Int.toNat t11) 4)), (AV.int .i64 (cIS t9 (Int.toNat t11) 5)), (AV.inl 3 (cRS t9 (Int.toNat t11) 6))]) ∧
      ((0 : Int) ≤ t1) ∧
      (tb0_8[(Int.toNat t1)]? = some [(AV.int .i64 (cIS tb0_8 (Int.toNat t1) 0)), (AV.int .i64 (cIS tb0_8 (Int.toNat t1) 1)), (AV.int .i64 (cIS tb0_8 (Int.toNat t1) 2)), (AV.int .i64 (cIS tb0_8 (Int.toNat t1) 3)), (AV.int .i64 (cIS tb0_8 (Int.toNat t1) 4)), (AV.int .i64 (cIS tb0_8 (Int.toNat t1) 5)), (AV.inl 3 (cRS tb0_8 (Int.toNat t1) 6))]) ∧
      ((cIS t9 (Int.toNat t11) 0) > (cIS tb0_8 (Int.toNat t1) 1) →
        (((List.length R0) + 1) ≤ 140737488355328) ∧
        ((((List.length R0) + 1) * 8) ≤ 140737488355328) ∧
        (EV 9 [(R0 ++ [[(AV.int .i64 t11)]])] [(Lf.i t1), (Lf.r t9), (Lf.i t10), (Lf.i (IntKind.wrap .i64 (t11 + (1 : Int)))), (Lf.i tb0_0), (Lf.i tb0_1), (Lf.i tb0_2), (Lf.i tb0_3), (Lf.r tb0_4), (Lf.i tb0_5), (Lf.r tb0_6), (Lf.r tb0_7), (Lf.r tb0_8), (Lf.r tb0_9)])) ∧
      ((cIS t9 (Int.toNat t11) 0) ≤ (cIS tb0_8 (Int.toNat t1) 1) →
        EV 9 [R0] [(Lf.i t1), (Lf.r t9), (Lf.i t10), (Lf.i (IntKind.wrap .i64 (t11 + (1 : Int)))), (Lf.i tb0_0), (Lf.i tb0_1), (Lf.i tb0_2), (Lf.i tb0_3), (Lf.r tb0_4), (Lf.i tb0_5), (Lf.r tb0_6), (Lf.r tb0_7), (Lf.r tb0_8), (Lf.r tb0_9)])) ∧
    (t11 ≥ t10 →
      Q 0 [R0] [])) :
    EV 9 [R0] [.i t1, .r t9, .i t10, .i t11, .i tb0_0, .i tb0_1, .i tb0_2, .i tb0_3, .r tb0_4, .i tb0_5, .r tb0_6, .r tb0_7, .r tb0_8, .r tb0_9] := by
  have hA := W.hA
  refine W.step 80 fun hp => ?_
  have h := h hp.1
  cbv
  refine ⟨imI hA fun e0 => have c0 : t11 < t10 := (by have q := (cmpE (op := .lss) hA e0); subst hA; exact q); ⟨ndI hA (And.intro (by subst hA; exact (h.1 c0).1) (by subst hA; exact (h.1 c0).2.1)), ⟨ndI hA (And.intro (by subst hA; exact (h.1 c0).2.2.1) (by subst hA; exact (h.1 c0).2.2.2.1)), ⟨imI hA fun e1 => have c1 : (cIS t9 (Int.toNat t11) 0) > (cIS tb0_8 (Int.toNat t1) 1) := (by have q := (cmpE (op := .gtr) hA e1); subst hA; exact q); ⟨ndI hA (And.intro rfl (And.intro (Nat.le_refl _) (And.intro (by subst hA; exact ((h.1 c0).2.2.2.2.1 c1).1) (by subst hA; exact ((h.1 c0).2.2.2.2.1 c1).2.1)))), ⟨ndI hA (And.intro rfl (And.intro rfl (by subst hA; show ((List.length R0) + 1) = (List.length (rappS R0 (List.length R0) [[(AV.int .i64 t11)]])); (first | rfl | simp [rappS_end] | (simp only [rappS_end, List.length_append, List.length_set, List.length_cons, List.length_nil]; omega))))), ⟨ndI hA (by subst hA; exact (vapp hp.1 vpur)), (by subst hA; show EV 9 [(rappS R0 (List.length R0) [[(AV.int .i64 t11)]])] [(Lf.i t1), (Lf.r t9), (Lf.i t10), (Lf.i (IntKind.wrap .i64 (t11 + (1 : Int)))), (Lf.i tb0_0), (Lf.i tb0_1), (Lf.i tb0_2), (Lf.i tb0_3), (Lf.r tb0_4), (Lf.i tb0_5), (Lf.r tb0_6), (Lf.r tb0_7), (Lf.r tb0_8), (Lf.r tb0_9)]; simp only [rappS_end, Nat.zero_add, Int.toNat_natCast]; exact ((h.1 c0).2.2.2.2.1 c1).2.2)⟩⟩⟩, imI hA fun e1 => have c1 : (cIS t9 (Int.toNat t11) 0) ≤ (cIS tb0_8 (Int.toNat t1) 1) := (by have q := (cmpE (op := .gtr) hA e1); subst hA; exact q); ⟨ndI hA (And.intro rfl (And.intro rfl rfl)), ⟨ndI hA (by subst hA; exact hp.1), (by subst hA; exact ((h.1 c0).2.2.2.2.2 c1))⟩⟩⟩⟩⟩, imI hA fun e0 => have c0 : t11 ≥ t10 := (by have q := (cmpE (op := .lss) hA e0); subst hA; exact q); ⟨ndI hA (And.intro rfl (And.intro rfl rfl)), ⟨ndI hA (by subst hA; exact hp.1), (by rw [W.rr]; exact (by subst hA; exact (h.2 c0)))⟩⟩⟩

end
structure V51 (EV Q : Nat → Rs → List Lf → Prop) : Prop where
  p9 : ∀ {R0 : List (List AV)} {t1 : Int} {t9 : List (List AV)} {t10 : Int} {t11 : Int} {tb0_0 : Int} {tb0_1 : Int} {tb0_2 : Int} {tb0_3 : Int} {tb0_4 : List (List AV)} {tb0_5 : Int} {tb0_6 : List (List AV)} {tb0_7 : List (List AV)} {tb0_8 : List (List AV)} {tb0_9 : List (List AV)}, (pursS R0 = true → 
    (t11 < t10 →
      ((0 : Int) ≤ t11) ∧
      (t9[(Int.toNat t11)]? = some [(AV.int .i64 (cIS t9 (Int.toNat t11) 0)), (AV.int .i64 (cIS t9 (Int.toNat t11) 1)), (AV.int .i64 (cIS t9 (Int.toNat t11) 2)), (AV.int .i64 (cIS t9 (Int.toNat t11) 3)), (AV.int .i64 (cIS t9 (Int.toNat t11) 4)), (AV.int .i64 (cIS t9 (Int.toNat t11) 5)), (AV.inl 3 (cRS t9 (Int.toNat t11) 6))]) ∧
      ((0 : Int) ≤ t1) ∧
      (tb0_8[(Int.toNat t1)]? = some [(AV.int .i64 (cIS tb0_8 (Int.toNat t1) 0)), (AV.int .i64 (cIS tb0_8 (Int.toNat t1) 1)), (AV.int .i64 (cIS tb0_8 (Int.toNat t1) 2)), (AV.int .i64 (cIS tb0_8 (Int.toNat t1) 3)), (AV.int .i64 (cIS tb0_8 (Int.toNat t1) 4)), (AV.int .i64 (cIS tb0_8 (Int.toNat t1) 5)), (AV.inl 3 (cRS tb0_8 (Int.toNat t1) 6))]) ∧
      ((cIS t9 (Int.toNat t11) 0) > (cIS tb0_8 (Int.toNat t1) 1) →
        (((List.length R0) + 1) ≤ 140737488355328) ∧
        ((((List.length R0) + 1) * 8) ≤ 140737488355328) ∧
        (EV 9 [(R0 ++ [[(AV.int .i64 t11)]])] [(Lf.i t1), (Lf.r t9), (Lf.i t10), (Lf.i (IntKind.wrap .i64 (t11 + (1 : Int)))), (Lf.i tb0_0), (Lf.i tb0_1), (Lf.i tb0_2), (Lf.i tb0_3), (Lf.r tb0_4), (Lf.i tb0_5), (Lf.r tb0_6), (Lf.r tb0_7), (Lf.r tb0_8), (Lf.r tb0_9)])) ∧
      ((cIS t9 (Int.toNat t11) 0) ≤ (cIS tb0_8 (Int.toNat t1) 1) →
        EV 9 [R0] [(Lf.i t1), (Lf.r t9), (Lf.i t10), (Lf.i (IntKind.wrap .i64 (t11 + (1 : Int)))), (Lf.i tb0_0), (Lf.i tb0_1), (Lf.i tb0_2), (Lf.i tb0_3), (Lf.r tb0_4), (Lf.i tb0_5), (Lf.r tb0_6), (Lf.r tb0_7), (Lf.r tb0_8), (Lf.r tb0_9)])) ∧
    (t11 ≥ t10 →
      Q 0 [R0] [])) →
    EV 9 [R0] [.i t1, .r t9, .i t10, .i t11, .i tb0_0, .i tb0_1, .i tb0_2, .i tb0_3, .r tb0_4, .i tb0_5, .r tb0_6, .r tb0_7, .r tb0_8, .r tb0_9]

set_option maxHeartbeats 2000000 in
/-- To enter. -/
theorem E51 {Q : Nat → Rs → List Lf → Prop} {a0_0 : Int} {a0_1 : Int} {a0_2 : Int} {a0_3 : Int} {a0_4 : List (List AV)} {a0_5 : Int} {a0_6 : List (List AV)} {a0_7 : List (List AV)} {a0_8 : List (List AV)} {a0_9 : List (List AV)} {a1 : Int} (h : ∀ EV : Nat → Rs → List Lf → Prop, V51 EV Q →
    EV 9 [[]] [(Lf.i a1), (Lf.r a0_8), (Lf.i (((List.length a0_8) : Nat) : Int)), (Lf.i (0 : Int)), (Lf.i a0_0), (Lf.i a0_1), (Lf.i a0_2), (Lf.i a0_3), (Lf.r a0_4), (Lf.i a0_5), (Lf.r a0_6), (Lf.r a0_7), (Lf.r a0_8), (Lf.r a0_9)]) :
    EC Try.prog G51 [] [.i a0_0, .i a0_1, .i a0_2, .i a0_3, .r a0_4, .i a0_5, .r a0_6, .r a0_7, .r a0_8, .r a0_9, .i a1] Q := by
  obtain ⟨A, hA⟩ : ∃ A, A = arS := ⟨_, rfl⟩
  refine Inst.enter (I := I51) hA mixed F51_at sg L51 80 rfl fun CE CK Dn EV RR W hp => ?_
  have h := h  EV ⟨V51_p9 W⟩
  cbv
  refine ⟨ndI hA (And.intro (by subst hA; show 0 = 0; (first | rfl | simp [rappS_end] | (simp only [rappS_end, List.length_append, List.length_set, List.length_cons, List.length_nil]; omega))) (And.intro rfl (by subst hA; show 0 = 0; (first | rfl | simp [rappS_end] | (simp only [rappS_end, List.length_append, List.length_set, List.length_cons, List.length_nil]; omega))))), ⟨ndI hA (by subst hA; exact vpur), (by subst hA; exact h)⟩⟩

-- 54: signalbox/signalboxref27.of
section
variable {Q : Nat → Rs → List Lf → Prop} {A : Ar} {CE : Nat → Rs → List Lf → (Nat → Rs → List Lf → Prop) → Prop} {CK : Nat → Rs → List Lf → Cont → Prop} {Dn : Nat → List Bool → List AItem → Nat → List Bool → List AV → List ABlk → Prop} {EV RR : Nat → Rs → List Lf → Prop}
end
structure V54 (EV Q : Nat → Rs → List Lf → Prop) : Prop where
  none : True

set_option maxHeartbeats 2000000 in
/-- To enter. -/
theorem E54 {Q : Nat → Rs → List Lf → Prop} {a0 : Int} (h : ∀ EV : Nat → Rs → List Lf → Prop, V54 EV Q →
    (a0 < (0 : Int) →
      Q 0 [] [(Lf.i (0 : Int))]) ∧
    (a0 ≥ (0 : Int) →
      Q 0 [] [(Lf.i (IntKind.wrap .u64 a0))])) :
    EC Try.prog G54 [] [.i a0] Q := by
  obtain ⟨A, hA⟩ : ∃ A, A = arS := ⟨_, rfl⟩
  refine Inst.enter (I := I54) hA mixed F54_at sg L54 80 rfl fun CE CK Dn EV RR W hp => ?_
  have h := h  EV ⟨trivial⟩
  cbv
  refine ⟨imI hA fun e0 => have c0 : a0 < (0 : Int) := (by have q := (cmpE (op := .lss) hA e0); subst hA; exact q); (by rw [W.rr]; exact (by subst hA; exact (h.1 c0))), imI hA fun e0 => have c0 : a0 ≥ (0 : Int) := (by have q := (cmpE (op := .lss) hA e0); subst hA; exact q); (by rw [W.rr]; exact (by subst hA; exact (h.2 c0)))⟩

-- 53: signalbox/signalboxref01.Ceil
section
variable {Q : Nat → Rs → List Lf → Prop} {A : Ar} {CE : Nat → Rs → List Lf → (Nat → Rs → List Lf → Prop) → Prop} {CK : Nat → Rs → List Lf → Cont → Prop} {Dn : Nat → List Bool → List AItem → Nat → List Bool → List AV → List ABlk → Prop} {EV RR : Nat → Rs → List Lf → Prop}
end
structure V53 (EV Q : Nat → Rs → List Lf → Prop) : Prop where
  none : True

set_option maxHeartbeats 2000000 in
/-- To enter. -/
theorem E53 {Q : Nat → Rs → List Lf → Prop} {a0 : Int} {a1 : Int} (h : ∀ EV : Nat → Rs → List Lf → Prop, V53 EV Q →
    (a0 = (0 : Int) →
      Q 0 [] [(Lf.i (0 : Int))]) ∧
    (a0 ≠ (0 : Int) →
      (a1 ≠ (0 : Int) →
        (a0 = (18446744073709551615 : Int) →
          Q 0 [] [(Lf.i (18446744073709551615 : Int))]) ∧
        (a0 ≠ (18446744073709551615 : Int) →
          (a1 ≠ (0 : Int)) ∧
          ((IntKind.wrap .u64 ((IntKind.wrap .u64 (Int.tdiv a0 a1)) * a1)) ≠ a0 →
            Q 0 [] [(Lf.i (IntKind.wrap .u64 ((IntKind.wrap .u64 (Int.tdiv a0 a1)) + (1 : Int))))]) ∧
          ((IntKind.wrap .u64 ((IntKind.wrap .u64 (Int.tdiv a0 a1)) * a1)) = a0 →
            Q 0 [] [(Lf.i (IntKind.wrap .u64 (Int.tdiv a0 a1)))]))) ∧
      (a1 = (0 : Int) →
        Q 0 [] [(Lf.i (18446744073709551615 : Int))]))) :
    EC Try.prog G53 [] [.i a0, .i a1] Q := by
  obtain ⟨A, hA⟩ : ∃ A, A = arS := ⟨_, rfl⟩
  refine Inst.enter (I := I53) hA mixed F53_at sg L53 80 rfl fun CE CK Dn EV RR W hp => ?_
  have h := h  EV ⟨trivial⟩
  cbv
  refine ⟨imI hA fun e0 => have c0 : a0 = (0 : Int) := (by have q := (cmpE (op := .eql) hA e0); subst hA; exact q); (by rw [W.rr]; exact (by subst hA; exact (h.1 c0))), imI hA fun e0 => have c0 : a0 ≠ (0 : Int) := (by have q := (cmpE (op := .eql) hA e0); subst hA; exact q); ⟨imI hA fun e1 => have c1 : a1 ≠ (0 : Int) := (by have q := (cmpE (op := .eql) hA e1); subst hA; exact q); ⟨imI hA fun e2 => have c2 : a0 = (18446744073709551615 : Int) := (by have q := (cmpE (op := .eql) hA e2); subst hA; exact q); (by rw [W.rr]; exact (by subst hA; exact (((h.2 c0).1 c1).1 c2))), imI hA fun e2 => have c2 : a0 ≠ (18446744073709551615 : Int) := (by have q := (cmpE (op := .eql) hA e2); subst hA; exact q); ⟨ndI hA (by subst hA; exact (((h.2 c0).1 c1).2 c2).1), ⟨imI hA fun e3 => have c3 : (IntKind.wrap .u64 ((IntKind.wrap .u64 (Int.tdiv a0 a1)) * a1)) ≠ a0 := (by have q := (cmpE (op := .neq) hA e3); subst hA; exact q); (by rw [W.rr]; exact (by subst hA; exact ((((h.2 c0).1 c1).2 c2).2.1 c3))), imI hA fun e3 => have c3 : (IntKind.wrap .u64 ((IntKind.wrap .u64 (Int.tdiv a0 a1)) * a1)) = a0 := (by have q := (cmpE (op := .neq) hA e3); subst hA; exact q); (by rw [W.rr]; exact (by subst hA; exact ((((h.2 c0).1 c1).2 c2).2.2 c3)))⟩⟩⟩, imI hA fun e1 => have c1 : a1 = (0 : Int) := (by have q := (cmpE (op := .eql) hA e1); subst hA; exact q); (by rw [W.rr]; exact (by subst hA; exact ((h.2 c0).2 c1)))⟩⟩

-- 52: signalbox/signalboxref01.Add
section
variable {Q : Nat → Rs → List Lf → Prop} {A : Ar} {CE : Nat → Rs → List Lf → (Nat → Rs → List Lf → Prop) → Prop} {CK : Nat → Rs → List Lf → Cont → Prop} {Dn : Nat → List Bool → List AItem → Nat → List Bool → List AV → List ABlk → Prop} {EV RR : Nat → Rs → List Lf → Prop}
end
structure V52 (EV Q : Nat → Rs → List Lf → Prop) : Prop where
  none : True

set_option maxHeartbeats 2000000 in
/-- To enter. -/
theorem E52 {Q : Nat → Rs → List Lf → Prop} {a0 : Int} {a1 : Int} (h : ∀ EV : Nat → Rs → List Lf → Prop, V52 EV Q →
    (a0 > (IntKind.wrap .u64 ((18446744073709551615 : Int) - a1)) →
      Q 0 [] [(Lf.i (18446744073709551615 : Int))]) ∧
    (a0 ≤ (IntKind.wrap .u64 ((18446744073709551615 : Int) - a1)) →
      Q 0 [] [(Lf.i (IntKind.wrap .u64 (a0 + a1)))])) :
    EC Try.prog G52 [] [.i a0, .i a1] Q := by
  obtain ⟨A, hA⟩ : ∃ A, A = arS := ⟨_, rfl⟩
  refine Inst.enter (I := I52) hA mixed F52_at sg L52 80 rfl fun CE CK Dn EV RR W hp => ?_
  have h := h  EV ⟨trivial⟩
  cbv
  refine ⟨imI hA fun e0 => have c0 : a0 > (IntKind.wrap .u64 ((18446744073709551615 : Int) - a1)) := (by have q := (cmpE (op := .gtr) hA e0); subst hA; exact q); (by rw [W.rr]; exact (by subst hA; exact (h.1 c0))), imI hA fun e0 => have c0 : a0 ≤ (IntKind.wrap .u64 ((18446744073709551615 : Int) - a1)) := (by have q := (cmpE (op := .gtr) hA e0); subst hA; exact q); (by rw [W.rr]; exact (by subst hA; exact (h.2 c0)))⟩

-- 32: signalbox/signalboxref27.Count
section
variable {Q : Nat → Rs → List Lf → Prop} {A : Ar} {CE : Nat → Rs → List Lf → (Nat → Rs → List Lf → Prop) → Prop} {CK : Nat → Rs → List Lf → Cont → Prop} {Dn : Nat → List Bool → List AItem → Nat → List Bool → List AV → List ABlk → Prop} {EV RR : Nat → Rs → List Lf → Prop}
set_option maxHeartbeats 2000000 in
theorem V32_p9 (W : Wk Try.prog Try.f32 I32 L32 Q A sg CE CK Dn EV RR) {R0 : List (List AV)} {t2 : Int} {t7 : Int} {t13 : Int} {t14 : Int} {tb0_0 : Int} {tb0_1 : Int} {tb0_2 : Int} {tb0_3 : Int} {tb0_4 : List (List AV)} {tb0_5 : Int} {tb0_6 : List (List AV)} {tb0_7 : List (List AV)} {tb0_8 : List (List AV)} {tb0_9 : List (List AV)} (h : pursS R0 = true → 
    (t14 < t13 →
      ((0 : Int) ≤ t14) ∧
      (t14 < (((List.length R0) : Nat) : Int)) ∧
      (R0[(Int.toNat t14)]? = some [(AV.int .i64 (cIS R0 (Int.toNat t14) 0))]) ∧
      ((0 : Int) ≤ (cIS R0 (Int.toNat t14) 0)) ∧
      (tb0_8[(Int.toNat (cIS R0 (Int.toNat t14) 0))]? = some [(AV.int .i64 (cIS tb0_8 (Int.toNat (cIS R0 (Int.toNat t14) 0)) 0)), (AV.int .i64 (cIS tb0_8 (Int.toNat (cIS R0 (Int.toNat t14) 0)) 1)), (AV.int .i64 (cIS tb0_8 (Int.toNat (cIS R0 (Int.toNat t14) 0)) 2)), (AV.int .i64 (cIS tb0_8 (Int.toNat (cIS R0 (Int.toNat t14) 0)) 3)), (AV.int .i64 (cIS tb0_8 (Int.toNat (cIS R0 (Int.toNat t14) 0)) 4)), (AV.int .i64 (cIS tb0_8 (Int.toNat (cIS R0 (Int.toNat t14) 0)) 5)), (AV.inl 3 (cRS tb0_8 (Int.toNat (cIS R0 (Int.toNat t14) 0)) 6))]) ∧
      (EC Try.prog G54 [] [(Lf.i (cIS tb0_8 (Int.toNat (cIS R0 (Int.toNat t14) 0)) 2))] (fun x rs vs => (x = 0 ∧ ∃ (y1_0 : Int), rs = [] ∧ vs = [.i y1_0] ∧
        (EC Try.prog G53 [] [(Lf.i t2), (Lf.i y1_0)] (fun x rs vs => (x = 0 ∧ ∃ (y2_0 : Int), rs = [] ∧ vs = [.i y2_0] ∧
            (EC Try.prog G52 [] [(Lf.i t7), (Lf.i y2_0)] (fun x rs vs => (x = 0 ∧ ∃ (y3_0 : Int), rs = [] ∧ vs = [.i y3_0] ∧
                (EV 9 [R0] [(Lf.i t2), (Lf.i y3_0), (Lf.i t13), (Lf.i (IntKind.wrap .i64 (t14 + (1 : Int)))), (Lf.i tb0_0), (Lf.i tb0_1), (Lf.i tb0_2), (Lf.i tb0_3), (Lf.r tb0_4), (Lf.i tb0_5), (Lf.r tb0_6), (Lf.r tb0_7), (Lf.r tb0_8), (Lf.r tb0_9)]))))))))))) ∧
    (t14 ≥ t13 →
      Q 0 [] [(Lf.i t7)])) :
    EV 9 [R0] [.i t2, .i t7, .i t13, .i t14, .i tb0_0, .i tb0_1, .i tb0_2, .i tb0_3, .r tb0_4, .i tb0_5, .r tb0_6, .r tb0_7, .r tb0_8, .r tb0_9] := by
  have hA := W.hA
  refine W.step 80 fun hp => ?_
  have h := h hp.1
  cbv
  refine ⟨imI hA fun e0 => have c0 : t14 < t13 := (by have q := (cmpE (op := .lss) hA e0); subst hA; exact q); ⟨ndI hA (And.intro (by subst hA; exact (h.1 c0).1) (And.intro (by subst hA; exact (h.1 c0).2.1) rfl)), ⟨ndI hA (And.intro rfl (by subst hA; show R0[(0 + (Int.toNat t14))]? = some [(AV.int .i64 (cIS R0 (0 + (Int.toNat t14)) 0))]; simp only [rappS_end, Nat.zero_add, Int.toNat_natCast]; exact (h.1 c0).2.2.1)), ⟨ndI hA (And.intro (by subst hA; show (0 : Int) ≤ (cIS R0 (0 + (Int.toNat t14)) 0); simp only [rappS_end, Nat.zero_add, Int.toNat_natCast]; exact (h.1 c0).2.2.2.1) (by subst hA; show tb0_8[(Int.toNat (cIS R0 (0 + (Int.toNat t14)) 0))]? = some [(AV.int .i64 (cIS tb0_8 (Int.toNat (cIS R0 (0 + (Int.toNat t14)) 0)) 0)), (AV.int .i64 (cIS tb0_8 (Int.toNat (cIS R0 (0 + (Int.toNat t14)) 0)) 1)), (AV.int .i64 (cIS tb0_8 (Int.toNat (cIS R0 (0 + (Int.toNat t14)) 0)) 2)), (AV.int .i64 (cIS tb0_8 (Int.toNat (cIS R0 (0 + (Int.toNat t14)) 0)) 3)), (AV.int .i64 (cIS tb0_8 (Int.toNat (cIS R0 (0 + (Int.toNat t14)) 0)) 4)), (AV.int .i64 (cIS tb0_8 (Int.toNat (cIS R0 (0 + (Int.toNat t14)) 0)) 5)), (AV.inl 3 (cRS tb0_8 (Int.toNat (cIS R0 (0 + (Int.toNat t14)) 0)) 6))]; simp only [rappS_end, Nat.zero_add, Int.toNat_natCast]; exact (h.1 c0).2.2.2.2.1)), ?_⟩⟩⟩, imI hA fun e0 => have c0 : t14 ≥ t13 := (by have q := (cmpE (op := .lss) hA e0); subst hA; exact q); (by rw [W.rr]; exact (by subst hA; exact (h.2 c0)))⟩
  · refine W.call 80 (by rfl) (h.1 c0).2.2.2.2.2 (by subst hA; show [] = []; simp only [rappS_end, Nat.zero_add, Int.toNat_natCast]) (by subst hA; show [(Lf.i (cIS tb0_8 (Int.toNat (cIS R0 (0 + (Int.toNat t14)) 0)) 2))] = [(Lf.i (cIS tb0_8 (Int.toNat (cIS R0 (Int.toNat t14) 0)) 2))]; simp only [rappS_end, Nat.zero_add, Int.toNat_natCast]) ?_
    rintro x rs vs hp1 hq1
    rcases hq1 with ⟨rfl, y1_0, rfl, rfl, k1⟩
    · cbv
      refine ?_
      · refine W.call 80 (by rfl) k1 (by subst hA; rfl) (by subst hA; rfl) ?_
        rintro x rs vs hp2 hq2
        rcases hq2 with ⟨rfl, y2_0, rfl, rfl, k2⟩
        · cbv
          refine ?_
          · refine W.call 80 (by rfl) k2 (by subst hA; rfl) (by subst hA; rfl) ?_
            rintro x rs vs hp3 hq3
            rcases hq3 with ⟨rfl, y3_0, rfl, rfl, k3⟩
            · cbv
              refine ⟨ndI hA (And.intro rfl (And.intro rfl rfl)), ⟨ndI hA (by subst hA; exact hp.1), (by subst hA; exact k3)⟩⟩

end
structure V32 (EV Q : Nat → Rs → List Lf → Prop) : Prop where
  p9 : ∀ {R0 : List (List AV)} {t2 : Int} {t7 : Int} {t13 : Int} {t14 : Int} {tb0_0 : Int} {tb0_1 : Int} {tb0_2 : Int} {tb0_3 : Int} {tb0_4 : List (List AV)} {tb0_5 : Int} {tb0_6 : List (List AV)} {tb0_7 : List (List AV)} {tb0_8 : List (List AV)} {tb0_9 : List (List AV)}, (pursS R0 = true → 
    (t14 < t13 →
      ((0 : Int) ≤ t14) ∧
      (t14 < (((List.length R0) : Nat) : Int)) ∧
      (R0[(Int.toNat t14)]? = some [(AV.int .i64 (cIS R0 (Int.toNat t14) 0))]) ∧
      ((0 : Int) ≤ (cIS R0 (Int.toNat t14) 0)) ∧
      (tb0_8[(Int.toNat (cIS R0 (Int.toNat t14) 0))]? = some [(AV.int .i64 (cIS tb0_8 (Int.toNat (cIS R0 (Int.toNat t14) 0)) 0)), (AV.int .i64 (cIS tb0_8 (Int.toNat (cIS R0 (Int.toNat t14) 0)) 1)), (AV.int .i64 (cIS tb0_8 (Int.toNat (cIS R0 (Int.toNat t14) 0)) 2)), (AV.int .i64 (cIS tb0_8 (Int.toNat (cIS R0 (Int.toNat t14) 0)) 3)), (AV.int .i64 (cIS tb0_8 (Int.toNat (cIS R0 (Int.toNat t14) 0)) 4)), (AV.int .i64 (cIS tb0_8 (Int.toNat (cIS R0 (Int.toNat t14) 0)) 5)), (AV.inl 3 (cRS tb0_8 (Int.toNat (cIS R0 (Int.toNat t14) 0)) 6))]) ∧
      (EC Try.prog G54 [] [(Lf.i (cIS tb0_8 (Int.toNat (cIS R0 (Int.toNat t14) 0)) 2))] (fun x rs vs => (x = 0 ∧ ∃ (y1_0 : Int), rs = [] ∧ vs = [.i y1_0] ∧
        (EC Try.prog G53 [] [(Lf.i t2), (Lf.i y1_0)] (fun x rs vs => (x = 0 ∧ ∃ (y2_0 : Int), rs = [] ∧ vs = [.i y2_0] ∧
            (EC Try.prog G52 [] [(Lf.i t7), (Lf.i y2_0)] (fun x rs vs => (x = 0 ∧ ∃ (y3_0 : Int), rs = [] ∧ vs = [.i y3_0] ∧
                (EV 9 [R0] [(Lf.i t2), (Lf.i y3_0), (Lf.i t13), (Lf.i (IntKind.wrap .i64 (t14 + (1 : Int)))), (Lf.i tb0_0), (Lf.i tb0_1), (Lf.i tb0_2), (Lf.i tb0_3), (Lf.r tb0_4), (Lf.i tb0_5), (Lf.r tb0_6), (Lf.r tb0_7), (Lf.r tb0_8), (Lf.r tb0_9)]))))))))))) ∧
    (t14 ≥ t13 →
      Q 0 [] [(Lf.i t7)])) →
    EV 9 [R0] [.i t2, .i t7, .i t13, .i t14, .i tb0_0, .i tb0_1, .i tb0_2, .i tb0_3, .r tb0_4, .i tb0_5, .r tb0_6, .r tb0_7, .r tb0_8, .r tb0_9]

set_option maxHeartbeats 2000000 in
/-- To enter. -/
theorem E32 {Q : Nat → Rs → List Lf → Prop} {a0_0 : Int} {a0_1 : Int} {a0_2 : Int} {a0_3 : Int} {a0_4 : List (List AV)} {a0_5 : Int} {a0_6 : List (List AV)} {a0_7 : List (List AV)} {a0_8 : List (List AV)} {a0_9 : List (List AV)} {a1 : Int} {a2 : Int} (h : ∀ EV : Nat → Rs → List Lf → Prop, V32 EV Q →
    EC Try.prog G51 [] [(Lf.i a0_0), (Lf.i a0_1), (Lf.i a0_2), (Lf.i a0_3), (Lf.r a0_4), (Lf.i a0_5), (Lf.r a0_6), (Lf.r a0_7), (Lf.r a0_8), (Lf.r a0_9), (Lf.i a1)] (fun x rs vs => (x = 0 ∧ ∃ (Y0_0 : List (List AV)), rs = [Y0_0] ∧ vs = [] ∧
      (EV 9 [Y0_0] [(Lf.i a2), (Lf.i (0 : Int)), (Lf.i (((List.length Y0_0) : Nat) : Int)), (Lf.i (0 : Int)), (Lf.i a0_0), (Lf.i a0_1), (Lf.i a0_2), (Lf.i a0_3), (Lf.r a0_4), (Lf.i a0_5), (Lf.r a0_6), (Lf.r a0_7), (Lf.r a0_8), (Lf.r a0_9)])))) :
    EC Try.prog G32 [] [.i a0_0, .i a0_1, .i a0_2, .i a0_3, .r a0_4, .i a0_5, .r a0_6, .r a0_7, .r a0_8, .r a0_9, .i a1, .i a2] Q := by
  obtain ⟨A, hA⟩ : ∃ A, A = arS := ⟨_, rfl⟩
  refine Inst.enter (I := I32) hA mixed F32_at sg L32 80 rfl fun CE CK Dn EV RR W hp => ?_
  have h := h  EV ⟨V32_p9 W⟩
  cbv
  refine ?_
  · refine W.call 80 (by rfl) h (by subst hA; rfl) (by subst hA; rfl) ?_
    rintro x rs vs hp0 hq0
    rcases hq0 with ⟨rfl, Y0_0, rfl, rfl, k0⟩
    · cbv
      refine ⟨ndI hA rfl, ⟨ndI hA (And.intro rfl (And.intro rfl rfl)), ⟨ndI hA (by subst hA; exact hp0.1), (by subst hA; exact k0)⟩⟩⟩

-- 69: signalbox/signalboxref09.clamp
section
variable {Q : Nat → Rs → List Lf → Prop} {A : Ar} {CE : Nat → Rs → List Lf → (Nat → Rs → List Lf → Prop) → Prop} {CK : Nat → Rs → List Lf → Cont → Prop} {Dn : Nat → List Bool → List AItem → Nat → List Bool → List AV → List ABlk → Prop} {EV RR : Nat → Rs → List Lf → Prop}
end
structure V69 (EV Q : Nat → Rs → List Lf → Prop) : Prop where
  none : True

set_option maxHeartbeats 2000000 in
/-- To enter. -/
theorem E69 {Q : Nat → Rs → List Lf → Prop} {a0 : Int} (h : ∀ EV : Nat → Rs → List Lf → Prop, V69 EV Q →
    (a0 < (0 : Int) →
      Q 0 [] [(Lf.i (0 : Int))]) ∧
    (a0 ≥ (0 : Int) →
      (a0 > (1073741824 : Int) →
        Q 0 [] [(Lf.i (1073741824 : Int))]) ∧
      (a0 ≤ (1073741824 : Int) →
        Q 0 [] [(Lf.i a0)]))) :
    EC Try.prog G69 [] [.i a0] Q := by
  obtain ⟨A, hA⟩ : ∃ A, A = arS := ⟨_, rfl⟩
  refine Inst.enter (I := I69) hA mixed F69_at sg L69 80 rfl fun CE CK Dn EV RR W hp => ?_
  have h := h  EV ⟨trivial⟩
  cbv
  refine ⟨imI hA fun e0 => have c0 : a0 < (0 : Int) := (by have q := (cmpE (op := .lss) hA e0); subst hA; exact q); (by rw [W.rr]; exact (by subst hA; exact (h.1 c0))), imI hA fun e0 => have c0 : a0 ≥ (0 : Int) := (by have q := (cmpE (op := .lss) hA e0); subst hA; exact q); ⟨imI hA fun e1 => have c1 : a0 > (1073741824 : Int) := (by have q := (cmpE (op := .gtr) hA e1); subst hA; exact q); (by rw [W.rr]; exact (by subst hA; exact ((h.2 c0).1 c1))), imI hA fun e1 => have c1 : a0 ≤ (1073741824 : Int) := (by have q := (cmpE (op := .gtr) hA e1); subst hA; exact q); (by rw [W.rr]; exact (by subst hA; exact ((h.2 c0).2 c1)))⟩⟩

-- 64: signalbox/signalboxref09.Of
section
variable {Q : Nat → Rs → List Lf → Prop} {A : Ar} {CE : Nat → Rs → List Lf → (Nat → Rs → List Lf → Prop) → Prop} {CK : Nat → Rs → List Lf → Cont → Prop} {Dn : Nat → List Bool → List AItem → Nat → List Bool → List AV → List ABlk → Prop} {EV RR : Nat → Rs → List Lf → Prop}
end
structure V64 (EV Q : Nat → Rs → List Lf → Prop) : Prop where
  none : True

set_option maxHeartbeats 2000000 in
/-- To enter. -/
theorem E64 {Q : Nat → Rs → List Lf → Prop} {a0_0 : Int} {a0_1 : Int} {a0_2 : Int} {a1_0 : Int} {a1_1 : Int} {a1_2 : Int} {a1_3 : Int} {a2 : Bool} (h : ∀ EV : Nat → Rs → List Lf → Prop, V64 EV Q →
    (a0_0 = (1 : Int) →
      EC Try.prog G69 [] [(Lf.i a0_1)] (fun x rs vs => (x = 0 ∧ ∃ (y1_0 : Int), rs = [] ∧ vs = [.i y1_0] ∧
        (Q 0 [] [(Lf.i y1_0)])))) ∧
    (a0_0 ≠ (1 : Int) →
      (a0_0 = (2 : Int) →
        (a2 = true →
          EC Try.prog G69 [] [(Lf.i a1_2)] (fun x rs vs => (x = 0 ∧ ∃ (y3_0 : Int), rs = [] ∧ vs = [.i y3_0] ∧
            (Q 0 [] [(Lf.i y3_0)])))) ∧
        (a2 = false →
          (a0_0 = (2 : Int) →
            EC Try.prog G69 [] [(Lf.i a1_3)] (fun x rs vs => (x = 0 ∧ ∃ (y4_0 : Int), rs = [] ∧ vs = [.i y4_0] ∧
              (Q 0 [] [(Lf.i y4_0)])))) ∧
          (a0_0 ≠ (2 : Int) →
            Q 0 [] [(Lf.i (1 : Int))]))) ∧
      (a0_0 ≠ (2 : Int) →
        (a0_0 = (2 : Int) →
          EC Try.prog G69 [] [(Lf.i a1_3)] (fun x rs vs => (x = 0 ∧ ∃ (y3_0 : Int), rs = [] ∧ vs = [.i y3_0] ∧
            (Q 0 [] [(Lf.i y3_0)])))) ∧
        (a0_0 ≠ (2 : Int) →
          Q 0 [] [(Lf.i (1 : Int))])))) :
    EC Try.prog G64 [] [.i a0_0, .i a0_1, .i a0_2, .i a1_0, .i a1_1, .i a1_2, .i a1_3, .b a2] Q := by
  obtain ⟨A, hA⟩ : ∃ A, A = arS := ⟨_, rfl⟩
  refine Inst.enter (I := I64) hA mixed F64_at sg L64 80 rfl fun CE CK Dn EV RR W hp => ?_
  have h := h  EV ⟨trivial⟩
  cbv
  refine ⟨imI hA fun e0 => have c0 : a0_0 = (1 : Int) := (by have q := (cmpE (op := .eql) hA e0); subst hA; exact q); ?_, imI hA fun e0 => have c0 : a0_0 ≠ (1 : Int) := (by have q := (cmpE (op := .eql) hA e0); subst hA; exact q); ⟨imI hA fun e1 => have c1 : a0_0 = (2 : Int) := (by have q := (cmpE (op := .eql) hA e1); subst hA; exact q); ⟨imI hA fun e2 => have c2 : a2 = true := (by have q := e2; subst hA; exact q); ?_, imI hA fun e2 => have c2 : a2 = false := (by have q := e2; subst hA; exact q); ⟨imI hA fun e3 => have c3 : a0_0 = (2 : Int) := (by have q := (cmpE (op := .eql) hA e3); subst hA; exact q); ?_, imI hA fun e3 => have c3 : a0_0 ≠ (2 : Int) := (by have q := (cmpE (op := .eql) hA e3); subst hA; exact q); (by rw [W.rr]; exact (by subst hA; exact ((((h.2 c0).1 c1).2 c2).2 c3)))⟩⟩, imI hA fun e1 => have c1 : a0_0 ≠ (2 : Int) := (by have q := (cmpE (op := .eql) hA e1); subst hA; exact q); ⟨imI hA fun e2 => have c2 : a0_0 = (2 : Int) := (by have q := (cmpE (op := .eql) hA e2); subst hA; exact q); ?_, imI hA fun e2 => have c2 : a0_0 ≠ (2 : Int) := (by have q := (cmpE (op := .eql) hA e2); subst hA; exact q); (by rw [W.rr]; exact (by subst hA; exact (((h.2 c0).2 c1).2 c2)))⟩⟩⟩
  · refine W.call 80 (by rfl) (h.1 c0) (by subst hA; rfl) (by subst hA; rfl) ?_
    rintro x rs vs hp1 hq1
    rcases hq1 with ⟨rfl, y1_0, rfl, rfl, k1⟩
    · cbv
      refine (by rw [W.rr]; exact (by subst hA; exact k1))
  · refine W.call 80 (by rfl) (((h.2 c0).1 c1).1 c2) (by subst hA; rfl) (by subst hA; rfl) ?_
    rintro x rs vs hp3 hq3
    rcases hq3 with ⟨rfl, y3_0, rfl, rfl, k3⟩
    · cbv
      refine (by rw [W.rr]; exact (by subst hA; exact k3))
  · refine W.call 80 (by rfl) ((((h.2 c0).1 c1).2 c2).1 c3) (by subst hA; rfl) (by subst hA; rfl) ?_
    rintro x rs vs hp4 hq4
    rcases hq4 with ⟨rfl, y4_0, rfl, rfl, k4⟩
    · cbv
      refine (by rw [W.rr]; exact (by subst hA; exact k4))
  · refine W.call 80 (by rfl) (((h.2 c0).2 c1).1 c2) (by subst hA; rfl) (by subst hA; rfl) ?_
    rintro x rs vs hp3 hq3
    rcases hq3 with ⟨rfl, y3_0, rfl, rfl, k3⟩
    · cbv
      refine (by rw [W.rr]; exact (by subst hA; exact k3))

-- 55: signalbox/signalboxref09.Sum
section
variable {Q : Nat → Rs → List Lf → Prop} {A : Ar} {CE : Nat → Rs → List Lf → (Nat → Rs → List Lf → Prop) → Prop} {CK : Nat → Rs → List Lf → Cont → Prop} {Dn : Nat → List Bool → List AItem → Nat → List Bool → List AV → List ABlk → Prop} {EV RR : Nat → Rs → List Lf → Prop}
set_option maxHeartbeats 2000000 in
theorem V55_p9 (W : Wk Try.prog Try.f55 I55 L55 Q A sg CE CK Dn EV RR) {t2 : Bool} {t7 : Int} {t10 : List (List AV)} {t11 : Int} {t12 : Int} {tb0_0 : Int} {tb0_1 : Int} {tb0_2 : Int} {tb0_3 : Int} (h : 
    (t12 < t11 →
      ((0 : Int) ≤ t12) ∧
      (t10[(Int.toNat t12)]? = some [(AV.int .i64 (cIS t10 (Int.toNat t12) 0)), (AV.int .i64 (cIS t10 (Int.toNat t12) 1)), (AV.int .i64 (cIS t10 (Int.toNat t12) 2))]) ∧
      (EC Try.prog G64 [] [(Lf.i (cIS t10 (Int.toNat t12) 0)), (Lf.i (cIS t10 (Int.toNat t12) 1)), (Lf.i (cIS t10 (Int.toNat t12) 2)), (Lf.i tb0_0), (Lf.i tb0_1), (Lf.i tb0_2), (Lf.i tb0_3), (Lf.b t2)] (fun x rs vs => (x = 0 ∧ ∃ (y1_0 : Int), rs = [] ∧ vs = [.i y1_0] ∧
        (EV 9 [] [(Lf.b t2), (Lf.i (IntKind.wrap .i64 (t7 + y1_0))), (Lf.r t10), (Lf.i t11), (Lf.i (IntKind.wrap .i64 (t12 + (1 : Int)))), (Lf.i tb0_0), (Lf.i tb0_1), (Lf.i tb0_2), (Lf.i tb0_3)]))))) ∧
    (t12 ≥ t11 →
      Q 0 [] [(Lf.i t7)])) :
    EV 9 [] [.b t2, .i t7, .r t10, .i t11, .i t12, .i tb0_0, .i tb0_1, .i tb0_2, .i tb0_3] := by
  have hA := W.hA
  refine W.step 80 fun hp => ?_
  cbv
  refine ⟨imI hA fun e0 => have c0 : t12 < t11 := (by have q := (cmpE (op := .lss) hA e0); subst hA; exact q); ⟨ndI hA (And.intro (by subst hA; exact (h.1 c0).1) (by subst hA; exact (h.1 c0).2.1)), ?_⟩, imI hA fun e0 => have c0 : t12 ≥ t11 := (by have q := (cmpE (op := .lss) hA e0); subst hA; exact q); (by rw [W.rr]; exact (by subst hA; exact (h.2 c0)))⟩
  · refine W.call 80 (by rfl) (h.1 c0).2.2 (by subst hA; rfl) (by subst hA; rfl) ?_
    rintro x rs vs hp1 hq1
    rcases hq1 with ⟨rfl, y1_0, rfl, rfl, k1⟩
    · cbv
      refine (by subst hA; exact k1)

end
structure V55 (EV Q : Nat → Rs → List Lf → Prop) : Prop where
  p9 : ∀ {t2 : Bool} {t7 : Int} {t10 : List (List AV)} {t11 : Int} {t12 : Int} {tb0_0 : Int} {tb0_1 : Int} {tb0_2 : Int} {tb0_3 : Int}, (
    (t12 < t11 →
      ((0 : Int) ≤ t12) ∧
      (t10[(Int.toNat t12)]? = some [(AV.int .i64 (cIS t10 (Int.toNat t12) 0)), (AV.int .i64 (cIS t10 (Int.toNat t12) 1)), (AV.int .i64 (cIS t10 (Int.toNat t12) 2))]) ∧
      (EC Try.prog G64 [] [(Lf.i (cIS t10 (Int.toNat t12) 0)), (Lf.i (cIS t10 (Int.toNat t12) 1)), (Lf.i (cIS t10 (Int.toNat t12) 2)), (Lf.i tb0_0), (Lf.i tb0_1), (Lf.i tb0_2), (Lf.i tb0_3), (Lf.b t2)] (fun x rs vs => (x = 0 ∧ ∃ (y1_0 : Int), rs = [] ∧ vs = [.i y1_0] ∧
        (EV 9 [] [(Lf.b t2), (Lf.i (IntKind.wrap .i64 (t7 + y1_0))), (Lf.r t10), (Lf.i t11), (Lf.i (IntKind.wrap .i64 (t12 + (1 : Int)))), (Lf.i tb0_0), (Lf.i tb0_1), (Lf.i tb0_2), (Lf.i tb0_3)]))))) ∧
    (t12 ≥ t11 →
      Q 0 [] [(Lf.i t7)])) →
    EV 9 [] [.b t2, .i t7, .r t10, .i t11, .i t12, .i tb0_0, .i tb0_1, .i tb0_2, .i tb0_3]

set_option maxHeartbeats 2000000 in
/-- To enter. -/
theorem E55 {Q : Nat → Rs → List Lf → Prop} {a0 : List (List AV)} {a1_0 : Int} {a1_1 : Int} {a1_2 : Int} {a1_3 : Int} {a2 : Bool} (h : ∀ EV : Nat → Rs → List Lf → Prop, V55 EV Q →
    EV 9 [] [(Lf.b a2), (Lf.i (0 : Int)), (Lf.r a0), (Lf.i (((List.length a0) : Nat) : Int)), (Lf.i (0 : Int)), (Lf.i a1_0), (Lf.i a1_1), (Lf.i a1_2), (Lf.i a1_3)]) :
    EC Try.prog G55 [] [.r a0, .i a1_0, .i a1_1, .i a1_2, .i a1_3, .b a2] Q := by
  obtain ⟨A, hA⟩ : ∃ A, A = arS := ⟨_, rfl⟩
  refine Inst.enter (I := I55) hA mixed F55_at sg L55 80 rfl fun CE CK Dn EV RR W hp => ?_
  have h := h  EV ⟨V55_p9 W⟩
  cbv
  refine (by subst hA; exact h)

-- 65: signalbox/signalboxref24.Level
section
variable {Q : Nat → Rs → List Lf → Prop} {A : Ar} {CE : Nat → Rs → List Lf → (Nat → Rs → List Lf → Prop) → Prop} {CK : Nat → Rs → List Lf → Cont → Prop} {Dn : Nat → List Bool → List AItem → Nat → List Bool → List AV → List ABlk → Prop} {EV RR : Nat → Rs → List Lf → Prop}
set_option maxHeartbeats 2000000 in
theorem V65_p13 (W : Wk Try.prog Try.f65 I65 L65 Q A sg CE CK Dn EV RR) {R0 : List (List AV)} {t7 : Int} {t8 : Int} {t20 : List (List AV)} {t21 : Int} {t22 : Int} {tb0_0 : Int} {tb0_1 : Int} {tb0_2 : Int} {tb0_3 : Int} {tb0_4 : List (List AV)} {tb0_5 : Int} {tb0_6 : List (List AV)} {tb0_7 : List (List AV)} {tb0_8 : List (List AV)} {tb0_9 : List (List AV)} (h : pursS R0 = true → 
    (t22 < t21 →
      ((0 : Int) ≤ t22) ∧
      (t20[(Int.toNat t22)]? = some [(AV.int .i64 (cIS t20 (Int.toNat t22) 0)), (AV.int .i64 (cIS t20 (Int.toNat t22) 1)), (AV.int .i64 (cIS t20 (Int.toNat t22) 2))]) ∧
      ((cIS t20 (Int.toNat t22) 0) = (3 : Int) →
        EV 13 [R0] [(Lf.i (IntKind.wrap .i64 (t7 + (1 : Int)))), (Lf.i t8), (Lf.r t20), (Lf.i t21), (Lf.i (IntKind.wrap .i64 (t22 + (1 : Int)))), (Lf.i tb0_0), (Lf.i tb0_1), (Lf.i tb0_2), (Lf.i tb0_3), (Lf.r tb0_4), (Lf.i tb0_5), (Lf.r tb0_6), (Lf.r tb0_7), (Lf.r tb0_8), (Lf.r tb0_9)]) ∧
      ((cIS t20 (Int.toNat t22) 0) ≠ (3 : Int) →
        ((cIS t20 (Int.toNat t22) 0) = (4 : Int) →
          EV 13 [R0] [(Lf.i (arS.mx (IntKind.wrap .i64 (t7 - (1 : Int))) (0 : Int))), (Lf.i t8), (Lf.r t20), (Lf.i t21), (Lf.i (IntKind.wrap .i64 (t22 + (1 : Int)))), (Lf.i tb0_0), (Lf.i tb0_1), (Lf.i tb0_2), (Lf.i tb0_3), (Lf.r tb0_4), (Lf.i tb0_5), (Lf.r tb0_6), (Lf.r tb0_7), (Lf.r tb0_8), (Lf.r tb0_9)]) ∧
        ((cIS t20 (Int.toNat t22) 0) ≠ (4 : Int) →
          ((cIS t20 (Int.toNat t22) 0) = (5 : Int) →
            EV 40 [R0] [(Lf.i t7), (Lf.i t8), (Lf.r t20), (Lf.i t21), (Lf.i t22), (Lf.b true), (Lf.i tb0_0), (Lf.i tb0_1), (Lf.i tb0_2), (Lf.i tb0_3), (Lf.r tb0_4), (Lf.i tb0_5), (Lf.r tb0_6), (Lf.r tb0_7), (Lf.r tb0_8), (Lf.r tb0_9), (Lf.i (cIS t20 (Int.toNat t22) 0)), (Lf.i (cIS t20 (Int.toNat t22) 1)), (Lf.i (cIS t20 (Int.toNat t22) 2))]) ∧
          ((cIS t20 (Int.toNat t22) 0) ≠ (5 : Int) →
            EV 40 [R0] [(Lf.i t7), (Lf.i t8), (Lf.r t20), (Lf.i t21), (Lf.i t22), (Lf.b ((cIS t20 (Int.toNat t22) 0) == (6 : Int))), (Lf.i tb0_0), (Lf.i tb0_1), (Lf.i tb0_2), (Lf.i tb0_3), (Lf.r tb0_4), (Lf.i tb0_5), (Lf.r tb0_6), (Lf.r tb0_7), (Lf.r tb0_8), (Lf.r tb0_9), (Lf.i (cIS t20 (Int.toNat t22) 0)), (Lf.i (cIS t20 (Int.toNat t22) 1)), (Lf.i (cIS t20 (Int.toNat t22) 2))])))) ∧
    (t22 ≥ t21 →
      EV 59 [R0] [(Lf.i t7), (Lf.i t8), (Lf.i (((List.length R0) : Nat) : Int)), (Lf.i (0 : Int)), (Lf.i tb0_0), (Lf.i tb0_1), (Lf.i tb0_2), (Lf.i tb0_3), (Lf.r tb0_4), (Lf.i tb0_5), (Lf.r tb0_6), (Lf.r tb0_7), (Lf.r tb0_8), (Lf.r tb0_9)])) :
    EV 13 [R0] [.i t7, .i t8, .r t20, .i t21, .i t22, .i tb0_0, .i tb0_1, .i tb0_2, .i tb0_3, .r tb0_4, .i tb0_5, .r tb0_6, .r tb0_7, .r tb0_8, .r tb0_9] := by
  have hA := W.hA
  refine W.step 80 fun hp => ?_
  have h := h hp.1
  cbv
  refine ⟨imI hA fun e0 => have c0 : t22 < t21 := (by have q := (cmpE (op := .lss) hA e0); subst hA; exact q); ⟨ndI hA (And.intro (by subst hA; exact (h.1 c0).1) (by subst hA; exact (h.1 c0).2.1)), ⟨imI hA fun e1 => have c1 : (cIS t20 (Int.toNat t22) 0) = (3 : Int) := (by have q := (cmpE (op := .eql) hA e1); subst hA; exact q); ⟨ndI hA (And.intro rfl (And.intro rfl rfl)), ⟨ndI hA (by subst hA; exact hp.1), (by subst hA; exact ((h.1 c0).2.2.1 c1))⟩⟩, imI hA fun e1 => have c1 : (cIS t20 (Int.toNat t22) 0) ≠ (3 : Int) := (by have q := (cmpE (op := .eql) hA e1); subst hA; exact q); ⟨imI hA fun e2 => have c2 : (cIS t20 (Int.toNat t22) 0) = (4 : Int) := (by have q := (cmpE (op := .eql) hA e2); subst hA; exact q); ⟨ndI hA (And.intro rfl (And.intro rfl rfl)), ⟨ndI hA (by subst hA; exact hp.1), (by subst hA; exact (((h.1 c0).2.2.2 c1).1 c2))⟩⟩, imI hA fun e2 => have c2 : (cIS t20 (Int.toNat t22) 0) ≠ (4 : Int) := (by have q := (cmpE (op := .eql) hA e2); subst hA; exact q); ⟨imI hA fun e3 => have c3 : (cIS t20 (Int.toNat t22) 0) = (5 : Int) := (by have q := (cmpE (op := .eql) hA e3); subst hA; exact q); ⟨ndI hA (And.intro rfl (And.intro rfl rfl)), ⟨ndI hA (by subst hA; exact hp.1), (by subst hA; exact ((((h.1 c0).2.2.2 c1).2 c2).1 c3))⟩⟩, imI hA fun e3 => have c3 : (cIS t20 (Int.toNat t22) 0) ≠ (5 : Int) := (by have q := (cmpE (op := .eql) hA e3); subst hA; exact q); ⟨ndI hA (And.intro rfl (And.intro rfl rfl)), ⟨ndI hA (by subst hA; exact hp.1), (by subst hA; exact ((((h.1 c0).2.2.2 c1).2 c2).2 c3))⟩⟩⟩⟩⟩⟩, imI hA fun e0 => have c0 : t22 ≥ t21 := (by have q := (cmpE (op := .lss) hA e0); subst hA; exact q); ⟨ndI hA rfl, ⟨ndI hA (And.intro rfl (And.intro rfl rfl)), ⟨ndI hA (by subst hA; exact hp.1), (by subst hA; exact (h.2 c0))⟩⟩⟩⟩

set_option maxHeartbeats 2000000 in
theorem V65_p40 (W : Wk Try.prog Try.f65 I65 L65 Q A sg CE CK Dn EV RR) {R0 : List (List AV)} {t7 : Int} {t8 : Int} {t20 : List (List AV)} {t21 : Int} {t22 : Int} {t37 : Bool} {tb0_0 : Int} {tb0_1 : Int} {tb0_2 : Int} {tb0_3 : Int} {tb0_4 : List (List AV)} {tb0_5 : Int} {tb0_6 : List (List AV)} {tb0_7 : List (List AV)} {tb0_8 : List (List AV)} {tb0_9 : List (List AV)} {tb2_0 : Int} {tb2_1 : Int} {tb2_2 : Int} (h : pursS R0 = true → 
    (t37 = true →
      (tb2_1 ≥ (0 : Int) →
        (tb2_1 ≥ (((List.length R0) : Nat) : Int) →
          EV 13 [R0] [(Lf.i t7), (Lf.i t8), (Lf.r t20), (Lf.i t21), (Lf.i (IntKind.wrap .i64 (t22 + (1 : Int)))), (Lf.i tb0_0), (Lf.i tb0_1), (Lf.i tb0_2), (Lf.i tb0_3), (Lf.r tb0_4), (Lf.i tb0_5), (Lf.r tb0_6), (Lf.r tb0_7), (Lf.r tb0_8), (Lf.r tb0_9)]) ∧
        (tb2_1 < (((List.length R0) : Nat) : Int) →
          (tb2_0 = (5 : Int) →
            ((0 : Int) ≤ tb2_1) ∧
            (tb2_1 < (((List.length R0) : Nat) : Int)) ∧
            (R0[(Int.toNat tb2_1)]? = some [(AV.int .i64 (cIS R0 (Int.toNat tb2_1) 0))]) ∧
            (EV 13 [(List.set R0 (Int.toNat tb2_1) [(AV.int .i64 (1 : Int))])] [(Lf.i t7), (Lf.i t8), (Lf.r t20), (Lf.i t21), (Lf.i (IntKind.wrap .i64 (t22 + (1 : Int)))), (Lf.i tb0_0), (Lf.i tb0_1), (Lf.i tb0_2), (Lf.i tb0_3), (Lf.r tb0_4), (Lf.i tb0_5), (Lf.r tb0_6), (Lf.r tb0_7), (Lf.r tb0_8), (Lf.r tb0_9)])) ∧
          (tb2_0 ≠ (5 : Int) →
            ((0 : Int) ≤ tb2_1) ∧
            (tb2_1 < (((List.length R0) : Nat) : Int)) ∧
            (R0[(Int.toNat tb2_1)]? = some [(AV.int .i64 (cIS R0 (Int.toNat tb2_1) 0))]) ∧
            (EV 13 [(List.set R0 (Int.toNat tb2_1) [(AV.int .i64 (0 : Int))])] [(Lf.i t7), (Lf.i t8), (Lf.r t20), (Lf.i t21), (Lf.i (IntKind.wrap .i64 (t22 + (1 : Int)))), (Lf.i tb0_0), (Lf.i tb0_1), (Lf.i tb0_2), (Lf.i tb0_3), (Lf.r tb0_4), (Lf.i tb0_5), (Lf.r tb0_6), (Lf.r tb0_7), (Lf.r tb0_8), (Lf.r tb0_9)])))) ∧
      (tb2_1 < (0 : Int) →
        EV 13 [R0] [(Lf.i t7), (Lf.i t8), (Lf.r t20), (Lf.i t21), (Lf.i (IntKind.wrap .i64 (t22 + (1 : Int)))), (Lf.i tb0_0), (Lf.i tb0_1), (Lf.i tb0_2), (Lf.i tb0_3), (Lf.r tb0_4), (Lf.i tb0_5), (Lf.r tb0_6), (Lf.r tb0_7), (Lf.r tb0_8), (Lf.r tb0_9)])) ∧
    (t37 = false →
      EV 13 [R0] [(Lf.i t7), (Lf.i t8), (Lf.r t20), (Lf.i t21), (Lf.i (IntKind.wrap .i64 (t22 + (1 : Int)))), (Lf.i tb0_0), (Lf.i tb0_1), (Lf.i tb0_2), (Lf.i tb0_3), (Lf.r tb0_4), (Lf.i tb0_5), (Lf.r tb0_6), (Lf.r tb0_7), (Lf.r tb0_8), (Lf.r tb0_9)])) :
    EV 40 [R0] [.i t7, .i t8, .r t20, .i t21, .i t22, .b t37, .i tb0_0, .i tb0_1, .i tb0_2, .i tb0_3, .r tb0_4, .i tb0_5, .r tb0_6, .r tb0_7, .r tb0_8, .r tb0_9, .i tb2_0, .i tb2_1, .i tb2_2] := by
  have hA := W.hA
  refine W.step 80 fun hp => ?_
  have h := h hp.1
  cbv
  refine ⟨imI hA fun e0 => have c0 : t37 = true := (by have q := e0; subst hA; exact q); ⟨imI hA fun e1 => have c1 : tb2_1 ≥ (0 : Int) := (by have q := (cmpE (op := .lss) hA e1); subst hA; exact q); ⟨ndI hA rfl, ⟨imI hA fun e2 => have c2 : tb2_1 ≥ (((List.length R0) : Nat) : Int) := (by have q := (cmpE (op := .geq) hA e2); subst hA; exact q); ⟨ndI hA (And.intro rfl (And.intro rfl rfl)), ⟨ndI hA (by subst hA; exact hp.1), (by subst hA; exact (((h.1 c0).1 c1).1 c2))⟩⟩, imI hA fun e2 => have c2 : tb2_1 < (((List.length R0) : Nat) : Int) := (by have q := (cmpE (op := .geq) hA e2); subst hA; exact q); ⟨imI hA fun e3 => have c3 : tb2_0 = (5 : Int) := (by have q := (cmpE (op := .eql) hA e3); subst hA; exact q); ⟨ndI hA (And.intro (by subst hA; exact ((((h.1 c0).1 c1).2 c2).1 c3).1) (And.intro (by subst hA; exact ((((h.1 c0).1 c1).2 c2).1 c3).2.1) rfl)), ⟨ndI hA (And.intro rfl (by subst hA; show R0[(0 + (Int.toNat tb2_1))]? = some [(AV.int .i64 (cIS R0 (0 + (Int.toNat tb2_1)) 0))]; simp only [rappS_end, Nat.zero_add, Int.toNat_natCast]; exact ((((h.1 c0).1 c1).2 c2).1 c3).2.2.1)), ⟨ndI hA (And.intro (by subst hA; show (List.length R0) = (List.length (List.set R0 (0 + (Int.toNat tb2_1)) [(AV.int .i64 (1 : Int))])); (first | rfl | simp [rappS_end] | (simp only [rappS_end, List.length_append, List.length_set, List.length_cons, List.length_nil]; omega))) (And.intro rfl (by subst hA; show (List.length R0) = (List.length (List.set R0 (0 + (Int.toNat tb2_1)) [(AV.int .i64 (1 : Int))])); (first | rfl | simp [rappS_end] | (simp only [rappS_end, List.length_append, List.length_set, List.length_cons, List.length_nil]; omega))))), ⟨ndI hA (by subst hA; exact (vset hp.1 rfl)), (by subst hA; show EV 13 [(List.set R0 (0 + (Int.toNat tb2_1)) [(AV.int .i64 (1 : Int))])] [(Lf.i t7), (Lf.i t8), (Lf.r t20), (Lf.i t21), (Lf.i (IntKind.wrap .i64 (t22 + (1 : Int)))), (Lf.i tb0_0), (Lf.i tb0_1), (Lf.i tb0_2), (Lf.i tb0_3), (Lf.r tb0_4), (Lf.i tb0_5), (Lf.r tb0_6), (Lf.r tb0_7), (Lf.r tb0_8), (Lf.r tb0_9)]; simp only [rappS_end, Nat.zero_add, Int.toNat_natCast]; exact ((((h.1 c0).1 c1).2 c2).1 c3).2.2.2)⟩⟩⟩⟩, imI hA fun e3 => have c3 : tb2_0 ≠ (5 : Int) := (by have q := (cmpE (op := .eql) hA e3); subst hA; exact q); ⟨ndI hA (And.intro (by subst hA; exact ((((h.1 c0).1 c1).2 c2).2 c3).1) (And.intro (by subst hA; exact ((((h.1 c0).1 c1).2 c2).2 c3).2.1) rfl)), ⟨ndI hA (And.intro rfl (by subst hA; show R0[(0 + (Int.toNat tb2_1))]? = some [(AV.int .i64 (cIS R0 (0 + (Int.toNat tb2_1)) 0))]; simp only [rappS_end, Nat.zero_add, Int.toNat_natCast]; exact ((((h.1 c0).1 c1).2 c2).2 c3).2.2.1)), ⟨ndI hA (And.intro (by subst hA; show (List.length R0) = (List.length (List.set R0 (0 + (Int.toNat tb2_1)) [(AV.int .i64 (0 : Int))])); (first | rfl | simp [rappS_end] | (simp only [rappS_end, List.length_append, List.length_set, List.length_cons, List.length_nil]; omega))) (And.intro rfl (by subst hA; show (List.length R0) = (List.length (List.set R0 (0 + (Int.toNat tb2_1)) [(AV.int .i64 (0 : Int))])); (first | rfl | simp [rappS_end] | (simp only [rappS_end, List.length_append, List.length_set, List.length_cons, List.length_nil]; omega))))), ⟨ndI hA (by subst hA; exact (vset hp.1 rfl)), (by subst hA; show EV 13 [(List.set R0 (0 + (Int.toNat tb2_1)) [(AV.int .i64 (0 : Int))])] [(Lf.i t7), (Lf.i t8), (Lf.r t20), (Lf.i t21), (Lf.i (IntKind.wrap .i64 (t22 + (1 : Int)))), (Lf.i tb0_0), (Lf.i tb0_1), (Lf.i tb0_2), (Lf.i tb0_3), (Lf.r tb0_4), (Lf.i tb0_5), (Lf.r tb0_6), (Lf.r tb0_7), (Lf.r tb0_8), (Lf.r tb0_9)]; simp only [rappS_end, Nat.zero_add, Int.toNat_natCast]; exact ((((h.1 c0).1 c1).2 c2).2 c3).2.2.2)⟩⟩⟩⟩⟩⟩⟩, imI hA fun e1 => have c1 : tb2_1 < (0 : Int) := (by have q := (cmpE (op := .lss) hA e1); subst hA; exact q); ⟨ndI hA (And.intro rfl (And.intro rfl rfl)), ⟨ndI hA (by subst hA; exact hp.1), (by subst hA; exact ((h.1 c0).2 c1))⟩⟩⟩, imI hA fun e0 => have c0 : t37 = false := (by have q := e0; subst hA; exact q); ⟨ndI hA (And.intro rfl (And.intro rfl rfl)), ⟨ndI hA (by subst hA; exact hp.1), (by subst hA; exact (h.2 c0))⟩⟩⟩

set_option maxHeartbeats 2000000 in
theorem V65_p59 (W : Wk Try.prog Try.f65 I65 L65 Q A sg CE CK Dn EV RR) {R0 : List (List AV)} {t7 : Int} {t8 : Int} {t63 : Int} {t64 : Int} {tb0_0 : Int} {tb0_1 : Int} {tb0_2 : Int} {tb0_3 : Int} {tb0_4 : List (List AV)} {tb0_5 : Int} {tb0_6 : List (List AV)} {tb0_7 : List (List AV)} {tb0_8 : List (List AV)} {tb0_9 : List (List AV)} (h : pursS R0 = true → 
    (t64 < t63 →
      ((0 : Int) ≤ t64) ∧
      (t64 < (((List.length R0) : Nat) : Int)) ∧
      (R0[(Int.toNat t64)]? = some [(AV.int .i64 (cIS R0 (Int.toNat t64) 0))]) ∧
      ((cIS R0 (Int.toNat t64) 0) > (0 : Int) →
        ((0 : Int) ≤ t64) ∧
        (tb0_7[(Int.toNat t64)]? = some [(AV.int .i64 (cIS tb0_7 (Int.toNat t64) 0))]) ∧
        ((cIS tb0_7 (Int.toNat t64) 0) > t8 →
          ((0 : Int) ≤ t64) ∧
          (tb0_7[(Int.toNat t64)]? = some [(AV.int .i64 (cIS tb0_7 (Int.toNat t64) 0))]) ∧
          (EV 59 [R0] [(Lf.i t7), (Lf.i (cIS tb0_7 (Int.toNat t64) 0)), (Lf.i t63), (Lf.i (IntKind.wrap .i64 (t64 + (1 : Int)))), (Lf.i tb0_0), (Lf.i tb0_1), (Lf.i tb0_2), (Lf.i tb0_3), (Lf.r tb0_4), (Lf.i tb0_5), (Lf.r tb0_6), (Lf.r tb0_7), (Lf.r tb0_8), (Lf.r tb0_9)])) ∧
        ((cIS tb0_7 (Int.toNat t64) 0) ≤ t8 →
          EV 59 [R0] [(Lf.i t7), (Lf.i t8), (Lf.i t63), (Lf.i (IntKind.wrap .i64 (t64 + (1 : Int)))), (Lf.i tb0_0), (Lf.i tb0_1), (Lf.i tb0_2), (Lf.i tb0_3), (Lf.r tb0_4), (Lf.i tb0_5), (Lf.r tb0_6), (Lf.r tb0_7), (Lf.r tb0_8), (Lf.r tb0_9)])) ∧
      ((cIS R0 (Int.toNat t64) 0) ≤ (0 : Int) →
        EV 59 [R0] [(Lf.i t7), (Lf.i t8), (Lf.i t63), (Lf.i (IntKind.wrap .i64 (t64 + (1 : Int)))), (Lf.i tb0_0), (Lf.i tb0_1), (Lf.i tb0_2), (Lf.i tb0_3), (Lf.r tb0_4), (Lf.i tb0_5), (Lf.r tb0_6), (Lf.r tb0_7), (Lf.r tb0_8), (Lf.r tb0_9)])) ∧
    (t64 ≥ t63 →
      (t7 > (0 : Int) →
        Q 0 [] [(Lf.i (64 : Int))]) ∧
      (t7 ≤ (0 : Int) →
        Q 0 [] [(Lf.i t8)]))) :
    EV 59 [R0] [.i t7, .i t8, .i t63, .i t64, .i tb0_0, .i tb0_1, .i tb0_2, .i tb0_3, .r tb0_4, .i tb0_5, .r tb0_6, .r tb0_7, .r tb0_8, .r tb0_9] := by
  have hA := W.hA
  refine W.step 80 fun hp => ?_
  have h := h hp.1
  cbv
  refine ⟨imI hA fun e0 => have c0 : t64 < t63 := (by have q := (cmpE (op := .lss) hA e0); subst hA; exact q); ⟨ndI hA (And.intro (by subst hA; exact (h.1 c0).1) (And.intro (by subst hA; exact (h.1 c0).2.1) rfl)), ⟨ndI hA (And.intro rfl (by subst hA; show R0[(0 + (Int.toNat t64))]? = some [(AV.int .i64 (cIS R0 (0 + (Int.toNat t64)) 0))]; simp only [rappS_end, Nat.zero_add, Int.toNat_natCast]; exact (h.1 c0).2.2.1)), ⟨imI hA fun e1 => have c1 : (cIS R0 (Int.toNat t64) 0) > (0 : Int) := (by have q := (cmpE (op := .gtr) hA e1); subst hA; have q : (cIS R0 (0 + (Int.toNat t64)) 0) > (0 : Int) := q; simpa only [rappS_end, Nat.zero_add, Int.toNat_natCast] using q); ⟨ndI hA (And.intro (by subst hA; exact ((h.1 c0).2.2.2.1 c1).1) (by subst hA; exact ((h.1 c0).2.2.2.1 c1).2.1)), ⟨imI hA fun e2 => have c2 : (cIS tb0_7 (Int.toNat t64) 0) > t8 := (by have q := (cmpE (op := .gtr) hA e2); subst hA; exact q); ⟨ndI hA (And.intro (by subst hA; exact (((h.1 c0).2.2.2.1 c1).2.2.1 c2).1) (by subst hA; exact (((h.1 c0).2.2.2.1 c1).2.2.1 c2).2.1)), ⟨ndI hA (And.intro rfl (And.intro rfl rfl)), ⟨ndI hA (by subst hA; exact hp.1), (by subst hA; exact (((h.1 c0).2.2.2.1 c1).2.2.1 c2).2.2)⟩⟩⟩, imI hA fun e2 => have c2 : (cIS tb0_7 (Int.toNat t64) 0) ≤ t8 := (by have q := (cmpE (op := .gtr) hA e2); subst hA; exact q); ⟨ndI hA (And.intro rfl (And.intro rfl rfl)), ⟨ndI hA (by subst hA; exact hp.1), (by subst hA; exact (((h.1 c0).2.2.2.1 c1).2.2.2 c2))⟩⟩⟩⟩, imI hA fun e1 => have c1 : (cIS R0 (Int.toNat t64) 0) ≤ (0 : Int) := (by have q := (cmpE (op := .gtr) hA e1); subst hA; have q : (cIS R0 (0 + (Int.toNat t64)) 0) ≤ (0 : Int) := q; simpa only [rappS_end, Nat.zero_add, Int.toNat_natCast] using q); ⟨ndI hA (And.intro rfl (And.intro rfl rfl)), ⟨ndI hA (by subst hA; exact hp.1), (by subst hA; exact ((h.1 c0).2.2.2.2 c1))⟩⟩⟩⟩⟩, imI hA fun e0 => have c0 : t64 ≥ t63 := (by have q := (cmpE (op := .lss) hA e0); subst hA; exact q); ⟨imI hA fun e1 => have c1 : t7 > (0 : Int) := (by have q := (cmpE (op := .gtr) hA e1); subst hA; exact q); (by rw [W.rr]; exact (by subst hA; exact ((h.2 c0).1 c1))), imI hA fun e1 => have c1 : t7 ≤ (0 : Int) := (by have q := (cmpE (op := .gtr) hA e1); subst hA; exact q); (by rw [W.rr]; exact (by subst hA; exact ((h.2 c0).2 c1)))⟩⟩

end
structure V65 (EV Q : Nat → Rs → List Lf → Prop) : Prop where
  p13 : ∀ {R0 : List (List AV)} {t7 : Int} {t8 : Int} {t20 : List (List AV)} {t21 : Int} {t22 : Int} {tb0_0 : Int} {tb0_1 : Int} {tb0_2 : Int} {tb0_3 : Int} {tb0_4 : List (List AV)} {tb0_5 : Int} {tb0_6 : List (List AV)} {tb0_7 : List (List AV)} {tb0_8 : List (List AV)} {tb0_9 : List (List AV)}, (pursS R0 = true → 
    (t22 < t21 →
      ((0 : Int) ≤ t22) ∧
      (t20[(Int.toNat t22)]? = some [(AV.int .i64 (cIS t20 (Int.toNat t22) 0)), (AV.int .i64 (cIS t20 (Int.toNat t22) 1)), (AV.int .i64 (cIS t20 (Int.toNat t22) 2))]) ∧
      ((cIS t20 (Int.toNat t22) 0) = (3 : Int) →
        EV 13 [R0] [(Lf.i (IntKind.wrap .i64 (t7 + (1 : Int)))), (Lf.i t8), (Lf.r t20), (Lf.i t21), (Lf.i (IntKind.wrap .i64 (t22 + (1 : Int)))), (Lf.i tb0_0), (Lf.i tb0_1), (Lf.i tb0_2), (Lf.i tb0_3), (Lf.r tb0_4), (Lf.i tb0_5), (Lf.r tb0_6), (Lf.r tb0_7), (Lf.r tb0_8), (Lf.r tb0_9)]) ∧
      ((cIS t20 (Int.toNat t22) 0) ≠ (3 : Int) →
        ((cIS t20 (Int.toNat t22) 0) = (4 : Int) →
          EV 13 [R0] [(Lf.i (arS.mx (IntKind.wrap .i64 (t7 - (1 : Int))) (0 : Int))), (Lf.i t8), (Lf.r t20), (Lf.i t21), (Lf.i (IntKind.wrap .i64 (t22 + (1 : Int)))), (Lf.i tb0_0), (Lf.i tb0_1), (Lf.i tb0_2), (Lf.i tb0_3), (Lf.r tb0_4), (Lf.i tb0_5), (Lf.r tb0_6), (Lf.r tb0_7), (Lf.r tb0_8), (Lf.r tb0_9)]) ∧
        ((cIS t20 (Int.toNat t22) 0) ≠ (4 : Int) →
          ((cIS t20 (Int.toNat t22) 0) = (5 : Int) →
            EV 40 [R0] [(Lf.i t7), (Lf.i t8), (Lf.r t20), (Lf.i t21), (Lf.i t22), (Lf.b true), (Lf.i tb0_0), (Lf.i tb0_1), (Lf.i tb0_2), (Lf.i tb0_3), (Lf.r tb0_4), (Lf.i tb0_5), (Lf.r tb0_6), (Lf.r tb0_7), (Lf.r tb0_8), (Lf.r tb0_9), (Lf.i (cIS t20 (Int.toNat t22) 0)), (Lf.i (cIS t20 (Int.toNat t22) 1)), (Lf.i (cIS t20 (Int.toNat t22) 2))]) ∧
          ((cIS t20 (Int.toNat t22) 0) ≠ (5 : Int) →
            EV 40 [R0] [(Lf.i t7), (Lf.i t8), (Lf.r t20), (Lf.i t21), (Lf.i t22), (Lf.b ((cIS t20 (Int.toNat t22) 0) == (6 : Int))), (Lf.i tb0_0), (Lf.i tb0_1), (Lf.i tb0_2), (Lf.i tb0_3), (Lf.r tb0_4), (Lf.i tb0_5), (Lf.r tb0_6), (Lf.r tb0_7), (Lf.r tb0_8), (Lf.r tb0_9), (Lf.i (cIS t20 (Int.toNat t22) 0)), (Lf.i (cIS t20 (Int.toNat t22) 1)), (Lf.i (cIS t20 (Int.toNat t22) 2))])))) ∧
    (t22 ≥ t21 →
      EV 59 [R0] [(Lf.i t7), (Lf.i t8), (Lf.i (((List.length R0) : Nat) : Int)), (Lf.i (0 : Int)), (Lf.i tb0_0), (Lf.i tb0_1), (Lf.i tb0_2), (Lf.i tb0_3), (Lf.r tb0_4), (Lf.i tb0_5), (Lf.r tb0_6), (Lf.r tb0_7), (Lf.r tb0_8), (Lf.r tb0_9)])) →
    EV 13 [R0] [.i t7, .i t8, .r t20, .i t21, .i t22, .i tb0_0, .i tb0_1, .i tb0_2, .i tb0_3, .r tb0_4, .i tb0_5, .r tb0_6, .r tb0_7, .r tb0_8, .r tb0_9]
  p40 : ∀ {R0 : List (List AV)} {t7 : Int} {t8 : Int} {t20 : List (List AV)} {t21 : Int} {t22 : Int} {t37 : Bool} {tb0_0 : Int} {tb0_1 : Int} {tb0_2 : Int} {tb0_3 : Int} {tb0_4 : List (List AV)} {tb0_5 : Int} {tb0_6 : List (List AV)} {tb0_7 : List (List AV)} {tb0_8 : List (List AV)} {tb0_9 : List (List AV)} {tb2_0 : Int} {tb2_1 : Int} {tb2_2 : Int}, (pursS R0 = true → 
    (t37 = true →
      (tb2_1 ≥ (0 : Int) →
        (tb2_1 ≥ (((List.length R0) : Nat) : Int) →
          EV 13 [R0] [(Lf.i t7), (Lf.i t8), (Lf.r t20), (Lf.i t21), (Lf.i (IntKind.wrap .i64 (t22 + (1 : Int)))), (Lf.i tb0_0), (Lf.i tb0_1), (Lf.i tb0_2), (Lf.i tb0_3), (Lf.r tb0_4), (Lf.i tb0_5), (Lf.r tb0_6), (Lf.r tb0_7), (Lf.r tb0_8), (Lf.r tb0_9)]) ∧
        (tb2_1 < (((List.length R0) : Nat) : Int) →
          (tb2_0 = (5 : Int) →
            ((0 : Int) ≤ tb2_1) ∧
            (tb2_1 < (((List.length R0) : Nat) : Int)) ∧
            (R0[(Int.toNat tb2_1)]? = some [(AV.int .i64 (cIS R0 (Int.toNat tb2_1) 0))]) ∧
            (EV 13 [(List.set R0 (Int.toNat tb2_1) [(AV.int .i64 (1 : Int))])] [(Lf.i t7), (Lf.i t8), (Lf.r t20), (Lf.i t21), (Lf.i (IntKind.wrap .i64 (t22 + (1 : Int)))), (Lf.i tb0_0), (Lf.i tb0_1), (Lf.i tb0_2), (Lf.i tb0_3), (Lf.r tb0_4), (Lf.i tb0_5), (Lf.r tb0_6), (Lf.r tb0_7), (Lf.r tb0_8), (Lf.r tb0_9)])) ∧
          (tb2_0 ≠ (5 : Int) →
            ((0 : Int) ≤ tb2_1) ∧
            (tb2_1 < (((List.length R0) : Nat) : Int)) ∧
            (R0[(Int.toNat tb2_1)]? = some [(AV.int .i64 (cIS R0 (Int.toNat tb2_1) 0))]) ∧
            (EV 13 [(List.set R0 (Int.toNat tb2_1) [(AV.int .i64 (0 : Int))])] [(Lf.i t7), (Lf.i t8), (Lf.r t20), (Lf.i t21), (Lf.i (IntKind.wrap .i64 (t22 + (1 : Int)))), (Lf.i tb0_0), (Lf.i tb0_1), (Lf.i tb0_2), (Lf.i tb0_3), (Lf.r tb0_4), (Lf.i tb0_5), (Lf.r tb0_6), (Lf.r tb0_7), (Lf.r tb0_8), (Lf.r tb0_9)])))) ∧
      (tb2_1 < (0 : Int) →
        EV 13 [R0] [(Lf.i t7), (Lf.i t8), (Lf.r t20), (Lf.i t21), (Lf.i (IntKind.wrap .i64 (t22 + (1 : Int)))), (Lf.i tb0_0), (Lf.i tb0_1), (Lf.i tb0_2), (Lf.i tb0_3), (Lf.r tb0_4), (Lf.i tb0_5), (Lf.r tb0_6), (Lf.r tb0_7), (Lf.r tb0_8), (Lf.r tb0_9)])) ∧
    (t37 = false →
      EV 13 [R0] [(Lf.i t7), (Lf.i t8), (Lf.r t20), (Lf.i t21), (Lf.i (IntKind.wrap .i64 (t22 + (1 : Int)))), (Lf.i tb0_0), (Lf.i tb0_1), (Lf.i tb0_2), (Lf.i tb0_3), (Lf.r tb0_4), (Lf.i tb0_5), (Lf.r tb0_6), (Lf.r tb0_7), (Lf.r tb0_8), (Lf.r tb0_9)])) →
    EV 40 [R0] [.i t7, .i t8, .r t20, .i t21, .i t22, .b t37, .i tb0_0, .i tb0_1, .i tb0_2, .i tb0_3, .r tb0_4, .i tb0_5, .r tb0_6, .r tb0_7, .r tb0_8, .r tb0_9, .i tb2_0, .i tb2_1, .i tb2_2]
  p59 : ∀ {R0 : List (List AV)} {t7 : Int} {t8 : Int} {t63 : Int} {t64 : Int} {tb0_0 : Int} {tb0_1 : Int} {tb0_2 : Int} {tb0_3 : Int} {tb0_4 : List (List AV)} {tb0_5 : Int} {tb0_6 : List (List AV)} {tb0_7 : List (List AV)} {tb0_8 : List (List AV)} {tb0_9 : List (List AV)}, (pursS R0 = true → 
    (t64 < t63 →
      ((0 : Int) ≤ t64) ∧
      (t64 < (((List.length R0) : Nat) : Int)) ∧
      (R0[(Int.toNat t64)]? = some [(AV.int .i64 (cIS R0 (Int.toNat t64) 0))]) ∧
      ((cIS R0 (Int.toNat t64) 0) > (0 : Int) →
        ((0 : Int) ≤ t64) ∧
        (tb0_7[(Int.toNat t64)]? = some [(AV.int .i64 (cIS tb0_7 (Int.toNat t64) 0))]) ∧
        ((cIS tb0_7 (Int.toNat t64) 0) > t8 →
          ((0 : Int) ≤ t64) ∧
          (tb0_7[(Int.toNat t64)]? = some [(AV.int .i64 (cIS tb0_7 (Int.toNat t64) 0))]) ∧
          (EV 59 [R0] [(Lf.i t7), (Lf.i (cIS tb0_7 (Int.toNat t64) 0)), (Lf.i t63), (Lf.i (IntKind.wrap .i64 (t64 + (1 : Int)))), (Lf.i tb0_0), (Lf.i tb0_1), (Lf.i tb0_2), (Lf.i tb0_3), (Lf.r tb0_4), (Lf.i tb0_5), (Lf.r tb0_6), (Lf.r tb0_7), (Lf.r tb0_8), (Lf.r tb0_9)])) ∧
        ((cIS tb0_7 (Int.toNat t64) 0) ≤ t8 →
          EV 59 [R0] [(Lf.i t7), (Lf.i t8), (Lf.i t63), (Lf.i (IntKind.wrap .i64 (t64 + (1 : Int)))), (Lf.i tb0_0), (Lf.i tb0_1), (Lf.i tb0_2), (Lf.i tb0_3), (Lf.r tb0_4), (Lf.i tb0_5), (Lf.r tb0_6), (Lf.r tb0_7), (Lf.r tb0_8), (Lf.r tb0_9)])) ∧
      ((cIS R0 (Int.toNat t64) 0) ≤ (0 : Int) →
        EV 59 [R0] [(Lf.i t7), (Lf.i t8), (Lf.i t63), (Lf.i (IntKind.wrap .i64 (t64 + (1 : Int)))), (Lf.i tb0_0), (Lf.i tb0_1), (Lf.i tb0_2), (Lf.i tb0_3), (Lf.r tb0_4), (Lf.i tb0_5), (Lf.r tb0_6), (Lf.r tb0_7), (Lf.r tb0_8), (Lf.r tb0_9)])) ∧
    (t64 ≥ t63 →
      (t7 > (0 : Int) →
        Q 0 [] [(Lf.i (64 : Int))]) ∧
      (t7 ≤ (0 : Int) →
        Q 0 [] [(Lf.i t8)]))) →
    EV 59 [R0] [.i t7, .i t8, .i t63, .i t64, .i tb0_0, .i tb0_1, .i tb0_2, .i tb0_3, .r tb0_4, .i tb0_5, .r tb0_6, .r tb0_7, .r tb0_8, .r tb0_9]

set_option maxHeartbeats 2000000 in
/-- To enter. -/
theorem E65 {Q : Nat → Rs → List Lf → Prop} {a0_0 : Int} {a0_1 : Int} {a0_2 : Int} {a0_3 : Int} {a0_4 : List (List AV)} {a0_5 : Int} {a0_6 : List (List AV)} {a0_7 : List (List AV)} {a0_8 : List (List AV)} {a0_9 : List (List AV)} {a1_0 : Int} {a1_1 : Int} {a1_2 : Int} {a1_3 : Int} {a1_4 : Int} {a1_5 : Int} {a1_6 : List (List AV)} {a2 : List (List AV)} (h : ∀ EV : Nat → Rs → List Lf → Prop, V65 EV Q →
    ((((List.length a0_7) : Nat) : Int) ≤ (140737488355328 : Int)) ∧
    (((((List.length a0_7) : Nat) : Int) * ((8 : Nat) : Int)) ≤ (140737488355328 : Int)) ∧
    (EV 13 [(List.replicate (List.length a0_7) [(AV.int .i64 (0 : Int))])] [(Lf.i (0 : Int)), (Lf.i a1_1), (Lf.r a2), (Lf.i (((List.length a2) : Nat) : Int)), (Lf.i (0 : Int)), (Lf.i a0_0), (Lf.i a0_1), (Lf.i a0_2), (Lf.i a0_3), (Lf.r a0_4), (Lf.i a0_5), (Lf.r a0_6), (Lf.r a0_7), (Lf.r a0_8), (Lf.r a0_9)])) :
    EC Try.prog G65 [] [.i a0_0, .i a0_1, .i a0_2, .i a0_3, .r a0_4, .i a0_5, .r a0_6, .r a0_7, .r a0_8, .r a0_9, .i a1_0, .i a1_1, .i a1_2, .i a1_3, .i a1_4, .i a1_5, .r a1_6, .r a2] Q := by
  obtain ⟨A, hA⟩ : ∃ A, A = arS := ⟨_, rfl⟩
  refine Inst.enter (I := I65) hA mixed F65_at sg L65 80 rfl fun CE CK Dn EV RR W hp => ?_
  have h := h  EV ⟨V65_p13 W, V65_p40 W, V65_p59 W⟩
  cbv
  refine ⟨ndI hA (And.intro (by subst hA; exact Int.natCast_nonneg _) (And.intro (by subst hA; exact Int.le_refl _) (And.intro (by subst hA; exact h.1) (by subst hA; exact h.2.1)))), ⟨ndI hA (And.intro (by subst hA; show (Int.toNat (((List.length a0_7) : Nat) : Int)) = (List.length (List.replicate (Int.toNat (((List.length a0_7) : Nat) : Int)) [(AV.int .i64 (0 : Int))])); (first | rfl | simp [rappS_end] | (simp only [rappS_end, List.length_append, List.length_set, List.length_cons, List.length_nil]; omega))) (And.intro rfl (by subst hA; show (Int.toNat (((List.length a0_7) : Nat) : Int)) = (List.length (List.replicate (Int.toNat (((List.length a0_7) : Nat) : Int)) [(AV.int .i64 (0 : Int))])); (first | rfl | simp [rappS_end] | (simp only [rappS_end, List.length_append, List.length_set, List.length_cons, List.length_nil]; omega))))), ⟨ndI hA (by subst hA; exact (vrep rfl)), (by subst hA; show EV 13 [(List.replicate (Int.toNat (((List.length a0_7) : Nat) : Int)) [(AV.int .i64 (0 : Int))])] [(Lf.i (0 : Int)), (Lf.i a1_1), (Lf.r a2), (Lf.i (((List.length a2) : Nat) : Int)), (Lf.i (0 : Int)), (Lf.i a0_0), (Lf.i a0_1), (Lf.i a0_2), (Lf.i a0_3), (Lf.r a0_4), (Lf.i a0_5), (Lf.r a0_6), (Lf.r a0_7), (Lf.r a0_8), (Lf.r a0_9)]; simp only [rappS_end, Nat.zero_add, Int.toNat_natCast]; exact h.2.2)⟩⟩⟩

-- 56: signalbox/signalboxref24.Longest DRAWN
section
variable {Q : Nat → Rs → List Lf → Prop} {A : Ar} {CE : Nat → Rs → List Lf → (Nat → Rs → List Lf → Prop) → Prop} {CK : Nat → Rs → List Lf → Cont → Prop} {Dn : Nat → List Bool → List AItem → Nat → List Bool → List AV → List ABlk → Prop} {EV RR : Nat → Rs → List Lf → Prop}
set_option maxHeartbeats 2000000 in
theorem V56_p11 (W : Wk Try.prog Try.f56 I56 L56 Q A sg CE CK Dn EV RR) {t2 : Int} {t8 : Int} {t19 : Int} {t20 : Int} {tb0_0 : Int} {tb0_1 : Int} {tb0_2 : Int} {tb0_3 : Int} {tb0_4 : List (List AV)} {tb0_5 : Int} {tb0_6 : List (List AV)} {tb0_7 : List (List AV)} {tb0_8 : List (List AV)} {tb0_9 : List (List AV)} {tb1_0 : Int} {tb1_1 : Int} {tb1_2 : Int} {tb1_3 : Int} {tb1_4 : Int} {tb1_5 : Int} {tb1_6 : List (List AV)} (h : 
    (t20 < t19 →
      EV 27 [] [(Lf.i t2), (Lf.i t8), (Lf.i (0 : Int)), (Lf.i t20), (Lf.i t19), (Lf.i t20), (Lf.i tb0_0), (Lf.i tb0_1), (Lf.i tb0_2), (Lf.i tb0_3), (Lf.r tb0_4), (Lf.i tb0_5), (Lf.r tb0_6), (Lf.r tb0_7), (Lf.r tb0_8), (Lf.r tb0_9), (Lf.i tb1_0), (Lf.i tb1_1), (Lf.i tb1_2), (Lf.i tb1_3), (Lf.i tb1_4), (Lf.i tb1_5), (Lf.r tb1_6)]) ∧
    (t20 ≥ t19 →
      Q 0 [] [(Lf.i t8)])) :
    EV 11 [] [.i t2, .i t8, .i t19, .i t20, .i tb0_0, .i tb0_1, .i tb0_2, .i tb0_3, .r tb0_4, .i tb0_5, .r tb0_6, .r tb0_7, .r tb0_8, .r tb0_9, .i tb1_0, .i tb1_1, .i tb1_2, .i tb1_3, .i tb1_4, .i tb1_5, .r tb1_6] := by
  have hA := W.hA
  refine W.step 80 fun hp => ?_
  cbv
  refine ⟨imI hA fun e0 => have c0 : t20 < t19 := (by have q := (cmpE (op := .lss) hA e0); subst hA; exact q); (by subst hA; exact (h.1 c0)), imI hA fun e0 => have c0 : t20 ≥ t19 := (by have q := (cmpE (op := .lss) hA e0); subst hA; exact q); (by rw [W.rr]; exact (by subst hA; exact (h.2 c0)))⟩

set_option maxHeartbeats 2000000 in
theorem V56_p27 (W : Wk Try.prog Try.f56 I56 L56 Q A sg CE CK Dn EV RR) {t2 : Int} {t8 : Int} {t10 : Int} {t11 : Int} {t19 : Int} {t20 : Int} {tb0_0 : Int} {tb0_1 : Int} {tb0_2 : Int} {tb0_3 : Int} {tb0_4 : List (List AV)} {tb0_5 : Int} {tb0_6 : List (List AV)} {tb0_7 : List (List AV)} {tb0_8 : List (List AV)} {tb0_9 : List (List AV)} {tb1_0 : Int} {tb1_1 : Int} {tb1_2 : Int} {tb1_3 : Int} {tb1_4 : Int} {tb1_5 : Int} {tb1_6 : List (List AV)} (h : 
    (t11 < (((List.length tb1_6) : Nat) : Int) →
      ((0 : Int) ≤ t11) ∧
      (t11 ≤ (((List.length tb1_6) : Nat) : Int)) ∧
      (EC Try.prog G65 [] [(Lf.i tb0_0), (Lf.i tb0_1), (Lf.i tb0_2), (Lf.i tb0_3), (Lf.r tb0_4), (Lf.i tb0_5), (Lf.r tb0_6), (Lf.r tb0_7), (Lf.r tb0_8), (Lf.r tb0_9), (Lf.i tb1_0), (Lf.i tb1_1), (Lf.i tb1_2), (Lf.i tb1_3), (Lf.i tb1_4), (Lf.i tb1_5), (Lf.r tb1_6), (Lf.r (List.take (Int.toNat t11) tb1_6))] (fun x rs vs => (x = 0 ∧ ∃ (y1_0 : Int), rs = [] ∧ vs = [.i y1_0] ∧
        ((y1_0 < t2 →
            ((0 : Int) ≤ (IntKind.wrap .i64 (t11 + (1 : Int)))) ∧
            ((IntKind.wrap .i64 (t11 + (1 : Int))) ≤ (((List.length tb1_6) : Nat) : Int)) ∧
            (EC Try.prog G65 [] [(Lf.i tb0_0), (Lf.i tb0_1), (Lf.i tb0_2), (Lf.i tb0_3), (Lf.r tb0_4), (Lf.i tb0_5), (Lf.r tb0_6), (Lf.r tb0_7), (Lf.r tb0_8), (Lf.r tb0_9), (Lf.i tb1_0), (Lf.i tb1_1), (Lf.i tb1_2), (Lf.i tb1_3), (Lf.i tb1_4), (Lf.i tb1_5), (Lf.r tb1_6), (Lf.r (List.take (Int.toNat (IntKind.wrap .i64 (t11 + (1 : Int)))) tb1_6))] (fun x rs vs => (x = 0 ∧ ∃ (y3_0 : Int), rs = [] ∧ vs = [.i y3_0] ∧
              (EV 38 [] [(Lf.i t2), (Lf.i t8), (Lf.i t10), (Lf.i t11), (Lf.i t19), (Lf.i t20), (Lf.b (decide (y3_0 < t2))), (Lf.i tb0_0), (Lf.i tb0_1), (Lf.i tb0_2), (Lf.i tb0_3), (Lf.r tb0_4), (Lf.i tb0_5), (Lf.r tb0_6), (Lf.r tb0_7), (Lf.r tb0_8), (Lf.r tb0_9), (Lf.i tb1_0), (Lf.i tb1_1), (Lf.i tb1_2), (Lf.i tb1_3), (Lf.i tb1_4), (Lf.i tb1_5), (Lf.r tb1_6)]))))) ∧
          (y1_0 ≥ t2 →
            EV 38 [] [(Lf.i t2), (Lf.i t8), (Lf.i t10), (Lf.i t11), (Lf.i t19), (Lf.i t20), (Lf.b false), (Lf.i tb0_0), (Lf.i tb0_1), (Lf.i tb0_2), (Lf.i tb0_3), (Lf.r tb0_4), (Lf.i tb0_5), (Lf.r tb0_6), (Lf.r tb0_7), (Lf.r tb0_8), (Lf.r tb0_9), (Lf.i tb1_0), (Lf.i tb1_1), (Lf.i tb1_2), (Lf.i tb1_3), (Lf.i tb1_4), (Lf.i tb1_5), (Lf.r tb1_6)])))))) ∧
    (t11 ≥ (((List.length tb1_6) : Nat) : Int) →
      EV 11 [] [(Lf.i t2), (Lf.i t8), (Lf.i t19), (Lf.i (IntKind.wrap .i64 (t20 + (1 : Int)))), (Lf.i tb0_0), (Lf.i tb0_1), (Lf.i tb0_2), (Lf.i tb0_3), (Lf.r tb0_4), (Lf.i tb0_5), (Lf.r tb0_6), (Lf.r tb0_7), (Lf.r tb0_8), (Lf.r tb0_9), (Lf.i tb1_0), (Lf.i tb1_1), (Lf.i tb1_2), (Lf.i tb1_3), (Lf.i tb1_4), (Lf.i tb1_5), (Lf.r tb1_6)])) :
    EV 27 [] [.i t2, .i t8, .i t10, .i t11, .i t19, .i t20, .i tb0_0, .i tb0_1, .i tb0_2, .i tb0_3, .r tb0_4, .i tb0_5, .r tb0_6, .r tb0_7, .r tb0_8, .r tb0_9, .i tb1_0, .i tb1_1, .i tb1_2, .i tb1_3, .i tb1_4, .i tb1_5, .r tb1_6] := by
  have hA := W.hA
  refine W.step 80 fun hp => ?_
  cbv
  refine ⟨imI hA fun e0 => have c0 : t11 < (((List.length tb1_6) : Nat) : Int) := (by have q := (cmpE (op := .lss) hA e0); subst hA; exact q); ⟨ndI hA (And.intro (by subst hA; exact (h.1 c0).1) (by subst hA; exact (h.1 c0).2.1)), ⟨?_, trivial⟩⟩, imI hA fun e0 => have c0 : t11 ≥ (((List.length tb1_6) : Nat) : Int) := (by have q := (cmpE (op := .lss) hA e0); subst hA; exact q); (by subst hA; exact (h.2 c0))⟩
  · refine W.callD (by rfl) (h.1 c0).2.2 (by subst hA; rfl) (by subst hA; rfl) ?_
    rintro x rs vs hp1 hq1
    rcases hq1 with ⟨rfl, y1_0, rfl, rfl, k1⟩
    · cbv
      refine ?_
      · refine W.draw 80 (by rfl) ?_
        cbv
        refine ⟨fun e2 => have c2 : y1_0 < t2 := (by have q := (cmpE (op := .lss) hA e2); subst hA; exact q); ?_, fun e2 => have c2 : y1_0 ≥ t2 := (by have q := (cmpE (op := .lss) hA e2); subst hA; exact q); ?_⟩
        · refine W.draw 80 (by rfl) ?_
          cbv
          refine ⟨ndI hA (And.intro (by subst hA; exact (k1.1 c2).1) (by subst hA; exact (k1.1 c2).2.1)), ⟨?_, trivial⟩⟩
          · refine W.callD (by rfl) (k1.1 c2).2.2 (by subst hA; rfl) (by subst hA; rfl) ?_
            rintro x rs vs hp3 hq3
            rcases hq3 with ⟨rfl, y3_0, rfl, rfl, k3⟩
            · cbv
              refine ?_
              · refine W.draw 80 (by rfl) ?_
                cbv
                refine (by subst hA; exact k3)
        · refine W.draw 80 (by rfl) ?_
          cbv
          refine ⟨(by subst hA; exact (k1.2 c2)), trivial⟩

set_option maxHeartbeats 2000000 in
theorem V56_p38 (W : Wk Try.prog Try.f56 I56 L56 Q A sg CE CK Dn EV RR) {t2 : Int} {t8 : Int} {t10 : Int} {t11 : Int} {t19 : Int} {t20 : Int} {t51 : Bool} {tb0_0 : Int} {tb0_1 : Int} {tb0_2 : Int} {tb0_3 : Int} {tb0_4 : List (List AV)} {tb0_5 : Int} {tb0_6 : List (List AV)} {tb0_7 : List (List AV)} {tb0_8 : List (List AV)} {tb0_9 : List (List AV)} {tb1_0 : Int} {tb1_1 : Int} {tb1_2 : Int} {tb1_3 : Int} {tb1_4 : Int} {tb1_5 : Int} {tb1_6 : List (List AV)} (h : 
    (t51 = true →
      EV 11 [] [(Lf.i t2), (Lf.i t8), (Lf.i t19), (Lf.i (IntKind.wrap .i64 (t20 + (1 : Int)))), (Lf.i tb0_0), (Lf.i tb0_1), (Lf.i tb0_2), (Lf.i tb0_3), (Lf.r tb0_4), (Lf.i tb0_5), (Lf.r tb0_6), (Lf.r tb0_7), (Lf.r tb0_8), (Lf.r tb0_9), (Lf.i tb1_0), (Lf.i tb1_1), (Lf.i tb1_2), (Lf.i tb1_3), (Lf.i tb1_4), (Lf.i tb1_5), (Lf.r tb1_6)]) ∧
    (t51 = false →
      ((0 : Int) ≤ t11) ∧
      (tb1_6[(Int.toNat t11)]? = some [(AV.int .i64 (cIS tb1_6 (Int.toNat t11) 0)), (AV.int .i64 (cIS tb1_6 (Int.toNat t11) 1)), (AV.int .i64 (cIS tb1_6 (Int.toNat t11) 2))]) ∧
      (EC Try.prog G64 [] [(Lf.i (cIS tb1_6 (Int.toNat t11) 0)), (Lf.i (cIS tb1_6 (Int.toNat t11) 1)), (Lf.i (cIS tb1_6 (Int.toNat t11) 2)), (Lf.i tb0_0), (Lf.i tb0_1), (Lf.i tb0_2), (Lf.i tb0_3), (Lf.b false)] (fun x rs vs => (x = 0 ∧ ∃ (y1_0 : Int), rs = [] ∧ vs = [.i y1_0] ∧
        (EV 27 [] [(Lf.i t2), (Lf.i (arS.mx t8 (IntKind.wrap .i64 (t10 + y1_0)))), (Lf.i (IntKind.wrap .i64 (t10 + y1_0))), (Lf.i (IntKind.wrap .i64 (t11 + (1 : Int)))), (Lf.i t19), (Lf.i t20), (Lf.i tb0_0), (Lf.i tb0_1), (Lf.i tb0_2), (Lf.i tb0_3), (Lf.r tb0_4), (Lf.i tb0_5), (Lf.r tb0_6), (Lf.r tb0_7), (Lf.r tb0_8), (Lf.r tb0_9), (Lf.i tb1_0), (Lf.i tb1_1), (Lf.i tb1_2), (Lf.i tb1_3), (Lf.i tb1_4), (Lf.i tb1_5), (Lf.r tb1_6)])))))) :
    EV 38 [] [.i t2, .i t8, .i t10, .i t11, .i t19, .i t20, .b t51, .i tb0_0, .i tb0_1, .i tb0_2, .i tb0_3, .r tb0_4, .i tb0_5, .r tb0_6, .r tb0_7, .r tb0_8, .r tb0_9, .i tb1_0, .i tb1_1, .i tb1_2, .i tb1_3, .i tb1_4, .i tb1_5, .r tb1_6] := by
  have hA := W.hA
  refine W.step 80 fun hp => ?_
  cbv
  refine ⟨imI hA fun e0 => have c0 : t51 = true := (by have q := e0; subst hA; exact q); (by subst hA; exact (h.1 c0)), imI hA fun e0 => have c0 : t51 = false := (by have q := e0; subst hA; exact q); ⟨ndI hA (And.intro (by subst hA; exact (h.2 c0).1) (by subst hA; exact (h.2 c0).2.1)), ⟨?_, trivial⟩⟩⟩
  · refine W.callD (by rfl) (h.2 c0).2.2 (by subst hA; rfl) (by subst hA; rfl) ?_
    rintro x rs vs hp1 hq1
    rcases hq1 with ⟨rfl, y1_0, rfl, rfl, k1⟩
    · cbv
      refine ?_
      · refine W.draw 80 (by rfl) ?_
        cbv
        refine (by subst hA; exact k1)

end
structure V56 (EV Q : Nat → Rs → List Lf → Prop) : Prop where
  p11 : ∀ {t2 : Int} {t8 : Int} {t19 : Int} {t20 : Int} {tb0_0 : Int} {tb0_1 : Int} {tb0_2 : Int} {tb0_3 : Int} {tb0_4 : List (List AV)} {tb0_5 : Int} {tb0_6 : List (List AV)} {tb0_7 : List (List AV)} {tb0_8 : List (List AV)} {tb0_9 : List (List AV)} {tb1_0 : Int} {tb1_1 : Int} {tb1_2 : Int} {tb1_3 : Int} {tb1_4 : Int} {tb1_5 : Int} {tb1_6 : List (List AV)}, (
    (t20 < t19 →
      EV 27 [] [(Lf.i t2), (Lf.i t8), (Lf.i (0 : Int)), (Lf.i t20), (Lf.i t19), (Lf.i t20), (Lf.i tb0_0), (Lf.i tb0_1), (Lf.i tb0_2), (Lf.i tb0_3), (Lf.r tb0_4), (Lf.i tb0_5), (Lf.r tb0_6), (Lf.r tb0_7), (Lf.r tb0_8), (Lf.r tb0_9), (Lf.i tb1_0), (Lf.i tb1_1), (Lf.i tb1_2), (Lf.i tb1_3), (Lf.i tb1_4), (Lf.i tb1_5), (Lf.r tb1_6)]) ∧
    (t20 ≥ t19 →
      Q 0 [] [(Lf.i t8)])) →
    EV 11 [] [.i t2, .i t8, .i t19, .i t20, .i tb0_0, .i tb0_1, .i tb0_2, .i tb0_3, .r tb0_4, .i tb0_5, .r tb0_6, .r tb0_7, .r tb0_8, .r tb0_9, .i tb1_0, .i tb1_1, .i tb1_2, .i tb1_3, .i tb1_4, .i tb1_5, .r tb1_6]
  p27 : ∀ {t2 : Int} {t8 : Int} {t10 : Int} {t11 : Int} {t19 : Int} {t20 : Int} {tb0_0 : Int} {tb0_1 : Int} {tb0_2 : Int} {tb0_3 : Int} {tb0_4 : List (List AV)} {tb0_5 : Int} {tb0_6 : List (List AV)} {tb0_7 : List (List AV)} {tb0_8 : List (List AV)} {tb0_9 : List (List AV)} {tb1_0 : Int} {tb1_1 : Int} {tb1_2 : Int} {tb1_3 : Int} {tb1_4 : Int} {tb1_5 : Int} {tb1_6 : List (List AV)}, (
    (t11 < (((List.length tb1_6) : Nat) : Int) →
      ((0 : Int) ≤ t11) ∧
      (t11 ≤ (((List.length tb1_6) : Nat) : Int)) ∧
      (EC Try.prog G65 [] [(Lf.i tb0_0), (Lf.i tb0_1), (Lf.i tb0_2), (Lf.i tb0_3), (Lf.r tb0_4), (Lf.i tb0_5), (Lf.r tb0_6), (Lf.r tb0_7), (Lf.r tb0_8), (Lf.r tb0_9), (Lf.i tb1_0), (Lf.i tb1_1), (Lf.i tb1_2), (Lf.i tb1_3), (Lf.i tb1_4), (Lf.i tb1_5), (Lf.r tb1_6), (Lf.r (List.take (Int.toNat t11) tb1_6))] (fun x rs vs => (x = 0 ∧ ∃ (y1_0 : Int), rs = [] ∧ vs = [.i y1_0] ∧
        ((y1_0 < t2 →
            ((0 : Int) ≤ (IntKind.wrap .i64 (t11 + (1 : Int)))) ∧
            ((IntKind.wrap .i64 (t11 + (1 : Int))) ≤ (((List.length tb1_6) : Nat) : Int)) ∧
            (EC Try.prog G65 [] [(Lf.i tb0_0), (Lf.i tb0_1), (Lf.i tb0_2), (Lf.i tb0_3), (Lf.r tb0_4), (Lf.i tb0_5), (Lf.r tb0_6), (Lf.r tb0_7), (Lf.r tb0_8), (Lf.r tb0_9), (Lf.i tb1_0), (Lf.i tb1_1), (Lf.i tb1_2), (Lf.i tb1_3), (Lf.i tb1_4), (Lf.i tb1_5), (Lf.r tb1_6), (Lf.r (List.take (Int.toNat (IntKind.wrap .i64 (t11 + (1 : Int)))) tb1_6))] (fun x rs vs => (x = 0 ∧ ∃ (y3_0 : Int), rs = [] ∧ vs = [.i y3_0] ∧
              (EV 38 [] [(Lf.i t2), (Lf.i t8), (Lf.i t10), (Lf.i t11), (Lf.i t19), (Lf.i t20), (Lf.b (decide (y3_0 < t2))), (Lf.i tb0_0), (Lf.i tb0_1), (Lf.i tb0_2), (Lf.i tb0_3), (Lf.r tb0_4), (Lf.i tb0_5), (Lf.r tb0_6), (Lf.r tb0_7), (Lf.r tb0_8), (Lf.r tb0_9), (Lf.i tb1_0), (Lf.i tb1_1), (Lf.i tb1_2), (Lf.i tb1_3), (Lf.i tb1_4), (Lf.i tb1_5), (Lf.r tb1_6)]))))) ∧
          (y1_0 ≥ t2 →
            EV 38 [] [(Lf.i t2), (Lf.i t8), (Lf.i t10), (Lf.i t11), (Lf.i t19), (Lf.i t20), (Lf.b false), (Lf.i tb0_0), (Lf.i tb0_1), (Lf.i tb0_2), (Lf.i tb0_3), (Lf.r tb0_4), (Lf.i tb0_5), (Lf.r tb0_6), (Lf.r tb0_7), (Lf.r tb0_8), (Lf.r tb0_9), (Lf.i tb1_0), (Lf.i tb1_1), (Lf.i tb1_2), (Lf.i tb1_3), (Lf.i tb1_4), (Lf.i tb1_5), (Lf.r tb1_6)])))))) ∧
    (t11 ≥ (((List.length tb1_6) : Nat) : Int) →
      EV 11 [] [(Lf.i t2), (Lf.i t8), (Lf.i t19), (Lf.i (IntKind.wrap .i64 (t20 + (1 : Int)))), (Lf.i tb0_0), (Lf.i tb0_1), (Lf.i tb0_2), (Lf.i tb0_3), (Lf.r tb0_4), (Lf.i tb0_5), (Lf.r tb0_6), (Lf.r tb0_7), (Lf.r tb0_8), (Lf.r tb0_9), (Lf.i tb1_0), (Lf.i tb1_1), (Lf.i tb1_2), (Lf.i tb1_3), (Lf.i tb1_4), (Lf.i tb1_5), (Lf.r tb1_6)])) →
    EV 27 [] [.i t2, .i t8, .i t10, .i t11, .i t19, .i t20, .i tb0_0, .i tb0_1, .i tb0_2, .i tb0_3, .r tb0_4, .i tb0_5, .r tb0_6, .r tb0_7, .r tb0_8, .r tb0_9, .i tb1_0, .i tb1_1, .i tb1_2, .i tb1_3, .i tb1_4, .i tb1_5, .r tb1_6]
  p38 : ∀ {t2 : Int} {t8 : Int} {t10 : Int} {t11 : Int} {t19 : Int} {t20 : Int} {t51 : Bool} {tb0_0 : Int} {tb0_1 : Int} {tb0_2 : Int} {tb0_3 : Int} {tb0_4 : List (List AV)} {tb0_5 : Int} {tb0_6 : List (List AV)} {tb0_7 : List (List AV)} {tb0_8 : List (List AV)} {tb0_9 : List (List AV)} {tb1_0 : Int} {tb1_1 : Int} {tb1_2 : Int} {tb1_3 : Int} {tb1_4 : Int} {tb1_5 : Int} {tb1_6 : List (List AV)}, (
    (t51 = true →
      EV 11 [] [(Lf.i t2), (Lf.i t8), (Lf.i t19), (Lf.i (IntKind.wrap .i64 (t20 + (1 : Int)))), (Lf.i tb0_0), (Lf.i tb0_1), (Lf.i tb0_2), (Lf.i tb0_3), (Lf.r tb0_4), (Lf.i tb0_5), (Lf.r tb0_6), (Lf.r tb0_7), (Lf.r tb0_8), (Lf.r tb0_9), (Lf.i tb1_0), (Lf.i tb1_1), (Lf.i tb1_2), (Lf.i tb1_3), (Lf.i tb1_4), (Lf.i tb1_5), (Lf.r tb1_6)]) ∧
    (t51 = false →
      ((0 : Int) ≤ t11) ∧
      (tb1_6[(Int.toNat t11)]? = some [(AV.int .i64 (cIS tb1_6 (Int.toNat t11) 0)), (AV.int .i64 (cIS tb1_6 (Int.toNat t11) 1)), (AV.int .i64 (cIS tb1_6 (Int.toNat t11) 2))]) ∧
      (EC Try.prog G64 [] [(Lf.i (cIS tb1_6 (Int.toNat t11) 0)), (Lf.i (cIS tb1_6 (Int.toNat t11) 1)), (Lf.i (cIS tb1_6 (Int.toNat t11) 2)), (Lf.i tb0_0), (Lf.i tb0_1), (Lf.i tb0_2), (Lf.i tb0_3), (Lf.b false)] (fun x rs vs => (x = 0 ∧ ∃ (y1_0 : Int), rs = [] ∧ vs = [.i y1_0] ∧
        (EV 27 [] [(Lf.i t2), (Lf.i (arS.mx t8 (IntKind.wrap .i64 (t10 + y1_0)))), (Lf.i (IntKind.wrap .i64 (t10 + y1_0))), (Lf.i (IntKind.wrap .i64 (t11 + (1 : Int)))), (Lf.i t19), (Lf.i t20), (Lf.i tb0_0), (Lf.i tb0_1), (Lf.i tb0_2), (Lf.i tb0_3), (Lf.r tb0_4), (Lf.i tb0_5), (Lf.r tb0_6), (Lf.r tb0_7), (Lf.r tb0_8), (Lf.r tb0_9), (Lf.i tb1_0), (Lf.i tb1_1), (Lf.i tb1_2), (Lf.i tb1_3), (Lf.i tb1_4), (Lf.i tb1_5), (Lf.r tb1_6)])))))) →
    EV 38 [] [.i t2, .i t8, .i t10, .i t11, .i t19, .i t20, .b t51, .i tb0_0, .i tb0_1, .i tb0_2, .i tb0_3, .r tb0_4, .i tb0_5, .r tb0_6, .r tb0_7, .r tb0_8, .r tb0_9, .i tb1_0, .i tb1_1, .i tb1_2, .i tb1_3, .i tb1_4, .i tb1_5, .r tb1_6]

set_option maxHeartbeats 2000000 in
/-- To enter. -/
theorem E56 {Q : Nat → Rs → List Lf → Prop} {a0_0 : Int} {a0_1 : Int} {a0_2 : Int} {a0_3 : Int} {a0_4 : List (List AV)} {a0_5 : Int} {a0_6 : List (List AV)} {a0_7 : List (List AV)} {a0_8 : List (List AV)} {a0_9 : List (List AV)} {a1 : Int} {a2 : Int} (h : ∀ EV : Nat → Rs → List Lf → Prop, V56 EV Q →
    ((0 : Int) ≤ a1) ∧
    (a0_8[(Int.toNat a1)]? = some [(AV.int .i64 (cIS a0_8 (Int.toNat a1) 0)), (AV.int .i64 (cIS a0_8 (Int.toNat a1) 1)), (AV.int .i64 (cIS a0_8 (Int.toNat a1) 2)), (AV.int .i64 (cIS a0_8 (Int.toNat a1) 3)), (AV.int .i64 (cIS a0_8 (Int.toNat a1) 4)), (AV.int .i64 (cIS a0_8 (Int.toNat a1) 5)), (AV.inl 3 (cRS a0_8 (Int.toNat a1) 6))]) ∧
    (EV 11 [] [(Lf.i a2), (Lf.i (0 : Int)), (Lf.i (((List.length (cRS a0_8 (Int.toNat a1) 6)) : Nat) : Int)), (Lf.i (0 : Int)), (Lf.i a0_0), (Lf.i a0_1), (Lf.i a0_2), (Lf.i a0_3), (Lf.r a0_4), (Lf.i a0_5), (Lf.r a0_6), (Lf.r a0_7), (Lf.r a0_8), (Lf.r a0_9), (Lf.i (cIS a0_8 (Int.toNat a1) 0)), (Lf.i (cIS a0_8 (Int.toNat a1) 1)), (Lf.i (cIS a0_8 (Int.toNat a1) 2)), (Lf.i (cIS a0_8 (Int.toNat a1) 3)), (Lf.i (cIS a0_8 (Int.toNat a1) 4)), (Lf.i (cIS a0_8 (Int.toNat a1) 5)), (Lf.r (cRS a0_8 (Int.toNat a1) 6))])) :
    EC Try.prog G56 [] [.i a0_0, .i a0_1, .i a0_2, .i a0_3, .r a0_4, .i a0_5, .r a0_6, .r a0_7, .r a0_8, .r a0_9, .i a1, .i a2] Q := by
  obtain ⟨A, hA⟩ : ∃ A, A = arS := ⟨_, rfl⟩
  refine Inst.enter (I := I56) hA mixed F56_at sg L56 80 rfl fun CE CK Dn EV RR W hp => ?_
  have h := h  EV ⟨V56_p11 W, V56_p27 W, V56_p38 W⟩
  cbv
  refine ⟨ndI hA (And.intro (by subst hA; exact h.1) (by subst hA; exact h.2.1)), (by subst hA; exact h.2.2)⟩

-- 34: signalbox/signalboxref27.Blocking DRAWN
section
variable {Q : Nat → Rs → List Lf → Prop} {A : Ar} {CE : Nat → Rs → List Lf → (Nat → Rs → List Lf → Prop) → Prop} {CK : Nat → Rs → List Lf → Cont → Prop} {Dn : Nat → List Bool → List AItem → Nat → List Bool → List AV → List ABlk → Prop} {EV RR : Nat → Rs → List Lf → Prop}
set_option maxHeartbeats 2000000 in
theorem V34_p16 (W : Wk Try.prog Try.f34 I34 L34 Q A sg CE CK Dn EV RR) {t8 : Int} {t9 : Int} {tb0_0 : Int} {tb0_1 : Int} {tb0_2 : Int} {tb0_3 : Int} {tb0_4 : Int} {tb0_5 : Int} {tb0_6 : List (List AV)} (h : 
    (tb0_5 > (0 : Int) →
      EC Try.prog G54 [] [(Lf.i tb0_5)] (fun x rs vs => (x = 0 ∧ ∃ (y1_0 : Int), rs = [] ∧ vs = [.i y1_0] ∧
        (Q 0 [] [(Lf.i (arS.mn t8 (IntKind.wrap .u64 (y1_0 + (IntKind.wrap .u64 ((2 : Int) * t9))))))])))) ∧
    (tb0_5 ≤ (0 : Int) →
      Q 0 [] [(Lf.i (arS.mn t8 t9))])) :
    EV 16 [] [.i t8, .i t9, .i tb0_0, .i tb0_1, .i tb0_2, .i tb0_3, .i tb0_4, .i tb0_5, .r tb0_6] := by
  have hA := W.hA
  refine W.step 80 fun hp => ?_
  cbv
  refine ⟨imI hA fun e0 => have c0 : tb0_5 > (0 : Int) := (by have q := (cmpE (op := .gtr) hA e0); subst hA; exact q); ?_, imI hA fun e0 => have c0 : tb0_5 ≤ (0 : Int) := (by have q := (cmpE (op := .gtr) hA e0); subst hA; exact q); (by rw [W.rr]; exact (by subst hA; exact (h.2 c0)))⟩
  · refine W.call 80 (by rfl) (h.1 c0) (by subst hA; rfl) (by subst hA; rfl) ?_
    rintro x rs vs hp1 hq1
    rcases hq1 with ⟨rfl, y1_0, rfl, rfl, k1⟩
    · cbv
      refine (by rw [W.rr]; exact (by subst hA; exact k1))

end
structure V34 (EV Q : Nat → Rs → List Lf → Prop) : Prop where
  p16 : ∀ {t8 : Int} {t9 : Int} {tb0_0 : Int} {tb0_1 : Int} {tb0_2 : Int} {tb0_3 : Int} {tb0_4 : Int} {tb0_5 : Int} {tb0_6 : List (List AV)}, (
    (tb0_5 > (0 : Int) →
      EC Try.prog G54 [] [(Lf.i tb0_5)] (fun x rs vs => (x = 0 ∧ ∃ (y1_0 : Int), rs = [] ∧ vs = [.i y1_0] ∧
        (Q 0 [] [(Lf.i (arS.mn t8 (IntKind.wrap .u64 (y1_0 + (IntKind.wrap .u64 ((2 : Int) * t9))))))])))) ∧
    (tb0_5 ≤ (0 : Int) →
      Q 0 [] [(Lf.i (arS.mn t8 t9))])) →
    EV 16 [] [.i t8, .i t9, .i tb0_0, .i tb0_1, .i tb0_2, .i tb0_3, .i tb0_4, .i tb0_5, .r tb0_6]

set_option maxHeartbeats 2000000 in
/-- To enter. -/
theorem E34 {Q : Nat → Rs → List Lf → Prop} {a0_0 : Int} {a0_1 : Int} {a0_2 : Int} {a0_3 : Int} {a0_4 : List (List AV)} {a0_5 : Int} {a0_6 : List (List AV)} {a0_7 : List (List AV)} {a0_8 : List (List AV)} {a0_9 : List (List AV)} {a1 : Int} {a2 : Int} (h : ∀ EV : Nat → Rs → List Lf → Prop, V34 EV Q →
    ((0 : Int) ≤ a1) ∧
    (a0_8[(Int.toNat a1)]? = some [(AV.int .i64 (cIS a0_8 (Int.toNat a1) 0)), (AV.int .i64 (cIS a0_8 (Int.toNat a1) 1)), (AV.int .i64 (cIS a0_8 (Int.toNat a1) 2)), (AV.int .i64 (cIS a0_8 (Int.toNat a1) 3)), (AV.int .i64 (cIS a0_8 (Int.toNat a1) 4)), (AV.int .i64 (cIS a0_8 (Int.toNat a1) 5)), (AV.inl 3 (cRS a0_8 (Int.toNat a1) 6))]) ∧
    (EC Try.prog G55 [] [(Lf.r (cRS a0_8 (Int.toNat a1) 6)), (Lf.i a0_0), (Lf.i a0_1), (Lf.i a0_2), (Lf.i a0_3), (Lf.b false)] (fun x rs vs => (x = 0 ∧ ∃ (y0_0 : Int), rs = [] ∧ vs = [.i y0_0] ∧
      (EC Try.prog G54 [] [(Lf.i y0_0)] (fun x rs vs => (x = 0 ∧ ∃ (y1_0 : Int), rs = [] ∧ vs = [.i y1_0] ∧
          (((0 : Int) ≤ a2) ∧
            (a0_8[(Int.toNat a2)]? = some [(AV.int .i64 (cIS a0_8 (Int.toNat a2) 0)), (AV.int .i64 (cIS a0_8 (Int.toNat a2) 1)), (AV.int .i64 (cIS a0_8 (Int.toNat a2) 2)), (AV.int .i64 (cIS a0_8 (Int.toNat a2) 3)), (AV.int .i64 (cIS a0_8 (Int.toNat a2) 4)), (AV.int .i64 (cIS a0_8 (Int.toNat a2) 5)), (AV.inl 3 (cRS a0_8 (Int.toNat a2) 6))]) ∧
            ((cIS a0_8 (Int.toNat a1) 1) ≥ (cIS a0_8 (Int.toNat a2) 0) →
              Q 0 [] [(Lf.i y1_0)]) ∧
            ((cIS a0_8 (Int.toNat a1) 1) < (cIS a0_8 (Int.toNat a2) 0) →
              ((0 : Int) ≤ a2) ∧
              (a0_8[(Int.toNat a2)]? = some [(AV.int .i64 (cIS a0_8 (Int.toNat a2) 0)), (AV.int .i64 (cIS a0_8 (Int.toNat a2) 1)), (AV.int .i64 (cIS a0_8 (Int.toNat a2) 2)), (AV.int .i64 (cIS a0_8 (Int.toNat a2) 3)), (AV.int .i64 (cIS a0_8 (Int.toNat a2) 4)), (AV.int .i64 (cIS a0_8 (Int.toNat a2) 5)), (AV.inl 3 (cRS a0_8 (Int.toNat a2) 6))]) ∧
              (EC Try.prog G56 [] [(Lf.i a0_0), (Lf.i a0_1), (Lf.i a0_2), (Lf.i a0_3), (Lf.r a0_4), (Lf.i a0_5), (Lf.r a0_6), (Lf.r a0_7), (Lf.r a0_8), (Lf.r a0_9), (Lf.i a1), (Lf.i (cIS a0_8 (Int.toNat a2) 0))] (fun x rs vs => (x = 0 ∧ ∃ (y3_0 : Int), rs = [] ∧ vs = [.i y3_0] ∧
                (EC Try.prog G54 [] [(Lf.i y3_0)] (fun x rs vs => (x = 0 ∧ ∃ (y4_0 : Int), rs = [] ∧ vs = [.i y4_0] ∧
                    (EV 16 [] [(Lf.i y1_0), (Lf.i y4_0), (Lf.i (cIS a0_8 (Int.toNat a1) 0)), (Lf.i (cIS a0_8 (Int.toNat a1) 1)), (Lf.i (cIS a0_8 (Int.toNat a1) 2)), (Lf.i (cIS a0_8 (Int.toNat a1) 3)), (Lf.i (cIS a0_8 (Int.toNat a1) 4)), (Lf.i (cIS a0_8 (Int.toNat a1) 5)), (Lf.r (cRS a0_8 (Int.toNat a1) 6))])))))))))))))))) :
    EC Try.prog G34 [] [.i a0_0, .i a0_1, .i a0_2, .i a0_3, .r a0_4, .i a0_5, .r a0_6, .r a0_7, .r a0_8, .r a0_9, .i a1, .i a2] Q := by
  obtain ⟨A, hA⟩ : ∃ A, A = arS := ⟨_, rfl⟩
  refine Inst.enter (I := I34) hA mixed F34_at sg L34 80 rfl fun CE CK Dn EV RR W hp => ?_
  have h := h  EV ⟨V34_p16 W⟩
  cbv
  refine ⟨ndI hA (And.intro (by subst hA; exact h.1) (by subst hA; exact h.2.1)), ?_⟩
  · refine W.call 80 (by rfl) h.2.2 (by subst hA; rfl) (by subst hA; rfl) ?_
    rintro x rs vs hp0 hq0
    rcases hq0 with ⟨rfl, y0_0, rfl, rfl, k0⟩
    · cbv
      refine ?_
      · refine W.call 80 (by rfl) k0 (by subst hA; rfl) (by subst hA; rfl) ?_
        rintro x rs vs hp1 hq1
        rcases hq1 with ⟨rfl, y1_0, rfl, rfl, k1⟩
        · cbv
          refine ⟨ndI hA (And.intro (by subst hA; exact k1.1) (by subst hA; exact k1.2.1)), ⟨imI hA fun e2 => have c2 : (cIS a0_8 (Int.toNat a1) 1) ≥ (cIS a0_8 (Int.toNat a2) 0) := (by have q := (cmpE (op := .geq) hA e2); subst hA; exact q); (by rw [W.rr]; exact (by subst hA; exact (k1.2.2.1 c2))), imI hA fun e2 => have c2 : (cIS a0_8 (Int.toNat a1) 1) < (cIS a0_8 (Int.toNat a2) 0) := (by have q := (cmpE (op := .geq) hA e2); subst hA; exact q); ⟨ndI hA (And.intro (by subst hA; exact (k1.2.2.2 c2).1) (by subst hA; exact (k1.2.2.2 c2).2.1)), ⟨?_, trivial⟩⟩⟩⟩
          · refine W.callD (by rfl) (k1.2.2.2 c2).2.2 (by subst hA; rfl) (by subst hA; rfl) ?_
            rintro x rs vs hp3 hq3
            rcases hq3 with ⟨rfl, y3_0, rfl, rfl, k3⟩
            · cbv
              refine ?_
              · refine W.draw 80 (by rfl) ?_
                cbv
                refine ⟨?_, trivial⟩
                · refine W.callD (by rfl) k3 (by subst hA; rfl) (by subst hA; rfl) ?_
                  rintro x rs vs hp4 hq4
                  rcases hq4 with ⟨rfl, y4_0, rfl, rfl, k4⟩
                  · cbv
                    refine ?_
                    · refine W.draw 80 (by rfl) ?_
                      cbv
                      refine (by subst hA; exact k4)

-- 33: signalbox/signalboxref27.Delay DRAWN
section
variable {Q : Nat → Rs → List Lf → Prop} {A : Ar} {CE : Nat → Rs → List Lf → (Nat → Rs → List Lf → Prop) → Prop} {CK : Nat → Rs → List Lf → Cont → Prop} {Dn : Nat → List Bool → List AItem → Nat → List Bool → List AV → List ABlk → Prop} {EV RR : Nat → Rs → List Lf → Prop}
set_option maxHeartbeats 2000000 in
theorem V33_p9 (W : Wk Try.prog Try.f33 I33 L33 Q A sg CE CK Dn EV RR) {t1 : Int} {t5 : Int} {t9 : List (List AV)} {t10 : Int} {t11 : Int} {tb0_0 : Int} {tb0_1 : Int} {tb0_2 : Int} {tb0_3 : Int} {tb0_4 : List (List AV)} {tb0_5 : Int} {tb0_6 : List (List AV)} {tb0_7 : List (List AV)} {tb0_8 : List (List AV)} {tb0_9 : List (List AV)} (h : 
    (t11 < t10 →
      ((0 : Int) ≤ t11) ∧
      (t9[(Int.toNat t11)]? = some [(AV.int .i64 (cIS t9 (Int.toNat t11) 0)), (AV.int .i64 (cIS t9 (Int.toNat t11) 1)), (AV.int .i64 (cIS t9 (Int.toNat t11) 2)), (AV.int .i64 (cIS t9 (Int.toNat t11) 3)), (AV.int .i64 (cIS t9 (Int.toNat t11) 4)), (AV.int .i64 (cIS t9 (Int.toNat t11) 5)), (AV.inl 3 (cRS t9 (Int.toNat t11) 6))]) ∧
      ((0 : Int) ≤ t1) ∧
      (tb0_8[(Int.toNat t1)]? = some [(AV.int .i64 (cIS tb0_8 (Int.toNat t1) 0)), (AV.int .i64 (cIS tb0_8 (Int.toNat t1) 1)), (AV.int .i64 (cIS tb0_8 (Int.toNat t1) 2)), (AV.int .i64 (cIS tb0_8 (Int.toNat t1) 3)), (AV.int .i64 (cIS tb0_8 (Int.toNat t1) 4)), (AV.int .i64 (cIS tb0_8 (Int.toNat t1) 5)), (AV.inl 3 (cRS tb0_8 (Int.toNat t1) 6))]) ∧
      ((cIS t9 (Int.toNat t11) 0) < (cIS tb0_8 (Int.toNat t1) 0) →
        EC Try.prog G34 [] [(Lf.i tb0_0), (Lf.i tb0_1), (Lf.i tb0_2), (Lf.i tb0_3), (Lf.r tb0_4), (Lf.i tb0_5), (Lf.r tb0_6), (Lf.r tb0_7), (Lf.r tb0_8), (Lf.r tb0_9), (Lf.i t11), (Lf.i t1)] (fun x rs vs => (x = 0 ∧ ∃ (y2_0 : Int), rs = [] ∧ vs = [.i y2_0] ∧
          (EV 9 [] [(Lf.i t1), (Lf.i (arS.mx t5 y2_0)), (Lf.r t9), (Lf.i t10), (Lf.i (IntKind.wrap .i64 (t11 + (1 : Int)))), (Lf.i tb0_0), (Lf.i tb0_1), (Lf.i tb0_2), (Lf.i tb0_3), (Lf.r tb0_4), (Lf.i tb0_5), (Lf.r tb0_6), (Lf.r tb0_7), (Lf.r tb0_8), (Lf.r tb0_9)])))) ∧
      ((cIS t9 (Int.toNat t11) 0) ≥ (cIS tb0_8 (Int.toNat t1) 0) →
        EV 9 [] [(Lf.i t1), (Lf.i t5), (Lf.r t9), (Lf.i t10), (Lf.i (IntKind.wrap .i64 (t11 + (1 : Int)))), (Lf.i tb0_0), (Lf.i tb0_1), (Lf.i tb0_2), (Lf.i tb0_3), (Lf.r tb0_4), (Lf.i tb0_5), (Lf.r tb0_6), (Lf.r tb0_7), (Lf.r tb0_8), (Lf.r tb0_9)])) ∧
    (t11 ≥ t10 →
      Q 0 [] [(Lf.i t5)])) :
    EV 9 [] [.i t1, .i t5, .r t9, .i t10, .i t11, .i tb0_0, .i tb0_1, .i tb0_2, .i tb0_3, .r tb0_4, .i tb0_5, .r tb0_6, .r tb0_7, .r tb0_8, .r tb0_9] := by
  have hA := W.hA
  refine W.step 80 fun hp => ?_
  cbv
  refine ⟨imI hA fun e0 => have c0 : t11 < t10 := (by have q := (cmpE (op := .lss) hA e0); subst hA; exact q); ⟨ndI hA (And.intro (by subst hA; exact (h.1 c0).1) (by subst hA; exact (h.1 c0).2.1)), ⟨ndI hA (And.intro (by subst hA; exact (h.1 c0).2.2.1) (by subst hA; exact (h.1 c0).2.2.2.1)), ⟨imI hA fun e1 => have c1 : (cIS t9 (Int.toNat t11) 0) < (cIS tb0_8 (Int.toNat t1) 0) := (by have q := (cmpE (op := .lss) hA e1); subst hA; exact q); ?_, imI hA fun e1 => have c1 : (cIS t9 (Int.toNat t11) 0) ≥ (cIS tb0_8 (Int.toNat t1) 0) := (by have q := (cmpE (op := .lss) hA e1); subst hA; exact q); (by subst hA; exact ((h.1 c0).2.2.2.2.2 c1))⟩⟩⟩, imI hA fun e0 => have c0 : t11 ≥ t10 := (by have q := (cmpE (op := .lss) hA e0); subst hA; exact q); (by rw [W.rr]; exact (by subst hA; exact (h.2 c0)))⟩
  · refine W.call 80 (by rfl) ((h.1 c0).2.2.2.2.1 c1) (by subst hA; rfl) (by subst hA; rfl) ?_
    rintro x rs vs hp2 hq2
    rcases hq2 with ⟨rfl, y2_0, rfl, rfl, k2⟩
    · cbv
      refine (by subst hA; exact k2)

end
structure V33 (EV Q : Nat → Rs → List Lf → Prop) : Prop where
  p9 : ∀ {t1 : Int} {t5 : Int} {t9 : List (List AV)} {t10 : Int} {t11 : Int} {tb0_0 : Int} {tb0_1 : Int} {tb0_2 : Int} {tb0_3 : Int} {tb0_4 : List (List AV)} {tb0_5 : Int} {tb0_6 : List (List AV)} {tb0_7 : List (List AV)} {tb0_8 : List (List AV)} {tb0_9 : List (List AV)}, (
    (t11 < t10 →
      ((0 : Int) ≤ t11) ∧
      (t9[(Int.toNat t11)]? = some [(AV.int .i64 (cIS t9 (Int.toNat t11) 0)), (AV.int .i64 (cIS t9 (Int.toNat t11) 1)), (AV.int .i64 (cIS t9 (Int.toNat t11) 2)), (AV.int .i64 (cIS t9 (Int.toNat t11) 3)), (AV.int .i64 (cIS t9 (Int.toNat t11) 4)), (AV.int .i64 (cIS t9 (Int.toNat t11) 5)), (AV.inl 3 (cRS t9 (Int.toNat t11) 6))]) ∧
      ((0 : Int) ≤ t1) ∧
      (tb0_8[(Int.toNat t1)]? = some [(AV.int .i64 (cIS tb0_8 (Int.toNat t1) 0)), (AV.int .i64 (cIS tb0_8 (Int.toNat t1) 1)), (AV.int .i64 (cIS tb0_8 (Int.toNat t1) 2)), (AV.int .i64 (cIS tb0_8 (Int.toNat t1) 3)), (AV.int .i64 (cIS tb0_8 (Int.toNat t1) 4)), (AV.int .i64 (cIS tb0_8 (Int.toNat t1) 5)), (AV.inl 3 (cRS tb0_8 (Int.toNat t1) 6))]) ∧
      ((cIS t9 (Int.toNat t11) 0) < (cIS tb0_8 (Int.toNat t1) 0) →
        EC Try.prog G34 [] [(Lf.i tb0_0), (Lf.i tb0_1), (Lf.i tb0_2), (Lf.i tb0_3), (Lf.r tb0_4), (Lf.i tb0_5), (Lf.r tb0_6), (Lf.r tb0_7), (Lf.r tb0_8), (Lf.r tb0_9), (Lf.i t11), (Lf.i t1)] (fun x rs vs => (x = 0 ∧ ∃ (y2_0 : Int), rs = [] ∧ vs = [.i y2_0] ∧
          (EV 9 [] [(Lf.i t1), (Lf.i (arS.mx t5 y2_0)), (Lf.r t9), (Lf.i t10), (Lf.i (IntKind.wrap .i64 (t11 + (1 : Int)))), (Lf.i tb0_0), (Lf.i tb0_1), (Lf.i tb0_2), (Lf.i tb0_3), (Lf.r tb0_4), (Lf.i tb0_5), (Lf.r tb0_6), (Lf.r tb0_7), (Lf.r tb0_8), (Lf.r tb0_9)])))) ∧
      ((cIS t9 (Int.toNat t11) 0) ≥ (cIS tb0_8 (Int.toNat t1) 0) →
        EV 9 [] [(Lf.i t1), (Lf.i t5), (Lf.r t9), (Lf.i t10), (Lf.i (IntKind.wrap .i64 (t11 + (1 : Int)))), (Lf.i tb0_0), (Lf.i tb0_1), (Lf.i tb0_2), (Lf.i tb0_3), (Lf.r tb0_4), (Lf.i tb0_5), (Lf.r tb0_6), (Lf.r tb0_7), (Lf.r tb0_8), (Lf.r tb0_9)])) ∧
    (t11 ≥ t10 →
      Q 0 [] [(Lf.i t5)])) →
    EV 9 [] [.i t1, .i t5, .r t9, .i t10, .i t11, .i tb0_0, .i tb0_1, .i tb0_2, .i tb0_3, .r tb0_4, .i tb0_5, .r tb0_6, .r tb0_7, .r tb0_8, .r tb0_9]

set_option maxHeartbeats 2000000 in
/-- To enter. -/
theorem E33 {Q : Nat → Rs → List Lf → Prop} {a0_0 : Int} {a0_1 : Int} {a0_2 : Int} {a0_3 : Int} {a0_4 : List (List AV)} {a0_5 : Int} {a0_6 : List (List AV)} {a0_7 : List (List AV)} {a0_8 : List (List AV)} {a0_9 : List (List AV)} {a1 : Int} (h : ∀ EV : Nat → Rs → List Lf → Prop, V33 EV Q →
    EV 9 [] [(Lf.i a1), (Lf.i (0 : Int)), (Lf.r a0_8), (Lf.i (((List.length a0_8) : Nat) : Int)), (Lf.i (0 : Int)), (Lf.i a0_0), (Lf.i a0_1), (Lf.i a0_2), (Lf.i a0_3), (Lf.r a0_4), (Lf.i a0_5), (Lf.r a0_6), (Lf.r a0_7), (Lf.r a0_8), (Lf.r a0_9)]) :
    EC Try.prog G33 [] [.i a0_0, .i a0_1, .i a0_2, .i a0_3, .r a0_4, .i a0_5, .r a0_6, .r a0_7, .r a0_8, .r a0_9, .i a1] Q := by
  obtain ⟨A, hA⟩ : ∃ A, A = arS := ⟨_, rfl⟩
  refine Inst.enter (I := I33) hA mixed F33_at sg L33 80 rfl fun CE CK Dn EV RR W hp => ?_
  have h := h  EV ⟨V33_p9 W⟩
  cbv
  refine (by subst hA; exact h)

-- 7: signalbox/signalboxlaw27.PreemptTells DRAWN
section
variable {Q : Nat → Rs → List Lf → Prop} {A : Ar} {CE : Nat → Rs → List Lf → (Nat → Rs → List Lf → Prop) → Prop} {CK : Nat → Rs → List Lf → Cont → Prop} {Dn : Nat → List Bool → List AItem → Nat → List Bool → List AV → List ABlk → Prop} {EV RR : Nat → Rs → List Lf → Prop}
set_option maxHeartbeats 2000000 in
theorem V7_p29 (W : Wk Try.prog Try.f7 I7 L7 Q A sg CE CK Dn EV RR) {t1 : Int} {t2 : Int} {t65 : Bool} {tb0_0 : Int} {tb0_1 : Int} {tb0_2 : Int} {tb0_3 : Int} {tb0_4 : List (List AV)} {tb0_5 : Int} {tb0_6 : List (List AV)} {tb0_7 : List (List AV)} {tb0_8 : List (List AV)} {tb0_9 : List (List AV)} (h : 
    (t65 = true →
      Q 0 [] [(Lf.b false)]) ∧
    (t65 = false →
      (t2 ≥ (0 : Int) →
        (t2 ≥ (((List.length tb0_8) : Nat) : Int) →
          EC Try.prog G29 [] [(Lf.i tb0_0), (Lf.i tb0_1), (Lf.i tb0_2), (Lf.i tb0_3), (Lf.r tb0_4), (Lf.i tb0_5), (Lf.r tb0_6), (Lf.r tb0_7), (Lf.r tb0_8), (Lf.r tb0_9), (Lf.i t2), (Lf.i t1)] (fun x rs vs => (x = 0 ∧ ∃ (y3_0 : Int), rs = [] ∧ vs = [.i y3_0] ∧
            (Q 0 [] [(Lf.b (y3_0 == (0 : Int)))])))) ∧
        (t2 < (((List.length tb0_8) : Nat) : Int) →
          EC Try.prog G29 [] [(Lf.i tb0_0), (Lf.i tb0_1), (Lf.i tb0_2), (Lf.i tb0_3), (Lf.r tb0_4), (Lf.i tb0_5), (Lf.r tb0_6), (Lf.r tb0_7), (Lf.r tb0_8), (Lf.r tb0_9), (Lf.i t2), (Lf.i t1)] (fun x rs vs => (x = 0 ∧ ∃ (y3_0 : Int), rs = [] ∧ vs = [.i y3_0] ∧
            (EC Try.prog G34 [] [(Lf.i tb0_0), (Lf.i tb0_1), (Lf.i tb0_2), (Lf.i tb0_3), (Lf.r tb0_4), (Lf.i tb0_5), (Lf.r tb0_6), (Lf.r tb0_7), (Lf.r tb0_8), (Lf.r tb0_9), (Lf.i t2), (Lf.i t1)] (fun x rs vs => (x = 0 ∧ ∃ (y4_0 : Int), rs = [] ∧ vs = [.i y4_0] ∧
                (Q 0 [] [(Lf.b (y3_0 == y4_0))])))))))) ∧
      (t2 < (0 : Int) →
        EC Try.prog G29 [] [(Lf.i tb0_0), (Lf.i tb0_1), (Lf.i tb0_2), (Lf.i tb0_3), (Lf.r tb0_4), (Lf.i tb0_5), (Lf.r tb0_6), (Lf.r tb0_7), (Lf.r tb0_8), (Lf.r tb0_9), (Lf.i t2), (Lf.i t1)] (fun x rs vs => (x = 0 ∧ ∃ (y2_0 : Int), rs = [] ∧ vs = [.i y2_0] ∧
          (Q 0 [] [(Lf.b (y2_0 == (0 : Int)))])))))) :
    EV 29 [] [.i t1, .i t2, .b t65, .i tb0_0, .i tb0_1, .i tb0_2, .i tb0_3, .r tb0_4, .i tb0_5, .r tb0_6, .r tb0_7, .r tb0_8, .r tb0_9] := by
  have hA := W.hA
  refine W.step 80 fun hp => ?_
  cbv
  refine ⟨imI hA fun e0 => have c0 : t65 = true := (by have q := e0; subst hA; exact q); (by rw [W.rr]; exact (by subst hA; exact (h.1 c0))), imI hA fun e0 => have c0 : t65 = false := (by have q := e0; subst hA; exact q); ⟨imI hA fun e1 => have c1 : t2 ≥ (0 : Int) := (by have q := (cmpE (op := .lss) hA e1); subst hA; exact q); ⟨imI hA fun e2 => have c2 : t2 ≥ (((List.length tb0_8) : Nat) : Int) := (by have q := (cmpE (op := .geq) hA e2); subst hA; exact q); ?_, imI hA fun e2 => have c2 : t2 < (((List.length tb0_8) : Nat) : Int) := (by have q := (cmpE (op := .geq) hA e2); subst hA; exact q); ⟨?_, trivial⟩⟩, imI hA fun e1 => have c1 : t2 < (0 : Int) := (by have q := (cmpE (op := .lss) hA e1); subst hA; exact q); ?_⟩⟩
  · refine W.call 80 (by rfl) (((h.2 c0).1 c1).1 c2) (by subst hA; rfl) (by subst hA; rfl) ?_
    rintro x rs vs hp3 hq3
    rcases hq3 with ⟨rfl, y3_0, rfl, rfl, k3⟩
    · cbv
      refine (by rw [W.rr]; exact (by subst hA; exact k3))
  · refine W.callD (by rfl) (((h.2 c0).1 c1).2 c2) (by subst hA; rfl) (by subst hA; rfl) ?_
    rintro x rs vs hp3 hq3
    rcases hq3 with ⟨rfl, y3_0, rfl, rfl, k3⟩
    · cbv
      refine ?_
      · refine W.draw 80 (by rfl) ?_
        cbv
        refine ⟨?_, trivial⟩
        · refine W.callD (by rfl) k3 (by subst hA; rfl) (by subst hA; rfl) ?_
          rintro x rs vs hp4 hq4
          rcases hq4 with ⟨rfl, y4_0, rfl, rfl, k4⟩
          · cbv
            refine ?_
            · refine W.draw 80 (by rfl) ?_
              cbv
              refine (by rw [W.rr]; exact (by subst hA; exact k4))
  · refine W.call 80 (by rfl) ((h.2 c0).2 c1) (by subst hA; rfl) (by subst hA; rfl) ?_
    rintro x rs vs hp2 hq2
    rcases hq2 with ⟨rfl, y2_0, rfl, rfl, k2⟩
    · cbv
      refine (by rw [W.rr]; exact (by subst hA; exact k2))

end
structure V7 (EV Q : Nat → Rs → List Lf → Prop) : Prop where
  p29 : ∀ {t1 : Int} {t2 : Int} {t65 : Bool} {tb0_0 : Int} {tb0_1 : Int} {tb0_2 : Int} {tb0_3 : Int} {tb0_4 : List (List AV)} {tb0_5 : Int} {tb0_6 : List (List AV)} {tb0_7 : List (List AV)} {tb0_8 : List (List AV)} {tb0_9 : List (List AV)}, (
    (t65 = true →
      Q 0 [] [(Lf.b false)]) ∧
    (t65 = false →
      (t2 ≥ (0 : Int) →
        (t2 ≥ (((List.length tb0_8) : Nat) : Int) →
          EC Try.prog G29 [] [(Lf.i tb0_0), (Lf.i tb0_1), (Lf.i tb0_2), (Lf.i tb0_3), (Lf.r tb0_4), (Lf.i tb0_5), (Lf.r tb0_6), (Lf.r tb0_7), (Lf.r tb0_8), (Lf.r tb0_9), (Lf.i t2), (Lf.i t1)] (fun x rs vs => (x = 0 ∧ ∃ (y3_0 : Int), rs = [] ∧ vs = [.i y3_0] ∧
            (Q 0 [] [(Lf.b (y3_0 == (0 : Int)))])))) ∧
        (t2 < (((List.length tb0_8) : Nat) : Int) →
          EC Try.prog G29 [] [(Lf.i tb0_0), (Lf.i tb0_1), (Lf.i tb0_2), (Lf.i tb0_3), (Lf.r tb0_4), (Lf.i tb0_5), (Lf.r tb0_6), (Lf.r tb0_7), (Lf.r tb0_8), (Lf.r tb0_9), (Lf.i t2), (Lf.i t1)] (fun x rs vs => (x = 0 ∧ ∃ (y3_0 : Int), rs = [] ∧ vs = [.i y3_0] ∧
            (EC Try.prog G34 [] [(Lf.i tb0_0), (Lf.i tb0_1), (Lf.i tb0_2), (Lf.i tb0_3), (Lf.r tb0_4), (Lf.i tb0_5), (Lf.r tb0_6), (Lf.r tb0_7), (Lf.r tb0_8), (Lf.r tb0_9), (Lf.i t2), (Lf.i t1)] (fun x rs vs => (x = 0 ∧ ∃ (y4_0 : Int), rs = [] ∧ vs = [.i y4_0] ∧
                (Q 0 [] [(Lf.b (y3_0 == y4_0))])))))))) ∧
      (t2 < (0 : Int) →
        EC Try.prog G29 [] [(Lf.i tb0_0), (Lf.i tb0_1), (Lf.i tb0_2), (Lf.i tb0_3), (Lf.r tb0_4), (Lf.i tb0_5), (Lf.r tb0_6), (Lf.r tb0_7), (Lf.r tb0_8), (Lf.r tb0_9), (Lf.i t2), (Lf.i t1)] (fun x rs vs => (x = 0 ∧ ∃ (y2_0 : Int), rs = [] ∧ vs = [.i y2_0] ∧
          (Q 0 [] [(Lf.b (y2_0 == (0 : Int)))])))))) →
    EV 29 [] [.i t1, .i t2, .b t65, .i tb0_0, .i tb0_1, .i tb0_2, .i tb0_3, .r tb0_4, .i tb0_5, .r tb0_6, .r tb0_7, .r tb0_8, .r tb0_9]

set_option maxHeartbeats 2000000 in
/-- To enter. -/
theorem E7 {Q : Nat → Rs → List Lf → Prop} {a0_0 : Int} {a0_1 : Int} {a0_2 : Int} {a0_3 : Int} {a0_4 : List (List AV)} {a0_5 : Int} {a0_6 : List (List AV)} {a0_7 : List (List AV)} {a0_8 : List (List AV)} {a0_9 : List (List AV)} {a1 : Int} {a2 : Int} {a3 : Int} (h : ∀ EV : Nat → Rs → List Lf → Prop, V7 EV Q →
    EC Try.prog G25 [] [] (fun x rs vs => (x = 0 ∧ ∃ (y0_0 : Bool), rs = [] ∧ vs = [.b y0_0] ∧
      ((y0_0 = false →
          Q 0 [] [(Lf.b false)]) ∧
        (y0_0 = true →
          EC Try.prog G26 [] [(Lf.i a0_0), (Lf.i a0_1), (Lf.i a0_2), (Lf.i a0_3), (Lf.r a0_4), (Lf.i a0_5), (Lf.r a0_6), (Lf.r a0_7), (Lf.r a0_8), (Lf.r a0_9)] (fun x rs vs => (x = 0 ∧ ∃ (y2_0 : Bool), rs = [] ∧ vs = [.b y2_0] ∧
            ((y2_0 = false →
                Q 0 [] [(Lf.b true)]) ∧
              (y2_0 = true →
                (a1 ≥ (0 : Int) →
                  (a1 ≥ (((List.length a0_8) : Nat) : Int) →
                    EC Try.prog G27 [] [(Lf.i a0_0), (Lf.i a0_1), (Lf.i a0_2), (Lf.i a0_3), (Lf.r a0_4), (Lf.i a0_5), (Lf.r a0_6), (Lf.r a0_7), (Lf.r a0_8), (Lf.r a0_9), (Lf.i a1), (Lf.i a3)] (fun x rs vs => (x = 0 ∧ ∃ (y6_0 : Int), rs = [] ∧ vs = [.i y6_0] ∧
                      (EC Try.prog G28 [] [(Lf.i a0_0), (Lf.i a0_1), (Lf.i a0_2), (Lf.i a0_3), (Lf.r a0_4), (Lf.i a0_5), (Lf.r a0_6), (Lf.r a0_7), (Lf.r a0_8), (Lf.r a0_9), (Lf.i a1)] (fun x rs vs => (x = 0 ∧ ∃ (y7_0 : Int), rs = [] ∧ vs = [.i y7_0] ∧
                          (EC Try.prog G29 [] [(Lf.i a0_0), (Lf.i a0_1), (Lf.i a0_2), (Lf.i a0_3), (Lf.r a0_4), (Lf.i a0_5), (Lf.r a0_6), (Lf.r a0_7), (Lf.r a0_8), (Lf.r a0_9), (Lf.i (0 : Int)), (Lf.i a1)] (fun x rs vs => (x = 0 ∧ ∃ (y8_0 : Int), rs = [] ∧ vs = [.i y8_0] ∧
                              (((IntKind.wrap .u64 ((IntKind.wrap .u64 (y6_0 + y7_0)) + y8_0)) = (0 : Int) →
                                  EC Try.prog G30 [] [(Lf.i a0_0), (Lf.i a0_1), (Lf.i a0_2), (Lf.i a0_3), (Lf.r a0_4), (Lf.i a0_5), (Lf.r a0_6), (Lf.r a0_7), (Lf.r a0_8), (Lf.r a0_9), (Lf.i a1)] (fun x rs vs => (x = 0 ∧ ∃ (Y10_0 : List (List AV)), rs = [Y10_0] ∧ vs = [] ∧
                                    (EC Try.prog G31 [] [(Lf.i a0_0), (Lf.i a0_1), (Lf.i a0_2), (Lf.i a0_3), (Lf.r a0_4), (Lf.i a0_5), (Lf.r a0_6), (Lf.r a0_7), (Lf.r a0_8), (Lf.r a0_9), (Lf.i a1)] (fun x rs vs => (x = 0 ∧ ∃ (Y11_0 : List (List AV)), rs = [Y11_0] ∧ vs = [] ∧
                                        (Q 0 [] [(Lf.b ((IntKind.wrap .i64 ((((List.length Y10_0) : Nat) : Int) + (((List.length Y11_0) : Nat) : Int))) == (0 : Int)))]))))))) ∧
                                ((IntKind.wrap .u64 ((IntKind.wrap .u64 (y6_0 + y7_0)) + y8_0)) ≠ (0 : Int) →
                                  Q 0 [] [(Lf.b false)]))))))))))) ∧
                  (a1 < (((List.length a0_8) : Nat) : Int) →
                    EC Try.prog G27 [] [(Lf.i a0_0), (Lf.i a0_1), (Lf.i a0_2), (Lf.i a0_3), (Lf.r a0_4), (Lf.i a0_5), (Lf.r a0_6), (Lf.r a0_7), (Lf.r a0_8), (Lf.r a0_9), (Lf.i a1), (Lf.i a3)] (fun x rs vs => (x = 0 ∧ ∃ (y6_0 : Int), rs = [] ∧ vs = [.i y6_0] ∧
                      (EC Try.prog G32 [] [(Lf.i a0_0), (Lf.i a0_1), (Lf.i a0_2), (Lf.i a0_3), (Lf.r a0_4), (Lf.i a0_5), (Lf.r a0_6), (Lf.r a0_7), (Lf.r a0_8), (Lf.r a0_9), (Lf.i a1), (Lf.i a3)] (fun x rs vs => (x = 0 ∧ ∃ (y7_0 : Int), rs = [] ∧ vs = [.i y7_0] ∧
                          ((y6_0 ≠ y7_0 →
                              EV 29 [] [(Lf.i a1), (Lf.i a2), (Lf.b true), (Lf.i a0_0), (Lf.i a0_1), (Lf.i a0_2), (Lf.i a0_3), (Lf.r a0_4), (Lf.i a0_5), (Lf.r a0_6), (Lf.r a0_7), (Lf.r a0_8), (Lf.r a0_9)]) ∧
                            (y6_0 = y7_0 →
                              EC Try.prog G28 [] [(Lf.i a0_0), (Lf.i a0_1), (Lf.i a0_2), (Lf.i a0_3), (Lf.r a0_4), (Lf.i a0_5), (Lf.r a0_6), (Lf.r a0_7), (Lf.r a0_8), (Lf.r a0_9), (Lf.i a1)] (fun x rs vs => (x = 0 ∧ ∃ (y9_0 : Int), rs = [] ∧ vs = [.i y9_0] ∧
                                (EC Try.prog G33 [] [(Lf.i a0_0), (Lf.i a0_1), (Lf.i a0_2), (Lf.i a0_3), (Lf.r a0_4), (Lf.i a0_5), (Lf.r a0_6), (Lf.r a0_7), (Lf.r a0_8), (Lf.r a0_9), (Lf.i a1)] (fun x rs vs => (x = 0 ∧ ∃ (y10_0 : Int), rs = [] ∧ vs = [.i y10_0] ∧
                                    (EV 29 [] [(Lf.i a1), (Lf.i a2), (Lf.b (y9_0 != y10_0)), (Lf.i a0_0), (Lf.i a0_1), (Lf.i a0_2), (Lf.i a0_3), (Lf.r a0_4), (Lf.i a0_5), (Lf.r a0_6), (Lf.r a0_7), (Lf.r a0_8), (Lf.r a0_9)]))))))))))))))) ∧
                (a1 < (0 : Int) →
                  EC Try.prog G27 [] [(Lf.i a0_0), (Lf.i a0_1), (Lf.i a0_2), (Lf.i a0_3), (Lf.r a0_4), (Lf.i a0_5), (Lf.r a0_6), (Lf.r a0_7), (Lf.r a0_8), (Lf.r a0_9), (Lf.i a1), (Lf.i a3)] (fun x rs vs => (x = 0 ∧ ∃ (y5_0 : Int), rs = [] ∧ vs = [.i y5_0] ∧
                    (EC Try.prog G28 [] [(Lf.i a0_0), (Lf.i a0_1), (Lf.i a0_2), (Lf.i a0_3), (Lf.r a0_4), (Lf.i a0_5), (Lf.r a0_6), (Lf.r a0_7), (Lf.r a0_8), (Lf.r a0_9), (Lf.i a1)] (fun x rs vs => (x = 0 ∧ ∃ (y6_0 : Int), rs = [] ∧ vs = [.i y6_0] ∧
                        (EC Try.prog G29 [] [(Lf.i a0_0), (Lf.i a0_1), (Lf.i a0_2), (Lf.i a0_3), (Lf.r a0_4), (Lf.i a0_5), (Lf.r a0_6), (Lf.r a0_7), (Lf.r a0_8), (Lf.r a0_9), (Lf.i (0 : Int)), (Lf.i a1)] (fun x rs vs => (x = 0 ∧ ∃ (y7_0 : Int), rs = [] ∧ vs = [.i y7_0] ∧
                            (((IntKind.wrap .u64 ((IntKind.wrap .u64 (y5_0 + y6_0)) + y7_0)) = (0 : Int) →
                                EC Try.prog G30 [] [(Lf.i a0_0), (Lf.i a0_1), (Lf.i a0_2), (Lf.i a0_3), (Lf.r a0_4), (Lf.i a0_5), (Lf.r a0_6), (Lf.r a0_7), (Lf.r a0_8), (Lf.r a0_9), (Lf.i a1)] (fun x rs vs => (x = 0 ∧ ∃ (Y9_0 : List (List AV)), rs = [Y9_0] ∧ vs = [] ∧
                                  (EC Try.prog G31 [] [(Lf.i a0_0), (Lf.i a0_1), (Lf.i a0_2), (Lf.i a0_3), (Lf.r a0_4), (Lf.i a0_5), (Lf.r a0_6), (Lf.r a0_7), (Lf.r a0_8), (Lf.r a0_9), (Lf.i a1)] (fun x rs vs => (x = 0 ∧ ∃ (Y10_0 : List (List AV)), rs = [Y10_0] ∧ vs = [] ∧
                                      (Q 0 [] [(Lf.b ((IntKind.wrap .i64 ((((List.length Y9_0) : Nat) : Int) + (((List.length Y10_0) : Nat) : Int))) == (0 : Int)))]))))))) ∧
                              ((IntKind.wrap .u64 ((IntKind.wrap .u64 (y5_0 + y6_0)) + y7_0)) ≠ (0 : Int) →
                                Q 0 [] [(Lf.b false)])))))))))))))))))))) :
    EC Try.prog G7 [] [.i a0_0, .i a0_1, .i a0_2, .i a0_3, .r a0_4, .i a0_5, .r a0_6, .r a0_7, .r a0_8, .r a0_9, .i a1, .i a2, .i a3] Q := by
  obtain ⟨A, hA⟩ : ∃ A, A = arS := ⟨_, rfl⟩
  refine Inst.enter (I := I7) hA mixed F7_at sg L7 80 rfl fun CE CK Dn EV RR W hp => ?_
  have h := h  EV ⟨V7_p29 W⟩
  cbv
  refine ?_
  · refine W.call 80 (by rfl) h (by subst hA; rfl) (by subst hA; rfl) ?_
    rintro x rs vs hp0 hq0
    rcases hq0 with ⟨rfl, y0_0, rfl, rfl, k0⟩
    · cbv
      refine ⟨imI hA fun e1 => have c1 : y0_0 = false := (by have q := (notE hA e1); subst hA; exact q); (by rw [W.rr]; exact (by subst hA; exact (k0.1 c1))), imI hA fun e1 => have c1 : y0_0 = true := (by have q := (notE hA e1); subst hA; exact q); ?_⟩
      · refine W.call 80 (by rfl) (k0.2 c1) (by subst hA; rfl) (by subst hA; rfl) ?_
        rintro x rs vs hp2 hq2
        rcases hq2 with ⟨rfl, y2_0, rfl, rfl, k2⟩
        · cbv
          refine ⟨imI hA fun e3 => have c3 : y2_0 = false := (by have q := (notE hA e3); subst hA; exact q); (by rw [W.rr]; exact (by subst hA; exact (k2.1 c3))), imI hA fun e3 => have c3 : y2_0 = true := (by have q := (notE hA e3); subst hA; exact q); ⟨imI hA fun e4 => have c4 : a1 ≥ (0 : Int) := (by have q := (cmpE (op := .lss) hA e4); subst hA; exact q); ⟨imI hA fun e5 => have c5 : a1 ≥ (((List.length a0_8) : Nat) : Int) := (by have q := (cmpE (op := .geq) hA e5); subst hA; exact q); ⟨?_, trivial⟩, imI hA fun e5 => have c5 : a1 < (((List.length a0_8) : Nat) : Int) := (by have q := (cmpE (op := .geq) hA e5); subst hA; exact q); ⟨?_, trivial⟩⟩, imI hA fun e4 => have c4 : a1 < (0 : Int) := (by have q := (cmpE (op := .lss) hA e4); subst hA; exact q); ⟨?_, trivial⟩⟩⟩
          · refine W.callD (by rfl) (((k2.2 c3).1 c4).1 c5) (by subst hA; rfl) (by subst hA; rfl) ?_
            rintro x rs vs hp6 hq6
            rcases hq6 with ⟨rfl, y6_0, rfl, rfl, k6⟩
            · cbv
              refine ?_
              · refine W.draw 80 (by rfl) ?_
                cbv
                refine ⟨?_, trivial⟩
                · refine W.callD (by rfl) k6 (by subst hA; rfl) (by subst hA; rfl) ?_
                  rintro x rs vs hp7 hq7
                  rcases hq7 with ⟨rfl, y7_0, rfl, rfl, k7⟩
                  · cbv
                    refine ?_
                    · refine W.draw 80 (by rfl) ?_
                      cbv
                      refine ⟨?_, trivial⟩
                      · refine W.callD (by rfl) k7 (by subst hA; rfl) (by subst hA; rfl) ?_
                        rintro x rs vs hp8 hq8
                        rcases hq8 with ⟨rfl, y8_0, rfl, rfl, k8⟩
                        · cbv
                          refine ?_
                          · refine W.draw 80 (by rfl) ?_
                            cbv
                            refine ⟨fun e9 => have c9 : (IntKind.wrap .u64 ((IntKind.wrap .u64 (y6_0 + y7_0)) + y8_0)) = (0 : Int) := (by have q := (cmpE (op := .eql) hA e9); subst hA; exact q); ?_, fun e9 => have c9 : (IntKind.wrap .u64 ((IntKind.wrap .u64 (y6_0 + y7_0)) + y8_0)) ≠ (0 : Int) := (by have q := (cmpE (op := .eql) hA e9); subst hA; exact q); ?_⟩
                            · refine W.draw 80 (by rfl) ?_
                              cbv
                              refine ⟨?_, trivial⟩
                              · refine W.callD (by rfl) (k8.1 c9) (by subst hA; rfl) (by subst hA; rfl) ?_
                                rintro x rs vs hp10 hq10
                                rcases hq10 with ⟨rfl, Y10_0, rfl, rfl, k10⟩
                                · cbv
                                  refine ?_
                                  · refine W.draw 80 (by rfl) ?_
                                    cbv
                                    refine ⟨⟨ndI hA rfl, ⟨?_, trivial⟩⟩, ⟨?_, trivial⟩⟩
                                    · refine W.callD (by rfl) k10 (by subst hA; rfl) (by subst hA; rfl) ?_
                                      rintro x rs vs hp11 hq11
                                      rcases hq11 with ⟨rfl, Y11_0, rfl, rfl, k11⟩
                                      · cbv
                                        refine ?_
                                        · refine W.draw 80 (by rfl) ?_
                                          cbv
                                          refine ⟨⟨ndI hA rfl, (by rw [W.rr]; exact (by subst hA; exact k11))⟩, trivial⟩
                                    · refine W.callD (by rfl) k10 (by subst hA; rfl) (by subst hA; rfl) ?_
                                      rintro x rs vs hp11 hq11
                                      rcases hq11 with ⟨rfl, Y11_0, rfl, rfl, k11⟩
                                      · cbv
                                        refine ?_
                                        · refine W.draw 80 (by rfl) ?_
                                          cbv
                                          refine ⟨⟨ndI hA rfl, ⟨⟨ndI hA rfl, (by rw [W.rr]; exact (by subst hA; exact k11))⟩, trivial⟩⟩, ⟨⟨ndI hA rfl, ⟨⟨ndI hA rfl, (by rw [W.rr]; exact (by subst hA; exact k11))⟩, trivial⟩⟩, trivial⟩⟩
                            · refine W.draw 80 (by rfl) ?_
                              cbv
                              refine ⟨⟨(by rw [W.rr]; exact (by subst hA; exact (k8.2 c9))), trivial⟩, trivial⟩
          · refine W.callD (by rfl) (((k2.2 c3).1 c4).2 c5) (by subst hA; rfl) (by subst hA; rfl) ?_
            rintro x rs vs hp6 hq6
            rcases hq6 with ⟨rfl, y6_0, rfl, rfl, k6⟩
            · cbv
              refine ?_
              · refine W.draw 80 (by rfl) ?_
                cbv
                refine ⟨?_, trivial⟩
                · refine W.callD (by rfl) k6 (by subst hA; rfl) (by subst hA; rfl) ?_
                  rintro x rs vs hp7 hq7
                  rcases hq7 with ⟨rfl, y7_0, rfl, rfl, k7⟩
                  · cbv
                    refine ?_
                    · refine W.draw 80 (by rfl) ?_
                      cbv
                      refine ⟨fun e8 => have c8 : y6_0 ≠ y7_0 := (by have q := (cmpE (op := .neq) hA e8); subst hA; exact q); ?_, fun e8 => have c8 : y6_0 = y7_0 := (by have q := (cmpE (op := .neq) hA e8); subst hA; exact q); ?_⟩
                      · refine W.draw 80 (by rfl) ?_
                        cbv
                        refine ⟨⟨(by subst hA; exact (k7.1 c8)), trivial⟩, trivial⟩
                      · refine W.draw 80 (by rfl) ?_
                        cbv
                        refine ⟨?_, trivial⟩
                        · refine W.callD (by rfl) (k7.2 c8) (by subst hA; rfl) (by subst hA; rfl) ?_
                          rintro x rs vs hp9 hq9
                          rcases hq9 with ⟨rfl, y9_0, rfl, rfl, k9⟩
                          · cbv
                            refine ?_
                            · refine W.draw 80 (by rfl) ?_
                              cbv
                              refine ⟨?_, trivial⟩
                              · refine W.callD (by rfl) k9 (by subst hA; rfl) (by subst hA; rfl) ?_
                                rintro x rs vs hp10 hq10
                                rcases hq10 with ⟨rfl, y10_0, rfl, rfl, k10⟩
                                · cbv
                                  refine ?_
                                  · refine W.draw 80 (by rfl) ?_
                                    cbv
                                    refine (by subst hA; exact k10)
          · refine W.callD (by rfl) ((k2.2 c3).2 c4) (by subst hA; rfl) (by subst hA; rfl) ?_
            rintro x rs vs hp5 hq5
            rcases hq5 with ⟨rfl, y5_0, rfl, rfl, k5⟩
            · cbv
              refine ?_
              · refine W.draw 80 (by rfl) ?_
                cbv
                refine ⟨?_, trivial⟩
                · refine W.callD (by rfl) k5 (by subst hA; rfl) (by subst hA; rfl) ?_
                  rintro x rs vs hp6 hq6
                  rcases hq6 with ⟨rfl, y6_0, rfl, rfl, k6⟩
                  · cbv
                    refine ?_
                    · refine W.draw 80 (by rfl) ?_
                      cbv
                      refine ⟨?_, trivial⟩
                      · refine W.callD (by rfl) k6 (by subst hA; rfl) (by subst hA; rfl) ?_
                        rintro x rs vs hp7 hq7
                        rcases hq7 with ⟨rfl, y7_0, rfl, rfl, k7⟩
                        · cbv
                          refine ?_
                          · refine W.draw 80 (by rfl) ?_
                            cbv
                            refine ⟨fun e8 => have c8 : (IntKind.wrap .u64 ((IntKind.wrap .u64 (y5_0 + y6_0)) + y7_0)) = (0 : Int) := (by have q := (cmpE (op := .eql) hA e8); subst hA; exact q); ?_, fun e8 => have c8 : (IntKind.wrap .u64 ((IntKind.wrap .u64 (y5_0 + y6_0)) + y7_0)) ≠ (0 : Int) := (by have q := (cmpE (op := .eql) hA e8); subst hA; exact q); ?_⟩
                            · refine W.draw 80 (by rfl) ?_
                              cbv
                              refine ⟨?_, trivial⟩
                              · refine W.callD (by rfl) (k7.1 c8) (by subst hA; rfl) (by subst hA; rfl) ?_
                                rintro x rs vs hp9 hq9
                                rcases hq9 with ⟨rfl, Y9_0, rfl, rfl, k9⟩
                                · cbv
                                  refine ?_
                                  · refine W.draw 80 (by rfl) ?_
                                    cbv
                                    refine ⟨⟨ndI hA rfl, ⟨?_, trivial⟩⟩, ⟨?_, trivial⟩⟩
                                    · refine W.callD (by rfl) k9 (by subst hA; rfl) (by subst hA; rfl) ?_
                                      rintro x rs vs hp10 hq10
                                      rcases hq10 with ⟨rfl, Y10_0, rfl, rfl, k10⟩
                                      · cbv
                                        refine ?_
                                        · refine W.draw 80 (by rfl) ?_
                                          cbv
                                          refine ⟨⟨ndI hA rfl, (by rw [W.rr]; exact (by subst hA; exact k10))⟩, trivial⟩
                                    · refine W.callD (by rfl) k9 (by subst hA; rfl) (by subst hA; rfl) ?_
                                      rintro x rs vs hp10 hq10
                                      rcases hq10 with ⟨rfl, Y10_0, rfl, rfl, k10⟩
                                      · cbv
                                        refine ?_
                                        · refine W.draw 80 (by rfl) ?_
                                          cbv
                                          refine ⟨⟨ndI hA rfl, ⟨⟨ndI hA rfl, (by rw [W.rr]; exact (by subst hA; exact k10))⟩, trivial⟩⟩, ⟨⟨ndI hA rfl, ⟨⟨ndI hA rfl, (by rw [W.rr]; exact (by subst hA; exact k10))⟩, trivial⟩⟩, trivial⟩⟩
                            · refine W.draw 80 (by rfl) ?_
                              cbv
                              refine ⟨⟨(by rw [W.rr]; exact (by subst hA; exact (k7.2 c8))), trivial⟩, trivial⟩

end Go.Ab
