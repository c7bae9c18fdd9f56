/- PRINTED BY A PROGRAM (wip/tools/vc.py, AbVc.lean): what is to be shown of each function, from place to place, and that it is enough. -/
import Derived.Test.YtdmpiondalhonaaEdS
import Derived.Test.YtdmpiondalhonaaAbV0
namespace Go.Ab
open Go Go.Proofs
set_option linter.unusedVariables false
set_option linter.unusedSimpArgs false
set_option maxRecDepth 100000

-- 24: signalbox/signalboxref33.Run DRAWN
section
structure V24 (EV Q : Nat → Rs → List Lf → Prop) : Prop where
  p13 : ∀ {R0 : List (List AV)} {R1 : List (List AV)} {t0 : List (List AV)} {t6 : Int} {t16 : List (List AV)} {t17 : Int} {t18 : Int}, (pursS R0 = true → pursS R1 = true → 
    (t18 < t17 →
      ((0 : Int) ≤ t18) ∧
      (t16[(Int.toNat t18)]? = some [(AV.int .i64 (cIS t16 (Int.toNat t18) 0)), (AV.int .i64 (cIS t16 (Int.toNat t18) 1)), (AV.int .i64 (cIS t16 (Int.toNat t18) 2))]) ∧
      (((List.length R0) + 1) ≤ 140737488355328) ∧
      ((((List.length R0) + 1) * 8) ≤ 140737488355328) ∧
      (((List.length R1) + 1) ≤ 140737488355328) ∧
      ((((List.length R1) + 1) * 8) ≤ 140737488355328) ∧
      (EV 13 [(R0 ++ [[(AV.int .i64 (cIS t16 (Int.toNat t18) 1))]]), (R1 ++ [[(AV.int .i64 (cIS t16 (Int.toNat t18) 0))]])] [(Lf.r t0), (Lf.i (IntKind.wrap .i64 (t6 + (cIS t16 (Int.toNat t18) 1)))), (Lf.r t16), (Lf.i t17), (Lf.i (IntKind.wrap .i64 (t18 + (1 : Int))))])) ∧
    (t18 ≥ t17 →
      EV 36 [R0, R1, []] [(Lf.r t0), (Lf.i t6), (Lf.i (0 : Int))])) →
    EV 13 [R0, R1] [.r t0, .i t6, .r t16, .i t17, .i t18]
  p36 : ∀ {R0 : List (List AV)} {R1 : List (List AV)} {R2 : List (List AV)} {t0 : List (List AV)} {t6 : Int} {t10 : Int}, (pursS R0 = true → pursS R1 = true → pursS R2 = true → 
    (t6 > (0 : Int) →
      EV 51 [R0, R1, R2] [(Lf.r t0), (Lf.i t6), (Lf.i t10), (Lf.i (-1)), (Lf.r t0), (Lf.i (((List.length t0) : Nat) : Int)), (Lf.i (0 : Int))]) ∧
    (t6 ≤ (0 : Int) →
      Q 0 [R2, R1] [])) →
    EV 36 [R0, R1, R2] [.r t0, .i t6, .i t10]
  p51 : ∀ {R0 : List (List AV)} {R1 : List (List AV)} {R2 : List (List AV)} {t0 : List (List AV)} {t6 : Int} {t10 : Int} {t11 : Int} {t41 : List (List AV)} {t42 : Int} {t43 : Int}, (pursS R0 = true → pursS R1 = true → pursS R2 = true → 
    (t43 < t42 →
      ((0 : Int) ≤ t43) ∧
      (t41[(Int.toNat t43)]? = some [(AV.int .i64 (cIS t41 (Int.toNat t43) 0)), (AV.int .i64 (cIS t41 (Int.toNat t43) 1)), (AV.int .i64 (cIS t41 (Int.toNat t43) 2))]) ∧
      ((cIS t41 (Int.toNat t43) 0) ≤ t10 →
        ((0 : Int) ≤ t43) ∧
        (t43 < (((List.length R0) : Nat) : Int)) ∧
        (R0[(Int.toNat t43)]? = some [(AV.int .i64 (cIS R0 (Int.toNat t43) 0))]) ∧
        ((cIS R0 (Int.toNat t43) 0) > (0 : Int) →
          (t11 < (0 : Int) →
            EV 51 [R0, R1, R2] [(Lf.r t0), (Lf.i t6), (Lf.i t10), (Lf.i t43), (Lf.r t41), (Lf.i t42), (Lf.i (IntKind.wrap .i64 (t43 + (1 : Int))))]) ∧
          (t11 ≥ (0 : Int) →
            ((0 : Int) ≤ t11) ∧
            (t0[(Int.toNat t11)]? = some [(AV.int .i64 (cIS t0 (Int.toNat t11) 0)), (AV.int .i64 (cIS t0 (Int.toNat t11) 1)), (AV.int .i64 (cIS t0 (Int.toNat t11) 2))]) ∧
            ((cIS t41 (Int.toNat t43) 2) < (cIS t0 (Int.toNat t11) 2) →
              EV 51 [R0, R1, R2] [(Lf.r t0), (Lf.i t6), (Lf.i t10), (Lf.i t43), (Lf.r t41), (Lf.i t42), (Lf.i (IntKind.wrap .i64 (t43 + (1 : Int))))]) ∧
            ((cIS t41 (Int.toNat t43) 2) ≥ (cIS t0 (Int.toNat t11) 2) →
              EV 51 [R0, R1, R2] [(Lf.r t0), (Lf.i t6), (Lf.i t10), (Lf.i t11), (Lf.r t41), (Lf.i t42), (Lf.i (IntKind.wrap .i64 (t43 + (1 : Int))))]))) ∧
        ((cIS R0 (Int.toNat t43) 0) ≤ (0 : Int) →
          EV 51 [R0, R1, R2] [(Lf.r t0), (Lf.i t6), (Lf.i t10), (Lf.i t11), (Lf.r t41), (Lf.i t42), (Lf.i (IntKind.wrap .i64 (t43 + (1 : Int))))])) ∧
      ((cIS t41 (Int.toNat t43) 0) > t10 →
        EV 51 [R0, R1, R2] [(Lf.r t0), (Lf.i t6), (Lf.i t10), (Lf.i t11), (Lf.r t41), (Lf.i t42), (Lf.i (IntKind.wrap .i64 (t43 + (1 : Int))))])) ∧
    (t43 ≥ t42 →
      (((List.length R2) + 1) ≤ 140737488355328) ∧
      ((((List.length R2) + 1) * 8) ≤ 140737488355328) ∧
      (t11 ≥ (0 : Int) →
        ((0 : Int) ≤ t11) ∧
        (t11 < (((List.length R0) : Nat) : Int)) ∧
        (R0[(Int.toNat t11)]? = some [(AV.int .i64 (cIS R0 (Int.toNat t11) 0))]) ∧
        ((List.set R0 (Int.toNat t11) [(AV.int .i64 (IntKind.wrap .i64 ((cIS R0 (Int.toNat t11) 0) - (1 : Int))))])[(Int.toNat t11)]? = some [(AV.int .i64 (cIS (List.set R0 (Int.toNat t11) [(AV.int .i64 (IntKind.wrap .i64 ((cIS R0 (Int.toNat t11) 0) - (1 : Int))))]) (Int.toNat t11) 0))]) ∧
        ((cIS (List.set R0 (Int.toNat t11) [(AV.int .i64 (IntKind.wrap .i64 ((cIS R0 (Int.toNat t11) 0) - (1 : Int))))]) (Int.toNat t11) 0) = (0 : Int) →
          ((0 : Int) ≤ t11) ∧
          (t11 < (((List.length R1) : Nat) : Int)) ∧
          (R1[(Int.toNat t11)]? = some [(AV.int .i64 (cIS R1 (Int.toNat t11) 0))]) ∧
          (EV 36 [(List.set R0 (Int.toNat t11) [(AV.int .i64 (IntKind.wrap .i64 ((cIS R0 (Int.toNat t11) 0) - (1 : Int))))]), (List.set R1 (Int.toNat t11) [(AV.int .i64 (IntKind.wrap .i64 (t10 + (1 : Int))))]), (R2 ++ [[(AV.int .i64 t11)]])] [(Lf.r t0), (Lf.i (IntKind.wrap .i64 (t6 - (1 : Int)))), (Lf.i (IntKind.wrap .i64 (t10 + (1 : Int))))])) ∧
        ((cIS (List.set R0 (Int.toNat t11) [(AV.int .i64 (IntKind.wrap .i64 ((cIS R0 (Int.toNat t11) 0) - (1 : Int))))]) (Int.toNat t11) 0) ≠ (0 : Int) →
          EV 36 [(List.set R0 (Int.toNat t11) [(AV.int .i64 (IntKind.wrap .i64 ((cIS R0 (Int.toNat t11) 0) - (1 : Int))))]), R1, (R2 ++ [[(AV.int .i64 t11)]])] [(Lf.r t0), (Lf.i (IntKind.wrap .i64 (t6 - (1 : Int)))), (Lf.i (IntKind.wrap .i64 (t10 + (1 : Int))))])) ∧
      (t11 < (0 : Int) →
        EV 36 [R0, R1, (R2 ++ [[(AV.int .i64 t11)]])] [(Lf.r t0), (Lf.i t6), (Lf.i (IntKind.wrap .i64 (t10 + (1 : Int))))]))) →
    EV 51 [R0, R1, R2] [.r t0, .i t6, .i t10, .i t11, .r t41, .i t42, .i t43]

set_option maxHeartbeats 0 in
theorem V24.of {Q : Nat → Rs → List Lf → Prop} {A : Ar} {CE : Nat → Rs → List Lf → (Nat → Rs → List Lf → Prop) → Prop} {CK : Nat → Rs → List Lf → Cont → Prop} {Dn : Nat → List Bool → List AItem → Nat → List Bool → List AV → List ABlk → Prop} {EV RR : Nat → Rs → List Lf → Prop} (W : Wk Try.prog Try.f24 I24 L24 Q A sg CE CK Dn EV RR) : V24 EV Q := by
  have hA := W.hA
  refine ⟨?_, ?_, ?_⟩
  · intro R0 R1 t0 t6 t16 t17 t18 h
    refine W.step 80 fun hp => ?_
    have h := h hp.1 hp.2.1
    cbv
    refine ⟨imI hA fun e0 => have c0 : t18 < t17 := (by have q := (cmpE (op := .lss) hA e0); subst hA; exact q); ⟨ndI hA (And.intro (by subst hA; exact (h.1 c0).1) (by subst hA; exact (h.1 c0).2.1)), ⟨ndI hA (And.intro rfl (And.intro (Nat.le_refl _) (And.intro (by subst hA; exact (h.1 c0).2.2.1) (by subst hA; exact (h.1 c0).2.2.2.1)))), ⟨ndI hA (And.intro rfl (And.intro (Nat.le_refl _) (And.intro (by subst hA; exact (h.1 c0).2.2.2.2.1) (by subst hA; exact (h.1 c0).2.2.2.2.2.1)))), ⟨ndI hA (And.intro rfl (And.intro rfl (by subst hA; show ((List.length R0) + 1) = (List.length (rappS R0 (List.length R0) [[(AV.int .i64 (cIS t16 (Int.toNat t18) 1))]])); (first | rfl | simp [rappS_end] | (simp only [rappS_end, List.length_append, List.length_set, List.length_cons, List.length_nil]; omega))))), ⟨ndI hA (And.intro rfl (And.intro rfl (by subst hA; show ((List.length R1) + 1) = (List.length (rappS R1 (List.length R1) [[(AV.int .i64 (cIS t16 (Int.toNat t18) 0))]])); (first | rfl | simp [rappS_end] | (simp only [rappS_end, List.length_append, List.length_set, List.length_cons, List.length_nil]; omega))))), ⟨ndI hA (by subst hA; exact (vapp hp.1 vpur)), ⟨ndI hA (by subst hA; exact (vapp hp.2.1 vpur)), (by subst hA; show EV 13 [(rappS R0 (List.length R0) [[(AV.int .i64 (cIS t16 (Int.toNat t18) 1))]]), (rappS R1 (List.length R1) [[(AV.int .i64 (cIS t16 (Int.toNat t18) 0))]])] [(Lf.r t0), (Lf.i (IntKind.wrap .i64 (t6 + (cIS t16 (Int.toNat t18) 1)))), (Lf.r t16), (Lf.i t17), (Lf.i (IntKind.wrap .i64 (t18 + (1 : Int))))]; (try simp only [rappS_end, Nat.zero_add, Int.toNat_natCast]); exact (h.1 c0).2.2.2.2.2.2)⟩⟩⟩⟩⟩⟩⟩, imI hA fun e0 => have c0 : t18 ≥ t17 := (by have q := (cmpE (op := .lss) hA e0); subst hA; exact q); ⟨ndI hA (And.intro rfl (And.intro rfl rfl)), ⟨ndI hA (And.intro rfl (And.intro rfl rfl)), ⟨ndI hA (And.intro (by subst hA; show 0 = 0; (first | rfl | simp [rappS_end] | (simp only [rappS_end, List.length_append, List.length_set, List.length_cons, List.length_nil]; omega))) (And.intro rfl (by subst hA; show 0 = 0; (first | rfl | simp [rappS_end] | (simp only [rappS_end, List.length_append, List.length_set, List.length_cons, List.length_nil]; omega))))), ⟨ndI hA (by subst hA; exact hp.1), ⟨ndI hA (by subst hA; exact hp.2.1), ⟨ndI hA (by subst hA; exact vpur), (by subst hA; exact (h.2 c0))⟩⟩⟩⟩⟩⟩⟩
  · intro R0 R1 R2 t0 t6 t10 h
    refine W.step 80 fun hp => ?_
    have h := h hp.1 hp.2.1 hp.2.2.1
    cbv
    refine ⟨imI hA fun e0 => have c0 : t6 > (0 : Int) := (by have q := (cmpE (op := .gtr) hA e0); subst hA; exact q); ⟨ndI hA (And.intro rfl (And.intro rfl rfl)), ⟨ndI hA (And.intro rfl (And.intro rfl rfl)), ⟨ndI hA (And.intro rfl (And.intro rfl rfl)), ⟨ndI hA (by subst hA; exact hp.1), ⟨ndI hA (by subst hA; exact hp.2.1), ⟨ndI hA (by subst hA; exact hp.2.2.1), (by subst hA; exact (h.1 c0))⟩⟩⟩⟩⟩⟩, imI hA fun e0 => have c0 : t6 ≤ (0 : Int) := (by have q := (cmpE (op := .gtr) hA e0); subst hA; exact q); ⟨ndI hA (And.intro rfl (And.intro rfl rfl)), ⟨ndI hA (And.intro rfl (And.intro rfl rfl)), ⟨ndI hA (by subst hA; exact hp.2.2.1), ⟨ndI hA (by subst hA; exact hp.2.1), (by rw [W.rr]; exact (by subst hA; exact (h.2 c0)))⟩⟩⟩⟩⟩
  · intro R0 R1 R2 t0 t6 t10 t11 t41 t42 t43 h
    refine W.step 80 fun hp => ?_
    have h := h hp.1 hp.2.1 hp.2.2.1
    cbv
    refine ⟨imI hA fun e0 => have c0 : t43 < t42 := (by have q := (cmpE (op := .lss) hA e0); subst hA; exact q); ⟨ndI hA (And.intro (by subst hA; exact (h.1 c0).1) (by subst hA; exact (h.1 c0).2.1)), ⟨fun e1 => have c1 : (cIS t41 (Int.toNat t43) 0) ≤ t10 := (by have q := (cmpE (op := .leq) hA e1); subst hA; exact q); ?_, fun e1 => have c1 : (cIS t41 (Int.toNat t43) 0) > t10 := (by have q := (cmpE (op := .leq) hA e1); subst hA; exact q); ?_⟩⟩, imI hA fun e0 => have c0 : t43 ≥ t42 := (by have q := (cmpE (op := .lss) hA e0); subst hA; exact q); ⟨ndI hA (And.intro rfl (And.intro (Nat.le_refl _) (And.intro (by subst hA; exact (h.2 c0).1) (by subst hA; exact (h.2 c0).2.1)))), ⟨imI hA fun e1 => have c1 : t11 ≥ (0 : Int) := (by have q := (cmpE (op := .geq) hA e1); subst hA; exact q); ⟨ndI hA (And.intro (by subst hA; exact ((h.2 c0).2.2.1 c1).1) (And.intro (by subst hA; exact ((h.2 c0).2.2.1 c1).2.1) rfl)), ⟨ndI hA (And.intro rfl (by subst hA; show R0[(0 + (Int.toNat t11))]? = some [(AV.int .i64 (cIS R0 (0 + (Int.toNat t11)) 0))]; (try simp only [rappS_end, Nat.zero_add, Int.toNat_natCast]); exact ((h.2 c0).2.2.1 c1).2.2.1)), ⟨ndI hA (And.intro (by subst hA; exact ((h.2 c0).2.2.1 c1).1) (And.intro (by subst hA; exact ((h.2 c0).2.2.1 c1).2.1) rfl)), ⟨ndI hA (And.intro rfl (by subst hA; show R0[(0 + (Int.toNat t11))]? = some [(AV.int .i64 (cIS R0 (0 + (Int.toNat t11)) 0))]; (try simp only [rappS_end, Nat.zero_add, Int.toNat_natCast]); exact ((h.2 c0).2.2.1 c1).2.2.1)), ⟨ndI hA (And.intro (by subst hA; exact ((h.2 c0).2.2.1 c1).1) (And.intro (by subst hA; exact ((h.2 c0).2.2.1 c1).2.1) (by subst hA; show (List.length R0) = (List.length (List.set R0 (0 + (Int.toNat t11)) [(AV.int .i64 (IntKind.wrap .i64 ((cIS R0 (0 + (Int.toNat t11)) 0) - (1 : Int))))])); (first | rfl | simp [rappS_end] | (simp only [rappS_end, List.length_append, List.length_set, List.length_cons, List.length_nil]; omega))))), ⟨ndI hA (And.intro (by subst hA; show (List.length R0) = (List.length (List.set R0 (0 + (Int.toNat t11)) [(AV.int .i64 (IntKind.wrap .i64 ((cIS R0 (0 + (Int.toNat t11)) 0) - (1 : Int))))])); (first | rfl | simp [rappS_end] | (simp only [rappS_end, List.length_append, List.length_set, List.length_cons, List.length_nil]; omega))) (by subst hA; show (List.set R0 (0 + (Int.toNat t11)) [(AV.int .i64 (IntKind.wrap .i64 ((cIS R0 (0 + (Int.toNat t11)) 0) - (1 : Int))))])[(0 + (Int.toNat t11))]? = some [(AV.int .i64 (cIS (List.set R0 (0 + (Int.toNat t11)) [(AV.int .i64 (IntKind.wrap .i64 ((cIS R0 (0 + (Int.toNat t11)) 0) - (1 : Int))))]) (0 + (Int.toNat t11)) 0))]; (try simp only [rappS_end, Nat.zero_add, Int.toNat_natCast]); exact ((h.2 c0).2.2.1 c1).2.2.2.1)), ⟨imI hA fun e2 => have c2 : (cIS (List.set R0 (Int.toNat t11) [(AV.int .i64 (IntKind.wrap .i64 ((cIS R0 (Int.toNat t11) 0) - (1 : Int))))]) (Int.toNat t11) 0) = (0 : Int) := (by have q := (cmpE (op := .eql) hA e2); subst hA; have q : (cIS (List.set R0 (0 + (Int.toNat t11)) [(AV.int .i64 (IntKind.wrap .i64 ((cIS R0 (0 + (Int.toNat t11)) 0) - (1 : Int))))]) (0 + (Int.toNat t11)) 0) = (0 : Int) := q; simpa only [rappS_end, Nat.zero_add, Int.toNat_natCast] using q); ⟨ndI hA (And.intro (by subst hA; exact (((h.2 c0).2.2.1 c1).2.2.2.2.1 c2).1) (And.intro (by subst hA; exact (((h.2 c0).2.2.1 c1).2.2.2.2.1 c2).2.1) rfl)), ⟨ndI hA (And.intro rfl (by subst hA; show R1[(0 + (Int.toNat t11))]? = some [(AV.int .i64 (cIS R1 (0 + (Int.toNat t11)) 0))]; (try simp only [rappS_end, Nat.zero_add, Int.toNat_natCast]); exact (((h.2 c0).2.2.1 c1).2.2.2.2.1 c2).2.2.1)), ⟨ndI hA (And.intro (by subst hA; show (List.length R0) = (List.length (List.set R0 (0 + (Int.toNat t11)) [(AV.int .i64 (IntKind.wrap .i64 ((cIS R0 (0 + (Int.toNat t11)) 0) - (1 : Int))))])); (first | rfl | simp [rappS_end] | (simp only [rappS_end, List.length_append, List.length_set, List.length_cons, List.length_nil]; omega))) (And.intro rfl (by subst hA; show (List.length R0) = (List.length (List.set R0 (0 + (Int.toNat t11)) [(AV.int .i64 (IntKind.wrap .i64 ((cIS R0 (0 + (Int.toNat t11)) 0) - (1 : Int))))])); (first | rfl | simp [rappS_end] | (simp only [rappS_end, List.length_append, List.length_set, List.length_cons, List.length_nil]; omega))))), ⟨ndI hA (And.intro (by subst hA; show (List.length R1) = (List.length (List.set R1 (0 + (Int.toNat t11)) [(AV.int .i64 (IntKind.wrap .i64 (t10 + (1 : Int))))])); (first | rfl | simp [rappS_end] | (simp only [rappS_end, List.length_append, List.length_set, List.length_cons, List.length_nil]; omega))) (And.intro rfl (by subst hA; show (List.length R1) = (List.length (List.set R1 (0 + (Int.toNat t11)) [(AV.int .i64 (IntKind.wrap .i64 (t10 + (1 : Int))))])); (first | rfl | simp [rappS_end] | (simp only [rappS_end, List.length_append, List.length_set, List.length_cons, List.length_nil]; omega))))), ⟨ndI hA (And.intro rfl (And.intro rfl (by subst hA; show ((List.length R2) + 1) = (List.length (rappS R2 (List.length R2) [[(AV.int .i64 t11)]])); (first | rfl | simp [rappS_end] | (simp only [rappS_end, List.length_append, List.length_set, List.length_cons, List.length_nil]; omega))))), ⟨ndI hA (by subst hA; exact (vset hp.1 rfl)), ⟨ndI hA (by subst hA; exact (vset hp.2.1 rfl)), ⟨ndI hA (by subst hA; exact (vapp hp.2.2.1 vpur)), (by subst hA; show EV 36 [(List.set R0 (0 + (Int.toNat t11)) [(AV.int .i64 (IntKind.wrap .i64 ((cIS R0 (0 + (Int.toNat t11)) 0) - (1 : Int))))]), (List.set R1 (0 + (Int.toNat t11)) [(AV.int .i64 (IntKind.wrap .i64 (t10 + (1 : Int))))]), (rappS R2 (List.length R2) [[(AV.int .i64 t11)]])] [(Lf.r t0), (Lf.i (IntKind.wrap .i64 (t6 - (1 : Int)))), (Lf.i (IntKind.wrap .i64 (t10 + (1 : Int))))]; (try simp only [rappS_end, Nat.zero_add, Int.toNat_natCast]); exact (((h.2 c0).2.2.1 c1).2.2.2.2.1 c2).2.2.2)⟩⟩⟩⟩⟩⟩⟩⟩, imI hA fun e2 => have c2 : (cIS (List.set R0 (Int.toNat t11) [(AV.int .i64 (IntKind.wrap .i64 ((cIS R0 (Int.toNat t11) 0) - (1 : Int))))]) (Int.toNat t11) 0) ≠ (0 : Int) := (by have q := (cmpE (op := .eql) hA e2); subst hA; have q : (cIS (List.set R0 (0 + (Int.toNat t11)) [(AV.int .i64 (IntKind.wrap .i64 ((cIS R0 (0 + (Int.toNat t11)) 0) - (1 : Int))))]) (0 + (Int.toNat t11)) 0) ≠ (0 : Int) := q; simpa only [rappS_end, Nat.zero_add, Int.toNat_natCast] using q); ⟨ndI hA (And.intro (by subst hA; show (List.length R0) = (List.length (List.set R0 (0 + (Int.toNat t11)) [(AV.int .i64 (IntKind.wrap .i64 ((cIS R0 (0 + (Int.toNat t11)) 0) - (1 : Int))))])); (first | rfl | simp [rappS_end] | (simp only [rappS_end, List.length_append, List.length_set, List.length_cons, List.length_nil]; omega))) (And.intro rfl (by subst hA; show (List.length R0) = (List.length (List.set R0 (0 + (Int.toNat t11)) [(AV.int .i64 (IntKind.wrap .i64 ((cIS R0 (0 + (Int.toNat t11)) 0) - (1 : Int))))])); (first | rfl | simp [rappS_end] | (simp only [rappS_end, List.length_append, List.length_set, List.length_cons, List.length_nil]; omega))))), ⟨ndI hA (And.intro rfl (And.intro rfl rfl)), ⟨ndI hA (And.intro rfl (And.intro rfl (by subst hA; show ((List.length R2) + 1) = (List.length (rappS R2 (List.length R2) [[(AV.int .i64 t11)]])); (first | rfl | simp [rappS_end] | (simp only [rappS_end, List.length_append, List.length_set, List.length_cons, List.length_nil]; omega))))), ⟨ndI hA (by subst hA; exact (vset hp.1 rfl)), ⟨ndI hA (by subst hA; exact hp.2.1), ⟨ndI hA (by subst hA; exact (vapp hp.2.2.1 vpur)), (by subst hA; show EV 36 [(List.set R0 (0 + (Int.toNat t11)) [(AV.int .i64 (IntKind.wrap .i64 ((cIS R0 (0 + (Int.toNat t11)) 0) - (1 : Int))))]), R1, (rappS R2 (List.length R2) [[(AV.int .i64 t11)]])] [(Lf.r t0), (Lf.i (IntKind.wrap .i64 (t6 - (1 : Int)))), (Lf.i (IntKind.wrap .i64 (t10 + (1 : Int))))]; (try simp only [rappS_end, Nat.zero_add, Int.toNat_natCast]); exact (((h.2 c0).2.2.1 c1).2.2.2.2.2 c2))⟩⟩⟩⟩⟩⟩⟩⟩⟩⟩⟩⟩⟩, imI hA fun e1 => have c1 : t11 < (0 : Int) := (by have q := (cmpE (op := .geq) hA e1); subst hA; exact q); ⟨ndI hA (And.intro rfl (And.intro rfl rfl)), ⟨ndI hA (And.intro rfl (And.intro rfl rfl)), ⟨ndI hA (And.intro rfl (And.intro rfl (by subst hA; show ((List.length R2) + 1) = (List.length (rappS R2 (List.length R2) [[(AV.int .i64 t11)]])); (first | rfl | simp [rappS_end] | (simp only [rappS_end, List.length_append, List.length_set, List.length_cons, List.length_nil]; omega))))), ⟨ndI hA (by subst hA; exact hp.1), ⟨ndI hA (by subst hA; exact hp.2.1), ⟨ndI hA (by subst hA; exact (vapp hp.2.2.1 vpur)), (by subst hA; show EV 36 [R0, R1, (rappS R2 (List.length R2) [[(AV.int .i64 t11)]])] [(Lf.r t0), (Lf.i t6), (Lf.i (IntKind.wrap .i64 (t10 + (1 : Int))))]; (try simp only [rappS_end, Nat.zero_add, Int.toNat_natCast]); exact ((h.2 c0).2.2.2 c1))⟩⟩⟩⟩⟩⟩⟩⟩⟩
    · refine W.draw 80 (by rfl) ?_
      cbv
      refine ⟨ndI hA (And.intro (by subst hA; exact ((h.1 c0).2.2.1 c1).1) (And.intro (by subst hA; exact ((h.1 c0).2.2.1 c1).2.1) rfl)), ⟨ndI hA (And.intro rfl (by subst hA; show R0[(0 + (Int.toNat t43))]? = some [(AV.int .i64 (cIS R0 (0 + (Int.toNat t43)) 0))]; (try simp only [rappS_end, Nat.zero_add, Int.toNat_natCast]); exact ((h.1 c0).2.2.1 c1).2.2.1)), ⟨fun e2 => have c2 : (cIS R0 (Int.toNat t43) 0) > (0 : Int) := (by have q := (cmpE (op := .gtr) hA e2); subst hA; have q : (cIS R0 (0 + (Int.toNat t43)) 0) > (0 : Int) := q; simpa only [rappS_end, Nat.zero_add, Int.toNat_natCast] using q); ?_, fun e2 => have c2 : (cIS R0 (Int.toNat t43) 0) ≤ (0 : Int) := (by have q := (cmpE (op := .gtr) hA e2); subst hA; have q : (cIS R0 (0 + (Int.toNat t43)) 0) ≤ (0 : Int) := q; simpa only [rappS_end, Nat.zero_add, Int.toNat_natCast] using q); ?_⟩⟩⟩
      · refine W.draw 80 (by rfl) ?_
        cbv
        refine ⟨fun e3 => have c3 : t11 < (0 : Int) := (by have q := (cmpE (op := .lss) hA e3); subst hA; exact q); ?_, fun e3 => have c3 : t11 ≥ (0 : Int) := (by have q := (cmpE (op := .lss) hA e3); subst hA; exact q); ?_⟩
        · refine W.draw 80 (by rfl) ?_
          cbv
          refine ⟨ndI hA (And.intro rfl (And.intro rfl rfl)), ⟨ndI hA (And.intro rfl (And.intro rfl rfl)), ⟨ndI hA (And.intro rfl (And.intro rfl rfl)), ⟨ndI hA (by subst hA; exact hp.1), ⟨ndI hA (by subst hA; exact hp.2.1), ⟨ndI hA (by subst hA; exact hp.2.2.1), (by subst hA; exact ((((h.1 c0).2.2.1 c1).2.2.2.1 c2).1 c3))⟩⟩⟩⟩⟩⟩
        · refine W.draw 80 (by rfl) ?_
          cbv
          refine ⟨ndI hA (And.intro (by subst hA; exact ((((h.1 c0).2.2.1 c1).2.2.2.1 c2).2 c3).1) (by subst hA; exact ((((h.1 c0).2.2.1 c1).2.2.2.1 c2).2 c3).2.1)), ⟨imI hA fun e4 => have c4 : (cIS t41 (Int.toNat t43) 2) < (cIS t0 (Int.toNat t11) 2) := (by have q := (cmpE (op := .lss) hA e4); subst hA; exact q); ⟨ndI hA (And.intro rfl (And.intro rfl rfl)), ⟨ndI hA (And.intro rfl (And.intro rfl rfl)), ⟨ndI hA (And.intro rfl (And.intro rfl rfl)), ⟨ndI hA (by subst hA; exact hp.1), ⟨ndI hA (by subst hA; exact hp.2.1), ⟨ndI hA (by subst hA; exact hp.2.2.1), (by subst hA; exact (((((h.1 c0).2.2.1 c1).2.2.2.1 c2).2 c3).2.2.1 c4))⟩⟩⟩⟩⟩⟩, imI hA fun e4 => have c4 : (cIS t41 (Int.toNat t43) 2) ≥ (cIS t0 (Int.toNat t11) 2) := (by have q := (cmpE (op := .lss) hA e4); subst hA; exact q); ⟨ndI hA (And.intro rfl (And.intro rfl rfl)), ⟨ndI hA (And.intro rfl (And.intro rfl rfl)), ⟨ndI hA (And.intro rfl (And.intro rfl rfl)), ⟨ndI hA (by subst hA; exact hp.1), ⟨ndI hA (by subst hA; exact hp.2.1), ⟨ndI hA (by subst hA; exact hp.2.2.1), (by subst hA; exact (((((h.1 c0).2.2.1 c1).2.2.2.1 c2).2 c3).2.2.2 c4))⟩⟩⟩⟩⟩⟩⟩⟩
      · refine W.draw 80 (by rfl) ?_
        cbv
        refine ⟨ndI hA (And.intro rfl (And.intro rfl rfl)), ⟨ndI hA (And.intro rfl (And.intro rfl rfl)), ⟨ndI hA (And.intro rfl (And.intro rfl rfl)), ⟨ndI hA (by subst hA; exact hp.1), ⟨ndI hA (by subst hA; exact hp.2.1), ⟨ndI hA (by subst hA; exact hp.2.2.1), (by subst hA; exact (((h.1 c0).2.2.1 c1).2.2.2.2 c2))⟩⟩⟩⟩⟩⟩
    · refine W.draw 80 (by rfl) ?_
      cbv
      refine ⟨ndI hA (And.intro rfl (And.intro rfl rfl)), ⟨ndI hA (And.intro rfl (And.intro rfl rfl)), ⟨ndI hA (And.intro rfl (And.intro rfl rfl)), ⟨ndI hA (by subst hA; exact hp.1), ⟨ndI hA (by subst hA; exact hp.2.1), ⟨ndI hA (by subst hA; exact hp.2.2.1), (by subst hA; exact ((h.1 c0).2.2.2 c1))⟩⟩⟩⟩⟩⟩

end
set_option maxHeartbeats 0 in
/-- To enter. -/
theorem E24 {Q : Nat → Rs → List Lf → Prop} {a0 : List (List AV)} (h : ∀ EV : Nat → Rs → List Lf → Prop, V24 EV Q →
    EV 13 [[], []] [(Lf.r a0), (Lf.i (0 : Int)), (Lf.r a0), (Lf.i (((List.length a0) : Nat) : Int)), (Lf.i (0 : Int))]) :
    EC Try.prog G24 [] [.r a0] Q := by
  obtain ⟨A, hA⟩ : ∃ A, A = arS := ⟨_, rfl⟩
  refine Inst.enter (I := I24) hA mixed F24_at sg L24 80 rfl fun CE CK Dn EV RR W hp => ?_
  have h := h  EV (V24.of W)
  cbv
  refine ⟨ndI hA (And.intro (by subst hA; show 0 = 0; (first | rfl | simp [rappS_end] | (simp only [rappS_end, List.length_append, List.length_set, List.length_cons, List.length_nil]; omega))) (And.intro rfl (by subst hA; show 0 = 0; (first | rfl | simp [rappS_end] | (simp only [rappS_end, List.length_append, List.length_set, List.length_cons, List.length_nil]; omega))))), ⟨ndI hA (And.intro (by subst hA; show 0 = 0; (first | rfl | simp [rappS_end] | (simp only [rappS_end, List.length_append, List.length_set, List.length_cons, List.length_nil]; omega))) (And.intro rfl (by subst hA; show 0 = 0; (first | rfl | simp [rappS_end] | (simp only [rappS_end, List.length_append, List.length_set, List.length_cons, List.length_nil]; omega))))), ⟨ndI hA (by subst hA; exact vpur), ⟨ndI hA (by subst hA; exact vpur), (by subst hA; exact h)⟩⟩⟩⟩

-- 54: signalbox/edf.run DRAWN
section
structure V54 (EV Q : Nat → Rs → List Lf → Prop) : Prop where
  p11 : ∀ {R0 : List (List AV)} {R1 : List (List AV)} {t15 : List (List AV)} {t16 : Int} {t17 : Int} {tb0 : List (List AV)}, (pursS R0 = true → pursS R1 = true → 
    (t17 < t16 →
      ((0 : Int) ≤ t17) ∧
      (t15[(Int.toNat t17)]? = some [(AV.int .i64 (cIS t15 (Int.toNat t17) 0)), (AV.int .i64 (cIS t15 (Int.toNat t17) 1)), (AV.int .i64 (cIS t15 (Int.toNat t17) 2))]) ∧
      (EC Try.prog G53 [] [(Lf.i (cIS t15 (Int.toNat t17) 1))] (fun x rs vs => (x = 0 ∧ ∃ (y1_0 : Int), rs = [] ∧ vs = [.i y1_0] ∧
        (((0 : Int) ≤ t17) ∧
          (t17 < (((List.length R1) : Nat) : Int)) ∧
          (R1[(Int.toNat t17)]? = some [(AV.int .i64 (cIS R1 (Int.toNat t17) 0))]) ∧
          ((List.set R1 (Int.toNat t17) [(AV.int .i64 y1_0)])[(Int.toNat t17)]? = some [(AV.int .i64 (cIS (List.set R1 (Int.toNat t17) [(AV.int .i64 y1_0)]) (Int.toNat t17) 0))]) ∧
          ((cIS (List.set R1 (Int.toNat t17) [(AV.int .i64 y1_0)]) (Int.toNat t17) 0) > (0 : Int) →
            (((List.length R0) + 1) ≤ 140737488355328) ∧
            ((((List.length R0) + 1) * 8) ≤ 140737488355328) ∧
            (EV 11 [(R0 ++ [[(AV.int .i64 t17)]]), (List.set R1 (Int.toNat t17) [(AV.int .i64 y1_0)])] [(Lf.r t15), (Lf.i t16), (Lf.i (IntKind.wrap .i64 (t17 + (1 : Int)))), (Lf.r tb0)])) ∧
          ((cIS (List.set R1 (Int.toNat t17) [(AV.int .i64 y1_0)]) (Int.toNat t17) 0) ≤ (0 : Int) →
            EV 11 [R0, (List.set R1 (Int.toNat t17) [(AV.int .i64 y1_0)])] [(Lf.r t15), (Lf.i t16), (Lf.i (IntKind.wrap .i64 (t17 + (1 : Int)))), (Lf.r tb0)])))))) ∧
    (t17 ≥ t16 →
      EC Try.prog G61a [R0] [(Lf.r tb0)] (fun x rs vs => (x = 0 ∧ ∃ (Y1_0 : List (List AV)) (y1_b1 : List (List AV)), rs = [Y1_0] ∧ vs = [.r y1_b1] ∧
        (((List.length R0) = (List.length Y1_0)) ∧
          (EV 40 [Y1_0, R1, [], []] [(Lf.n 0), (Lf.n (List.length R0)), (Lf.i (0 : Int)), (Lf.r y1_b1), (Lf.n 0)])))))) →
    EV 11 [R0, R1] [.r t15, .i t16, .i t17, .r tb0]
  p40 : ∀ {R0 : List (List AV)} {R1 : List (List AV)} {R2 : List (List AV)} {R3 : List (List AV)} {t3_0 : Nat} {t3_1 : Nat} {t9 : Int} {tb0 : List (List AV)} {tb4 : Nat}, (pursS R0 = true → pursS R1 = true → pursS R2 = true → pursS R3 = true → 
    (((t3_1 : Nat) : Int) ≤ (0 : Int) →
      EC Try.prog G70 [R3] [(Lf.n tb4)] (fun x rs vs => (x = 0 ∧ ∃ (Y1_0 : List (List AV)) (y1_0 : Int), rs = [Y1_0] ∧ vs = [.i y1_0] ∧
        ((y1_0 > (0 : Int) →
            ((List.length R3) = (List.length Y1_0)) ∧
            (EV 50 [R0, R1, R2, Y1_0] [(Lf.n t3_0), (Lf.n t3_1), (Lf.i t9), (Lf.r tb0), (Lf.n tb4)])) ∧
          (y1_0 ≤ (0 : Int) →
            Q 0 [R2] []))))) ∧
    (((t3_1 : Nat) : Int) > (0 : Int) →
      EV 50 [R0, R1, R2, R3] [(Lf.n t3_0), (Lf.n t3_1), (Lf.i t9), (Lf.r tb0), (Lf.n tb4)])) →
    EV 40 [R0, R1, R2, R3] [.n t3_0, .n t3_1, .i t9, .r tb0, .n tb4]
  p50 : ∀ {R0 : List (List AV)} {R1 : List (List AV)} {R2 : List (List AV)} {R3 : List (List AV)} {t3_0 : Nat} {t3_1 : Nat} {t9 : Int} {tb0 : List (List AV)} {tb4 : Nat}, (pursS R0 = true → pursS R1 = true → pursS R2 = true → pursS R3 = true → 
    (((t3_1 : Nat) : Int) > (0 : Int) →
      ((0 : Int) < ((t3_1 : Nat) : Int)) ∧
      (R0[(t3_0 + (Int.toNat (0 : Int)))]? = some [(AV.int .i64 (cIS R0 (t3_0 + (Int.toNat (0 : Int))) 0))]) ∧
      ((0 : Int) ≤ (cIS R0 (t3_0 + (Int.toNat (0 : Int))) 0)) ∧
      (tb0[(Int.toNat (cIS R0 (t3_0 + (Int.toNat (0 : Int))) 0))]? = some [(AV.int .i64 (cIS tb0 (Int.toNat (cIS R0 (t3_0 + (Int.toNat (0 : Int))) 0)) 0)), (AV.int .i64 (cIS tb0 (Int.toNat (cIS R0 (t3_0 + (Int.toNat (0 : Int))) 0)) 1)), (AV.int .i64 (cIS tb0 (Int.toNat (cIS R0 (t3_0 + (Int.toNat (0 : Int))) 0)) 2))]) ∧
      (EC Try.prog G53 [] [(Lf.i (cIS tb0 (Int.toNat (cIS R0 (t3_0 + (Int.toNat (0 : Int))) 0)) 0))] (fun x rs vs => (x = 0 ∧ ∃ (y1_0 : Int), rs = [] ∧ vs = [.i y1_0] ∧
        ((y1_0 ≤ t9 →
            ((0 : Int) < ((t3_1 : Nat) : Int)) ∧
            (R0[(t3_0 + (Int.toNat (0 : Int)))]? = some [(AV.int .i64 (cIS R0 (t3_0 + (Int.toNat (0 : Int))) 0))]) ∧
            ((0 : Int) ≤ (cIS R0 (t3_0 + (Int.toNat (0 : Int))) 0)) ∧
            (tb0[(Int.toNat (cIS R0 (t3_0 + (Int.toNat (0 : Int))) 0))]? = some [(AV.int .i64 (cIS tb0 (Int.toNat (cIS R0 (t3_0 + (Int.toNat (0 : Int))) 0)) 0)), (AV.int .i64 (cIS tb0 (Int.toNat (cIS R0 (t3_0 + (Int.toNat (0 : Int))) 0)) 1)), (AV.int .i64 (cIS tb0 (Int.toNat (cIS R0 (t3_0 + (Int.toNat (0 : Int))) 0)) 2))]) ∧
            (EC Try.prog G53 [] [(Lf.i (cIS tb0 (Int.toNat (cIS R0 (t3_0 + (Int.toNat (0 : Int))) 0)) 2))] (fun x rs vs => (x = 0 ∧ ∃ (y3_0 : Int), rs = [] ∧ vs = [.i y3_0] ∧
              (EC Try.prog G71 [R3] [(Lf.i y3_0), (Lf.i (cIS R0 (t3_0 + (Int.toNat (0 : Int))) 0)), (Lf.n tb4)] (fun x rs vs => (x = 0 ∧ ∃ (Y4_0 : List (List AV)) (y4_b0 : Nat), rs = [Y4_0] ∧ vs = [.n y4_b0] ∧
                  (EV 59 [R0, R1, R2, Y4_0] [(Lf.n t3_0), (Lf.n t3_1), (Lf.i t9), (Lf.r tb0), (Lf.n y4_b0)])))))))) ∧
          (y1_0 > t9 →
            EC Try.prog G70 [R3] [(Lf.n tb4)] (fun x rs vs => (x = 0 ∧ ∃ (Y3_0 : List (List AV)) (y3_0 : Int), rs = [Y3_0] ∧ vs = [.i y3_0] ∧
              ((y3_0 > (0 : Int) →
                  ((0 : Int) < ((tb4 : Nat) : Int)) ∧
                  ((List.length R3) = (List.length Y3_0)) ∧
                  (Y3_0[(Int.toNat (0 : Int))]? = some [(AV.int .i64 (cIS Y3_0 (Int.toNat (0 : Int)) 0)), (AV.int .i64 (cIS Y3_0 (Int.toNat (0 : Int)) 1))]) ∧
                  ((0 : Int) ≤ (cIS Y3_0 (Int.toNat (0 : Int)) 1)) ∧
                  ((cIS Y3_0 (Int.toNat (0 : Int)) 1) < (((List.length R1) : Nat) : Int)) ∧
                  (R1[(Int.toNat (cIS Y3_0 (Int.toNat (0 : Int)) 1))]? = some [(AV.int .i64 (cIS R1 (Int.toNat (cIS Y3_0 (Int.toNat (0 : Int)) 1)) 0))]) ∧
                  (EV 70 [R0, R1, R2, Y3_0] [(Lf.n t3_0), (Lf.n t3_1), (Lf.r tb0), (Lf.n tb4), (Lf.i t9), (Lf.i (IntKind.wrap .i64 (t9 + (cIS R1 (Int.toNat (cIS Y3_0 (Int.toNat (0 : Int)) 1)) 0)))), (Lf.i (cIS Y3_0 (Int.toNat (0 : Int)) 1))])) ∧
                (y3_0 ≤ (0 : Int) →
                  ((List.length R3) = (List.length Y3_0)) ∧
                  (EV 70 [R0, R1, R2, Y3_0] [(Lf.n t3_0), (Lf.n t3_1), (Lf.r tb0), (Lf.n tb4), (Lf.i t9), (Lf.i t9), (Lf.i (-1))]))))))))))) ∧
    (((t3_1 : Nat) : Int) ≤ (0 : Int) →
      EC Try.prog G70 [R3] [(Lf.n tb4)] (fun x rs vs => (x = 0 ∧ ∃ (Y1_0 : List (List AV)) (y1_0 : Int), rs = [Y1_0] ∧ vs = [.i y1_0] ∧
        ((y1_0 > (0 : Int) →
            ((0 : Int) < ((tb4 : Nat) : Int)) ∧
            ((List.length R3) = (List.length Y1_0)) ∧
            (Y1_0[(Int.toNat (0 : Int))]? = some [(AV.int .i64 (cIS Y1_0 (Int.toNat (0 : Int)) 0)), (AV.int .i64 (cIS Y1_0 (Int.toNat (0 : Int)) 1))]) ∧
            ((0 : Int) ≤ (cIS Y1_0 (Int.toNat (0 : Int)) 1)) ∧
            ((cIS Y1_0 (Int.toNat (0 : Int)) 1) < (((List.length R1) : Nat) : Int)) ∧
            (R1[(Int.toNat (cIS Y1_0 (Int.toNat (0 : Int)) 1))]? = some [(AV.int .i64 (cIS R1 (Int.toNat (cIS Y1_0 (Int.toNat (0 : Int)) 1)) 0))]) ∧
            (EV 70 [R0, R1, R2, Y1_0] [(Lf.n t3_0), (Lf.n t3_1), (Lf.r tb0), (Lf.n tb4), (Lf.i t9), (Lf.i (IntKind.wrap .i64 (t9 + (cIS R1 (Int.toNat (cIS Y1_0 (Int.toNat (0 : Int)) 1)) 0)))), (Lf.i (cIS Y1_0 (Int.toNat (0 : Int)) 1))])) ∧
          (y1_0 ≤ (0 : Int) →
            ((List.length R3) = (List.length Y1_0)) ∧
            (EV 70 [R0, R1, R2, Y1_0] [(Lf.n t3_0), (Lf.n t3_1), (Lf.r tb0), (Lf.n tb4), (Lf.i t9), (Lf.i t9), (Lf.i (-1))]))))))) →
    EV 50 [R0, R1, R2, R3] [.n t3_0, .n t3_1, .i t9, .r tb0, .n tb4]
  p59 : ∀ {R0 : List (List AV)} {R1 : List (List AV)} {R2 : List (List AV)} {R3 : List (List AV)} {t3_0 : Nat} {t3_1 : Nat} {t9 : Int} {tb0 : List (List AV)} {tb4 : Nat}, (pursS R0 = true → pursS R1 = true → pursS R2 = true → pursS R3 = true → 
    ((0 : Int) ≤ (1 : Int)) ∧
    ((1 : Int) ≤ ((t3_1 : Nat) : Int)) ∧
    (EV 50 [R0, R1, R2, R3] [(Lf.n (t3_0 + (Int.toNat (1 : Int)))), (Lf.n (t3_1 - (Int.toNat (1 : Int)))), (Lf.i t9), (Lf.r tb0), (Lf.n tb4)])) →
    EV 59 [R0, R1, R2, R3] [.n t3_0, .n t3_1, .i t9, .r tb0, .n tb4]
  p70 : ∀ {R0 : List (List AV)} {R1 : List (List AV)} {R2 : List (List AV)} {R3 : List (List AV)} {t3_0 : Nat} {t3_1 : Nat} {tb0 : List (List AV)} {tb4 : Nat} {tb5_0 : Int} {tb5_1 : Int} {tb5_2 : Int}, (pursS R0 = true → pursS R1 = true → pursS R2 = true → pursS R3 = true → 
    (((t3_1 : Nat) : Int) > (0 : Int) →
      ((0 : Int) < ((t3_1 : Nat) : Int)) ∧
      (R0[(t3_0 + (Int.toNat (0 : Int)))]? = some [(AV.int .i64 (cIS R0 (t3_0 + (Int.toNat (0 : Int))) 0))]) ∧
      ((0 : Int) ≤ (cIS R0 (t3_0 + (Int.toNat (0 : Int))) 0)) ∧
      (tb0[(Int.toNat (cIS R0 (t3_0 + (Int.toNat (0 : Int))) 0))]? = some [(AV.int .i64 (cIS tb0 (Int.toNat (cIS R0 (t3_0 + (Int.toNat (0 : Int))) 0)) 0)), (AV.int .i64 (cIS tb0 (Int.toNat (cIS R0 (t3_0 + (Int.toNat (0 : Int))) 0)) 1)), (AV.int .i64 (cIS tb0 (Int.toNat (cIS R0 (t3_0 + (Int.toNat (0 : Int))) 0)) 2))]) ∧
      (EC Try.prog G53 [] [(Lf.i (cIS tb0 (Int.toNat (cIS R0 (t3_0 + (Int.toNat (0 : Int))) 0)) 0))] (fun x rs vs => (x = 0 ∧ ∃ (y1_0 : Int), rs = [] ∧ vs = [.i y1_0] ∧
        ((tb5_2 ≠ (-1) →
            (y1_0 < tb5_1 →
              EV 82 [R0, R1, R2, R3] [(Lf.n t3_0), (Lf.n t3_1), (Lf.r tb0), (Lf.n tb4), (Lf.i tb5_0), (Lf.i y1_0), (Lf.i tb5_2)]) ∧
            (y1_0 ≥ tb5_1 →
              EV 82 [R0, R1, R2, R3] [(Lf.n t3_0), (Lf.n t3_1), (Lf.r tb0), (Lf.n tb4), (Lf.i tb5_0), (Lf.i tb5_1), (Lf.i tb5_2)])) ∧
          (tb5_2 = (-1) →
            EV 82 [R0, R1, R2, R3] [(Lf.n t3_0), (Lf.n t3_1), (Lf.r tb0), (Lf.n tb4), (Lf.i tb5_0), (Lf.i y1_0), (Lf.i tb5_2)])))))) ∧
    (((t3_1 : Nat) : Int) ≤ (0 : Int) →
      EV 82 [R0, R1, R2, R3] [(Lf.n t3_0), (Lf.n t3_1), (Lf.r tb0), (Lf.n tb4), (Lf.i tb5_0), (Lf.i tb5_1), (Lf.i tb5_2)])) →
    EV 70 [R0, R1, R2, R3] [.n t3_0, .n t3_1, .r tb0, .n tb4, .i tb5_0, .i tb5_1, .i tb5_2]
  p82 : ∀ {R0 : List (List AV)} {R1 : List (List AV)} {R2 : List (List AV)} {R3 : List (List AV)} {t3_0 : Nat} {t3_1 : Nat} {tb0 : List (List AV)} {tb4 : Nat} {tb5_0 : Int} {tb5_1 : Int} {tb5_2 : Int}, (pursS R0 = true → pursS R1 = true → pursS R2 = true → pursS R3 = true → 
    (tb5_2 ≠ (-1) →
      ((0 : Int) ≤ tb5_2) ∧
      (tb5_2 < (((List.length R1) : Nat) : Int)) ∧
      (R1[(Int.toNat tb5_2)]? = some [(AV.int .i64 (cIS R1 (Int.toNat tb5_2) 0))]) ∧
      ((List.set R1 (Int.toNat tb5_2) [(AV.int .i64 (IntKind.wrap .i64 ((cIS R1 (Int.toNat tb5_2) 0) - (IntKind.wrap .i64 (tb5_1 - tb5_0)))))])[(Int.toNat tb5_2)]? = some [(AV.int .i64 (cIS (List.set R1 (Int.toNat tb5_2) [(AV.int .i64 (IntKind.wrap .i64 ((cIS R1 (Int.toNat tb5_2) 0) - (IntKind.wrap .i64 (tb5_1 - tb5_0)))))]) (Int.toNat tb5_2) 0))]) ∧
      ((cIS (List.set R1 (Int.toNat tb5_2) [(AV.int .i64 (IntKind.wrap .i64 ((cIS R1 (Int.toNat tb5_2) 0) - (IntKind.wrap .i64 (tb5_1 - tb5_0)))))]) (Int.toNat tb5_2) 0) = (0 : Int) →
        EC Try.prog G72 [R3] [(Lf.n tb4)] (fun x rs vs => (x = 0 ∧ ∃ (Y2_0 : List (List AV)) (y2_0_0 : Int) (y2_0_1 : Int) (y2_b0 : Nat), rs = [Y2_0] ∧ vs = [.i y2_0_0, .i y2_0_1, .n y2_b0] ∧
          ((((List.length R2) + 1) ≤ 140737488355328) ∧
            ((((List.length R2) + 1) * 24) ≤ 140737488355328) ∧
            (EV 40 [R0, (List.set R1 (Int.toNat tb5_2) [(AV.int .i64 (IntKind.wrap .i64 ((cIS R1 (Int.toNat tb5_2) 0) - (IntKind.wrap .i64 (tb5_1 - tb5_0)))))]), (R2 ++ [[(AV.int .i64 tb5_0), (AV.int .i64 tb5_1), (AV.int .i64 tb5_2)]]), Y2_0] [(Lf.n t3_0), (Lf.n t3_1), (Lf.i tb5_1), (Lf.r tb0), (Lf.n y2_b0)]))))) ∧
      ((cIS (List.set R1 (Int.toNat tb5_2) [(AV.int .i64 (IntKind.wrap .i64 ((cIS R1 (Int.toNat tb5_2) 0) - (IntKind.wrap .i64 (tb5_1 - tb5_0)))))]) (Int.toNat tb5_2) 0) ≠ (0 : Int) →
        (((List.length R2) + 1) ≤ 140737488355328) ∧
        ((((List.length R2) + 1) * 24) ≤ 140737488355328) ∧
        (EV 40 [R0, (List.set R1 (Int.toNat tb5_2) [(AV.int .i64 (IntKind.wrap .i64 ((cIS R1 (Int.toNat tb5_2) 0) - (IntKind.wrap .i64 (tb5_1 - tb5_0)))))]), (R2 ++ [[(AV.int .i64 tb5_0), (AV.int .i64 tb5_1), (AV.int .i64 tb5_2)]]), R3] [(Lf.n t3_0), (Lf.n t3_1), (Lf.i tb5_1), (Lf.r tb0), (Lf.n tb4)]))) ∧
    (tb5_2 = (-1) →
      (((List.length R2) + 1) ≤ 140737488355328) ∧
      ((((List.length R2) + 1) * 24) ≤ 140737488355328) ∧
      (EV 40 [R0, R1, (R2 ++ [[(AV.int .i64 tb5_0), (AV.int .i64 tb5_1), (AV.int .i64 tb5_2)]]), R3] [(Lf.n t3_0), (Lf.n t3_1), (Lf.i tb5_1), (Lf.r tb0), (Lf.n tb4)]))) →
    EV 82 [R0, R1, R2, R3] [.n t3_0, .n t3_1, .r tb0, .n tb4, .i tb5_0, .i tb5_1, .i tb5_2]

set_option maxHeartbeats 0 in
theorem V54.of {Q : Nat → Rs → List Lf → Prop} {A : Ar} {CE : Nat → Rs → List Lf → (Nat → Rs → List Lf → Prop) → Prop} {CK : Nat → Rs → List Lf → Cont → Prop} {Dn : Nat → List Bool → List AItem → Nat → List Bool → List AV → List ABlk → Prop} {EV RR : Nat → Rs → List Lf → Prop} (W : Wk Try.prog Try.f54 I54 L54 Q A sg CE CK Dn EV RR) : V54 EV Q := by
  have hA := W.hA
  refine ⟨?_, ?_, ?_, ?_, ?_, ?_⟩
  · intro R0 R1 t15 t16 t17 tb0 h
    refine W.step 80 fun hp => ?_
    have h := h hp.1 hp.2.1
    cbv
    refine ⟨imI hA fun e0 => have c0 : t17 < t16 := (by have q := (cmpE (op := .lss) hA e0); subst hA; exact q); ⟨ndI hA (And.intro (by subst hA; exact (h.1 c0).1) (by subst hA; exact (h.1 c0).2.1)), ?_⟩, imI hA fun e0 => have c0 : t17 ≥ t16 := (by have q := (cmpE (op := .lss) hA e0); subst hA; exact q); ⟨ndI hA (And.intro rfl (And.intro rfl rfl)), ⟨ndI hA (by subst hA; exact hp.1), ?_⟩⟩⟩
    · refine W.call 80 (by rfl) (h.1 c0).2.2 (by subst hA; rfl) (by subst hA; rfl) ?_
      rintro x rs vs hp1 hq1
      rcases hq1 with ⟨rfl, y1_0, rfl, rfl, k1⟩
      · cbv
        refine ⟨ndI hA (And.intro (by subst hA; exact k1.1) (And.intro (by subst hA; exact k1.2.1) rfl)), ⟨ndI hA (And.intro rfl (by subst hA; show R1[(0 + (Int.toNat t17))]? = some [(AV.int .i64 (cIS R1 (0 + (Int.toNat t17)) 0))]; (try simp only [rappS_end, Nat.zero_add, Int.toNat_natCast]); exact k1.2.2.1)), ⟨ndI hA (And.intro (by subst hA; exact k1.1) (And.intro (by subst hA; exact k1.2.1) (by subst hA; show (List.length R1) = (List.length (List.set R1 (0 + (Int.toNat t17)) [(AV.int .i64 y1_0)])); (first | rfl | simp [rappS_end] | (simp only [rappS_end, List.length_append, List.length_set, List.length_cons, List.length_nil]; omega))))), ⟨ndI hA (And.intro (by subst hA; show (List.length R1) = (List.length (List.set R1 (0 + (Int.toNat t17)) [(AV.int .i64 y1_0)])); (first | rfl | simp [rappS_end] | (simp only [rappS_end, List.length_append, List.length_set, List.length_cons, List.length_nil]; omega))) (by subst hA; show (List.set R1 (0 + (Int.toNat t17)) [(AV.int .i64 y1_0)])[(0 + (Int.toNat t17))]? = some [(AV.int .i64 (cIS (List.set R1 (0 + (Int.toNat t17)) [(AV.int .i64 y1_0)]) (0 + (Int.toNat t17)) 0))]; (try simp only [rappS_end, Nat.zero_add, Int.toNat_natCast]); exact k1.2.2.2.1)), ⟨imI hA fun e2 => have c2 : (cIS (List.set R1 (Int.toNat t17) [(AV.int .i64 y1_0)]) (Int.toNat t17) 0) > (0 : Int) := (by have q := (cmpE (op := .gtr) hA e2); subst hA; have q : (cIS (List.set R1 (0 + (Int.toNat t17)) [(AV.int .i64 y1_0)]) (0 + (Int.toNat t17)) 0) > (0 : Int) := q; simpa only [rappS_end, Nat.zero_add, Int.toNat_natCast] using q); ⟨ndI hA (And.intro rfl (And.intro (Nat.le_refl _) (And.intro (by subst hA; exact (k1.2.2.2.2.1 c2).1) (by subst hA; exact (k1.2.2.2.2.1 c2).2.1)))), ⟨ndI hA (And.intro rfl (And.intro rfl (by subst hA; show ((List.length R0) + 1) = (List.length (rappS R0 (List.length R0) [[(AV.int .i64 t17)]])); (first | rfl | simp [rappS_end] | (simp only [rappS_end, List.length_append, List.length_set, List.length_cons, List.length_nil]; omega))))), ⟨ndI hA (And.intro (by subst hA; show (List.length R1) = (List.length (List.set R1 (0 + (Int.toNat t17)) [(AV.int .i64 y1_0)])); (first | rfl | simp [rappS_end] | (simp only [rappS_end, List.length_append, List.length_set, List.length_cons, List.length_nil]; omega))) (And.intro rfl (by subst hA; show (List.length R1) = (List.length (List.set R1 (0 + (Int.toNat t17)) [(AV.int .i64 y1_0)])); (first | rfl | simp [rappS_end] | (simp only [rappS_end, List.length_append, List.length_set, List.length_cons, List.length_nil]; omega))))), ⟨ndI hA (by subst hA; exact (vapp hp.1 vpur)), ⟨ndI hA (by subst hA; exact (vset hp.2.1 rfl)), (by subst hA; show EV 11 [(rappS R0 (List.length R0) [[(AV.int .i64 t17)]]), (List.set R1 (0 + (Int.toNat t17)) [(AV.int .i64 y1_0)])] [(Lf.r t15), (Lf.i t16), (Lf.i (IntKind.wrap .i64 (t17 + (1 : Int)))), (Lf.r tb0)]; (try simp only [rappS_end, Nat.zero_add, Int.toNat_natCast]); exact (k1.2.2.2.2.1 c2).2.2)⟩⟩⟩⟩⟩, imI hA fun e2 => have c2 : (cIS (List.set R1 (Int.toNat t17) [(AV.int .i64 y1_0)]) (Int.toNat t17) 0) ≤ (0 : Int) := (by have q := (cmpE (op := .gtr) hA e2); subst hA; have q : (cIS (List.set R1 (0 + (Int.toNat t17)) [(AV.int .i64 y1_0)]) (0 + (Int.toNat t17)) 0) ≤ (0 : Int) := q; simpa only [rappS_end, Nat.zero_add, Int.toNat_natCast] using q); ⟨ndI hA (And.intro rfl (And.intro rfl rfl)), ⟨ndI hA (And.intro (by subst hA; show (List.length R1) = (List.length (List.set R1 (0 + (Int.toNat t17)) [(AV.int .i64 y1_0)])); (first | rfl | simp [rappS_end] | (simp only [rappS_end, List.length_append, List.length_set, List.length_cons, List.length_nil]; omega))) (And.intro rfl (by subst hA; show (List.length R1) = (List.length (List.set R1 (0 + (Int.toNat t17)) [(AV.int .i64 y1_0)])); (first | rfl | simp [rappS_end] | (simp only [rappS_end, List.length_append, List.length_set, List.length_cons, List.length_nil]; omega))))), ⟨ndI hA (by subst hA; exact hp.1), ⟨ndI hA (by subst hA; exact (vset hp.2.1 rfl)), (by subst hA; show EV 11 [R0, (List.set R1 (0 + (Int.toNat t17)) [(AV.int .i64 y1_0)])] [(Lf.r t15), (Lf.i t16), (Lf.i (IntKind.wrap .i64 (t17 + (1 : Int)))), (Lf.r tb0)]; (try simp only [rappS_end, Nat.zero_add, Int.toNat_natCast]); exact (k1.2.2.2.2.2 c2))⟩⟩⟩⟩⟩⟩⟩⟩⟩
    · refine W.call 80 (by rfl) (h.2 c0) (by subst hA; rfl) (by subst hA; rfl) ?_
      rintro x rs vs hp1 hq1
      rcases hq1 with ⟨rfl, Y1_0, y1_b1, rfl, rfl, k1⟩
      · cbv
        refine ⟨ndI hA (by subst hA; exact k1.1), ⟨ndI hA (And.intro rfl (And.intro rfl rfl)), ⟨ndI hA (And.intro (by subst hA; show 0 = 0; (first | rfl | simp [rappS_end] | (simp only [rappS_end, List.length_append, List.length_set, List.length_cons, List.length_nil]; omega))) (And.intro rfl (by subst hA; show 0 = 0; (first | rfl | simp [rappS_end] | (simp only [rappS_end, List.length_append, List.length_set, List.length_cons, List.length_nil]; omega))))), ⟨ndI hA (by subst hA; exact hp1.1), ⟨ndI hA (by subst hA; exact hp.2.1), ⟨ndI hA (by subst hA; exact vpur), ⟨ndI hA (And.intro (by subst hA; show 0 = 0; (first | rfl | simp [rappS_end] | (simp only [rappS_end, List.length_append, List.length_set, List.length_cons, List.length_nil]; omega))) rfl), ⟨ndI hA (by subst hA; exact vpur), (by subst hA; exact k1.2)⟩⟩⟩⟩⟩⟩⟩⟩
  · intro R0 R1 R2 R3 t3_0 t3_1 t9 tb0 tb4 h
    refine W.step 80 fun hp => ?_
    have h := h hp.1 hp.2.1 hp.2.2.1 hp.2.2.2.1
    cbv
    refine ⟨ndI hA rfl, ⟨imI hA fun e0 => have c0 : ((t3_1 : Nat) : Int) ≤ (0 : Int) := (by have q := (cmpE (op := .gtr) hA e0); subst hA; exact q); ⟨ndI hA (And.intro rfl rfl), ⟨ndI hA (by subst hA; exact hp.2.2.2.1), ?_⟩⟩, imI hA fun e0 => have c0 : ((t3_1 : Nat) : Int) > (0 : Int) := (by have q := (cmpE (op := .gtr) hA e0); subst hA; exact q); ⟨ndI hA rfl, ⟨ndI hA (And.intro rfl (And.intro rfl rfl)), ⟨ndI hA (And.intro rfl (And.intro rfl rfl)), ⟨ndI hA (by subst hA; exact hp.1), ⟨ndI hA (by subst hA; exact hp.2.1), ⟨ndI hA (by subst hA; exact hp.2.2.1), ⟨ndI hA (And.intro rfl rfl), ⟨ndI hA (by subst hA; exact hp.2.2.2.1), (by subst hA; exact (h.2 c0))⟩⟩⟩⟩⟩⟩⟩⟩⟩⟩
    · refine W.call 80 (by rfl) (h.1 c0) (by subst hA; rfl) (by subst hA; rfl) ?_
      rintro x rs vs hp1 hq1
      rcases hq1 with ⟨rfl, Y1_0, y1_0, rfl, rfl, k1⟩
      · cbv
        refine ⟨imI hA fun e2 => have c2 : y1_0 > (0 : Int) := (by have q := (cmpE (op := .gtr) hA e2); subst hA; exact q); ⟨ndI hA rfl, ⟨ndI hA (And.intro rfl (And.intro rfl rfl)), ⟨ndI hA (And.intro rfl (And.intro rfl rfl)), ⟨ndI hA (by subst hA; exact hp.1), ⟨ndI hA (by subst hA; exact hp.2.1), ⟨ndI hA (by subst hA; exact hp.2.2.1), ⟨ndI hA (And.intro (by subst hA; exact (k1.1 c2).1) rfl), ⟨ndI hA (by subst hA; exact hp1.1), (by subst hA; exact (k1.1 c2).2)⟩⟩⟩⟩⟩⟩⟩⟩, imI hA fun e2 => have c2 : y1_0 ≤ (0 : Int) := (by have q := (cmpE (op := .gtr) hA e2); subst hA; exact q); ⟨ndI hA (And.intro rfl (And.intro rfl rfl)), ⟨ndI hA (by subst hA; exact hp.2.2.1), (by rw [W.rr]; exact (by subst hA; exact (k1.2 c2)))⟩⟩⟩
  · intro R0 R1 R2 R3 t3_0 t3_1 t9 tb0 tb4 h
    refine W.step 80 fun hp => ?_
    have h := h hp.1 hp.2.1 hp.2.2.1 hp.2.2.2.1
    cbv
    refine ⟨ndI hA rfl, ⟨fun e0 => have c0 : ((t3_1 : Nat) : Int) > (0 : Int) := (by have q := (cmpE (op := .gtr) hA e0); subst hA; exact q); ?_, fun e0 => have c0 : ((t3_1 : Nat) : Int) ≤ (0 : Int) := (by have q := (cmpE (op := .gtr) hA e0); subst hA; exact q); ?_⟩⟩
    · refine W.draw 80 (by rfl) ?_
      cbv
      refine ⟨ndI hA (And.intro (by subst hA; exact Int.le_refl _) (And.intro (by subst hA; exact (h.1 c0).1) rfl)), ⟨ndI hA (And.intro rfl (by subst hA; exact (h.1 c0).2.1)), ⟨ndI hA (And.intro (by subst hA; exact (h.1 c0).2.2.1) (by subst hA; exact (h.1 c0).2.2.2.1)), ⟨?_, trivial⟩⟩⟩⟩
      · refine W.callD (by rfl) (h.1 c0).2.2.2.2 (by subst hA; rfl) (by subst hA; rfl) ?_
        rintro x rs vs hp1 hq1
        rcases hq1 with ⟨rfl, y1_0, rfl, rfl, k1⟩
        · cbv
          refine ?_
          · refine W.draw 80 (by rfl) ?_
            cbv
            refine ⟨imI hA fun e2 => have c2 : y1_0 ≤ t9 := (by have q := (cmpE (op := .leq) hA e2); subst hA; exact q); ⟨ndI hA (And.intro (by subst hA; exact Int.le_refl _) (And.intro (by subst hA; exact (k1.1 c2).1) rfl)), ⟨ndI hA (And.intro rfl (by subst hA; exact (k1.1 c2).2.1)), ⟨ndI hA (And.intro (by subst hA; exact (k1.1 c2).2.2.1) (by subst hA; exact (k1.1 c2).2.2.2.1)), ⟨ndI hA (And.intro (by subst hA; exact Int.le_refl _) (And.intro (by subst hA; exact (k1.1 c2).1) rfl)), ⟨ndI hA (And.intro rfl (by subst hA; exact (k1.1 c2).2.1)), ⟨?_, trivial⟩⟩⟩⟩⟩⟩, imI hA fun e2 => have c2 : y1_0 > t9 := (by have q := (cmpE (op := .leq) hA e2); subst hA; exact q); ⟨ndI hA (And.intro rfl rfl), ⟨ndI hA (by subst hA; exact hp.2.2.2.1), ?_⟩⟩⟩
            · refine W.callD (by rfl) (k1.1 c2).2.2.2.2 (by subst hA; rfl) (by subst hA; rfl) ?_
              rintro x rs vs hp3 hq3
              rcases hq3 with ⟨rfl, y3_0, rfl, rfl, k3⟩
              · cbv
                refine ?_
                · refine W.draw 80 (by rfl) ?_
                  cbv
                  refine ⟨⟨ndI hA (And.intro rfl rfl), ⟨ndI hA (by subst hA; exact hp.2.2.2.1), ?_⟩⟩, trivial⟩
                  · refine W.callD (by rfl) k3 (by subst hA; rfl) (by subst hA; rfl) ?_
                    rintro x rs vs hp4 hq4
                    rcases hq4 with ⟨rfl, Y4_0, y4_b0, rfl, rfl, k4⟩
                    · cbv
                      refine ?_
                      · refine W.draw 80 (by rfl) ?_
                        cbv
                        refine ⟨ndI hA rfl, ⟨ndI hA (And.intro rfl (And.intro rfl rfl)), ⟨ndI hA (And.intro rfl (And.intro rfl rfl)), ⟨ndI hA (by subst hA; exact hp.1), ⟨ndI hA (by subst hA; exact hp.2.1), ⟨ndI hA (by subst hA; exact hp.2.2.1), ⟨ndI hA (And.intro rfl rfl), ⟨ndI hA (by subst hA; exact hp4.1), (by subst hA; exact k4)⟩⟩⟩⟩⟩⟩⟩⟩
            · refine W.call 80 (by rfl) (k1.2 c2) (by subst hA; rfl) (by subst hA; rfl) ?_
              rintro x rs vs hp3 hq3
              rcases hq3 with ⟨rfl, Y3_0, y3_0, rfl, rfl, k3⟩
              · cbv
                refine ⟨imI hA fun e4 => have c4 : y3_0 > (0 : Int) := (by have q := (cmpE (op := .gtr) hA e4); subst hA; exact q); ⟨ndI hA (And.intro (by subst hA; exact Int.le_refl _) (And.intro (by subst hA; exact (k3.1 c4).1) (by subst hA; exact (k3.1 c4).2.1))), ⟨ndI hA (And.intro (by subst hA; exact (k3.1 c4).2.1) (by subst hA; show Y3_0[(0 + (Int.toNat (0 : Int)))]? = some [(AV.int .i64 (cIS Y3_0 (0 + (Int.toNat (0 : Int))) 0)), (AV.int .i64 (cIS Y3_0 (0 + (Int.toNat (0 : Int))) 1))]; (try simp only [rappS_end, Nat.zero_add, Int.toNat_natCast]); exact (k3.1 c4).2.2.1)), ⟨⟨⟨ndI hA (And.intro (by subst hA; show (0 : Int) ≤ (cIS Y3_0 (0 + (Int.toNat (0 : Int))) 1); (try simp only [rappS_end, Nat.zero_add, Int.toNat_natCast]); exact (k3.1 c4).2.2.2.1) (And.intro (by subst hA; show (cIS Y3_0 (0 + (Int.toNat (0 : Int))) 1) < (((List.length R1) : Nat) : Int); (try simp only [rappS_end, Nat.zero_add, Int.toNat_natCast]); exact (k3.1 c4).2.2.2.2.1) rfl)), ⟨ndI hA (And.intro rfl (by subst hA; show R1[(0 + (Int.toNat (cIS Y3_0 (0 + (Int.toNat (0 : Int))) 1)))]? = some [(AV.int .i64 (cIS R1 (0 + (Int.toNat (cIS Y3_0 (0 + (Int.toNat (0 : Int))) 1))) 0))]; (try simp only [rappS_end, Nat.zero_add, Int.toNat_natCast]); exact (k3.1 c4).2.2.2.2.2.1)), ⟨⟨ndI hA rfl, ⟨ndI hA (And.intro rfl (And.intro rfl rfl)), ⟨ndI hA (And.intro rfl (And.intro rfl rfl)), ⟨ndI hA (by subst hA; exact hp.1), ⟨ndI hA (by subst hA; exact hp.2.1), ⟨ndI hA (by subst hA; exact hp.2.2.1), ⟨ndI hA (And.intro (by subst hA; exact (k3.1 c4).2.1) rfl), ⟨ndI hA (by subst hA; exact hp3.1), (by subst hA; show EV 70 [R0, R1, R2, Y3_0] [(Lf.n t3_0), (Lf.n t3_1), (Lf.r tb0), (Lf.n tb4), (Lf.i t9), (Lf.i (IntKind.wrap .i64 (t9 + (cIS R1 (0 + (Int.toNat (cIS Y3_0 (0 + (Int.toNat (0 : Int))) 1))) 0)))), (Lf.i (cIS Y3_0 (0 + (Int.toNat (0 : Int))) 1))]; (try simp only [rappS_end, Nat.zero_add, Int.toNat_natCast]); exact (k3.1 c4).2.2.2.2.2.2)⟩⟩⟩⟩⟩⟩⟩⟩, trivial⟩⟩⟩, trivial⟩, ⟨⟨ndI hA (And.intro (by subst hA; show (0 : Int) ≤ (cIS Y3_0 (0 + (Int.toNat (0 : Int))) 1); (try simp only [rappS_end, Nat.zero_add, Int.toNat_natCast]); exact (k3.1 c4).2.2.2.1) (And.intro (by subst hA; show (cIS Y3_0 (0 + (Int.toNat (0 : Int))) 1) < (((List.length R1) : Nat) : Int); (try simp only [rappS_end, Nat.zero_add, Int.toNat_natCast]); exact (k3.1 c4).2.2.2.2.1) rfl)), ⟨ndI hA (And.intro rfl (by subst hA; show R1[(0 + (Int.toNat (cIS Y3_0 (0 + (Int.toNat (0 : Int))) 1)))]? = some [(AV.int .i64 (cIS R1 (0 + (Int.toNat (cIS Y3_0 (0 + (Int.toNat (0 : Int))) 1))) 0))]; (try simp only [rappS_end, Nat.zero_add, Int.toNat_natCast]); exact (k3.1 c4).2.2.2.2.2.1)), ⟨⟨⟨ndI hA rfl, ⟨ndI hA (And.intro rfl (And.intro rfl rfl)), ⟨ndI hA (And.intro rfl (And.intro rfl rfl)), ⟨ndI hA (by subst hA; exact hp.1), ⟨ndI hA (by subst hA; exact hp.2.1), ⟨ndI hA (by subst hA; exact hp.2.2.1), ⟨ndI hA (And.intro (by subst hA; exact (k3.1 c4).2.1) rfl), ⟨ndI hA (by subst hA; exact hp3.1), (by subst hA; show EV 70 [R0, R1, R2, Y3_0] [(Lf.n t3_0), (Lf.n t3_1), (Lf.r tb0), (Lf.n tb4), (Lf.i t9), (Lf.i (IntKind.wrap .i64 (t9 + (cIS R1 (0 + (Int.toNat (cIS Y3_0 (0 + (Int.toNat (0 : Int))) 1))) 0)))), (Lf.i (cIS Y3_0 (0 + (Int.toNat (0 : Int))) 1))]; (try simp only [rappS_end, Nat.zero_add, Int.toNat_natCast]); exact (k3.1 c4).2.2.2.2.2.2)⟩⟩⟩⟩⟩⟩⟩⟩, trivial⟩, trivial⟩⟩⟩, trivial⟩⟩⟩⟩, imI hA fun e4 => have c4 : y3_0 ≤ (0 : Int) := (by have q := (cmpE (op := .gtr) hA e4); subst hA; exact q); ⟨ndI hA rfl, ⟨ndI hA (And.intro rfl (And.intro rfl rfl)), ⟨ndI hA (And.intro rfl (And.intro rfl rfl)), ⟨ndI hA (by subst hA; exact hp.1), ⟨ndI hA (by subst hA; exact hp.2.1), ⟨ndI hA (by subst hA; exact hp.2.2.1), ⟨ndI hA (And.intro (by subst hA; exact (k3.2 c4).1) rfl), ⟨ndI hA (by subst hA; exact hp3.1), (by subst hA; exact (k3.2 c4).2)⟩⟩⟩⟩⟩⟩⟩⟩⟩
    · refine W.draw 80 (by rfl) ?_
      cbv
      refine ⟨⟨ndI hA (And.intro rfl rfl), ⟨ndI hA (by subst hA; exact hp.2.2.2.1), ?_⟩⟩, trivial⟩
      · refine W.call 80 (by rfl) (h.2 c0) (by subst hA; rfl) (by subst hA; rfl) ?_
        rintro x rs vs hp1 hq1
        rcases hq1 with ⟨rfl, Y1_0, y1_0, rfl, rfl, k1⟩
        · cbv
          refine ⟨imI hA fun e2 => have c2 : y1_0 > (0 : Int) := (by have q := (cmpE (op := .gtr) hA e2); subst hA; exact q); ⟨ndI hA (And.intro (by subst hA; exact Int.le_refl _) (And.intro (by subst hA; exact (k1.1 c2).1) (by subst hA; exact (k1.1 c2).2.1))), ⟨ndI hA (And.intro (by subst hA; exact (k1.1 c2).2.1) (by subst hA; show Y1_0[(0 + (Int.toNat (0 : Int)))]? = some [(AV.int .i64 (cIS Y1_0 (0 + (Int.toNat (0 : Int))) 0)), (AV.int .i64 (cIS Y1_0 (0 + (Int.toNat (0 : Int))) 1))]; (try simp only [rappS_end, Nat.zero_add, Int.toNat_natCast]); exact (k1.1 c2).2.2.1)), ⟨⟨⟨ndI hA (And.intro (by subst hA; show (0 : Int) ≤ (cIS Y1_0 (0 + (Int.toNat (0 : Int))) 1); (try simp only [rappS_end, Nat.zero_add, Int.toNat_natCast]); exact (k1.1 c2).2.2.2.1) (And.intro (by subst hA; show (cIS Y1_0 (0 + (Int.toNat (0 : Int))) 1) < (((List.length R1) : Nat) : Int); (try simp only [rappS_end, Nat.zero_add, Int.toNat_natCast]); exact (k1.1 c2).2.2.2.2.1) rfl)), ⟨ndI hA (And.intro rfl (by subst hA; show R1[(0 + (Int.toNat (cIS Y1_0 (0 + (Int.toNat (0 : Int))) 1)))]? = some [(AV.int .i64 (cIS R1 (0 + (Int.toNat (cIS Y1_0 (0 + (Int.toNat (0 : Int))) 1))) 0))]; (try simp only [rappS_end, Nat.zero_add, Int.toNat_natCast]); exact (k1.1 c2).2.2.2.2.2.1)), ⟨⟨ndI hA rfl, ⟨ndI hA (And.intro rfl (And.intro rfl rfl)), ⟨ndI hA (And.intro rfl (And.intro rfl rfl)), ⟨ndI hA (by subst hA; exact hp.1), ⟨ndI hA (by subst hA; exact hp.2.1), ⟨ndI hA (by subst hA; exact hp.2.2.1), ⟨ndI hA (And.intro (by subst hA; exact (k1.1 c2).2.1) rfl), ⟨ndI hA (by subst hA; exact hp1.1), (by subst hA; show EV 70 [R0, R1, R2, Y1_0] [(Lf.n t3_0), (Lf.n t3_1), (Lf.r tb0), (Lf.n tb4), (Lf.i t9), (Lf.i (IntKind.wrap .i64 (t9 + (cIS R1 (0 + (Int.toNat (cIS Y1_0 (0 + (Int.toNat (0 : Int))) 1))) 0)))), (Lf.i (cIS Y1_0 (0 + (Int.toNat (0 : Int))) 1))]; (try simp only [rappS_end, Nat.zero_add, Int.toNat_natCast]); exact (k1.1 c2).2.2.2.2.2.2)⟩⟩⟩⟩⟩⟩⟩⟩, trivial⟩⟩⟩, trivial⟩, ⟨⟨ndI hA (And.intro (by subst hA; show (0 : Int) ≤ (cIS Y1_0 (0 + (Int.toNat (0 : Int))) 1); (try simp only [rappS_end, Nat.zero_add, Int.toNat_natCast]); exact (k1.1 c2).2.2.2.1) (And.intro (by subst hA; show (cIS Y1_0 (0 + (Int.toNat (0 : Int))) 1) < (((List.length R1) : Nat) : Int); (try simp only [rappS_end, Nat.zero_add, Int.toNat_natCast]); exact (k1.1 c2).2.2.2.2.1) rfl)), ⟨ndI hA (And.intro rfl (by subst hA; show R1[(0 + (Int.toNat (cIS Y1_0 (0 + (Int.toNat (0 : Int))) 1)))]? = some [(AV.int .i64 (cIS R1 (0 + (Int.toNat (cIS Y1_0 (0 + (Int.toNat (0 : Int))) 1))) 0))]; (try simp only [rappS_end, Nat.zero_add, Int.toNat_natCast]); exact (k1.1 c2).2.2.2.2.2.1)), ⟨⟨⟨ndI hA rfl, ⟨ndI hA (And.intro rfl (And.intro rfl rfl)), ⟨ndI hA (And.intro rfl (And.intro rfl rfl)), ⟨ndI hA (by subst hA; exact hp.1), ⟨ndI hA (by subst hA; exact hp.2.1), ⟨ndI hA (by subst hA; exact hp.2.2.1), ⟨ndI hA (And.intro (by subst hA; exact (k1.1 c2).2.1) rfl), ⟨ndI hA (by subst hA; exact hp1.1), (by subst hA; show EV 70 [R0, R1, R2, Y1_0] [(Lf.n t3_0), (Lf.n t3_1), (Lf.r tb0), (Lf.n tb4), (Lf.i t9), (Lf.i (IntKind.wrap .i64 (t9 + (cIS R1 (0 + (Int.toNat (cIS Y1_0 (0 + (Int.toNat (0 : Int))) 1))) 0)))), (Lf.i (cIS Y1_0 (0 + (Int.toNat (0 : Int))) 1))]; (try simp only [rappS_end, Nat.zero_add, Int.toNat_natCast]); exact (k1.1 c2).2.2.2.2.2.2)⟩⟩⟩⟩⟩⟩⟩⟩, trivial⟩, trivial⟩⟩⟩, trivial⟩⟩⟩⟩, imI hA fun e2 => have c2 : y1_0 ≤ (0 : Int) := (by have q := (cmpE (op := .gtr) hA e2); subst hA; exact q); ⟨ndI hA rfl, ⟨ndI hA (And.intro rfl (And.intro rfl rfl)), ⟨ndI hA (And.intro rfl (And.intro rfl rfl)), ⟨ndI hA (by subst hA; exact hp.1), ⟨ndI hA (by subst hA; exact hp.2.1), ⟨ndI hA (by subst hA; exact hp.2.2.1), ⟨ndI hA (And.intro (by subst hA; exact (k1.2 c2).1) rfl), ⟨ndI hA (by subst hA; exact hp1.1), (by subst hA; exact (k1.2 c2).2)⟩⟩⟩⟩⟩⟩⟩⟩⟩
  · intro R0 R1 R2 R3 t3_0 t3_1 t9 tb0 tb4 h
    refine W.step 80 fun hp => ?_
    have h := h hp.1 hp.2.1 hp.2.2.1 hp.2.2.2.1
    cbv
    refine ⟨ndI hA (And.intro (by subst hA; exact h.1) (And.intro (by subst hA; exact h.2.1) rfl)), ⟨ndI hA rfl, ⟨ndI hA (And.intro rfl (And.intro rfl rfl)), ⟨ndI hA (And.intro rfl (And.intro rfl rfl)), ⟨ndI hA (by subst hA; exact hp.1), ⟨ndI hA (by subst hA; exact hp.2.1), ⟨ndI hA (by subst hA; exact hp.2.2.1), ⟨ndI hA (And.intro rfl rfl), ⟨ndI hA (by subst hA; exact hp.2.2.2.1), (by subst hA; exact h.2.2)⟩⟩⟩⟩⟩⟩⟩⟩⟩
  · intro R0 R1 R2 R3 t3_0 t3_1 tb0 tb4 tb5_0 tb5_1 tb5_2 h
    refine W.step 80 fun hp => ?_
    have h := h hp.1 hp.2.1 hp.2.2.1 hp.2.2.2.1
    cbv
    refine ⟨ndI hA rfl, ⟨imI hA fun e0 => have c0 : ((t3_1 : Nat) : Int) > (0 : Int) := (by have q := (cmpE (op := .gtr) hA e0); subst hA; exact q); ⟨ndI hA (And.intro (by subst hA; exact Int.le_refl _) (And.intro (by subst hA; exact (h.1 c0).1) rfl)), ⟨ndI hA (And.intro rfl (by subst hA; exact (h.1 c0).2.1)), ⟨ndI hA (And.intro (by subst hA; exact (h.1 c0).2.2.1) (by subst hA; exact (h.1 c0).2.2.2.1)), ⟨?_, trivial⟩⟩⟩⟩, imI hA fun e0 => have c0 : ((t3_1 : Nat) : Int) ≤ (0 : Int) := (by have q := (cmpE (op := .gtr) hA e0); subst hA; exact q); ⟨ndI hA rfl, ⟨ndI hA (And.intro rfl (And.intro rfl rfl)), ⟨ndI hA (And.intro rfl (And.intro rfl rfl)), ⟨ndI hA (by subst hA; exact hp.1), ⟨ndI hA (by subst hA; exact hp.2.1), ⟨ndI hA (by subst hA; exact hp.2.2.1), ⟨ndI hA (And.intro rfl rfl), ⟨ndI hA (by subst hA; exact hp.2.2.2.1), (by subst hA; exact (h.2 c0))⟩⟩⟩⟩⟩⟩⟩⟩⟩⟩
    · refine W.callD (by rfl) (h.1 c0).2.2.2.2 (by subst hA; rfl) (by subst hA; rfl) ?_
      rintro x rs vs hp1 hq1
      rcases hq1 with ⟨rfl, y1_0, rfl, rfl, k1⟩
      · cbv
        refine ?_
        · refine W.draw 80 (by rfl) ?_
          cbv
          refine ⟨imI hA fun e2 => have c2 : tb5_2 ≠ (-1) := (by have q := (cmpE (op := .eql) hA e2); subst hA; exact q); ⟨imI hA fun e3 => have c3 : y1_0 < tb5_1 := (by have q := (cmpE (op := .lss) hA e3); subst hA; exact q); ⟨ndI hA rfl, ⟨ndI hA (And.intro rfl (And.intro rfl rfl)), ⟨ndI hA (And.intro rfl (And.intro rfl rfl)), ⟨ndI hA (by subst hA; exact hp.1), ⟨ndI hA (by subst hA; exact hp.2.1), ⟨ndI hA (by subst hA; exact hp.2.2.1), ⟨ndI hA (And.intro rfl rfl), ⟨ndI hA (by subst hA; exact hp.2.2.2.1), (by subst hA; exact ((k1.1 c2).1 c3))⟩⟩⟩⟩⟩⟩⟩⟩, imI hA fun e3 => have c3 : y1_0 ≥ tb5_1 := (by have q := (cmpE (op := .lss) hA e3); subst hA; exact q); ⟨ndI hA rfl, ⟨ndI hA (And.intro rfl (And.intro rfl rfl)), ⟨ndI hA (And.intro rfl (And.intro rfl rfl)), ⟨ndI hA (by subst hA; exact hp.1), ⟨ndI hA (by subst hA; exact hp.2.1), ⟨ndI hA (by subst hA; exact hp.2.2.1), ⟨ndI hA (And.intro rfl rfl), ⟨ndI hA (by subst hA; exact hp.2.2.2.1), (by subst hA; exact ((k1.1 c2).2 c3))⟩⟩⟩⟩⟩⟩⟩⟩⟩, imI hA fun e2 => have c2 : tb5_2 = (-1) := (by have q := (cmpE (op := .eql) hA e2); subst hA; exact q); ⟨ndI hA rfl, ⟨ndI hA (And.intro rfl (And.intro rfl rfl)), ⟨ndI hA (And.intro rfl (And.intro rfl rfl)), ⟨ndI hA (by subst hA; exact hp.1), ⟨ndI hA (by subst hA; exact hp.2.1), ⟨ndI hA (by subst hA; exact hp.2.2.1), ⟨ndI hA (And.intro rfl rfl), ⟨ndI hA (by subst hA; exact hp.2.2.2.1), (by subst hA; exact (k1.2 c2))⟩⟩⟩⟩⟩⟩⟩⟩⟩
  · intro R0 R1 R2 R3 t3_0 t3_1 tb0 tb4 tb5_0 tb5_1 tb5_2 h
    refine W.step 80 fun hp => ?_
    have h := h hp.1 hp.2.1 hp.2.2.1 hp.2.2.2.1
    cbv
    refine ⟨imI hA fun e0 => have c0 : tb5_2 ≠ (-1) := (by have q := (cmpE (op := .neq) hA e0); subst hA; exact q); ⟨⟨ndI hA (And.intro (by subst hA; exact (h.1 c0).1) (And.intro (by subst hA; exact (h.1 c0).2.1) rfl)), ⟨⟨ndI hA (And.intro rfl (by subst hA; show R1[(0 + (Int.toNat tb5_2))]? = some [(AV.int .i64 (cIS R1 (0 + (Int.toNat tb5_2)) 0))]; (try simp only [rappS_end, Nat.zero_add, Int.toNat_natCast]); exact (h.1 c0).2.2.1)), ⟨⟨ndI hA (And.intro (by subst hA; exact (h.1 c0).1) (And.intro (by subst hA; exact (h.1 c0).2.1) rfl)), ⟨⟨ndI hA (And.intro rfl (by subst hA; show R1[(0 + (Int.toNat tb5_2))]? = some [(AV.int .i64 (cIS R1 (0 + (Int.toNat tb5_2)) 0))]; (try simp only [rappS_end, Nat.zero_add, Int.toNat_natCast]); exact (h.1 c0).2.2.1)), ⟨ndI hA (And.intro (by subst hA; exact (h.1 c0).1) (And.intro (by subst hA; exact (h.1 c0).2.1) (by subst hA; show (List.length R1) = (List.length (List.set R1 (0 + (Int.toNat tb5_2)) [(AV.int .i64 (IntKind.wrap .i64 ((cIS R1 (0 + (Int.toNat tb5_2)) 0) - (IntKind.wrap .i64 (tb5_1 - tb5_0)))))])); (first | rfl | simp [rappS_end] | (simp only [rappS_end, List.length_append, List.length_set, List.length_cons, List.length_nil]; omega))))), ⟨ndI hA (And.intro (by subst hA; show (List.length R1) = (List.length (List.set R1 (0 + (Int.toNat tb5_2)) [(AV.int .i64 (IntKind.wrap .i64 ((cIS R1 (0 + (Int.toNat tb5_2)) 0) - (IntKind.wrap .i64 (tb5_1 - tb5_0)))))])); (first | rfl | simp [rappS_end] | (simp only [rappS_end, List.length_append, List.length_set, List.length_cons, List.length_nil]; omega))) (by subst hA; show (List.set R1 (0 + (Int.toNat tb5_2)) [(AV.int .i64 (IntKind.wrap .i64 ((cIS R1 (0 + (Int.toNat tb5_2)) 0) - (IntKind.wrap .i64 (tb5_1 - tb5_0)))))])[(0 + (Int.toNat tb5_2))]? = some [(AV.int .i64 (cIS (List.set R1 (0 + (Int.toNat tb5_2)) [(AV.int .i64 (IntKind.wrap .i64 ((cIS R1 (0 + (Int.toNat tb5_2)) 0) - (IntKind.wrap .i64 (tb5_1 - tb5_0)))))]) (0 + (Int.toNat tb5_2)) 0))]; (try simp only [rappS_end, Nat.zero_add, Int.toNat_natCast]); exact (h.1 c0).2.2.2.1)), ⟨imI hA fun e1 => have c1 : (cIS (List.set R1 (Int.toNat tb5_2) [(AV.int .i64 (IntKind.wrap .i64 ((cIS R1 (Int.toNat tb5_2) 0) - (IntKind.wrap .i64 (tb5_1 - tb5_0)))))]) (Int.toNat tb5_2) 0) = (0 : Int) := (by have q := (cmpE (op := .eql) hA e1); subst hA; have q : (cIS (List.set R1 (0 + (Int.toNat tb5_2)) [(AV.int .i64 (IntKind.wrap .i64 ((cIS R1 (0 + (Int.toNat tb5_2)) 0) - (IntKind.wrap .i64 (tb5_1 - tb5_0)))))]) (0 + (Int.toNat tb5_2)) 0) = (0 : Int) := q; simpa only [rappS_end, Nat.zero_add, Int.toNat_natCast] using q); ⟨ndI hA (And.intro rfl rfl), ⟨ndI hA (by subst hA; exact hp.2.2.2.1), ?_⟩⟩, imI hA fun e1 => have c1 : (cIS (List.set R1 (Int.toNat tb5_2) [(AV.int .i64 (IntKind.wrap .i64 ((cIS R1 (Int.toNat tb5_2) 0) - (IntKind.wrap .i64 (tb5_1 - tb5_0)))))]) (Int.toNat tb5_2) 0) ≠ (0 : Int) := (by have q := (cmpE (op := .eql) hA e1); subst hA; have q : (cIS (List.set R1 (0 + (Int.toNat tb5_2)) [(AV.int .i64 (IntKind.wrap .i64 ((cIS R1 (0 + (Int.toNat tb5_2)) 0) - (IntKind.wrap .i64 (tb5_1 - tb5_0)))))]) (0 + (Int.toNat tb5_2)) 0) ≠ (0 : Int) := q; simpa only [rappS_end, Nat.zero_add, Int.toNat_natCast] using q); ⟨ndI hA (And.intro rfl (And.intro (Nat.le_refl _) (And.intro (by subst hA; exact ((h.1 c0).2.2.2.2.2 c1).1) (by subst hA; exact ((h.1 c0).2.2.2.2.2 c1).2.1)))), ⟨ndI hA rfl, ⟨ndI hA (And.intro (by subst hA; show (List.length R1) = (List.length (List.set R1 (0 + (Int.toNat tb5_2)) [(AV.int .i64 (IntKind.wrap .i64 ((cIS R1 (0 + (Int.toNat tb5_2)) 0) - (IntKind.wrap .i64 (tb5_1 - tb5_0)))))])); (first | rfl | simp [rappS_end] | (simp only [rappS_end, List.length_append, List.length_set, List.length_cons, List.length_nil]; omega))) (And.intro rfl (by subst hA; show (List.length R1) = (List.length (List.set R1 (0 + (Int.toNat tb5_2)) [(AV.int .i64 (IntKind.wrap .i64 ((cIS R1 (0 + (Int.toNat tb5_2)) 0) - (IntKind.wrap .i64 (tb5_1 - tb5_0)))))])); (first | rfl | simp [rappS_end] | (simp only [rappS_end, List.length_append, List.length_set, List.length_cons, List.length_nil]; omega))))), ⟨ndI hA (And.intro rfl (And.intro rfl (by subst hA; show ((List.length R2) + 1) = (List.length (rappS R2 (List.length R2) [[(AV.int .i64 tb5_0), (AV.int .i64 tb5_1), (AV.int .i64 tb5_2)]])); (first | rfl | simp [rappS_end] | (simp only [rappS_end, List.length_append, List.length_set, List.length_cons, List.length_nil]; omega))))), ⟨ndI hA (by subst hA; exact hp.1), ⟨ndI hA (by subst hA; exact (vset hp.2.1 rfl)), ⟨ndI hA (by subst hA; exact (vapp hp.2.2.1 vpur)), ⟨ndI hA (And.intro rfl rfl), ⟨ndI hA (by subst hA; exact hp.2.2.2.1), (by subst hA; show EV 40 [R0, (List.set R1 (0 + (Int.toNat tb5_2)) [(AV.int .i64 (IntKind.wrap .i64 ((cIS R1 (0 + (Int.toNat tb5_2)) 0) - (IntKind.wrap .i64 (tb5_1 - tb5_0)))))]), (rappS R2 (List.length R2) [[(AV.int .i64 tb5_0), (AV.int .i64 tb5_1), (AV.int .i64 tb5_2)]]), R3] [(Lf.n t3_0), (Lf.n t3_1), (Lf.i tb5_1), (Lf.r tb0), (Lf.n tb4)]; (try simp only [rappS_end, Nat.zero_add, Int.toNat_natCast]); exact ((h.1 c0).2.2.2.2.2 c1).2.2)⟩⟩⟩⟩⟩⟩⟩⟩⟩⟩⟩⟩⟩, trivial⟩⟩, trivial⟩⟩, trivial⟩⟩, trivial⟩, imI hA fun e0 => have c0 : tb5_2 = (-1) := (by have q := (cmpE (op := .neq) hA e0); subst hA; exact q); ⟨ndI hA (And.intro rfl (And.intro (Nat.le_refl _) (And.intro (by subst hA; exact (h.2 c0).1) (by subst hA; exact (h.2 c0).2.1)))), ⟨ndI hA rfl, ⟨ndI hA (And.intro rfl (And.intro rfl rfl)), ⟨ndI hA (And.intro rfl (And.intro rfl (by subst hA; show ((List.length R2) + 1) = (List.length (rappS R2 (List.length R2) [[(AV.int .i64 tb5_0), (AV.int .i64 tb5_1), (AV.int .i64 tb5_2)]])); (first | rfl | simp [rappS_end] | (simp only [rappS_end, List.length_append, List.length_set, List.length_cons, List.length_nil]; omega))))), ⟨ndI hA (by subst hA; exact hp.1), ⟨ndI hA (by subst hA; exact hp.2.1), ⟨ndI hA (by subst hA; exact (vapp hp.2.2.1 vpur)), ⟨ndI hA (And.intro rfl rfl), ⟨ndI hA (by subst hA; exact hp.2.2.2.1), (by subst hA; show EV 40 [R0, R1, (rappS R2 (List.length R2) [[(AV.int .i64 tb5_0), (AV.int .i64 tb5_1), (AV.int .i64 tb5_2)]]), R3] [(Lf.n t3_0), (Lf.n t3_1), (Lf.i tb5_1), (Lf.r tb0), (Lf.n tb4)]; (try simp only [rappS_end, Nat.zero_add, Int.toNat_natCast]); exact (h.2 c0).2.2)⟩⟩⟩⟩⟩⟩⟩⟩⟩⟩
    · refine W.call 80 (by rfl) ((h.1 c0).2.2.2.2.1 c1) (by subst hA; rfl) (by subst hA; rfl) ?_
      rintro x rs vs hp2 hq2
      rcases hq2 with ⟨rfl, Y2_0, y2_0_0, y2_0_1, y2_b0, rfl, rfl, k2⟩
      · cbv
        refine ⟨ndI hA (And.intro rfl (And.intro (Nat.le_refl _) (And.intro (by subst hA; exact k2.1) (by subst hA; exact k2.2.1)))), ⟨ndI hA rfl, ⟨ndI hA (And.intro (by subst hA; show (List.length R1) = (List.length (List.set R1 (0 + (Int.toNat tb5_2)) [(AV.int .i64 (IntKind.wrap .i64 ((cIS R1 (0 + (Int.toNat tb5_2)) 0) - (IntKind.wrap .i64 (tb5_1 - tb5_0)))))])); (first | rfl | simp [rappS_end] | (simp only [rappS_end, List.length_append, List.length_set, List.length_cons, List.length_nil]; omega))) (And.intro rfl (by subst hA; show (List.length R1) = (List.length (List.set R1 (0 + (Int.toNat tb5_2)) [(AV.int .i64 (IntKind.wrap .i64 ((cIS R1 (0 + (Int.toNat tb5_2)) 0) - (IntKind.wrap .i64 (tb5_1 - tb5_0)))))])); (first | rfl | simp [rappS_end] | (simp only [rappS_end, List.length_append, List.length_set, List.length_cons, List.length_nil]; omega))))), ⟨ndI hA (And.intro rfl (And.intro rfl (by subst hA; show ((List.length R2) + 1) = (List.length (rappS R2 (List.length R2) [[(AV.int .i64 tb5_0), (AV.int .i64 tb5_1), (AV.int .i64 tb5_2)]])); (first | rfl | simp [rappS_end] | (simp only [rappS_end, List.length_append, List.length_set, List.length_cons, List.length_nil]; omega))))), ⟨ndI hA (by subst hA; exact hp.1), ⟨ndI hA (by subst hA; exact (vset hp.2.1 rfl)), ⟨ndI hA (by subst hA; exact (vapp hp.2.2.1 vpur)), ⟨ndI hA (And.intro rfl rfl), ⟨ndI hA (by subst hA; exact hp2.1), (by subst hA; show EV 40 [R0, (List.set R1 (0 + (Int.toNat tb5_2)) [(AV.int .i64 (IntKind.wrap .i64 ((cIS R1 (0 + (Int.toNat tb5_2)) 0) - (IntKind.wrap .i64 (tb5_1 - tb5_0)))))]), (rappS R2 (List.length R2) [[(AV.int .i64 tb5_0), (AV.int .i64 tb5_1), (AV.int .i64 tb5_2)]]), Y2_0] [(Lf.n t3_0), (Lf.n t3_1), (Lf.i tb5_1), (Lf.r tb0), (Lf.n y2_b0)]; (try simp only [rappS_end, Nat.zero_add, Int.toNat_natCast]); exact k2.2.2)⟩⟩⟩⟩⟩⟩⟩⟩⟩

end
set_option maxHeartbeats 0 in
/-- To enter. -/
theorem E54 {Q : Nat → Rs → List Lf → Prop} {a0 : List (List AV)} (h : ∀ EV : Nat → Rs → List Lf → Prop, V54 EV Q →
    ((((List.length a0) : Nat) : Int) ≤ (140737488355328 : Int)) ∧
    (((((List.length a0) : Nat) : Int) * ((8 : Nat) : Int)) ≤ (140737488355328 : Int)) ∧
    (EV 11 [[], (List.replicate (List.length a0) [(AV.int .i64 (0 : Int))])] [(Lf.r a0), (Lf.i (((List.length a0) : Nat) : Int)), (Lf.i (0 : Int)), (Lf.r a0)])) :
    EC Try.prog G54 [] [.r a0] Q := by
  obtain ⟨A, hA⟩ : ∃ A, A = arS := ⟨_, rfl⟩
  refine Inst.enter (I := I54) hA mixed F54_at sg L54 80 rfl fun CE CK Dn EV RR W hp => ?_
  have h := h  EV (V54.of W)
  cbv
  refine ⟨ndI hA (And.intro (by subst hA; exact Int.natCast_nonneg _) (And.intro (by subst hA; exact Int.le_refl _) (And.intro (by subst hA; exact h.1) (by subst hA; exact h.2.1)))), ⟨ndI hA (And.intro (by subst hA; show 0 = 0; (first | rfl | simp [rappS_end] | (simp only [rappS_end, List.length_append, List.length_set, List.length_cons, List.length_nil]; omega))) (And.intro rfl (by subst hA; show 0 = 0; (first | rfl | simp [rappS_end] | (simp only [rappS_end, List.length_append, List.length_set, List.length_cons, List.length_nil]; omega))))), ⟨ndI hA (And.intro (by subst hA; show (Int.toNat (((List.length a0) : Nat) : Int)) = (List.length (List.replicate (Int.toNat (((List.length a0) : Nat) : Int)) [(AV.int .i64 (0 : Int))])); (first | rfl | simp [rappS_end] | (simp only [rappS_end, List.length_append, List.length_set, List.length_cons, List.length_nil]; omega))) (And.intro rfl (by subst hA; show (Int.toNat (((List.length a0) : Nat) : Int)) = (List.length (List.replicate (Int.toNat (((List.length a0) : Nat) : Int)) [(AV.int .i64 (0 : Int))])); (first | rfl | simp [rappS_end] | (simp only [rappS_end, List.length_append, List.length_set, List.length_cons, List.length_nil]; omega))))), ⟨ndI hA (by subst hA; exact vpur), ⟨ndI hA (by subst hA; exact (vrep rfl)), (by subst hA; show EV 11 [[], (List.replicate (Int.toNat (((List.length a0) : Nat) : Int)) [(AV.int .i64 (0 : Int))])] [(Lf.r a0), (Lf.i (((List.length a0) : Nat) : Int)), (Lf.i (0 : Int)), (Lf.r a0)]; (try simp only [rappS_end, Nat.zero_add, Int.toNat_natCast]); exact h.2.2)⟩⟩⟩⟩⟩

-- 25: signalbox/edf.Run
section
structure V25 (EV Q : Nat → Rs → List Lf → Prop) : Prop where
  p9 : ∀ {R0 : List (List AV)} {t0 : List (List AV)} {t8 : List (List AV)} {t9 : Int} {t10 : Int}, (pursS R0 = true → 
    (t10 < t9 →
      ((0 : Int) ≤ t10) ∧
      (t8[(Int.toNat t10)]? = some [(AV.int .i64 (cIS t8 (Int.toNat t10) 0)), (AV.int .i64 (cIS t8 (Int.toNat t10) 1)), (AV.int .i64 (cIS t8 (Int.toNat t10) 2))]) ∧
      (EC Try.prog G53 [] [(Lf.i (cIS t8 (Int.toNat t10) 0))] (fun x rs vs => (x = 0 ∧ ∃ (y1_0 : Int), rs = [] ∧ vs = [.i y1_0] ∧
        ((((List.length R0) + 1) ≤ 140737488355328) ∧
          ((((List.length R0) + 1) * 8) ≤ 140737488355328) ∧
          (EV 9 [(R0 ++ [[(AV.int .i64 y1_0)]])] [(Lf.r t0), (Lf.r t8), (Lf.i t9), (Lf.i (IntKind.wrap .i64 (t10 + (1 : Int))))])))))) ∧
    (t10 ≥ t9 →
      EC Try.prog G54 [] [(Lf.r t0)] (fun x rs vs => (x = 0 ∧ ∃ (Y1_0 : List (List AV)), rs = [Y1_0] ∧ vs = [] ∧
        (EV 26 [R0, Y1_0] [(Lf.i (((List.length Y1_0) : Nat) : Int)), (Lf.i (0 : Int))]))))) →
    EV 9 [R0] [.r t0, .r t8, .i t9, .i t10]
  p26 : ∀ {R0 : List (List AV)} {R1 : List (List AV)} {t23 : Int} {t24 : Int}, (pursS R0 = true → pursS R1 = true → 
    (t24 < t23 →
      ((0 : Int) ≤ t24) ∧
      (t24 < (((List.length R1) : Nat) : Int)) ∧
      (R1[(Int.toNat t24)]? = some [(AV.int .i64 (cIS R1 (Int.toNat t24) 0)), (AV.int .i64 (cIS R1 (Int.toNat t24) 1)), (AV.int .i64 (cIS R1 (Int.toNat t24) 2))]) ∧
      ((cIS R1 (Int.toNat t24) 2) ≠ (-1) →
        ((0 : Int) ≤ (cIS R1 (Int.toNat t24) 2)) ∧
        ((cIS R1 (Int.toNat t24) 2) < (((List.length R0) : Nat) : Int)) ∧
        (R0[(Int.toNat (cIS R1 (Int.toNat t24) 2))]? = some [(AV.int .i64 (cIS R0 (Int.toNat (cIS R1 (Int.toNat t24) 2)) 0))]) ∧
        (EV 26 [(List.set R0 (Int.toNat (cIS R1 (Int.toNat t24) 2)) [(AV.int .i64 (cIS R1 (Int.toNat t24) 1))]), R1] [(Lf.i t23), (Lf.i (IntKind.wrap .i64 (t24 + (1 : Int))))])) ∧
      ((cIS R1 (Int.toNat t24) 2) = (-1) →
        EV 26 [R0, R1] [(Lf.i t23), (Lf.i (IntKind.wrap .i64 (t24 + (1 : Int))))])) ∧
    (t24 ≥ t23 →
      Q 0 [R0] [])) →
    EV 26 [R0, R1] [.i t23, .i t24]

set_option maxHeartbeats 0 in
theorem V25.of {Q : Nat → Rs → List Lf → Prop} {A : Ar} {CE : Nat → Rs → List Lf → (Nat → Rs → List Lf → Prop) → Prop} {CK : Nat → Rs → List Lf → Cont → Prop} {Dn : Nat → List Bool → List AItem → Nat → List Bool → List AV → List ABlk → Prop} {EV RR : Nat → Rs → List Lf → Prop} (W : Wk Try.prog Try.f25 I25 L25 Q A sg CE CK Dn EV RR) : V25 EV Q := by
  have hA := W.hA
  refine ⟨?_, ?_⟩
  · intro R0 t0 t8 t9 t10 h
    refine W.step 80 fun hp => ?_
    have h := h hp.1
    cbv
    refine ⟨imI hA fun e0 => have c0 : t10 < t9 := (by have q := (cmpE (op := .lss) hA e0); subst hA; exact q); ⟨ndI hA (And.intro (by subst hA; exact (h.1 c0).1) (by subst hA; exact (h.1 c0).2.1)), ?_⟩, imI hA fun e0 => have c0 : t10 ≥ t9 := (by have q := (cmpE (op := .lss) hA e0); subst hA; exact q); ?_⟩
    · refine W.call 80 (by rfl) (h.1 c0).2.2 (by subst hA; rfl) (by subst hA; rfl) ?_
      rintro x rs vs hp1 hq1
      rcases hq1 with ⟨rfl, y1_0, rfl, rfl, k1⟩
      · cbv
        refine ⟨ndI hA (And.intro rfl (And.intro (Nat.le_refl _) (And.intro (by subst hA; exact k1.1) (by subst hA; exact k1.2.1)))), ⟨ndI hA (And.intro rfl (And.intro rfl (by subst hA; show ((List.length R0) + 1) = (List.length (rappS R0 (List.length R0) [[(AV.int .i64 y1_0)]])); (first | rfl | simp [rappS_end] | (simp only [rappS_end, List.length_append, List.length_set, List.length_cons, List.length_nil]; omega))))), ⟨ndI hA (by subst hA; exact (vapp hp.1 vpur)), (by subst hA; show EV 9 [(rappS R0 (List.length R0) [[(AV.int .i64 y1_0)]])] [(Lf.r t0), (Lf.r t8), (Lf.i t9), (Lf.i (IntKind.wrap .i64 (t10 + (1 : Int))))]; (try simp only [rappS_end, Nat.zero_add, Int.toNat_natCast]); exact k1.2.2)⟩⟩⟩
    · refine W.call 80 (by rfl) (h.2 c0) (by subst hA; rfl) (by subst hA; rfl) ?_
      rintro x rs vs hp1 hq1
      rcases hq1 with ⟨rfl, Y1_0, rfl, rfl, k1⟩
      · cbv
        refine ⟨ndI hA rfl, ⟨ndI hA (And.intro rfl (And.intro rfl rfl)), ⟨ndI hA (And.intro rfl (And.intro rfl rfl)), ⟨ndI hA (by subst hA; exact hp.1), ⟨ndI hA (by subst hA; exact hp1.1), (by subst hA; exact k1)⟩⟩⟩⟩⟩
  · intro R0 R1 t23 t24 h
    refine W.step 80 fun hp => ?_
    have h := h hp.1 hp.2.1
    cbv
    refine ⟨imI hA fun e0 => have c0 : t24 < t23 := (by have q := (cmpE (op := .lss) hA e0); subst hA; exact q); ⟨ndI hA (And.intro (by subst hA; exact (h.1 c0).1) (And.intro (by subst hA; exact (h.1 c0).2.1) rfl)), ⟨ndI hA (And.intro rfl (by subst hA; show R1[(0 + (Int.toNat t24))]? = some [(AV.int .i64 (cIS R1 (0 + (Int.toNat t24)) 0)), (AV.int .i64 (cIS R1 (0 + (Int.toNat t24)) 1)), (AV.int .i64 (cIS R1 (0 + (Int.toNat t24)) 2))]; (try simp only [rappS_end, Nat.zero_add, Int.toNat_natCast]); exact (h.1 c0).2.2.1)), ⟨imI hA fun e1 => have c1 : (cIS R1 (Int.toNat t24) 2) ≠ (-1) := (by have q := (cmpE (op := .neq) hA e1); subst hA; have q : (cIS R1 (0 + (Int.toNat t24)) 2) ≠ (-1) := q; simpa only [rappS_end, Nat.zero_add, Int.toNat_natCast] using q); ⟨ndI hA (And.intro (by subst hA; show (0 : Int) ≤ (cIS R1 (0 + (Int.toNat t24)) 2); (try simp only [rappS_end, Nat.zero_add, Int.toNat_natCast]); exact ((h.1 c0).2.2.2.1 c1).1) (And.intro (by subst hA; show (cIS R1 (0 + (Int.toNat t24)) 2) < (((List.length R0) : Nat) : Int); (try simp only [rappS_end, Nat.zero_add, Int.toNat_natCast]); exact ((h.1 c0).2.2.2.1 c1).2.1) rfl)), ⟨ndI hA (And.intro rfl (by subst hA; show R0[(0 + (Int.toNat (cIS R1 (0 + (Int.toNat t24)) 2)))]? = some [(AV.int .i64 (cIS R0 (0 + (Int.toNat (cIS R1 (0 + (Int.toNat t24)) 2))) 0))]; (try simp only [rappS_end, Nat.zero_add, Int.toNat_natCast]); exact ((h.1 c0).2.2.2.1 c1).2.2.1)), ⟨ndI hA (And.intro (by subst hA; show (List.length R0) = (List.length (List.set R0 (0 + (Int.toNat (cIS R1 (0 + (Int.toNat t24)) 2))) [(AV.int .i64 (cIS R1 (0 + (Int.toNat t24)) 1))])); (first | rfl | simp [rappS_end] | (simp only [rappS_end, List.length_append, List.length_set, List.length_cons, List.length_nil]; omega))) (And.intro rfl (by subst hA; show (List.length R0) = (List.length (List.set R0 (0 + (Int.toNat (cIS R1 (0 + (Int.toNat t24)) 2))) [(AV.int .i64 (cIS R1 (0 + (Int.toNat t24)) 1))])); (first | rfl | simp [rappS_end] | (simp only [rappS_end, List.length_append, List.length_set, List.length_cons, List.length_nil]; omega))))), ⟨ndI hA (And.intro rfl (And.intro rfl rfl)), ⟨ndI hA (by subst hA; exact (vset hp.1 rfl)), ⟨ndI hA (by subst hA; exact hp.2.1), (by subst hA; show EV 26 [(List.set R0 (0 + (Int.toNat (cIS R1 (0 + (Int.toNat t24)) 2))) [(AV.int .i64 (cIS R1 (0 + (Int.toNat t24)) 1))]), R1] [(Lf.i t23), (Lf.i (IntKind.wrap .i64 (t24 + (1 : Int))))]; (try simp only [rappS_end, Nat.zero_add, Int.toNat_natCast]); exact ((h.1 c0).2.2.2.1 c1).2.2.2)⟩⟩⟩⟩⟩⟩, imI hA fun e1 => have c1 : (cIS R1 (Int.toNat t24) 2) = (-1) := (by have q := (cmpE (op := .neq) hA e1); subst hA; have q : (cIS R1 (0 + (Int.toNat t24)) 2) = (-1) := q; simpa only [rappS_end, Nat.zero_add, Int.toNat_natCast] using q); ⟨ndI hA (And.intro rfl (And.intro rfl rfl)), ⟨ndI hA (And.intro rfl (And.intro rfl rfl)), ⟨ndI hA (by subst hA; exact hp.1), ⟨ndI hA (by subst hA; exact hp.2.1), (by subst hA; exact ((h.1 c0).2.2.2.2 c1))⟩⟩⟩⟩⟩⟩⟩, imI hA fun e0 => have c0 : t24 ≥ t23 := (by have q := (cmpE (op := .lss) hA e0); subst hA; exact q); ⟨ndI hA (And.intro rfl (And.intro rfl rfl)), ⟨ndI hA (by subst hA; exact hp.1), (by rw [W.rr]; exact (by subst hA; exact (h.2 c0)))⟩⟩⟩

end
set_option maxHeartbeats 0 in
/-- To enter. -/
theorem E25 {Q : Nat → Rs → List Lf → Prop} {a0 : List (List AV)} (h : ∀ EV : Nat → Rs → List Lf → Prop, V25 EV Q →
    EV 9 [[]] [(Lf.r a0), (Lf.r a0), (Lf.i (((List.length a0) : Nat) : Int)), (Lf.i (0 : Int))]) :
    EC Try.prog G25 [] [.r a0] Q := by
  obtain ⟨A, hA⟩ : ∃ A, A = arS := ⟨_, rfl⟩
  refine Inst.enter (I := I25) hA mixed F25_at sg L25 80 rfl fun CE CK Dn EV RR W hp => ?_
  have h := h  EV (V25.of W)
  cbv
  refine ⟨ndI hA (And.intro (by subst hA; show 0 = 0; (first | rfl | simp [rappS_end] | (simp only [rappS_end, List.length_append, List.length_set, List.length_cons, List.length_nil]; omega))) (And.intro rfl (by subst hA; show 0 = 0; (first | rfl | simp [rappS_end] | (simp only [rappS_end, List.length_append, List.length_set, List.length_cons, List.length_nil]; omega))))), ⟨ndI hA (by subst hA; exact vpur), (by subst hA; exact h)⟩⟩

-- 26: signalbox/edf.Late
section
structure V26 (EV Q : Nat → Rs → List Lf → Prop) : Prop where
  p9 : ∀ {R0 : List (List AV)} {R1 : List (List AV)} {t0 : List (List AV)} {t8 : Int} {t9 : Int}, (pursS R0 = true → pursS R1 = true → 
    (t9 < t8 →
      ((0 : Int) ≤ t9) ∧
      (t9 < (((List.length R1) : Nat) : Int)) ∧
      (R1[(Int.toNat t9)]? = some [(AV.int .i64 (cIS R1 (Int.toNat t9) 0))]) ∧
      (t0[(Int.toNat t9)]? = some [(AV.int .i64 (cIS t0 (Int.toNat t9) 0)), (AV.int .i64 (cIS t0 (Int.toNat t9) 1)), (AV.int .i64 (cIS t0 (Int.toNat t9) 2))]) ∧
      (EC Try.prog G53 [] [(Lf.i (cIS t0 (Int.toNat t9) 2))] (fun x rs vs => (x = 0 ∧ ∃ (y1_0 : Int), rs = [] ∧ vs = [.i y1_0] ∧
        (((cIS R1 (Int.toNat t9) 0) > y1_0 →
            (((List.length R0) + 1) ≤ 140737488355328) ∧
            ((((List.length R0) + 1) * 8) ≤ 140737488355328) ∧
            (EV 9 [(R0 ++ [[(AV.int .i64 t9)]]), R1] [(Lf.r t0), (Lf.i t8), (Lf.i (IntKind.wrap .i64 (t9 + (1 : Int))))])) ∧
          ((cIS R1 (Int.toNat t9) 0) ≤ y1_0 →
            EV 9 [R0, R1] [(Lf.r t0), (Lf.i t8), (Lf.i (IntKind.wrap .i64 (t9 + (1 : Int))))])))))) ∧
    (t9 ≥ t8 →
      Q 0 [R0] [])) →
    EV 9 [R0, R1] [.r t0, .i t8, .i t9]

set_option maxHeartbeats 0 in
theorem V26.of {Q : Nat → Rs → List Lf → Prop} {A : Ar} {CE : Nat → Rs → List Lf → (Nat → Rs → List Lf → Prop) → Prop} {CK : Nat → Rs → List Lf → Cont → Prop} {Dn : Nat → List Bool → List AItem → Nat → List Bool → List AV → List ABlk → Prop} {EV RR : Nat → Rs → List Lf → Prop} (W : Wk Try.prog Try.f26 I26 L26 Q A sg CE CK Dn EV RR) : V26 EV Q := by
  have hA := W.hA
  refine ⟨?_⟩
  · intro R0 R1 t0 t8 t9 h
    refine W.step 80 fun hp => ?_
    have h := h hp.1 hp.2.1
    cbv
    refine ⟨imI hA fun e0 => have c0 : t9 < t8 := (by have q := (cmpE (op := .lss) hA e0); subst hA; exact q); ⟨ndI hA (And.intro (by subst hA; exact (h.1 c0).1) (And.intro (by subst hA; exact (h.1 c0).2.1) rfl)), ⟨ndI hA (And.intro rfl (by subst hA; show R1[(0 + (Int.toNat t9))]? = some [(AV.int .i64 (cIS R1 (0 + (Int.toNat t9)) 0))]; (try simp only [rappS_end, Nat.zero_add, Int.toNat_natCast]); exact (h.1 c0).2.2.1)), ⟨ndI hA (And.intro (by subst hA; exact (h.1 c0).1) (by subst hA; exact (h.1 c0).2.2.2.1)), ?_⟩⟩⟩, imI hA fun e0 => have c0 : t9 ≥ t8 := (by have q := (cmpE (op := .lss) hA e0); subst hA; exact q); ⟨ndI hA (And.intro rfl (And.intro rfl rfl)), ⟨ndI hA (by subst hA; exact hp.1), (by rw [W.rr]; exact (by subst hA; exact (h.2 c0)))⟩⟩⟩
    · refine W.call 80 (by rfl) (h.1 c0).2.2.2.2 (by subst hA; rfl) (by subst hA; rfl) ?_
      rintro x rs vs hp1 hq1
      rcases hq1 with ⟨rfl, y1_0, rfl, rfl, k1⟩
      · cbv
        refine ⟨imI hA fun e2 => have c2 : (cIS R1 (Int.toNat t9) 0) > y1_0 := (by have q := (cmpE (op := .gtr) hA e2); subst hA; have q : (cIS R1 (0 + (Int.toNat t9)) 0) > y1_0 := q; simpa only [rappS_end, Nat.zero_add, Int.toNat_natCast] using q); ⟨ndI hA (And.intro rfl (And.intro (Nat.le_refl _) (And.intro (by subst hA; exact (k1.1 c2).1) (by subst hA; exact (k1.1 c2).2.1)))), ⟨ndI hA (And.intro rfl (And.intro rfl (by subst hA; show ((List.length R0) + 1) = (List.length (rappS R0 (List.length R0) [[(AV.int .i64 t9)]])); (first | rfl | simp [rappS_end] | (simp only [rappS_end, List.length_append, List.length_set, List.length_cons, List.length_nil]; omega))))), ⟨ndI hA (And.intro rfl (And.intro rfl rfl)), ⟨ndI hA (by subst hA; exact (vapp hp.1 vpur)), ⟨ndI hA (by subst hA; exact hp.2.1), (by subst hA; show EV 9 [(rappS R0 (List.length R0) [[(AV.int .i64 t9)]]), R1] [(Lf.r t0), (Lf.i t8), (Lf.i (IntKind.wrap .i64 (t9 + (1 : Int))))]; (try simp only [rappS_end, Nat.zero_add, Int.toNat_natCast]); exact (k1.1 c2).2.2)⟩⟩⟩⟩⟩, imI hA fun e2 => have c2 : (cIS R1 (Int.toNat t9) 0) ≤ y1_0 := (by have q := (cmpE (op := .gtr) hA e2); subst hA; have q : (cIS R1 (0 + (Int.toNat t9)) 0) ≤ y1_0 := q; simpa only [rappS_end, Nat.zero_add, Int.toNat_natCast] using q); ⟨ndI hA (And.intro rfl (And.intro rfl rfl)), ⟨ndI hA (And.intro rfl (And.intro rfl rfl)), ⟨ndI hA (by subst hA; exact hp.1), ⟨ndI hA (by subst hA; exact hp.2.1), (by subst hA; exact (k1.2 c2))⟩⟩⟩⟩⟩

end
set_option maxHeartbeats 0 in
/-- To enter. -/
theorem E26 {Q : Nat → Rs → List Lf → Prop} {a0 : List (List AV)} (h : ∀ EV : Nat → Rs → List Lf → Prop, V26 EV Q →
    EC Try.prog G25 [] [(Lf.r a0)] (fun x rs vs => (x = 0 ∧ ∃ (Y0_0 : List (List AV)), rs = [Y0_0] ∧ vs = [] ∧
      (EV 9 [[], Y0_0] [(Lf.r a0), (Lf.i (((List.length Y0_0) : Nat) : Int)), (Lf.i (0 : Int))])))) :
    EC Try.prog G26 [] [.r a0] Q := by
  obtain ⟨A, hA⟩ : ∃ A, A = arS := ⟨_, rfl⟩
  refine Inst.enter (I := I26) hA mixed F26_at sg L26 80 rfl fun CE CK Dn EV RR W hp => ?_
  have h := h  EV (V26.of W)
  cbv
  refine ?_
  · refine W.call 80 (by rfl) h (by subst hA; rfl) (by subst hA; rfl) ?_
    rintro x rs vs hp0 hq0
    rcases hq0 with ⟨rfl, Y0_0, rfl, rfl, k0⟩
    · cbv
      refine ⟨ndI hA rfl, ⟨ndI hA (And.intro (by subst hA; show 0 = 0; (first | rfl | simp [rappS_end] | (simp only [rappS_end, List.length_append, List.length_set, List.length_cons, List.length_nil]; omega))) (And.intro rfl (by subst hA; show 0 = 0; (first | rfl | simp [rappS_end] | (simp only [rappS_end, List.length_append, List.length_set, List.length_cons, List.length_nil]; omega))))), ⟨ndI hA (And.intro rfl (And.intro rfl rfl)), ⟨ndI hA (by subst hA; exact vpur), ⟨ndI hA (by subst hA; exact hp0.1), (by subst hA; exact k0)⟩⟩⟩⟩⟩

-- 27: signalbox/edf.Order
section
structure V27 (EV Q : Nat → Rs → List Lf → Prop) : Prop where
  p17 : ∀ {R0 : List (List AV)} {t0 : List (List AV)} {t1 : Int} {t19 : Int} {t20 : Int}, (pursS R0 = true → 
    (t20 < t19 →
      ((0 : Int) ≤ t20) ∧
      (t20 < (((List.length R0) : Nat) : Int)) ∧
      (R0[(Int.toNat t20)]? = some [(AV.int .i64 (cIS R0 (Int.toNat t20) 0))]) ∧
      (EV 17 [(List.set R0 (Int.toNat t20) [(AV.int .i64 (-1))])] [(Lf.r t0), (Lf.i t1), (Lf.i t19), (Lf.i (IntKind.wrap .i64 (t20 + (1 : Int))))])) ∧
    (t20 ≥ t19 →
      EC Try.prog G54 [] [(Lf.r t0)] (fun x rs vs => (x = 0 ∧ ∃ (Y1_0 : List (List AV)), rs = [Y1_0] ∧ vs = [] ∧
        (EV 34 [R0, Y1_0] [(Lf.i t1), (Lf.i (((List.length Y1_0) : Nat) : Int)), (Lf.i (0 : Int))]))))) →
    EV 17 [R0] [.r t0, .i t1, .i t19, .i t20]
  p34 : ∀ {R0 : List (List AV)} {R1 : List (List AV)} {t1 : Int} {t29 : Int} {t30 : Int}, (pursS R0 = true → pursS R1 = true → 
    (t30 < t29 →
      ((0 : Int) ≤ t30) ∧
      (t30 < (((List.length R1) : Nat) : Int)) ∧
      (R1[(Int.toNat t30)]? = some [(AV.int .i64 (cIS R1 (Int.toNat t30) 0)), (AV.int .i64 (cIS R1 (Int.toNat t30) 1)), (AV.int .i64 (cIS R1 (Int.toNat t30) 2))]) ∧
      (EV 48 [R0, R1] [(Lf.i t1), (Lf.i (cIS R1 (Int.toNat t30) 0)), (Lf.i t29), (Lf.i t30), (Lf.i (cIS R1 (Int.toNat t30) 0)), (Lf.i (cIS R1 (Int.toNat t30) 1)), (Lf.i (cIS R1 (Int.toNat t30) 2))])) ∧
    (t30 ≥ t29 →
      Q 0 [R0] [])) →
    EV 34 [R0, R1] [.i t1, .i t29, .i t30]
  p48 : ∀ {R0 : List (List AV)} {R1 : List (List AV)} {t1 : Int} {t9 : Int} {t29 : Int} {t30 : Int} {tb1_0 : Int} {tb1_1 : Int} {tb1_2 : Int}, (pursS R0 = true → pursS R1 = true → 
    (t9 < (arS.mn tb1_1 t1) →
      ((0 : Int) ≤ t9) ∧
      (t9 < (((List.length R0) : Nat) : Int)) ∧
      (R0[(Int.toNat t9)]? = some [(AV.int .i64 (cIS R0 (Int.toNat t9) 0))]) ∧
      (EV 48 [(List.set R0 (Int.toNat t9) [(AV.int .i64 tb1_2)]), R1] [(Lf.i t1), (Lf.i (IntKind.wrap .i64 (t9 + (1 : Int)))), (Lf.i t29), (Lf.i t30), (Lf.i tb1_0), (Lf.i tb1_1), (Lf.i tb1_2)])) ∧
    (t9 ≥ (arS.mn tb1_1 t1) →
      EV 34 [R0, R1] [(Lf.i t1), (Lf.i t29), (Lf.i (IntKind.wrap .i64 (t30 + (1 : Int))))])) →
    EV 48 [R0, R1] [.i t1, .i t9, .i t29, .i t30, .i tb1_0, .i tb1_1, .i tb1_2]

set_option maxHeartbeats 0 in
theorem V27.of {Q : Nat → Rs → List Lf → Prop} {A : Ar} {CE : Nat → Rs → List Lf → (Nat → Rs → List Lf → Prop) → Prop} {CK : Nat → Rs → List Lf → Cont → Prop} {Dn : Nat → List Bool → List AItem → Nat → List Bool → List AV → List ABlk → Prop} {EV RR : Nat → Rs → List Lf → Prop} (W : Wk Try.prog Try.f27 I27 L27 Q A sg CE CK Dn EV RR) : V27 EV Q := by
  have hA := W.hA
  refine ⟨?_, ?_, ?_⟩
  · intro R0 t0 t1 t19 t20 h
    refine W.step 80 fun hp => ?_
    have h := h hp.1
    cbv
    refine ⟨imI hA fun e0 => have c0 : t20 < t19 := (by have q := (cmpE (op := .lss) hA e0); subst hA; exact q); ⟨ndI hA (And.intro (by subst hA; exact (h.1 c0).1) (And.intro (by subst hA; exact (h.1 c0).2.1) rfl)), ⟨ndI hA (And.intro rfl (by subst hA; show R0[(0 + (Int.toNat t20))]? = some [(AV.int .i64 (cIS R0 (0 + (Int.toNat t20)) 0))]; (try simp only [rappS_end, Nat.zero_add, Int.toNat_natCast]); exact (h.1 c0).2.2.1)), ⟨ndI hA (And.intro (by subst hA; show (List.length R0) = (List.length (List.set R0 (0 + (Int.toNat t20)) [(AV.int .i64 (-1))])); (first | rfl | simp [rappS_end] | (simp only [rappS_end, List.length_append, List.length_set, List.length_cons, List.length_nil]; omega))) (And.intro rfl (by subst hA; show (List.length R0) = (List.length (List.set R0 (0 + (Int.toNat t20)) [(AV.int .i64 (-1))])); (first | rfl | simp [rappS_end] | (simp only [rappS_end, List.length_append, List.length_set, List.length_cons, List.length_nil]; omega))))), ⟨ndI hA (by subst hA; exact (vset hp.1 rfl)), (by subst hA; show EV 17 [(List.set R0 (0 + (Int.toNat t20)) [(AV.int .i64 (-1))])] [(Lf.r t0), (Lf.i t1), (Lf.i t19), (Lf.i (IntKind.wrap .i64 (t20 + (1 : Int))))]; (try simp only [rappS_end, Nat.zero_add, Int.toNat_natCast]); exact (h.1 c0).2.2.2)⟩⟩⟩⟩, imI hA fun e0 => have c0 : t20 ≥ t19 := (by have q := (cmpE (op := .lss) hA e0); subst hA; exact q); ?_⟩
    · refine W.call 80 (by rfl) (h.2 c0) (by subst hA; rfl) (by subst hA; rfl) ?_
      rintro x rs vs hp1 hq1
      rcases hq1 with ⟨rfl, Y1_0, rfl, rfl, k1⟩
      · cbv
        refine ⟨ndI hA rfl, ⟨ndI hA (And.intro rfl (And.intro rfl rfl)), ⟨ndI hA (And.intro rfl (And.intro rfl rfl)), ⟨ndI hA (by subst hA; exact hp.1), ⟨ndI hA (by subst hA; exact hp1.1), (by subst hA; exact k1)⟩⟩⟩⟩⟩
  · intro R0 R1 t1 t29 t30 h
    refine W.step 80 fun hp => ?_
    have h := h hp.1 hp.2.1
    cbv
    refine ⟨imI hA fun e0 => have c0 : t30 < t29 := (by have q := (cmpE (op := .lss) hA e0); subst hA; exact q); ⟨ndI hA (And.intro (by subst hA; exact (h.1 c0).1) (And.intro (by subst hA; exact (h.1 c0).2.1) rfl)), ⟨ndI hA (And.intro rfl (by subst hA; show R1[(0 + (Int.toNat t30))]? = some [(AV.int .i64 (cIS R1 (0 + (Int.toNat t30)) 0)), (AV.int .i64 (cIS R1 (0 + (Int.toNat t30)) 1)), (AV.int .i64 (cIS R1 (0 + (Int.toNat t30)) 2))]; (try simp only [rappS_end, Nat.zero_add, Int.toNat_natCast]); exact (h.1 c0).2.2.1)), ⟨ndI hA (And.intro rfl (And.intro rfl rfl)), ⟨ndI hA (And.intro rfl (And.intro rfl rfl)), ⟨ndI hA (by subst hA; exact hp.1), ⟨ndI hA (by subst hA; exact hp.2.1), (by subst hA; show EV 48 [R0, R1] [(Lf.i t1), (Lf.i (cIS R1 (0 + (Int.toNat t30)) 0)), (Lf.i t29), (Lf.i t30), (Lf.i (cIS R1 (0 + (Int.toNat t30)) 0)), (Lf.i (cIS R1 (0 + (Int.toNat t30)) 1)), (Lf.i (cIS R1 (0 + (Int.toNat t30)) 2))]; (try simp only [rappS_end, Nat.zero_add, Int.toNat_natCast]); exact (h.1 c0).2.2.2)⟩⟩⟩⟩⟩⟩, imI hA fun e0 => have c0 : t30 ≥ t29 := (by have q := (cmpE (op := .lss) hA e0); subst hA; exact q); ⟨ndI hA (And.intro rfl (And.intro rfl rfl)), ⟨ndI hA (by subst hA; exact hp.1), (by rw [W.rr]; exact (by subst hA; exact (h.2 c0)))⟩⟩⟩
  · intro R0 R1 t1 t9 t29 t30 tb1_0 tb1_1 tb1_2 h
    refine W.step 80 fun hp => ?_
    have h := h hp.1 hp.2.1
    cbv
    refine ⟨imI hA fun e0 => have c0 : t9 < (arS.mn tb1_1 t1) := (by have q := (cmpE (op := .lss) hA e0); subst hA; exact q); ⟨ndI hA (And.intro (by subst hA; exact (h.1 c0).1) (And.intro (by subst hA; exact (h.1 c0).2.1) rfl)), ⟨ndI hA (And.intro rfl (by subst hA; show R0[(0 + (Int.toNat t9))]? = some [(AV.int .i64 (cIS R0 (0 + (Int.toNat t9)) 0))]; (try simp only [rappS_end, Nat.zero_add, Int.toNat_natCast]); exact (h.1 c0).2.2.1)), ⟨ndI hA (And.intro (by subst hA; show (List.length R0) = (List.length (List.set R0 (0 + (Int.toNat t9)) [(AV.int .i64 tb1_2)])); (first | rfl | simp [rappS_end] | (simp only [rappS_end, List.length_append, List.length_set, List.length_cons, List.length_nil]; omega))) (And.intro rfl (by subst hA; show (List.length R0) = (List.length (List.set R0 (0 + (Int.toNat t9)) [(AV.int .i64 tb1_2)])); (first | rfl | simp [rappS_end] | (simp only [rappS_end, List.length_append, List.length_set, List.length_cons, List.length_nil]; omega))))), ⟨ndI hA (And.intro rfl (And.intro rfl rfl)), ⟨ndI hA (by subst hA; exact (vset hp.1 rfl)), ⟨ndI hA (by subst hA; exact hp.2.1), (by subst hA; show EV 48 [(List.set R0 (0 + (Int.toNat t9)) [(AV.int .i64 tb1_2)]), R1] [(Lf.i t1), (Lf.i (IntKind.wrap .i64 (t9 + (1 : Int)))), (Lf.i t29), (Lf.i t30), (Lf.i tb1_0), (Lf.i tb1_1), (Lf.i tb1_2)]; (try simp only [rappS_end, Nat.zero_add, Int.toNat_natCast]); exact (h.1 c0).2.2.2)⟩⟩⟩⟩⟩⟩, imI hA fun e0 => have c0 : t9 ≥ (arS.mn tb1_1 t1) := (by have q := (cmpE (op := .lss) hA e0); subst hA; exact q); ⟨ndI hA (And.intro rfl (And.intro rfl rfl)), ⟨ndI hA (And.intro rfl (And.intro rfl rfl)), ⟨ndI hA (by subst hA; exact hp.1), ⟨ndI hA (by subst hA; exact hp.2.1), (by subst hA; exact (h.2 c0))⟩⟩⟩⟩⟩

end
set_option maxHeartbeats 0 in
/-- To enter. -/
theorem E27 {Q : Nat → Rs → List Lf → Prop} {a0 : List (List AV)} {a1 : Int} (h : ∀ EV : Nat → Rs → List Lf → Prop, V27 EV Q →
    (a1 ≥ (0 : Int) →
      (a1 > (4096 : Int) →
        Q 0 [[]] []) ∧
      (a1 ≤ (4096 : Int) →
        ((0 : Int) ≤ a1) ∧
        (a1 ≤ (140737488355328 : Int)) ∧
        ((a1 * ((8 : Nat) : Int)) ≤ (140737488355328 : Int)) ∧
        (EV 17 [(List.replicate (Int.toNat a1) [(AV.int .i64 (0 : Int))])] [(Lf.r a0), (Lf.i a1), (Lf.i (((Int.toNat a1) : Nat) : Int)), (Lf.i (0 : Int))]))) ∧
    (a1 < (0 : Int) →
      Q 0 [[]] [])) :
    EC Try.prog G27 [] [.r a0, .i a1] Q := by
  obtain ⟨A, hA⟩ : ∃ A, A = arS := ⟨_, rfl⟩
  refine Inst.enter (I := I27) hA mixed F27_at sg L27 80 rfl fun CE CK Dn EV RR W hp => ?_
  have h := h  EV (V27.of W)
  cbv
  refine ⟨imI hA fun e0 => have c0 : a1 ≥ (0 : Int) := (by have q := (cmpE (op := .lss) hA e0); subst hA; exact q); ⟨imI hA fun e1 => have c1 : a1 > (4096 : Int) := (by have q := (cmpE (op := .gtr) hA e1); subst hA; exact q); ⟨ndI hA (And.intro (by subst hA; show 0 = 0; (first | rfl | simp [rappS_end] | (simp only [rappS_end, List.length_append, List.length_set, List.length_cons, List.length_nil]; omega))) (And.intro rfl (by subst hA; show 0 = 0; (first | rfl | simp [rappS_end] | (simp only [rappS_end, List.length_append, List.length_set, List.length_cons, List.length_nil]; omega))))), ⟨ndI hA (by subst hA; exact vpur), (by rw [W.rr]; exact (by subst hA; exact ((h.1 c0).1 c1)))⟩⟩, imI hA fun e1 => have c1 : a1 ≤ (4096 : Int) := (by have q := (cmpE (op := .gtr) hA e1); subst hA; exact q); ⟨ndI hA (And.intro (by subst hA; exact ((h.1 c0).2 c1).1) (And.intro (by subst hA; exact Int.le_refl _) (And.intro (by subst hA; exact ((h.1 c0).2 c1).2.1) (by subst hA; exact ((h.1 c0).2 c1).2.2.1)))), ⟨ndI hA (by subst hA; show (Int.toNat a1) = (List.length (List.replicate (Int.toNat a1) [(AV.int .i64 (0 : Int))])); (first | rfl | simp [rappS_end] | (simp only [rappS_end, List.length_append, List.length_set, List.length_cons, List.length_nil]; omega))), ⟨ndI hA (And.intro (by subst hA; show (Int.toNat a1) = (List.length (List.replicate (Int.toNat a1) [(AV.int .i64 (0 : Int))])); (first | rfl | simp [rappS_end] | (simp only [rappS_end, List.length_append, List.length_set, List.length_cons, List.length_nil]; omega))) (And.intro rfl (by subst hA; show (Int.toNat a1) = (List.length (List.replicate (Int.toNat a1) [(AV.int .i64 (0 : Int))])); (first | rfl | simp [rappS_end] | (simp only [rappS_end, List.length_append, List.length_set, List.length_cons, List.length_nil]; omega))))), ⟨ndI hA (by subst hA; exact (vrep rfl)), (by subst hA; exact ((h.1 c0).2 c1).2.2.2)⟩⟩⟩⟩⟩, imI hA fun e0 => have c0 : a1 < (0 : Int) := (by have q := (cmpE (op := .lss) hA e0); subst hA; exact q); ⟨ndI hA (And.intro (by subst hA; show 0 = 0; (first | rfl | simp [rappS_end] | (simp only [rappS_end, List.length_append, List.length_set, List.length_cons, List.length_nil]; omega))) (And.intro rfl (by subst hA; show 0 = 0; (first | rfl | simp [rappS_end] | (simp only [rappS_end, List.length_append, List.length_set, List.length_cons, List.length_nil]; omega))))), ⟨ndI hA (by subst hA; exact vpur), (by rw [W.rr]; exact (by subst hA; exact (h.2 c0)))⟩⟩⟩

-- 6: signalbox/signalboxlaw33.EdfRuns DRAWN
section
structure V6 (EV Q : Nat → Rs → List Lf → Prop) : Prop where
  p39 : ∀ {R0 : List (List AV)} {R1 : List (List AV)} {R2 : List (List AV)} {R3 : List (List AV)} {R4 : List (List AV)} {t5 : List (List AV)} {t12 : Int} {t55 : Int} {t56 : Int}, (pursS R0 = true → pursS R1 = true → pursS R2 = true → pursS R3 = true → pursS R4 = true → 
    (t56 < t55 →
      ((0 : Int) ≤ t56) ∧
      (t56 < (((List.length R2) : Nat) : Int)) ∧
      (R2[(Int.toNat t56)]? = some [(AV.int .i64 (cIS R2 (Int.toNat t56) 0))]) ∧
      (t56 < (((List.length R1) : Nat) : Int)) ∧
      (R1[(Int.toNat t56)]? = some [(AV.int .i64 (cIS R1 (Int.toNat t56) 0))]) ∧
      ((cIS R2 (Int.toNat t56) 0) ≠ (cIS R1 (Int.toNat t56) 0) →
        Q 0 [] [(Lf.b false)]) ∧
      ((cIS R2 (Int.toNat t56) 0) = (cIS R1 (Int.toNat t56) 0) →
        ((0 : Int) ≤ t56) ∧
        (t56 < (((List.length R1) : Nat) : Int)) ∧
        (R1[(Int.toNat t56)]? = some [(AV.int .i64 (cIS R1 (Int.toNat t56) 0))]) ∧
        (t5[(Int.toNat t56)]? = some [(AV.int .i64 (cIS t5 (Int.toNat t56) 0)), (AV.int .i64 (cIS t5 (Int.toNat t56) 1)), (AV.int .i64 (cIS t5 (Int.toNat t56) 2))]) ∧
        ((cIS R1 (Int.toNat t56) 0) > (cIS t5 (Int.toNat t56) 2) →
          (t12 < (((List.length R3) : Nat) : Int) →
            ((0 : Int) ≤ t12) ∧
            (t12 < (((List.length R3) : Nat) : Int)) ∧
            (R3[(Int.toNat t12)]? = some [(AV.int .i64 (cIS R3 (Int.toNat t12) 0))]) ∧
            ((cIS R3 (Int.toNat t12) 0) ≠ t56 →
              Q 0 [] [(Lf.b false)]) ∧
            ((cIS R3 (Int.toNat t12) 0) = t56 →
              EV 39 [R0, R1, R2, R3, R4] [(Lf.r t5), (Lf.i (IntKind.wrap .i64 (t12 + (1 : Int)))), (Lf.i t55), (Lf.i (IntKind.wrap .i64 (t56 + (1 : Int))))])) ∧
          (t12 ≥ (((List.length R3) : Nat) : Int) →
            Q 0 [] [(Lf.b false)])) ∧
        ((cIS R1 (Int.toNat t56) 0) ≤ (cIS t5 (Int.toNat t56) 2) →
          EV 39 [R0, R1, R2, R3, R4] [(Lf.r t5), (Lf.i t12), (Lf.i t55), (Lf.i (IntKind.wrap .i64 (t56 + (1 : Int))))]))) ∧
    (t56 ≥ t55 →
      EV 76 [R0, R3, R4] [(Lf.i t12), (Lf.i (((List.length R4) : Nat) : Int)), (Lf.i (0 : Int))])) →
    EV 39 [R0, R1, R2, R3, R4] [.r t5, .i t12, .i t55, .i t56]
  p76 : ∀ {R0 : List (List AV)} {R1 : List (List AV)} {R2 : List (List AV)} {t12 : Int} {t94 : Int} {t95 : Int}, (pursS R0 = true → pursS R1 = true → pursS R2 = true → 
    (t95 < t94 →
      ((0 : Int) ≤ t95) ∧
      (t95 < (((List.length R2) : Nat) : Int)) ∧
      (R2[(Int.toNat t95)]? = some [(AV.int .i64 (cIS R2 (Int.toNat t95) 0))]) ∧
      (t95 < (((List.length R0) : Nat) : Int) →
        ((0 : Int) ≤ t95) ∧
        (t95 < (((List.length R0) : Nat) : Int)) ∧
        (R0[(Int.toNat t95)]? = some [(AV.int .i64 (cIS R0 (Int.toNat t95) 0))]) ∧
        (EV 94 [R0, R1, R2] [(Lf.i t12), (Lf.i (cIS R2 (Int.toNat t95) 0)), (Lf.i (cIS R0 (Int.toNat t95) 0)), (Lf.i t94), (Lf.i t95)])) ∧
      (t95 ≥ (((List.length R0) : Nat) : Int) →
        EV 94 [R0, R1, R2] [(Lf.i t12), (Lf.i (cIS R2 (Int.toNat t95) 0)), (Lf.i (-1)), (Lf.i t94), (Lf.i t95)])) ∧
    (t95 ≥ t94 →
      Q 0 [] [(Lf.b (t12 == (((List.length R1) : Nat) : Int)))])) →
    EV 76 [R0, R1, R2] [.i t12, .i t94, .i t95]
  p94 : ∀ {R0 : List (List AV)} {R1 : List (List AV)} {R2 : List (List AV)} {t12 : Int} {t15 : Int} {t16 : Int} {t94 : Int} {t95 : Int}, (pursS R0 = true → pursS R1 = true → pursS R2 = true → 
    (t15 ≠ t16 →
      Q 0 [] [(Lf.b false)]) ∧
    (t15 = t16 →
      EV 76 [R0, R1, R2] [(Lf.i t12), (Lf.i t94), (Lf.i (IntKind.wrap .i64 (t95 + (1 : Int))))])) →
    EV 94 [R0, R1, R2] [.i t12, .i t15, .i t16, .i t94, .i t95]

set_option maxHeartbeats 0 in
theorem V6.of {Q : Nat → Rs → List Lf → Prop} {A : Ar} {CE : Nat → Rs → List Lf → (Nat → Rs → List Lf → Prop) → Prop} {CK : Nat → Rs → List Lf → Cont → Prop} {Dn : Nat → List Bool → List AItem → Nat → List Bool → List AV → List ABlk → Prop} {EV RR : Nat → Rs → List Lf → Prop} (W : Wk Try.prog Try.f6 I6 L6 Q A sg CE CK Dn EV RR) : V6 EV Q := by
  have hA := W.hA
  refine ⟨?_, ?_, ?_⟩
  · intro R0 R1 R2 R3 R4 t5 t12 t55 t56 h
    refine W.step 80 fun hp => ?_
    have h := h hp.1 hp.2.1 hp.2.2.1 hp.2.2.2.1 hp.2.2.2.2.1
    cbv
    refine ⟨imI hA fun e0 => have c0 : t56 < t55 := (by have q := (cmpE (op := .lss) hA e0); subst hA; exact q); ⟨ndI hA (And.intro (by subst hA; exact (h.1 c0).1) (And.intro (by subst hA; exact (h.1 c0).2.1) rfl)), ⟨ndI hA (And.intro rfl (by subst hA; show R2[(0 + (Int.toNat t56))]? = some [(AV.int .i64 (cIS R2 (0 + (Int.toNat t56)) 0))]; (try simp only [rappS_end, Nat.zero_add, Int.toNat_natCast]); exact (h.1 c0).2.2.1)), ⟨ndI hA (And.intro (by subst hA; exact (h.1 c0).1) (And.intro (by subst hA; exact (h.1 c0).2.2.2.1) rfl)), ⟨ndI hA (And.intro rfl (by subst hA; show R1[(0 + (Int.toNat t56))]? = some [(AV.int .i64 (cIS R1 (0 + (Int.toNat t56)) 0))]; (try simp only [rappS_end, Nat.zero_add, Int.toNat_natCast]); exact (h.1 c0).2.2.2.2.1)), ⟨imI hA fun e1 => have c1 : (cIS R2 (Int.toNat t56) 0) ≠ (cIS R1 (Int.toNat t56) 0) := (by have q := (cmpE (op := .neq) hA e1); subst hA; have q : (cIS R2 (0 + (Int.toNat t56)) 0) ≠ (cIS R1 (0 + (Int.toNat t56)) 0) := q; simpa only [rappS_end, Nat.zero_add, Int.toNat_natCast] using q); (by rw [W.rr]; exact (by subst hA; exact ((h.1 c0).2.2.2.2.2.1 c1))), imI hA fun e1 => have c1 : (cIS R2 (Int.toNat t56) 0) = (cIS R1 (Int.toNat t56) 0) := (by have q := (cmpE (op := .neq) hA e1); subst hA; have q : (cIS R2 (0 + (Int.toNat t56)) 0) = (cIS R1 (0 + (Int.toNat t56)) 0) := q; simpa only [rappS_end, Nat.zero_add, Int.toNat_natCast] using q); ⟨ndI hA (And.intro (by subst hA; exact ((h.1 c0).2.2.2.2.2.2 c1).1) (And.intro (by subst hA; exact ((h.1 c0).2.2.2.2.2.2 c1).2.1) rfl)), ⟨ndI hA (And.intro rfl (by subst hA; show R1[(0 + (Int.toNat t56))]? = some [(AV.int .i64 (cIS R1 (0 + (Int.toNat t56)) 0))]; (try simp only [rappS_end, Nat.zero_add, Int.toNat_natCast]); exact ((h.1 c0).2.2.2.2.2.2 c1).2.2.1)), ⟨ndI hA (And.intro (by subst hA; exact ((h.1 c0).2.2.2.2.2.2 c1).1) (by subst hA; exact ((h.1 c0).2.2.2.2.2.2 c1).2.2.2.1)), ⟨imI hA fun e2 => have c2 : (cIS R1 (Int.toNat t56) 0) > (cIS t5 (Int.toNat t56) 2) := (by have q := (cmpE (op := .gtr) hA e2); subst hA; have q : (cIS R1 (0 + (Int.toNat t56)) 0) > (cIS t5 (Int.toNat t56) 2) := q; simpa only [rappS_end, Nat.zero_add, Int.toNat_natCast] using q); ⟨ndI hA rfl, ⟨imI hA fun e3 => have c3 : t12 < (((List.length R3) : Nat) : Int) := (by have q := (cmpE (op := .geq) hA e3); subst hA; exact q); ⟨ndI hA (And.intro (by subst hA; exact ((((h.1 c0).2.2.2.2.2.2 c1).2.2.2.2.1 c2).1 c3).1) (And.intro (by subst hA; exact ((((h.1 c0).2.2.2.2.2.2 c1).2.2.2.2.1 c2).1 c3).2.1) rfl)), ⟨ndI hA (And.intro rfl (by subst hA; show R3[(0 + (Int.toNat t12))]? = some [(AV.int .i64 (cIS R3 (0 + (Int.toNat t12)) 0))]; (try simp only [rappS_end, Nat.zero_add, Int.toNat_natCast]); exact ((((h.1 c0).2.2.2.2.2.2 c1).2.2.2.2.1 c2).1 c3).2.2.1)), ⟨imI hA fun e4 => have c4 : (cIS R3 (Int.toNat t12) 0) ≠ t56 := (by have q := (cmpE (op := .neq) hA e4); subst hA; have q : (cIS R3 (0 + (Int.toNat t12)) 0) ≠ t56 := q; simpa only [rappS_end, Nat.zero_add, Int.toNat_natCast] using q); (by rw [W.rr]; exact (by subst hA; exact (((((h.1 c0).2.2.2.2.2.2 c1).2.2.2.2.1 c2).1 c3).2.2.2.1 c4))), imI hA fun e4 => have c4 : (cIS R3 (Int.toNat t12) 0) = t56 := (by have q := (cmpE (op := .neq) hA e4); subst hA; have q : (cIS R3 (0 + (Int.toNat t12)) 0) = t56 := q; simpa only [rappS_end, Nat.zero_add, Int.toNat_natCast] using q); ⟨ndI hA (And.intro rfl (And.intro rfl rfl)), ⟨ndI hA (And.intro rfl (And.intro rfl rfl)), ⟨ndI hA (And.intro rfl (And.intro rfl rfl)), ⟨ndI hA (And.intro rfl (And.intro rfl rfl)), ⟨ndI hA (And.intro rfl (And.intro rfl rfl)), ⟨ndI hA (by subst hA; exact hp.1), ⟨ndI hA (by subst hA; exact hp.2.1), ⟨ndI hA (by subst hA; exact hp.2.2.1), ⟨ndI hA (by subst hA; exact hp.2.2.2.1), ⟨ndI hA (by subst hA; exact hp.2.2.2.2.1), (by subst hA; exact (((((h.1 c0).2.2.2.2.2.2 c1).2.2.2.2.1 c2).1 c3).2.2.2.2 c4))⟩⟩⟩⟩⟩⟩⟩⟩⟩⟩⟩⟩⟩, imI hA fun e3 => have c3 : t12 ≥ (((List.length R3) : Nat) : Int) := (by have q := (cmpE (op := .geq) hA e3); subst hA; exact q); (by rw [W.rr]; exact (by subst hA; exact ((((h.1 c0).2.2.2.2.2.2 c1).2.2.2.2.1 c2).2 c3)))⟩⟩, imI hA fun e2 => have c2 : (cIS R1 (Int.toNat t56) 0) ≤ (cIS t5 (Int.toNat t56) 2) := (by have q := (cmpE (op := .gtr) hA e2); subst hA; have q : (cIS R1 (0 + (Int.toNat t56)) 0) ≤ (cIS t5 (Int.toNat t56) 2) := q; simpa only [rappS_end, Nat.zero_add, Int.toNat_natCast] using q); ⟨ndI hA (And.intro rfl (And.intro rfl rfl)), ⟨ndI hA (And.intro rfl (And.intro rfl rfl)), ⟨ndI hA (And.intro rfl (And.intro rfl rfl)), ⟨ndI hA (And.intro rfl (And.intro rfl rfl)), ⟨ndI hA (And.intro rfl (And.intro rfl rfl)), ⟨ndI hA (by subst hA; exact hp.1), ⟨ndI hA (by subst hA; exact hp.2.1), ⟨ndI hA (by subst hA; exact hp.2.2.1), ⟨ndI hA (by subst hA; exact hp.2.2.2.1), ⟨ndI hA (by subst hA; exact hp.2.2.2.2.1), (by subst hA; exact (((h.1 c0).2.2.2.2.2.2 c1).2.2.2.2.2 c2))⟩⟩⟩⟩⟩⟩⟩⟩⟩⟩⟩⟩⟩⟩⟩⟩⟩⟩⟩, imI hA fun e0 => have c0 : t56 ≥ t55 := (by have q := (cmpE (op := .lss) hA e0); subst hA; exact q); ⟨ndI hA rfl, ⟨ndI hA (And.intro rfl (And.intro rfl rfl)), ⟨ndI hA (And.intro rfl (And.intro rfl rfl)), ⟨ndI hA (And.intro rfl (And.intro rfl rfl)), ⟨ndI hA (by subst hA; exact hp.1), ⟨ndI hA (by subst hA; exact hp.2.2.2.1), ⟨ndI hA (by subst hA; exact hp.2.2.2.2.1), (by subst hA; exact (h.2 c0))⟩⟩⟩⟩⟩⟩⟩⟩
  · intro R0 R1 R2 t12 t94 t95 h
    refine W.step 80 fun hp => ?_
    have h := h hp.1 hp.2.1 hp.2.2.1
    cbv
    refine ⟨imI hA fun e0 => have c0 : t95 < t94 := (by have q := (cmpE (op := .lss) hA e0); subst hA; exact q); ⟨ndI hA (And.intro (by subst hA; exact (h.1 c0).1) (And.intro (by subst hA; exact (h.1 c0).2.1) rfl)), ⟨ndI hA (And.intro rfl (by subst hA; show R2[(0 + (Int.toNat t95))]? = some [(AV.int .i64 (cIS R2 (0 + (Int.toNat t95)) 0))]; (try simp only [rappS_end, Nat.zero_add, Int.toNat_natCast]); exact (h.1 c0).2.2.1)), ⟨ndI hA rfl, ⟨imI hA fun e1 => have c1 : t95 < (((List.length R0) : Nat) : Int) := (by have q := (cmpE (op := .lss) hA e1); subst hA; exact q); ⟨ndI hA (And.intro (by subst hA; exact ((h.1 c0).2.2.2.1 c1).1) (And.intro (by subst hA; exact ((h.1 c0).2.2.2.1 c1).2.1) rfl)), ⟨ndI hA (And.intro rfl (by subst hA; show R0[(0 + (Int.toNat t95))]? = some [(AV.int .i64 (cIS R0 (0 + (Int.toNat t95)) 0))]; (try simp only [rappS_end, Nat.zero_add, Int.toNat_natCast]); exact ((h.1 c0).2.2.2.1 c1).2.2.1)), ⟨ndI hA (And.intro rfl (And.intro rfl rfl)), ⟨ndI hA (And.intro rfl (And.intro rfl rfl)), ⟨ndI hA (And.intro rfl (And.intro rfl rfl)), ⟨ndI hA (by subst hA; exact hp.1), ⟨ndI hA (by subst hA; exact hp.2.1), ⟨ndI hA (by subst hA; exact hp.2.2.1), (by subst hA; show EV 94 [R0, R1, R2] [(Lf.i t12), (Lf.i (cIS R2 (0 + (Int.toNat t95)) 0)), (Lf.i (cIS R0 (0 + (Int.toNat t95)) 0)), (Lf.i t94), (Lf.i t95)]; (try simp only [rappS_end, Nat.zero_add, Int.toNat_natCast]); exact ((h.1 c0).2.2.2.1 c1).2.2.2)⟩⟩⟩⟩⟩⟩⟩⟩, imI hA fun e1 => have c1 : t95 ≥ (((List.length R0) : Nat) : Int) := (by have q := (cmpE (op := .lss) hA e1); subst hA; exact q); ⟨ndI hA (And.intro rfl (And.intro rfl rfl)), ⟨ndI hA (And.intro rfl (And.intro rfl rfl)), ⟨ndI hA (And.intro rfl (And.intro rfl rfl)), ⟨ndI hA (by subst hA; exact hp.1), ⟨ndI hA (by subst hA; exact hp.2.1), ⟨ndI hA (by subst hA; exact hp.2.2.1), (by subst hA; show EV 94 [R0, R1, R2] [(Lf.i t12), (Lf.i (cIS R2 (0 + (Int.toNat t95)) 0)), (Lf.i (-1)), (Lf.i t94), (Lf.i t95)]; (try simp only [rappS_end, Nat.zero_add, Int.toNat_natCast]); exact ((h.1 c0).2.2.2.2 c1))⟩⟩⟩⟩⟩⟩⟩⟩⟩⟩, imI hA fun e0 => have c0 : t95 ≥ t94 := (by have q := (cmpE (op := .lss) hA e0); subst hA; exact q); ⟨ndI hA rfl, (by rw [W.rr]; exact (by subst hA; exact (h.2 c0)))⟩⟩
  · intro R0 R1 R2 t12 t15 t16 t94 t95 h
    refine W.step 80 fun hp => ?_
    have h := h hp.1 hp.2.1 hp.2.2.1
    cbv
    refine ⟨imI hA fun e0 => have c0 : t15 ≠ t16 := (by have q := (cmpE (op := .neq) hA e0); subst hA; exact q); (by rw [W.rr]; exact (by subst hA; exact (h.1 c0))), imI hA fun e0 => have c0 : t15 = t16 := (by have q := (cmpE (op := .neq) hA e0); subst hA; exact q); ⟨ndI hA (And.intro rfl (And.intro rfl rfl)), ⟨ndI hA (And.intro rfl (And.intro rfl rfl)), ⟨ndI hA (And.intro rfl (And.intro rfl rfl)), ⟨ndI hA (by subst hA; exact hp.1), ⟨ndI hA (by subst hA; exact hp.2.1), ⟨ndI hA (by subst hA; exact hp.2.2.1), (by subst hA; exact (h.2 c0))⟩⟩⟩⟩⟩⟩⟩

end
set_option maxHeartbeats 0 in
/-- To enter. -/
theorem E6 {Q : Nat → Rs → List Lf → Prop} {a0 : List (List AV)} {a1 : Int} (h : ∀ EV : Nat → Rs → List Lf → Prop, V6 EV Q →
    EC Try.prog G22 [] [] (fun x rs vs => (x = 0 ∧ ∃ (y0_0 : Bool), rs = [] ∧ vs = [.b y0_0] ∧
      ((y0_0 = false →
          Q 0 [] [(Lf.b false)]) ∧
        (y0_0 = true →
          EC Try.prog G23 [] [(Lf.r a0)] (fun x rs vs => (x = 0 ∧ ∃ (Y2_0 : List (List AV)) (y2_1 : Bool), rs = [Y2_0] ∧ vs = [.b y2_1] ∧
            ((y2_1 = true →
                (a1 > (1200 : Int) →
                  Q 0 [] [(Lf.b true)]) ∧
                (a1 ≤ (1200 : Int) →
                  EC Try.prog G24 [] [(Lf.r (List.take (List.length Y2_0) (List.drop 0 Y2_0)))] (fun x rs vs => (x = 0 ∧ ∃ (Y5_0 : List (List AV)) (Y5_1 : List (List AV)), rs = [Y5_0, Y5_1] ∧ vs = [] ∧
                    (EC Try.prog G25 [] [(Lf.r a0)] (fun x rs vs => (x = 0 ∧ ∃ (Y6_0 : List (List AV)), rs = [Y6_0] ∧ vs = [] ∧
                        (EC Try.prog G26 [] [(Lf.r a0)] (fun x rs vs => (x = 0 ∧ ∃ (Y7_0 : List (List AV)), rs = [Y7_0] ∧ vs = [] ∧
                            (EC Try.prog G27 [] [(Lf.r a0), (Lf.i a1)] (fun x rs vs => (x = 0 ∧ ∃ (Y8_0 : List (List AV)), rs = [Y8_0] ∧ vs = [] ∧
                                (((((List.length Y6_0) : Nat) : Int) = (((List.length Y5_1) : Nat) : Int) →
                                    ((((List.length Y8_0) : Nat) : Int) ≠ (arS.mx a1 (0 : Int)) →
                                      Q 0 [] [(Lf.b false)]) ∧
                                    ((((List.length Y8_0) : Nat) : Int) = (arS.mx a1 (0 : Int)) →
                                      EV 39 [Y5_0, Y5_1, Y6_0, Y7_0, Y8_0] [(Lf.r (List.take (List.length Y2_0) (List.drop 0 Y2_0))), (Lf.i (0 : Int)), (Lf.i (((List.length Y6_0) : Nat) : Int)), (Lf.i (0 : Int))])) ∧
                                  ((((List.length Y6_0) : Nat) : Int) ≠ (((List.length Y5_1) : Nat) : Int) →
                                    Q 0 [] [(Lf.b false)]))))))))))))))) ∧
              (y2_1 = false →
                Q 0 [] [(Lf.b true)]))))))))) :
    EC Try.prog G6 [] [.r a0, .i a1] Q := by
  obtain ⟨A, hA⟩ : ∃ A, A = arS := ⟨_, rfl⟩
  refine Inst.enter (I := I6) hA mixed F6_at sg L6 80 rfl fun CE CK Dn EV RR W hp => ?_
  have h := h  EV (V6.of W)
  cbv
  refine ?_
  · refine W.call 80 (by rfl) h (by subst hA; rfl) (by subst hA; rfl) ?_
    rintro x rs vs hp0 hq0
    rcases hq0 with ⟨rfl, y0_0, rfl, rfl, k0⟩
    · cbv
      refine ⟨imI hA fun e1 => have c1 : y0_0 = false := (by have q := (notE hA e1); subst hA; exact q); (by rw [W.rr]; exact (by subst hA; exact (k0.1 c1))), imI hA fun e1 => have c1 : y0_0 = true := (by have q := (notE hA e1); subst hA; exact q); ?_⟩
      · refine W.call 80 (by rfl) (k0.2 c1) (by subst hA; rfl) (by subst hA; rfl) ?_
        rintro x rs vs hp2 hq2
        rcases hq2 with ⟨rfl, Y2_0, y2_1, rfl, rfl, k2⟩
        · cbv
          refine ⟨imI hA fun e3 => have c3 : y2_1 = true := (by have q := (notE hA e3); subst hA; exact q); ⟨imI hA fun e4 => have c4 : a1 > (1200 : Int) := (by have q := (cmpE (op := .gtr) hA e4); subst hA; exact q); (by rw [W.rr]; exact (by subst hA; exact ((k2.1 c3).1 c4))), imI hA fun e4 => have c4 : a1 ≤ (1200 : Int) := (by have q := (cmpE (op := .gtr) hA e4); subst hA; exact q); ⟨ndI hA (And.intro (And.intro (by subst hA; exact hp2.1) trivial) (And.intro rfl (And.intro rfl trivial))), ?_⟩⟩, imI hA fun e3 => have c3 : y2_1 = false := (by have q := (notE hA e3); subst hA; exact q); (by rw [W.rr]; exact (by subst hA; exact (k2.2 c3)))⟩
          · refine W.call 80 (by rfl) ((k2.1 c3).2 c4) (by subst hA; rfl) (by subst hA; rfl) ?_
            rintro x rs vs hp5 hq5
            rcases hq5 with ⟨rfl, Y5_0, Y5_1, rfl, rfl, k5⟩
            · cbv
              refine ?_
              · refine W.call 80 (by rfl) k5 (by subst hA; rfl) (by subst hA; rfl) ?_
                rintro x rs vs hp6 hq6
                rcases hq6 with ⟨rfl, Y6_0, rfl, rfl, k6⟩
                · cbv
                  refine ?_
                  · refine W.call 80 (by rfl) k6 (by subst hA; rfl) (by subst hA; rfl) ?_
                    rintro x rs vs hp7 hq7
                    rcases hq7 with ⟨rfl, Y7_0, rfl, rfl, k7⟩
                    · cbv
                      refine ?_
                      · refine W.call 80 (by rfl) k7 (by subst hA; rfl) (by subst hA; rfl) ?_
                        rintro x rs vs hp8 hq8
                        rcases hq8 with ⟨rfl, Y8_0, rfl, rfl, k8⟩
                        · cbv
                          refine ⟨ndI hA rfl, ⟨ndI hA rfl, ⟨imI hA fun e9 => have c9 : (((List.length Y6_0) : Nat) : Int) = (((List.length Y5_1) : Nat) : Int) := (by have q := (cmpE (op := .neq) hA e9); subst hA; exact q); ⟨ndI hA rfl, ⟨imI hA fun e10 => have c10 : (((List.length Y8_0) : Nat) : Int) ≠ (arS.mx a1 (0 : Int)) := (by have q := (cmpE (op := .neq) hA e10); subst hA; exact q); (by rw [W.rr]; exact (by subst hA; exact ((k8.1 c9).1 c10))), imI hA fun e10 => have c10 : (((List.length Y8_0) : Nat) : Int) = (arS.mx a1 (0 : Int)) := (by have q := (cmpE (op := .neq) hA e10); subst hA; exact q); ⟨ndI hA rfl, ⟨ndI hA (And.intro rfl (And.intro rfl rfl)), ⟨ndI hA (And.intro rfl (And.intro rfl rfl)), ⟨ndI hA (And.intro rfl (And.intro rfl rfl)), ⟨ndI hA (And.intro rfl (And.intro rfl rfl)), ⟨ndI hA (And.intro rfl (And.intro rfl rfl)), ⟨ndI hA (by subst hA; exact hp5.1), ⟨ndI hA (by subst hA; exact hp5.2.1), ⟨ndI hA (by subst hA; exact hp6.1), ⟨ndI hA (by subst hA; exact hp7.1), ⟨ndI hA (by subst hA; exact hp8.1), (by subst hA; exact ((k8.1 c9).2 c10))⟩⟩⟩⟩⟩⟩⟩⟩⟩⟩⟩⟩⟩, imI hA fun e9 => have c9 : (((List.length Y6_0) : Nat) : Int) ≠ (((List.length Y5_1) : Nat) : Int) := (by have q := (cmpE (op := .neq) hA e9); subst hA; exact q); (by rw [W.rr]; exact (by subst hA; exact (k8.2 c9)))⟩⟩⟩

end Go.Ab
