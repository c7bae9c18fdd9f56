/- PRINTED BY A PROGRAM (wip/tools/vc.py, AbVc.lean): what is to be shown of each function, from place to place, and that it is enough. -/
import Derived.Test.YtdmpiondalhonaaPkS
import Derived.Test.YtdmpiondalhonaaPkV
import Derived.Test.YtdmpiondalhonaaAbV0
namespace Go.Ab
open Go Go.Proofs
set_option linter.unusedVariables false
set_option linter.unusedSimpArgs false
set_option maxRecDepth 100000

-- 40: signalbox/signalboxref44.Order DRAWN
section
structure V40 (EV Q : Nat → Rs → List Lf → Prop) : Prop where
  p9 : ∀ {R0 : List (List AV)} {t0 : List (List AV)} {t1 : Bool} {t9 : Int} {t10 : Int}, (pursS R0 = true → 
    (t10 < t9 →
      EV 24 [R0] [(Lf.r t0), (Lf.b t1), (Lf.i t10), (Lf.i (((List.length R0) : Nat) : Int)), (Lf.i t9), (Lf.i t10)]) ∧
    (t10 ≥ t9 →
      Q 0 [R0] [])) →
    EV 9 [R0] [.r t0, .b t1, .i t9, .i t10]
  p24 : ∀ {R0 : List (List AV)} {t0 : List (List AV)} {t1 : Bool} {t6 : Int} {t7 : Int} {t9 : Int} {t10 : Int}, (pursS R0 = true → 
    (t1 = true →
      (t7 > (0 : Int) →
        ((0 : Int) ≤ (IntKind.wrap .i64 (t7 - (1 : Int)))) ∧
        ((IntKind.wrap .i64 (t7 - (1 : Int))) < (((List.length R0) : Nat) : Int)) ∧
        (R0[(Int.toNat (IntKind.wrap .i64 (t7 - (1 : Int))))]? = some [(AV.int .i64 (cIS R0 (Int.toNat (IntKind.wrap .i64 (t7 - (1 : Int)))) 0))]) ∧
        ((0 : Int) ≤ (cIS R0 (Int.toNat (IntKind.wrap .i64 (t7 - (1 : Int)))) 0)) ∧
        (t0[(Int.toNat (cIS R0 (Int.toNat (IntKind.wrap .i64 (t7 - (1 : Int)))) 0))]? = some [(AV.int .i64 (cIS t0 (Int.toNat (cIS R0 (Int.toNat (IntKind.wrap .i64 (t7 - (1 : Int)))) 0)) 0))]) ∧
        ((0 : Int) ≤ t6) ∧
        (t0[(Int.toNat t6)]? = some [(AV.int .i64 (cIS t0 (Int.toNat t6) 0))]) ∧
        ((cIS t0 (Int.toNat (cIS R0 (Int.toNat (IntKind.wrap .i64 (t7 - (1 : Int)))) 0)) 0) < (cIS t0 (Int.toNat t6) 0) →
          EV 24 [R0] [(Lf.r t0), (Lf.b t1), (Lf.i t6), (Lf.i (IntKind.wrap .i64 (t7 - (1 : Int)))), (Lf.i t9), (Lf.i t10)]) ∧
        ((cIS t0 (Int.toNat (cIS R0 (Int.toNat (IntKind.wrap .i64 (t7 - (1 : Int)))) 0)) 0) ≥ (cIS t0 (Int.toNat t6) 0) →
          ((0 : Int) ≤ t7) ∧
          (t7 ≤ (((List.length R0) : Nat) : Int)) ∧
          ((Int.toNat t7) ≤ (List.length R0)) ∧
          ((List.length (List.take (Int.toNat t7) (List.drop 0 R0))) ≤ 140737488355328) ∧
          (((List.length (List.take (Int.toNat t7) (List.drop 0 R0))) * 8) ≤ 140737488355328) ∧
          (((List.length (List.take (Int.toNat t7) (List.drop 0 R0))) + 1) ≤ 140737488355328) ∧
          ((((List.length (List.take (Int.toNat t7) (List.drop 0 R0))) + 1) * 8) ≤ 140737488355328) ∧
          (((Int.toNat t7) + ((List.length R0) - (Int.toNat t7))) ≤ (List.length R0)) ∧
          (((List.length (List.take (Int.toNat t7) (List.drop 0 R0))) + 1) ≤ (List.length ((List.take (Int.toNat t7) (List.drop 0 R0)) ++ [[(AV.int .i64 t6)]]))) ∧
          ((((List.length (List.take (Int.toNat t7) (List.drop 0 R0))) + 1) + (List.length (List.take ((List.length R0) - (Int.toNat t7)) (List.drop (Int.toNat t7) R0)))) ≤ 140737488355328) ∧
          (((((List.length (List.take (Int.toNat t7) (List.drop 0 R0))) + 1) + (List.length (List.take ((List.length R0) - (Int.toNat t7)) (List.drop (Int.toNat t7) R0)))) * 8) ≤ 140737488355328) ∧
          ((((List.length (List.take (Int.toNat t7) (List.drop 0 R0))) + 1) + (List.length (List.take ((List.length R0) - (Int.toNat t7)) (List.drop (Int.toNat t7) R0)))) = (List.length (rappS ((List.take (Int.toNat t7) (List.drop 0 R0)) ++ [[(AV.int .i64 t6)]]) ((List.length (List.take (Int.toNat t7) (List.drop 0 R0))) + 1) (List.take ((List.length R0) - (Int.toNat t7)) (List.drop (Int.toNat t7) R0))))) ∧
          (EV 9 [(rappS ((List.take (Int.toNat t7) (List.drop 0 R0)) ++ [[(AV.int .i64 t6)]]) ((List.length (List.take (Int.toNat t7) (List.drop 0 R0))) + 1) (List.take ((List.length R0) - (Int.toNat t7)) (List.drop (Int.toNat t7) R0)))] [(Lf.r t0), (Lf.b t1), (Lf.i t9), (Lf.i (IntKind.wrap .i64 (t10 + (1 : Int))))]))) ∧
      (t7 ≤ (0 : Int) →
        ((0 : Int) ≤ t7) ∧
        (t7 ≤ (((List.length R0) : Nat) : Int)) ∧
        ((Int.toNat t7) ≤ (List.length R0)) ∧
        ((List.length (List.take (Int.toNat t7) (List.drop 0 R0))) ≤ 140737488355328) ∧
        (((List.length (List.take (Int.toNat t7) (List.drop 0 R0))) * 8) ≤ 140737488355328) ∧
        (((List.length (List.take (Int.toNat t7) (List.drop 0 R0))) + 1) ≤ 140737488355328) ∧
        ((((List.length (List.take (Int.toNat t7) (List.drop 0 R0))) + 1) * 8) ≤ 140737488355328) ∧
        (((Int.toNat t7) + ((List.length R0) - (Int.toNat t7))) ≤ (List.length R0)) ∧
        (((List.length (List.take (Int.toNat t7) (List.drop 0 R0))) + 1) ≤ (List.length ((List.take (Int.toNat t7) (List.drop 0 R0)) ++ [[(AV.int .i64 t6)]]))) ∧
        ((((List.length (List.take (Int.toNat t7) (List.drop 0 R0))) + 1) + (List.length (List.take ((List.length R0) - (Int.toNat t7)) (List.drop (Int.toNat t7) R0)))) ≤ 140737488355328) ∧
        (((((List.length (List.take (Int.toNat t7) (List.drop 0 R0))) + 1) + (List.length (List.take ((List.length R0) - (Int.toNat t7)) (List.drop (Int.toNat t7) R0)))) * 8) ≤ 140737488355328) ∧
        ((((List.length (List.take (Int.toNat t7) (List.drop 0 R0))) + 1) + (List.length (List.take ((List.length R0) - (Int.toNat t7)) (List.drop (Int.toNat t7) R0)))) = (List.length (rappS ((List.take (Int.toNat t7) (List.drop 0 R0)) ++ [[(AV.int .i64 t6)]]) ((List.length (List.take (Int.toNat t7) (List.drop 0 R0))) + 1) (List.take ((List.length R0) - (Int.toNat t7)) (List.drop (Int.toNat t7) R0))))) ∧
        (EV 9 [(rappS ((List.take (Int.toNat t7) (List.drop 0 R0)) ++ [[(AV.int .i64 t6)]]) ((List.length (List.take (Int.toNat t7) (List.drop 0 R0))) + 1) (List.take ((List.length R0) - (Int.toNat t7)) (List.drop (Int.toNat t7) R0)))] [(Lf.r t0), (Lf.b t1), (Lf.i t9), (Lf.i (IntKind.wrap .i64 (t10 + (1 : Int))))]))) ∧
    (t1 = false →
      ((0 : Int) ≤ t7) ∧
      (t7 ≤ (((List.length R0) : Nat) : Int)) ∧
      ((Int.toNat t7) ≤ (List.length R0)) ∧
      ((List.length (List.take (Int.toNat t7) (List.drop 0 R0))) ≤ 140737488355328) ∧
      (((List.length (List.take (Int.toNat t7) (List.drop 0 R0))) * 8) ≤ 140737488355328) ∧
      (((List.length (List.take (Int.toNat t7) (List.drop 0 R0))) + 1) ≤ 140737488355328) ∧
      ((((List.length (List.take (Int.toNat t7) (List.drop 0 R0))) + 1) * 8) ≤ 140737488355328) ∧
      (((Int.toNat t7) + ((List.length R0) - (Int.toNat t7))) ≤ (List.length R0)) ∧
      (((List.length (List.take (Int.toNat t7) (List.drop 0 R0))) + 1) ≤ (List.length ((List.take (Int.toNat t7) (List.drop 0 R0)) ++ [[(AV.int .i64 t6)]]))) ∧
      ((((List.length (List.take (Int.toNat t7) (List.drop 0 R0))) + 1) + (List.length (List.take ((List.length R0) - (Int.toNat t7)) (List.drop (Int.toNat t7) R0)))) ≤ 140737488355328) ∧
      (((((List.length (List.take (Int.toNat t7) (List.drop 0 R0))) + 1) + (List.length (List.take ((List.length R0) - (Int.toNat t7)) (List.drop (Int.toNat t7) R0)))) * 8) ≤ 140737488355328) ∧
      ((((List.length (List.take (Int.toNat t7) (List.drop 0 R0))) + 1) + (List.length (List.take ((List.length R0) - (Int.toNat t7)) (List.drop (Int.toNat t7) R0)))) = (List.length (rappS ((List.take (Int.toNat t7) (List.drop 0 R0)) ++ [[(AV.int .i64 t6)]]) ((List.length (List.take (Int.toNat t7) (List.drop 0 R0))) + 1) (List.take ((List.length R0) - (Int.toNat t7)) (List.drop (Int.toNat t7) R0))))) ∧
      (EV 9 [(rappS ((List.take (Int.toNat t7) (List.drop 0 R0)) ++ [[(AV.int .i64 t6)]]) ((List.length (List.take (Int.toNat t7) (List.drop 0 R0))) + 1) (List.take ((List.length R0) - (Int.toNat t7)) (List.drop (Int.toNat t7) R0)))] [(Lf.r t0), (Lf.b t1), (Lf.i t9), (Lf.i (IntKind.wrap .i64 (t10 + (1 : Int))))]))) →
    EV 24 [R0] [.r t0, .b t1, .i t6, .i t7, .i t9, .i t10]

set_option maxHeartbeats 0 in
theorem V40.of {Q : Nat → Rs → List Lf → Prop} {A : Ar} {CE : Nat → Rs → List Lf → (Nat → Rs → List Lf → Prop) → Prop} {CK : Nat → Rs → List Lf → Cont → Prop} {Dn : Nat → List Bool → List AItem → Nat → List Bool → List AV → List ABlk → Prop} {EV RR : Nat → Rs → List Lf → Prop} (W : Wk Try.prog Try.f40 I40 L40 Q A sg CE CK Dn EV RR) : V40 EV Q := by
  have hA := W.hA
  refine ⟨?_, ?_⟩
  · intro R0 t0 t1 t9 t10 h
    refine W.step 80 fun hp => ?_
    have h := h hp.1
    cbv
    refine ⟨imI hA fun e0 => have c0 : t10 < t9 := (by have q := (cmpE (op := .lss) hA e0); subst hA; exact q); ⟨ndI hA rfl, ⟨ndI hA (And.intro rfl (And.intro rfl rfl)), ⟨ndI hA (by subst hA; exact hp.1), (by subst hA; exact (h.1 c0))⟩⟩⟩, imI hA fun e0 => have c0 : t10 ≥ t9 := (by have q := (cmpE (op := .lss) hA e0); subst hA; exact q); ⟨ndI hA (And.intro rfl (And.intro rfl rfl)), ⟨ndI hA (by subst hA; exact hp.1), (by rw [W.rr]; exact (by subst hA; exact (h.2 c0)))⟩⟩⟩
  · intro R0 t0 t1 t6 t7 t9 t10 h
    refine W.step 80 fun hp => ?_
    have h := h hp.1
    cbv
    refine ⟨fun e0 => have c0 : t1 = true := (by have q := e0; subst hA; exact q); ?_, fun e0 => have c0 : t1 = false := (by have q := e0; subst hA; exact q); ?_⟩
    · refine W.draw 80 (by rfl) ?_
      cbv
      refine ⟨fun e1 => have c1 : t7 > (0 : Int) := (by have q := (cmpE (op := .gtr) hA e1); subst hA; exact q); ?_, fun e1 => have c1 : t7 ≤ (0 : Int) := (by have q := (cmpE (op := .gtr) hA e1); subst hA; exact q); ?_⟩
      · refine W.draw 80 (by rfl) ?_
        cbv
        refine ⟨ndI hA (And.intro (by subst hA; exact ((h.1 c0).1 c1).1) (And.intro (by subst hA; exact ((h.1 c0).1 c1).2.1) rfl)), ⟨ndI hA (And.intro rfl (by subst hA; show R0[(0 + (Int.toNat (IntKind.wrap .i64 (t7 - (1 : Int)))))]? = some [(AV.int .i64 (cIS R0 (0 + (Int.toNat (IntKind.wrap .i64 (t7 - (1 : Int))))) 0))]; (try simp only [rappS_end, Nat.zero_add, Int.toNat_natCast]); exact ((h.1 c0).1 c1).2.2.1)), ⟨ndI hA (And.intro (by subst hA; show (0 : Int) ≤ (cIS R0 (0 + (Int.toNat (IntKind.wrap .i64 (t7 - (1 : Int))))) 0); (try simp only [rappS_end, Nat.zero_add, Int.toNat_natCast]); exact ((h.1 c0).1 c1).2.2.2.1) (by subst hA; show t0[(Int.toNat (cIS R0 (0 + (Int.toNat (IntKind.wrap .i64 (t7 - (1 : Int))))) 0))]? = some [(AV.int .i64 (cIS t0 (Int.toNat (cIS R0 (0 + (Int.toNat (IntKind.wrap .i64 (t7 - (1 : Int))))) 0)) 0))]; (try simp only [rappS_end, Nat.zero_add, Int.toNat_natCast]); exact ((h.1 c0).1 c1).2.2.2.2.1)), ⟨ndI hA (And.intro (by subst hA; exact ((h.1 c0).1 c1).2.2.2.2.2.1) (by subst hA; exact ((h.1 c0).1 c1).2.2.2.2.2.2.1)), ⟨imI hA fun e2 => have c2 : (cIS t0 (Int.toNat (cIS R0 (Int.toNat (IntKind.wrap .i64 (t7 - (1 : Int)))) 0)) 0) < (cIS t0 (Int.toNat t6) 0) := (by have q := (cmpE (op := .lss) hA e2); subst hA; have q : (cIS t0 (Int.toNat (cIS R0 (0 + (Int.toNat (IntKind.wrap .i64 (t7 - (1 : Int))))) 0)) 0) < (cIS t0 (Int.toNat t6) 0) := q; simpa only [rappS_end, Nat.zero_add, Int.toNat_natCast] using q); ⟨ndI hA (And.intro rfl (And.intro rfl rfl)), ⟨ndI hA (by subst hA; exact hp.1), (by subst hA; exact (((h.1 c0).1 c1).2.2.2.2.2.2.2.1 c2))⟩⟩, imI hA fun e2 => have c2 : (cIS t0 (Int.toNat (cIS R0 (Int.toNat (IntKind.wrap .i64 (t7 - (1 : Int)))) 0)) 0) ≥ (cIS t0 (Int.toNat t6) 0) := (by have q := (cmpE (op := .lss) hA e2); subst hA; have q : (cIS t0 (Int.toNat (cIS R0 (0 + (Int.toNat (IntKind.wrap .i64 (t7 - (1 : Int))))) 0)) 0) ≥ (cIS t0 (Int.toNat t6) 0) := q; simpa only [rappS_end, Nat.zero_add, Int.toNat_natCast] using q); ⟨ndI hA (And.intro (by subst hA; exact (((h.1 c0).1 c1).2.2.2.2.2.2.2.2 c2).1) (And.intro (by subst hA; exact (((h.1 c0).1 c1).2.2.2.2.2.2.2.2 c2).2.1) rfl)), ⟨ndI hA (And.intro (by subst hA; exact (((h.1 c0).1 c1).2.2.2.2.2.2.2.2 c2).1) (And.intro (by subst hA; exact (((h.1 c0).1 c1).2.2.2.2.2.2.2.2 c2).2.1) rfl)), ⟨⟨⟨ndI hA (And.intro rfl (by subst hA; show (0 + (Int.toNat t7)) ≤ (List.length R0); (try simp only [rappS_end, Nat.zero_add, Int.toNat_natCast]); exact (((h.1 c0).1 c1).2.2.2.2.2.2.2.2 c2).2.2.1)), ⟨ndI hA (And.intro (by subst hA; exact (((h.1 c0).1 c1).2.2.2.2.2.2.2.2 c2).2.2.2.1) (by subst hA; exact (((h.1 c0).1 c1).2.2.2.2.2.2.2.2 c2).2.2.2.2.1)), ?_⟩⟩, ⟨⟨⟨ndI hA (And.intro rfl (by subst hA; show (0 + (Int.toNat t7)) ≤ (List.length R0); (try simp only [rappS_end, Nat.zero_add, Int.toNat_natCast]); exact (((h.1 c0).1 c1).2.2.2.2.2.2.2.2 c2).2.2.1)), ⟨ndI hA (And.intro (by subst hA; exact (((h.1 c0).1 c1).2.2.2.2.2.2.2.2 c2).2.2.2.1) (by subst hA; exact (((h.1 c0).1 c1).2.2.2.2.2.2.2.2 c2).2.2.2.2.1)), ?_⟩⟩, trivial⟩, trivial⟩⟩, ⟨⟨⟨⟨ndI hA (And.intro rfl (by subst hA; show (0 + (Int.toNat t7)) ≤ (List.length R0); (try simp only [rappS_end, Nat.zero_add, Int.toNat_natCast]); exact (((h.1 c0).1 c1).2.2.2.2.2.2.2.2 c2).2.2.1)), ⟨ndI hA (And.intro (by subst hA; exact (((h.1 c0).1 c1).2.2.2.2.2.2.2.2 c2).2.2.2.1) (by subst hA; exact (((h.1 c0).1 c1).2.2.2.2.2.2.2.2 c2).2.2.2.2.1)), ?_⟩⟩, trivial⟩, trivial⟩, trivial⟩⟩⟩⟩⟩⟩⟩⟩⟩
        · refine W.draw 80 (by rfl) ?_
          cbv
          refine ⟨⟨⟨ndI hA (And.intro rfl (And.intro (Nat.le_refl _) (And.intro (by subst hA; exact (((h.1 c0).1 c1).2.2.2.2.2.2.2.2 c2).2.2.2.2.2.1) (by subst hA; exact (((h.1 c0).1 c1).2.2.2.2.2.2.2.2 c2).2.2.2.2.2.2.1)))), ⟨⟨ndI hA (And.intro rfl (by subst hA; show ((0 + (Int.toNat t7)) + ((List.length R0) - (Int.toNat t7))) ≤ (List.length R0); (try simp only [rappS_end, Nat.zero_add, Int.toNat_natCast]); exact (((h.1 c0).1 c1).2.2.2.2.2.2.2.2 c2).2.2.2.2.2.2.2.1)), ⟨ndI hA (And.intro rfl (And.intro (by subst hA; show ((List.length (List.take (Int.toNat t7) (List.drop 0 R0))) + 1) ≤ (List.length (rappS (List.take (Int.toNat t7) (List.drop 0 R0)) (List.length (List.take (Int.toNat t7) (List.drop 0 R0))) [[(AV.int .i64 t6)]])); (try simp only [rappS_end, Nat.zero_add, Int.toNat_natCast]); exact (((h.1 c0).1 c1).2.2.2.2.2.2.2.2 c2).2.2.2.2.2.2.2.2.1) (And.intro (by subst hA; show (((List.length (List.take (Int.toNat t7) (List.drop 0 R0))) + 1) + (List.length (List.take ((List.length R0) - (Int.toNat t7)) (List.drop (0 + (Int.toNat t7)) R0)))) ≤ 140737488355328; (try simp only [rappS_end, Nat.zero_add, Int.toNat_natCast]); exact (((h.1 c0).1 c1).2.2.2.2.2.2.2.2 c2).2.2.2.2.2.2.2.2.2.1) (by subst hA; show ((((List.length (List.take (Int.toNat t7) (List.drop 0 R0))) + 1) + (List.length (List.take ((List.length R0) - (Int.toNat t7)) (List.drop (0 + (Int.toNat t7)) R0)))) * 8) ≤ 140737488355328; (try simp only [rappS_end, Nat.zero_add, Int.toNat_natCast]); exact (((h.1 c0).1 c1).2.2.2.2.2.2.2.2 c2).2.2.2.2.2.2.2.2.2.2.1)))), ?_⟩⟩, trivial⟩⟩, trivial⟩, trivial⟩
          · refine W.draw 80 (by rfl) ?_
            cbv
            refine ⟨ndI hA (And.intro rfl (And.intro rfl (by subst hA; show (((List.length (List.take (Int.toNat t7) (List.drop 0 R0))) + 1) + (List.length (List.take ((List.length R0) - (Int.toNat t7)) (List.drop (0 + (Int.toNat t7)) R0)))) = (List.length (rappS (rappS (List.take (Int.toNat t7) (List.drop 0 R0)) (List.length (List.take (Int.toNat t7) (List.drop 0 R0))) [[(AV.int .i64 t6)]]) ((List.length (List.take (Int.toNat t7) (List.drop 0 R0))) + 1) (List.take ((List.length R0) - (Int.toNat t7)) (List.drop (0 + (Int.toNat t7)) R0)))); (try simp only [rappS_end, Nat.zero_add, Int.toNat_natCast]); exact (((h.1 c0).1 c1).2.2.2.2.2.2.2.2 c2).2.2.2.2.2.2.2.2.2.2.2.1))), ⟨ndI hA (by subst hA; exact (vapp (vapp (vtake (vdrop hp.1)) vpur) (vtake (vdrop hp.1)))), (by subst hA; show EV 9 [(rappS (rappS (List.take (Int.toNat t7) (List.drop 0 R0)) (List.length (List.take (Int.toNat t7) (List.drop 0 R0))) [[(AV.int .i64 t6)]]) ((List.length (List.take (Int.toNat t7) (List.drop 0 R0))) + 1) (List.take ((List.length R0) - (Int.toNat t7)) (List.drop (0 + (Int.toNat t7)) R0)))] [(Lf.r t0), (Lf.b t1), (Lf.i t9), (Lf.i (IntKind.wrap .i64 (t10 + (1 : Int))))]; (try simp only [rappS_end, Nat.zero_add, Int.toNat_natCast]); exact (((h.1 c0).1 c1).2.2.2.2.2.2.2.2 c2).2.2.2.2.2.2.2.2.2.2.2.2)⟩⟩
        · refine W.draw 80 (by rfl) ?_
          cbv
          refine ⟨⟨ndI hA (And.intro rfl (And.intro (Nat.le_refl _) (And.intro (by subst hA; exact (((h.1 c0).1 c1).2.2.2.2.2.2.2.2 c2).2.2.2.2.2.1) (by subst hA; exact (((h.1 c0).1 c1).2.2.2.2.2.2.2.2 c2).2.2.2.2.2.2.1)))), ⟨⟨ndI hA (And.intro rfl (by subst hA; show ((0 + (Int.toNat t7)) + ((List.length R0) - (Int.toNat t7))) ≤ (List.length R0); (try simp only [rappS_end, Nat.zero_add, Int.toNat_natCast]); exact (((h.1 c0).1 c1).2.2.2.2.2.2.2.2 c2).2.2.2.2.2.2.2.1)), ⟨ndI hA (And.intro rfl (And.intro (by subst hA; show ((List.length (List.take (Int.toNat t7) (List.drop 0 R0))) + 1) ≤ (List.length (rappS (List.take (Int.toNat t7) (List.drop 0 R0)) (List.length (List.take (Int.toNat t7) (List.drop 0 R0))) [[(AV.int .i64 t6)]])); (try simp only [rappS_end, Nat.zero_add, Int.toNat_natCast]); exact (((h.1 c0).1 c1).2.2.2.2.2.2.2.2 c2).2.2.2.2.2.2.2.2.1) (And.intro (by subst hA; show (((List.length (List.take (Int.toNat t7) (List.drop 0 R0))) + 1) + (List.length (List.take ((List.length R0) - (Int.toNat t7)) (List.drop (0 + (Int.toNat t7)) R0)))) ≤ 140737488355328; (try simp only [rappS_end, Nat.zero_add, Int.toNat_natCast]); exact (((h.1 c0).1 c1).2.2.2.2.2.2.2.2 c2).2.2.2.2.2.2.2.2.2.1) (by subst hA; show ((((List.length (List.take (Int.toNat t7) (List.drop 0 R0))) + 1) + (List.length (List.take ((List.length R0) - (Int.toNat t7)) (List.drop (0 + (Int.toNat t7)) R0)))) * 8) ≤ 140737488355328; (try simp only [rappS_end, Nat.zero_add, Int.toNat_natCast]); exact (((h.1 c0).1 c1).2.2.2.2.2.2.2.2 c2).2.2.2.2.2.2.2.2.2.2.1)))), ?_⟩⟩, trivial⟩⟩, trivial⟩
          · refine W.draw 80 (by rfl) ?_
            cbv
            refine ⟨ndI hA (And.intro rfl (And.intro rfl (by subst hA; show (((List.length (List.take (Int.toNat t7) (List.drop 0 R0))) + 1) + (List.length (List.take ((List.length R0) - (Int.toNat t7)) (List.drop (0 + (Int.toNat t7)) R0)))) = (List.length (rappS (rappS (List.take (Int.toNat t7) (List.drop 0 R0)) (List.length (List.take (Int.toNat t7) (List.drop 0 R0))) [[(AV.int .i64 t6)]]) ((List.length (List.take (Int.toNat t7) (List.drop 0 R0))) + 1) (List.take ((List.length R0) - (Int.toNat t7)) (List.drop (0 + (Int.toNat t7)) R0)))); (try simp only [rappS_end, Nat.zero_add, Int.toNat_natCast]); exact (((h.1 c0).1 c1).2.2.2.2.2.2.2.2 c2).2.2.2.2.2.2.2.2.2.2.2.1))), ⟨ndI hA (by subst hA; exact (vapp (vapp (vtake (vdrop hp.1)) vpur) (vtake (vdrop hp.1)))), (by subst hA; show EV 9 [(rappS (rappS (List.take (Int.toNat t7) (List.drop 0 R0)) (List.length (List.take (Int.toNat t7) (List.drop 0 R0))) [[(AV.int .i64 t6)]]) ((List.length (List.take (Int.toNat t7) (List.drop 0 R0))) + 1) (List.take ((List.length R0) - (Int.toNat t7)) (List.drop (0 + (Int.toNat t7)) R0)))] [(Lf.r t0), (Lf.b t1), (Lf.i t9), (Lf.i (IntKind.wrap .i64 (t10 + (1 : Int))))]; (try simp only [rappS_end, Nat.zero_add, Int.toNat_natCast]); exact (((h.1 c0).1 c1).2.2.2.2.2.2.2.2 c2).2.2.2.2.2.2.2.2.2.2.2.2)⟩⟩
        · refine W.draw 80 (by rfl) ?_
          cbv
          refine ⟨⟨ndI hA (And.intro rfl (And.intro (Nat.le_refl _) (And.intro (by subst hA; exact (((h.1 c0).1 c1).2.2.2.2.2.2.2.2 c2).2.2.2.2.2.1) (by subst hA; exact (((h.1 c0).1 c1).2.2.2.2.2.2.2.2 c2).2.2.2.2.2.2.1)))), ⟨⟨ndI hA (And.intro rfl (by subst hA; show ((0 + (Int.toNat t7)) + ((List.length R0) - (Int.toNat t7))) ≤ (List.length R0); (try simp only [rappS_end, Nat.zero_add, Int.toNat_natCast]); exact (((h.1 c0).1 c1).2.2.2.2.2.2.2.2 c2).2.2.2.2.2.2.2.1)), ⟨ndI hA (And.intro rfl (And.intro (by subst hA; show ((List.length (List.take (Int.toNat t7) (List.drop 0 R0))) + 1) ≤ (List.length (rappS (List.take (Int.toNat t7) (List.drop 0 R0)) (List.length (List.take (Int.toNat t7) (List.drop 0 R0))) [[(AV.int .i64 t6)]])); (try simp only [rappS_end, Nat.zero_add, Int.toNat_natCast]); exact (((h.1 c0).1 c1).2.2.2.2.2.2.2.2 c2).2.2.2.2.2.2.2.2.1) (And.intro (by subst hA; show (((List.length (List.take (Int.toNat t7) (List.drop 0 R0))) + 1) + (List.length (List.take ((List.length R0) - (Int.toNat t7)) (List.drop (0 + (Int.toNat t7)) R0)))) ≤ 140737488355328; (try simp only [rappS_end, Nat.zero_add, Int.toNat_natCast]); exact (((h.1 c0).1 c1).2.2.2.2.2.2.2.2 c2).2.2.2.2.2.2.2.2.2.1) (by subst hA; show ((((List.length (List.take (Int.toNat t7) (List.drop 0 R0))) + 1) + (List.length (List.take ((List.length R0) - (Int.toNat t7)) (List.drop (0 + (Int.toNat t7)) R0)))) * 8) ≤ 140737488355328; (try simp only [rappS_end, Nat.zero_add, Int.toNat_natCast]); exact (((h.1 c0).1 c1).2.2.2.2.2.2.2.2 c2).2.2.2.2.2.2.2.2.2.2.1)))), ?_⟩⟩, trivial⟩⟩, trivial⟩
          · refine W.draw 80 (by rfl) ?_
            cbv
            refine ⟨ndI hA (And.intro rfl (And.intro rfl (by subst hA; show (((List.length (List.take (Int.toNat t7) (List.drop 0 R0))) + 1) + (List.length (List.take ((List.length R0) - (Int.toNat t7)) (List.drop (0 + (Int.toNat t7)) R0)))) = (List.length (rappS (rappS (List.take (Int.toNat t7) (List.drop 0 R0)) (List.length (List.take (Int.toNat t7) (List.drop 0 R0))) [[(AV.int .i64 t6)]]) ((List.length (List.take (Int.toNat t7) (List.drop 0 R0))) + 1) (List.take ((List.length R0) - (Int.toNat t7)) (List.drop (0 + (Int.toNat t7)) R0)))); (try simp only [rappS_end, Nat.zero_add, Int.toNat_natCast]); exact (((h.1 c0).1 c1).2.2.2.2.2.2.2.2 c2).2.2.2.2.2.2.2.2.2.2.2.1))), ⟨ndI hA (by subst hA; exact (vapp (vapp (vtake (vdrop hp.1)) vpur) (vtake (vdrop hp.1)))), (by subst hA; show EV 9 [(rappS (rappS (List.take (Int.toNat t7) (List.drop 0 R0)) (List.length (List.take (Int.toNat t7) (List.drop 0 R0))) [[(AV.int .i64 t6)]]) ((List.length (List.take (Int.toNat t7) (List.drop 0 R0))) + 1) (List.take ((List.length R0) - (Int.toNat t7)) (List.drop (0 + (Int.toNat t7)) R0)))] [(Lf.r t0), (Lf.b t1), (Lf.i t9), (Lf.i (IntKind.wrap .i64 (t10 + (1 : Int))))]; (try simp only [rappS_end, Nat.zero_add, Int.toNat_natCast]); exact (((h.1 c0).1 c1).2.2.2.2.2.2.2.2 c2).2.2.2.2.2.2.2.2.2.2.2.2)⟩⟩
      · refine W.draw 80 (by rfl) ?_
        cbv
        refine ⟨ndI hA (And.intro (by subst hA; exact ((h.1 c0).2 c1).1) (And.intro (by subst hA; exact ((h.1 c0).2 c1).2.1) rfl)), ⟨ndI hA (And.intro (by subst hA; exact ((h.1 c0).2 c1).1) (And.intro (by subst hA; exact ((h.1 c0).2 c1).2.1) rfl)), ⟨⟨⟨ndI hA (And.intro rfl (by subst hA; show (0 + (Int.toNat t7)) ≤ (List.length R0); (try simp only [rappS_end, Nat.zero_add, Int.toNat_natCast]); exact ((h.1 c0).2 c1).2.2.1)), ⟨ndI hA (And.intro (by subst hA; exact ((h.1 c0).2 c1).2.2.2.1) (by subst hA; exact ((h.1 c0).2 c1).2.2.2.2.1)), ?_⟩⟩, ⟨⟨⟨ndI hA (And.intro rfl (by subst hA; show (0 + (Int.toNat t7)) ≤ (List.length R0); (try simp only [rappS_end, Nat.zero_add, Int.toNat_natCast]); exact ((h.1 c0).2 c1).2.2.1)), ⟨ndI hA (And.intro (by subst hA; exact ((h.1 c0).2 c1).2.2.2.1) (by subst hA; exact ((h.1 c0).2 c1).2.2.2.2.1)), ?_⟩⟩, trivial⟩, trivial⟩⟩, ⟨⟨⟨⟨ndI hA (And.intro rfl (by subst hA; show (0 + (Int.toNat t7)) ≤ (List.length R0); (try simp only [rappS_end, Nat.zero_add, Int.toNat_natCast]); exact ((h.1 c0).2 c1).2.2.1)), ⟨ndI hA (And.intro (by subst hA; exact ((h.1 c0).2 c1).2.2.2.1) (by subst hA; exact ((h.1 c0).2 c1).2.2.2.2.1)), ?_⟩⟩, trivial⟩, trivial⟩, trivial⟩⟩⟩⟩
        · refine W.draw 80 (by rfl) ?_
          cbv
          refine ⟨⟨⟨ndI hA (And.intro rfl (And.intro (Nat.le_refl _) (And.intro (by subst hA; exact ((h.1 c0).2 c1).2.2.2.2.2.1) (by subst hA; exact ((h.1 c0).2 c1).2.2.2.2.2.2.1)))), ⟨⟨ndI hA (And.intro rfl (by subst hA; show ((0 + (Int.toNat t7)) + ((List.length R0) - (Int.toNat t7))) ≤ (List.length R0); (try simp only [rappS_end, Nat.zero_add, Int.toNat_natCast]); exact ((h.1 c0).2 c1).2.2.2.2.2.2.2.1)), ⟨ndI hA (And.intro rfl (And.intro (by subst hA; show ((List.length (List.take (Int.toNat t7) (List.drop 0 R0))) + 1) ≤ (List.length (rappS (List.take (Int.toNat t7) (List.drop 0 R0)) (List.length (List.take (Int.toNat t7) (List.drop 0 R0))) [[(AV.int .i64 t6)]])); (try simp only [rappS_end, Nat.zero_add, Int.toNat_natCast]); exact ((h.1 c0).2 c1).2.2.2.2.2.2.2.2.1) (And.intro (by subst hA; show (((List.length (List.take (Int.toNat t7) (List.drop 0 R0))) + 1) + (List.length (List.take ((List.length R0) - (Int.toNat t7)) (List.drop (0 + (Int.toNat t7)) R0)))) ≤ 140737488355328; (try simp only [rappS_end, Nat.zero_add, Int.toNat_natCast]); exact ((h.1 c0).2 c1).2.2.2.2.2.2.2.2.2.1) (by subst hA; show ((((List.length (List.take (Int.toNat t7) (List.drop 0 R0))) + 1) + (List.length (List.take ((List.length R0) - (Int.toNat t7)) (List.drop (0 + (Int.toNat t7)) R0)))) * 8) ≤ 140737488355328; (try simp only [rappS_end, Nat.zero_add, Int.toNat_natCast]); exact ((h.1 c0).2 c1).2.2.2.2.2.2.2.2.2.2.1)))), ?_⟩⟩, trivial⟩⟩, trivial⟩, trivial⟩
          · refine W.draw 80 (by rfl) ?_
            cbv
            refine ⟨ndI hA (And.intro rfl (And.intro rfl (by subst hA; show (((List.length (List.take (Int.toNat t7) (List.drop 0 R0))) + 1) + (List.length (List.take ((List.length R0) - (Int.toNat t7)) (List.drop (0 + (Int.toNat t7)) R0)))) = (List.length (rappS (rappS (List.take (Int.toNat t7) (List.drop 0 R0)) (List.length (List.take (Int.toNat t7) (List.drop 0 R0))) [[(AV.int .i64 t6)]]) ((List.length (List.take (Int.toNat t7) (List.drop 0 R0))) + 1) (List.take ((List.length R0) - (Int.toNat t7)) (List.drop (0 + (Int.toNat t7)) R0)))); (try simp only [rappS_end, Nat.zero_add, Int.toNat_natCast]); exact ((h.1 c0).2 c1).2.2.2.2.2.2.2.2.2.2.2.1))), ⟨ndI hA (by subst hA; exact (vapp (vapp (vtake (vdrop hp.1)) vpur) (vtake (vdrop hp.1)))), (by subst hA; show EV 9 [(rappS (rappS (List.take (Int.toNat t7) (List.drop 0 R0)) (List.length (List.take (Int.toNat t7) (List.drop 0 R0))) [[(AV.int .i64 t6)]]) ((List.length (List.take (Int.toNat t7) (List.drop 0 R0))) + 1) (List.take ((List.length R0) - (Int.toNat t7)) (List.drop (0 + (Int.toNat t7)) R0)))] [(Lf.r t0), (Lf.b t1), (Lf.i t9), (Lf.i (IntKind.wrap .i64 (t10 + (1 : Int))))]; (try simp only [rappS_end, Nat.zero_add, Int.toNat_natCast]); exact ((h.1 c0).2 c1).2.2.2.2.2.2.2.2.2.2.2.2)⟩⟩
        · refine W.draw 80 (by rfl) ?_
          cbv
          refine ⟨⟨ndI hA (And.intro rfl (And.intro (Nat.le_refl _) (And.intro (by subst hA; exact ((h.1 c0).2 c1).2.2.2.2.2.1) (by subst hA; exact ((h.1 c0).2 c1).2.2.2.2.2.2.1)))), ⟨⟨ndI hA (And.intro rfl (by subst hA; show ((0 + (Int.toNat t7)) + ((List.length R0) - (Int.toNat t7))) ≤ (List.length R0); (try simp only [rappS_end, Nat.zero_add, Int.toNat_natCast]); exact ((h.1 c0).2 c1).2.2.2.2.2.2.2.1)), ⟨ndI hA (And.intro rfl (And.intro (by subst hA; show ((List.length (List.take (Int.toNat t7) (List.drop 0 R0))) + 1) ≤ (List.length (rappS (List.take (Int.toNat t7) (List.drop 0 R0)) (List.length (List.take (Int.toNat t7) (List.drop 0 R0))) [[(AV.int .i64 t6)]])); (try simp only [rappS_end, Nat.zero_add, Int.toNat_natCast]); exact ((h.1 c0).2 c1).2.2.2.2.2.2.2.2.1) (And.intro (by subst hA; show (((List.length (List.take (Int.toNat t7) (List.drop 0 R0))) + 1) + (List.length (List.take ((List.length R0) - (Int.toNat t7)) (List.drop (0 + (Int.toNat t7)) R0)))) ≤ 140737488355328; (try simp only [rappS_end, Nat.zero_add, Int.toNat_natCast]); exact ((h.1 c0).2 c1).2.2.2.2.2.2.2.2.2.1) (by subst hA; show ((((List.length (List.take (Int.toNat t7) (List.drop 0 R0))) + 1) + (List.length (List.take ((List.length R0) - (Int.toNat t7)) (List.drop (0 + (Int.toNat t7)) R0)))) * 8) ≤ 140737488355328; (try simp only [rappS_end, Nat.zero_add, Int.toNat_natCast]); exact ((h.1 c0).2 c1).2.2.2.2.2.2.2.2.2.2.1)))), ?_⟩⟩, trivial⟩⟩, trivial⟩
          · refine W.draw 80 (by rfl) ?_
            cbv
            refine ⟨ndI hA (And.intro rfl (And.intro rfl (by subst hA; show (((List.length (List.take (Int.toNat t7) (List.drop 0 R0))) + 1) + (List.length (List.take ((List.length R0) - (Int.toNat t7)) (List.drop (0 + (Int.toNat t7)) R0)))) = (List.length (rappS (rappS (List.take (Int.toNat t7) (List.drop 0 R0)) (List.length (List.take (Int.toNat t7) (List.drop 0 R0))) [[(AV.int .i64 t6)]]) ((List.length (List.take (Int.toNat t7) (List.drop 0 R0))) + 1) (List.take ((List.length R0) - (Int.toNat t7)) (List.drop (0 + (Int.toNat t7)) R0)))); (try simp only [rappS_end, Nat.zero_add, Int.toNat_natCast]); exact ((h.1 c0).2 c1).2.2.2.2.2.2.2.2.2.2.2.1))), ⟨ndI hA (by subst hA; exact (vapp (vapp (vtake (vdrop hp.1)) vpur) (vtake (vdrop hp.1)))), (by subst hA; show EV 9 [(rappS (rappS (List.take (Int.toNat t7) (List.drop 0 R0)) (List.length (List.take (Int.toNat t7) (List.drop 0 R0))) [[(AV.int .i64 t6)]]) ((List.length (List.take (Int.toNat t7) (List.drop 0 R0))) + 1) (List.take ((List.length R0) - (Int.toNat t7)) (List.drop (0 + (Int.toNat t7)) R0)))] [(Lf.r t0), (Lf.b t1), (Lf.i t9), (Lf.i (IntKind.wrap .i64 (t10 + (1 : Int))))]; (try simp only [rappS_end, Nat.zero_add, Int.toNat_natCast]); exact ((h.1 c0).2 c1).2.2.2.2.2.2.2.2.2.2.2.2)⟩⟩
        · refine W.draw 80 (by rfl) ?_
          cbv
          refine ⟨⟨ndI hA (And.intro rfl (And.intro (Nat.le_refl _) (And.intro (by subst hA; exact ((h.1 c0).2 c1).2.2.2.2.2.1) (by subst hA; exact ((h.1 c0).2 c1).2.2.2.2.2.2.1)))), ⟨⟨ndI hA (And.intro rfl (by subst hA; show ((0 + (Int.toNat t7)) + ((List.length R0) - (Int.toNat t7))) ≤ (List.length R0); (try simp only [rappS_end, Nat.zero_add, Int.toNat_natCast]); exact ((h.1 c0).2 c1).2.2.2.2.2.2.2.1)), ⟨ndI hA (And.intro rfl (And.intro (by subst hA; show ((List.length (List.take (Int.toNat t7) (List.drop 0 R0))) + 1) ≤ (List.length (rappS (List.take (Int.toNat t7) (List.drop 0 R0)) (List.length (List.take (Int.toNat t7) (List.drop 0 R0))) [[(AV.int .i64 t6)]])); (try simp only [rappS_end, Nat.zero_add, Int.toNat_natCast]); exact ((h.1 c0).2 c1).2.2.2.2.2.2.2.2.1) (And.intro (by subst hA; show (((List.length (List.take (Int.toNat t7) (List.drop 0 R0))) + 1) + (List.length (List.take ((List.length R0) - (Int.toNat t7)) (List.drop (0 + (Int.toNat t7)) R0)))) ≤ 140737488355328; (try simp only [rappS_end, Nat.zero_add, Int.toNat_natCast]); exact ((h.1 c0).2 c1).2.2.2.2.2.2.2.2.2.1) (by subst hA; show ((((List.length (List.take (Int.toNat t7) (List.drop 0 R0))) + 1) + (List.length (List.take ((List.length R0) - (Int.toNat t7)) (List.drop (0 + (Int.toNat t7)) R0)))) * 8) ≤ 140737488355328; (try simp only [rappS_end, Nat.zero_add, Int.toNat_natCast]); exact ((h.1 c0).2 c1).2.2.2.2.2.2.2.2.2.2.1)))), ?_⟩⟩, trivial⟩⟩, trivial⟩
          · refine W.draw 80 (by rfl) ?_
            cbv
            refine ⟨ndI hA (And.intro rfl (And.intro rfl (by subst hA; show (((List.length (List.take (Int.toNat t7) (List.drop 0 R0))) + 1) + (List.length (List.take ((List.length R0) - (Int.toNat t7)) (List.drop (0 + (Int.toNat t7)) R0)))) = (List.length (rappS (rappS (List.take (Int.toNat t7) (List.drop 0 R0)) (List.length (List.take (Int.toNat t7) (List.drop 0 R0))) [[(AV.int .i64 t6)]]) ((List.length (List.take (Int.toNat t7) (List.drop 0 R0))) + 1) (List.take ((List.length R0) - (Int.toNat t7)) (List.drop (0 + (Int.toNat t7)) R0)))); (try simp only [rappS_end, Nat.zero_add, Int.toNat_natCast]); exact ((h.1 c0).2 c1).2.2.2.2.2.2.2.2.2.2.2.1))), ⟨ndI hA (by subst hA; exact (vapp (vapp (vtake (vdrop hp.1)) vpur) (vtake (vdrop hp.1)))), (by subst hA; show EV 9 [(rappS (rappS (List.take (Int.toNat t7) (List.drop 0 R0)) (List.length (List.take (Int.toNat t7) (List.drop 0 R0))) [[(AV.int .i64 t6)]]) ((List.length (List.take (Int.toNat t7) (List.drop 0 R0))) + 1) (List.take ((List.length R0) - (Int.toNat t7)) (List.drop (0 + (Int.toNat t7)) R0)))] [(Lf.r t0), (Lf.b t1), (Lf.i t9), (Lf.i (IntKind.wrap .i64 (t10 + (1 : Int))))]; (try simp only [rappS_end, Nat.zero_add, Int.toNat_natCast]); exact ((h.1 c0).2 c1).2.2.2.2.2.2.2.2.2.2.2.2)⟩⟩
    · refine W.draw 80 (by rfl) ?_
      cbv
      refine ⟨ndI hA (And.intro (by subst hA; exact (h.2 c0).1) (And.intro (by subst hA; exact (h.2 c0).2.1) rfl)), ⟨ndI hA (And.intro (by subst hA; exact (h.2 c0).1) (And.intro (by subst hA; exact (h.2 c0).2.1) rfl)), ⟨⟨⟨ndI hA (And.intro rfl (by subst hA; show (0 + (Int.toNat t7)) ≤ (List.length R0); (try simp only [rappS_end, Nat.zero_add, Int.toNat_natCast]); exact (h.2 c0).2.2.1)), ⟨ndI hA (And.intro (by subst hA; exact (h.2 c0).2.2.2.1) (by subst hA; exact (h.2 c0).2.2.2.2.1)), ?_⟩⟩, ⟨⟨⟨ndI hA (And.intro rfl (by subst hA; show (0 + (Int.toNat t7)) ≤ (List.length R0); (try simp only [rappS_end, Nat.zero_add, Int.toNat_natCast]); exact (h.2 c0).2.2.1)), ⟨ndI hA (And.intro (by subst hA; exact (h.2 c0).2.2.2.1) (by subst hA; exact (h.2 c0).2.2.2.2.1)), ?_⟩⟩, trivial⟩, trivial⟩⟩, ⟨⟨⟨⟨ndI hA (And.intro rfl (by subst hA; show (0 + (Int.toNat t7)) ≤ (List.length R0); (try simp only [rappS_end, Nat.zero_add, Int.toNat_natCast]); exact (h.2 c0).2.2.1)), ⟨ndI hA (And.intro (by subst hA; exact (h.2 c0).2.2.2.1) (by subst hA; exact (h.2 c0).2.2.2.2.1)), ?_⟩⟩, trivial⟩, trivial⟩, trivial⟩⟩⟩⟩
      · refine W.draw 80 (by rfl) ?_
        cbv
        refine ⟨⟨⟨ndI hA (And.intro rfl (And.intro (Nat.le_refl _) (And.intro (by subst hA; exact (h.2 c0).2.2.2.2.2.1) (by subst hA; exact (h.2 c0).2.2.2.2.2.2.1)))), ⟨⟨ndI hA (And.intro rfl (by subst hA; show ((0 + (Int.toNat t7)) + ((List.length R0) - (Int.toNat t7))) ≤ (List.length R0); (try simp only [rappS_end, Nat.zero_add, Int.toNat_natCast]); exact (h.2 c0).2.2.2.2.2.2.2.1)), ⟨ndI hA (And.intro rfl (And.intro (by subst hA; show ((List.length (List.take (Int.toNat t7) (List.drop 0 R0))) + 1) ≤ (List.length (rappS (List.take (Int.toNat t7) (List.drop 0 R0)) (List.length (List.take (Int.toNat t7) (List.drop 0 R0))) [[(AV.int .i64 t6)]])); (try simp only [rappS_end, Nat.zero_add, Int.toNat_natCast]); exact (h.2 c0).2.2.2.2.2.2.2.2.1) (And.intro (by subst hA; show (((List.length (List.take (Int.toNat t7) (List.drop 0 R0))) + 1) + (List.length (List.take ((List.length R0) - (Int.toNat t7)) (List.drop (0 + (Int.toNat t7)) R0)))) ≤ 140737488355328; (try simp only [rappS_end, Nat.zero_add, Int.toNat_natCast]); exact (h.2 c0).2.2.2.2.2.2.2.2.2.1) (by subst hA; show ((((List.length (List.take (Int.toNat t7) (List.drop 0 R0))) + 1) + (List.length (List.take ((List.length R0) - (Int.toNat t7)) (List.drop (0 + (Int.toNat t7)) R0)))) * 8) ≤ 140737488355328; (try simp only [rappS_end, Nat.zero_add, Int.toNat_natCast]); exact (h.2 c0).2.2.2.2.2.2.2.2.2.2.1)))), ?_⟩⟩, trivial⟩⟩, trivial⟩, trivial⟩
        · refine W.draw 80 (by rfl) ?_
          cbv
          refine ⟨ndI hA (And.intro rfl (And.intro rfl (by subst hA; show (((List.length (List.take (Int.toNat t7) (List.drop 0 R0))) + 1) + (List.length (List.take ((List.length R0) - (Int.toNat t7)) (List.drop (0 + (Int.toNat t7)) R0)))) = (List.length (rappS (rappS (List.take (Int.toNat t7) (List.drop 0 R0)) (List.length (List.take (Int.toNat t7) (List.drop 0 R0))) [[(AV.int .i64 t6)]]) ((List.length (List.take (Int.toNat t7) (List.drop 0 R0))) + 1) (List.take ((List.length R0) - (Int.toNat t7)) (List.drop (0 + (Int.toNat t7)) R0)))); (try simp only [rappS_end, Nat.zero_add, Int.toNat_natCast]); exact (h.2 c0).2.2.2.2.2.2.2.2.2.2.2.1))), ⟨ndI hA (by subst hA; exact (vapp (vapp (vtake (vdrop hp.1)) vpur) (vtake (vdrop hp.1)))), (by subst hA; show EV 9 [(rappS (rappS (List.take (Int.toNat t7) (List.drop 0 R0)) (List.length (List.take (Int.toNat t7) (List.drop 0 R0))) [[(AV.int .i64 t6)]]) ((List.length (List.take (Int.toNat t7) (List.drop 0 R0))) + 1) (List.take ((List.length R0) - (Int.toNat t7)) (List.drop (0 + (Int.toNat t7)) R0)))] [(Lf.r t0), (Lf.b t1), (Lf.i t9), (Lf.i (IntKind.wrap .i64 (t10 + (1 : Int))))]; (try simp only [rappS_end, Nat.zero_add, Int.toNat_natCast]); exact (h.2 c0).2.2.2.2.2.2.2.2.2.2.2.2)⟩⟩
      · refine W.draw 80 (by rfl) ?_
        cbv
        refine ⟨⟨ndI hA (And.intro rfl (And.intro (Nat.le_refl _) (And.intro (by subst hA; exact (h.2 c0).2.2.2.2.2.1) (by subst hA; exact (h.2 c0).2.2.2.2.2.2.1)))), ⟨⟨ndI hA (And.intro rfl (by subst hA; show ((0 + (Int.toNat t7)) + ((List.length R0) - (Int.toNat t7))) ≤ (List.length R0); (try simp only [rappS_end, Nat.zero_add, Int.toNat_natCast]); exact (h.2 c0).2.2.2.2.2.2.2.1)), ⟨ndI hA (And.intro rfl (And.intro (by subst hA; show ((List.length (List.take (Int.toNat t7) (List.drop 0 R0))) + 1) ≤ (List.length (rappS (List.take (Int.toNat t7) (List.drop 0 R0)) (List.length (List.take (Int.toNat t7) (List.drop 0 R0))) [[(AV.int .i64 t6)]])); (try simp only [rappS_end, Nat.zero_add, Int.toNat_natCast]); exact (h.2 c0).2.2.2.2.2.2.2.2.1) (And.intro (by subst hA; show (((List.length (List.take (Int.toNat t7) (List.drop 0 R0))) + 1) + (List.length (List.take ((List.length R0) - (Int.toNat t7)) (List.drop (0 + (Int.toNat t7)) R0)))) ≤ 140737488355328; (try simp only [rappS_end, Nat.zero_add, Int.toNat_natCast]); exact (h.2 c0).2.2.2.2.2.2.2.2.2.1) (by subst hA; show ((((List.length (List.take (Int.toNat t7) (List.drop 0 R0))) + 1) + (List.length (List.take ((List.length R0) - (Int.toNat t7)) (List.drop (0 + (Int.toNat t7)) R0)))) * 8) ≤ 140737488355328; (try simp only [rappS_end, Nat.zero_add, Int.toNat_natCast]); exact (h.2 c0).2.2.2.2.2.2.2.2.2.2.1)))), ?_⟩⟩, trivial⟩⟩, trivial⟩
        · refine W.draw 80 (by rfl) ?_
          cbv
          refine ⟨ndI hA (And.intro rfl (And.intro rfl (by subst hA; show (((List.length (List.take (Int.toNat t7) (List.drop 0 R0))) + 1) + (List.length (List.take ((List.length R0) - (Int.toNat t7)) (List.drop (0 + (Int.toNat t7)) R0)))) = (List.length (rappS (rappS (List.take (Int.toNat t7) (List.drop 0 R0)) (List.length (List.take (Int.toNat t7) (List.drop 0 R0))) [[(AV.int .i64 t6)]]) ((List.length (List.take (Int.toNat t7) (List.drop 0 R0))) + 1) (List.take ((List.length R0) - (Int.toNat t7)) (List.drop (0 + (Int.toNat t7)) R0)))); (try simp only [rappS_end, Nat.zero_add, Int.toNat_natCast]); exact (h.2 c0).2.2.2.2.2.2.2.2.2.2.2.1))), ⟨ndI hA (by subst hA; exact (vapp (vapp (vtake (vdrop hp.1)) vpur) (vtake (vdrop hp.1)))), (by subst hA; show EV 9 [(rappS (rappS (List.take (Int.toNat t7) (List.drop 0 R0)) (List.length (List.take (Int.toNat t7) (List.drop 0 R0))) [[(AV.int .i64 t6)]]) ((List.length (List.take (Int.toNat t7) (List.drop 0 R0))) + 1) (List.take ((List.length R0) - (Int.toNat t7)) (List.drop (0 + (Int.toNat t7)) R0)))] [(Lf.r t0), (Lf.b t1), (Lf.i t9), (Lf.i (IntKind.wrap .i64 (t10 + (1 : Int))))]; (try simp only [rappS_end, Nat.zero_add, Int.toNat_natCast]); exact (h.2 c0).2.2.2.2.2.2.2.2.2.2.2.2)⟩⟩
      · refine W.draw 80 (by rfl) ?_
        cbv
        refine ⟨⟨ndI hA (And.intro rfl (And.intro (Nat.le_refl _) (And.intro (by subst hA; exact (h.2 c0).2.2.2.2.2.1) (by subst hA; exact (h.2 c0).2.2.2.2.2.2.1)))), ⟨⟨ndI hA (And.intro rfl (by subst hA; show ((0 + (Int.toNat t7)) + ((List.length R0) - (Int.toNat t7))) ≤ (List.length R0); (try simp only [rappS_end, Nat.zero_add, Int.toNat_natCast]); exact (h.2 c0).2.2.2.2.2.2.2.1)), ⟨ndI hA (And.intro rfl (And.intro (by subst hA; show ((List.length (List.take (Int.toNat t7) (List.drop 0 R0))) + 1) ≤ (List.length (rappS (List.take (Int.toNat t7) (List.drop 0 R0)) (List.length (List.take (Int.toNat t7) (List.drop 0 R0))) [[(AV.int .i64 t6)]])); (try simp only [rappS_end, Nat.zero_add, Int.toNat_natCast]); exact (h.2 c0).2.2.2.2.2.2.2.2.1) (And.intro (by subst hA; show (((List.length (List.take (Int.toNat t7) (List.drop 0 R0))) + 1) + (List.length (List.take ((List.length R0) - (Int.toNat t7)) (List.drop (0 + (Int.toNat t7)) R0)))) ≤ 140737488355328; (try simp only [rappS_end, Nat.zero_add, Int.toNat_natCast]); exact (h.2 c0).2.2.2.2.2.2.2.2.2.1) (by subst hA; show ((((List.length (List.take (Int.toNat t7) (List.drop 0 R0))) + 1) + (List.length (List.take ((List.length R0) - (Int.toNat t7)) (List.drop (0 + (Int.toNat t7)) R0)))) * 8) ≤ 140737488355328; (try simp only [rappS_end, Nat.zero_add, Int.toNat_natCast]); exact (h.2 c0).2.2.2.2.2.2.2.2.2.2.1)))), ?_⟩⟩, trivial⟩⟩, trivial⟩
        · refine W.draw 80 (by rfl) ?_
          cbv
          refine ⟨ndI hA (And.intro rfl (And.intro rfl (by subst hA; show (((List.length (List.take (Int.toNat t7) (List.drop 0 R0))) + 1) + (List.length (List.take ((List.length R0) - (Int.toNat t7)) (List.drop (0 + (Int.toNat t7)) R0)))) = (List.length (rappS (rappS (List.take (Int.toNat t7) (List.drop 0 R0)) (List.length (List.take (Int.toNat t7) (List.drop 0 R0))) [[(AV.int .i64 t6)]]) ((List.length (List.take (Int.toNat t7) (List.drop 0 R0))) + 1) (List.take ((List.length R0) - (Int.toNat t7)) (List.drop (0 + (Int.toNat t7)) R0)))); (try simp only [rappS_end, Nat.zero_add, Int.toNat_natCast]); exact (h.2 c0).2.2.2.2.2.2.2.2.2.2.2.1))), ⟨ndI hA (by subst hA; exact (vapp (vapp (vtake (vdrop hp.1)) vpur) (vtake (vdrop hp.1)))), (by subst hA; show EV 9 [(rappS (rappS (List.take (Int.toNat t7) (List.drop 0 R0)) (List.length (List.take (Int.toNat t7) (List.drop 0 R0))) [[(AV.int .i64 t6)]]) ((List.length (List.take (Int.toNat t7) (List.drop 0 R0))) + 1) (List.take ((List.length R0) - (Int.toNat t7)) (List.drop (0 + (Int.toNat t7)) R0)))] [(Lf.r t0), (Lf.b t1), (Lf.i t9), (Lf.i (IntKind.wrap .i64 (t10 + (1 : Int))))]; (try simp only [rappS_end, Nat.zero_add, Int.toNat_natCast]); exact (h.2 c0).2.2.2.2.2.2.2.2.2.2.2.2)⟩⟩

end
set_option maxHeartbeats 0 in
/-- To enter. -/
theorem E40 {Q : Nat → Rs → List Lf → Prop} {a0 : List (List AV)} {a1 : Bool} (h : ∀ EV : Nat → Rs → List Lf → Prop, V40 EV Q →
    EV 9 [[]] [(Lf.r a0), (Lf.b a1), (Lf.i (((List.length a0) : Nat) : Int)), (Lf.i (0 : Int))]) :
    EC Try.prog G40 [] [.r a0, .b a1] Q := by
  obtain ⟨A, hA⟩ : ∃ A, A = arS := ⟨_, rfl⟩
  refine Inst.enter (I := I40) hA mixed F40_at sg L40 80 rfl fun CE CK Dn EV RR W hp => ?_
  have h := h  EV (V40.of W)
  cbv
  refine ⟨ndI hA (And.intro (by subst hA; show 0 = 0; (first | rfl | simp [rappS_end] | (simp only [rappS_end, List.length_append, List.length_set, List.length_cons, List.length_nil]; omega))) (And.intro rfl (by subst hA; show 0 = 0; (first | rfl | simp [rappS_end] | (simp only [rappS_end, List.length_append, List.length_set, List.length_cons, List.length_nil]; omega))))), ⟨ndI hA (by subst hA; exact vpur), (by subst hA; exact h)⟩⟩

-- 64: signalbox/signalboxref44.left
section
structure V64 (EV Q : Nat → Rs → List Lf → Prop) : Prop where
  p7 : ∀ {t0 : List (List AV)} {t1 : Int} {t3 : Int} {t11 : List (List AV)} {t12 : Int} {t13 : Int}, (
    (t13 < t12 →
      ((0 : Int) ≤ t13) ∧
      (t11[(Int.toNat t13)]? = some [(AV.int .i64 (cIS t11 (Int.toNat t13) 0))]) ∧
      ((cIS t11 (Int.toNat t13) 0) = t3 →
        ((0 : Int) ≤ t13) ∧
        (t0[(Int.toNat t13)]? = some [(AV.int .i64 (cIS t0 (Int.toNat t13) 0))]) ∧
        (EV 7 [] [(Lf.r t0), (Lf.i (IntKind.wrap .i64 (t1 - (cIS t0 (Int.toNat t13) 0)))), (Lf.i t3), (Lf.r t11), (Lf.i t12), (Lf.i (IntKind.wrap .i64 (t13 + (1 : Int))))])) ∧
      ((cIS t11 (Int.toNat t13) 0) ≠ t3 →
        EV 7 [] [(Lf.r t0), (Lf.i t1), (Lf.i t3), (Lf.r t11), (Lf.i t12), (Lf.i (IntKind.wrap .i64 (t13 + (1 : Int))))])) ∧
    (t13 ≥ t12 →
      Q 0 [] [(Lf.i t1)])) →
    EV 7 [] [.r t0, .i t1, .i t3, .r t11, .i t12, .i t13]

set_option maxHeartbeats 0 in
theorem V64.of {Q : Nat → Rs → List Lf → Prop} {A : Ar} {CE : Nat → Rs → List Lf → (Nat → Rs → List Lf → Prop) → Prop} {CK : Nat → Rs → List Lf → Cont → Prop} {Dn : Nat → List Bool → List AItem → Nat → List Bool → List AV → List ABlk → Prop} {EV RR : Nat → Rs → List Lf → Prop} (W : Wk Try.prog Try.f64 I64 L64 Q A sg CE CK Dn EV RR) : V64 EV Q := by
  have hA := W.hA
  refine ⟨?_⟩
  · intro t0 t1 t3 t11 t12 t13 h
    refine W.step 80 fun hp => ?_
    cbv
    refine ⟨imI hA fun e0 => have c0 : t13 < t12 := (by have q := (cmpE (op := .lss) hA e0); subst hA; exact q); ⟨ndI hA (And.intro (by subst hA; exact (h.1 c0).1) (by subst hA; exact (h.1 c0).2.1)), ⟨imI hA fun e1 => have c1 : (cIS t11 (Int.toNat t13) 0) = t3 := (by have q := (cmpE (op := .eql) hA e1); subst hA; exact q); ⟨ndI hA (And.intro (by subst hA; exact ((h.1 c0).2.2.1 c1).1) (by subst hA; exact ((h.1 c0).2.2.1 c1).2.1)), (by subst hA; exact ((h.1 c0).2.2.1 c1).2.2)⟩, imI hA fun e1 => have c1 : (cIS t11 (Int.toNat t13) 0) ≠ t3 := (by have q := (cmpE (op := .eql) hA e1); subst hA; exact q); (by subst hA; exact ((h.1 c0).2.2.2 c1))⟩⟩, imI hA fun e0 => have c0 : t13 ≥ t12 := (by have q := (cmpE (op := .lss) hA e0); subst hA; exact q); (by rw [W.rr]; exact (by subst hA; exact (h.2 c0)))⟩

end
set_option maxHeartbeats 0 in
/-- To enter. -/
theorem E64 {Q : Nat → Rs → List Lf → Prop} {a0 : List (List AV)} {a1 : Int} {a2 : List (List AV)} {a3 : Int} (h : ∀ EV : Nat → Rs → List Lf → Prop, V64 EV Q →
    EV 7 [] [(Lf.r a0), (Lf.i a1), (Lf.i a3), (Lf.r a2), (Lf.i (((List.length a2) : Nat) : Int)), (Lf.i (0 : Int))]) :
    EC Try.prog G64 [] [.r a0, .i a1, .r a2, .i a3] Q := by
  obtain ⟨A, hA⟩ : ∃ A, A = arS := ⟨_, rfl⟩
  refine Inst.enter (I := I64) hA mixed F64_at sg L64 80 rfl fun CE CK Dn EV RR W hp => ?_
  have h := h  EV (V64.of W)
  cbv
  refine (by subst hA; exact h)

-- 64a: signalbox/signalboxref44.left
section
structure V64a (EV Q : Nat → Rs → List Lf → Prop) : Prop where
  p7 : ∀ {R0 : List (List AV)} {t0 : List (List AV)} {t1 : Int} {t3 : Int} {t12 : Int} {t13 : Int}, (pursS R0 = true → 
    (t13 < t12 →
      ((0 : Int) ≤ t13) ∧
      (t13 < (((List.length R0) : Nat) : Int)) ∧
      (R0[(Int.toNat t13)]? = some [(AV.int .i64 (cIS R0 (Int.toNat t13) 0))]) ∧
      ((cIS R0 (Int.toNat t13) 0) = t3 →
        ((0 : Int) ≤ t13) ∧
        (t0[(Int.toNat t13)]? = some [(AV.int .i64 (cIS t0 (Int.toNat t13) 0))]) ∧
        (EV 7 [R0] [(Lf.r t0), (Lf.i (IntKind.wrap .i64 (t1 - (cIS t0 (Int.toNat t13) 0)))), (Lf.i t3), (Lf.i t12), (Lf.i (IntKind.wrap .i64 (t13 + (1 : Int))))])) ∧
      ((cIS R0 (Int.toNat t13) 0) ≠ t3 →
        EV 7 [R0] [(Lf.r t0), (Lf.i t1), (Lf.i t3), (Lf.i t12), (Lf.i (IntKind.wrap .i64 (t13 + (1 : Int))))])) ∧
    (t13 ≥ t12 →
      Q 0 [R0] [(Lf.i t1)])) →
    EV 7 [R0] [.r t0, .i t1, .i t3, .i t12, .i t13]

set_option maxHeartbeats 0 in
theorem V64a.of {Q : Nat → Rs → List Lf → Prop} {A : Ar} {CE : Nat → Rs → List Lf → (Nat → Rs → List Lf → Prop) → Prop} {CK : Nat → Rs → List Lf → Cont → Prop} {Dn : Nat → List Bool → List AItem → Nat → List Bool → List AV → List ABlk → Prop} {EV RR : Nat → Rs → List Lf → Prop} (W : Wk Try.prog Try.f64 I64a L64a Q A sg CE CK Dn EV RR) : V64a EV Q := by
  have hA := W.hA
  refine ⟨?_⟩
  · intro R0 t0 t1 t3 t12 t13 h
    refine W.step 80 fun hp => ?_
    have h := h hp.1
    cbv
    refine ⟨imI hA fun e0 => have c0 : t13 < t12 := (by have q := (cmpE (op := .lss) hA e0); subst hA; exact q); ⟨ndI hA (And.intro (by subst hA; exact (h.1 c0).1) (And.intro (by subst hA; exact (h.1 c0).2.1) rfl)), ⟨ndI hA (And.intro rfl (by subst hA; show R0[(0 + (Int.toNat t13))]? = some [(AV.int .i64 (cIS R0 (0 + (Int.toNat t13)) 0))]; (try simp only [rappS_end, Nat.zero_add, Int.toNat_natCast]); exact (h.1 c0).2.2.1)), ⟨imI hA fun e1 => have c1 : (cIS R0 (Int.toNat t13) 0) = t3 := (by have q := (cmpE (op := .eql) hA e1); subst hA; have q : (cIS R0 (0 + (Int.toNat t13)) 0) = t3 := q; simpa only [rappS_end, Nat.zero_add, Int.toNat_natCast] using q); ⟨ndI hA (And.intro (by subst hA; exact ((h.1 c0).2.2.2.1 c1).1) (by subst hA; exact ((h.1 c0).2.2.2.1 c1).2.1)), ⟨ndI hA (And.intro rfl (And.intro rfl rfl)), ⟨ndI hA (by subst hA; exact hp.1), (by subst hA; exact ((h.1 c0).2.2.2.1 c1).2.2)⟩⟩⟩, imI hA fun e1 => have c1 : (cIS R0 (Int.toNat t13) 0) ≠ t3 := (by have q := (cmpE (op := .eql) hA e1); subst hA; have q : (cIS R0 (0 + (Int.toNat t13)) 0) ≠ t3 := q; simpa only [rappS_end, Nat.zero_add, Int.toNat_natCast] using q); ⟨ndI hA (And.intro rfl (And.intro rfl rfl)), ⟨ndI hA (by subst hA; exact hp.1), (by subst hA; exact ((h.1 c0).2.2.2.2 c1))⟩⟩⟩⟩⟩, imI hA fun e0 => have c0 : t13 ≥ t12 := (by have q := (cmpE (op := .lss) hA e0); subst hA; exact q); ⟨ndI hA (by subst hA; exact hp.1), (by rw [W.rr]; exact (by subst hA; exact (h.2 c0)))⟩⟩

end
set_option maxHeartbeats 0 in
/-- To enter. -/
theorem E64a {Q : Nat → Rs → List Lf → Prop} {R0 : List (List AV)} {a0 : List (List AV)} {a1 : Int} {a3 : Int} (h : pursS R0 = true → ∀ EV : Nat → Rs → List Lf → Prop, V64a EV Q →
    EV 7 [R0] [(Lf.r a0), (Lf.i a1), (Lf.i a3), (Lf.i (((List.length R0) : Nat) : Int)), (Lf.i (0 : Int))]) :
    EC Try.prog G64a [R0] [.r a0, .i a1, .i a3] Q := by
  obtain ⟨A, hA⟩ : ∃ A, A = arS := ⟨_, rfl⟩
  refine Inst.enter (I := I64a) hA mixed F64_at sg L64a 80 rfl fun CE CK Dn EV RR W hp => ?_
  have h := h hp.1 EV (V64a.of W)
  cbv
  refine ⟨ndI hA rfl, ⟨ndI hA (And.intro rfl (And.intro rfl rfl)), ⟨ndI hA (by subst hA; exact hp.1), (by subst hA; exact h)⟩⟩⟩

-- 39: signalbox/signalboxref44.Pack
section
structure V39 (EV Q : Nat → Rs → List Lf → Prop) : Prop where
  p9 : ∀ {R0 : List (List AV)} {t0 : List (List AV)} {t1 : Int} {t2 : List (List AV)} {t3 : Bool} {t22 : Int} {t23 : Int}, (pursS R0 = true → 
    (t23 < t22 →
      ((0 : Int) ≤ t23) ∧
      (t23 < (((List.length R0) : Nat) : Int)) ∧
      (R0[(Int.toNat t23)]? = some [(AV.int .i64 (cIS R0 (Int.toNat t23) 0))]) ∧
      (EV 9 [(List.set R0 (Int.toNat t23) [(AV.int .i64 (-1))])] [(Lf.r t0), (Lf.i t1), (Lf.r t2), (Lf.b t3), (Lf.i t22), (Lf.i (IntKind.wrap .i64 (t23 + (1 : Int))))])) ∧
    (t23 ≥ t22 →
      EV 28 [R0] [(Lf.r t0), (Lf.i t1), (Lf.b t3), (Lf.i (0 : Int)), (Lf.r t2), (Lf.i (((List.length t2) : Nat) : Int)), (Lf.i (0 : Int))])) →
    EV 9 [R0] [.r t0, .i t1, .r t2, .b t3, .i t22, .i t23]
  p28 : ∀ {R0 : List (List AV)} {t0 : List (List AV)} {t1 : Int} {t3 : Bool} {t12 : Int} {t30 : List (List AV)} {t31 : Int} {t32 : Int}, (pursS R0 = true → 
    (t32 < t31 →
      ((0 : Int) ≤ t32) ∧
      (t30[(Int.toNat t32)]? = some [(AV.int .i64 (cIS t30 (Int.toNat t32) 0))]) ∧
      (EV 45 [R0] [(Lf.r t0), (Lf.i t1), (Lf.b t3), (Lf.i t12), (Lf.i (cIS t30 (Int.toNat t32) 0)), (Lf.i (-1)), (Lf.i (0 : Int)), (Lf.r t30), (Lf.i t31), (Lf.i t32)])) ∧
    (t32 ≥ t31 →
      Q 0 [R0] [(Lf.i t12)])) →
    EV 28 [R0] [.r t0, .i t1, .b t3, .i t12, .r t30, .i t31, .i t32]
  p45 : ∀ {R0 : List (List AV)} {t0 : List (List AV)} {t1 : Int} {t3 : Bool} {t12 : Int} {t14 : Int} {t15 : Int} {t16 : Int} {t30 : List (List AV)} {t31 : Int} {t32 : Int}, (pursS R0 = true → 
    (t16 < t12 →
      EC Try.prog G64a [R0] [(Lf.r t0), (Lf.i t1), (Lf.i t16)] (fun x rs vs => (x = 0 ∧ ∃ (Y1_0 : List (List AV)) (y1_0 : Int), rs = [Y1_0] ∧ vs = [.i y1_0] ∧
        (((0 : Int) ≤ t14) ∧
          (t0[(Int.toNat t14)]? = some [(AV.int .i64 (cIS t0 (Int.toNat t14) 0))]) ∧
          (y1_0 ≥ (cIS t0 (Int.toNat t14) 0) →
            (t15 ≥ (0 : Int) →
              (t3 = true →
                ((List.length R0) = (List.length Y1_0)) ∧
                (EC Try.prog G64a [Y1_0] [(Lf.r t0), (Lf.i t1), (Lf.i t15)] (fun x rs vs => (x = 0 ∧ ∃ (Y5_0 : List (List AV)) (y5_0 : Int), rs = [Y5_0] ∧ vs = [.i y5_0] ∧
                  ((y1_0 < y5_0 →
                      ((List.length R0) = (List.length Y5_0)) ∧
                      (EV 45 [Y5_0] [(Lf.r t0), (Lf.i t1), (Lf.b t3), (Lf.i t12), (Lf.i t14), (Lf.i t16), (Lf.i (IntKind.wrap .i64 (t16 + (1 : Int)))), (Lf.r t30), (Lf.i t31), (Lf.i t32)])) ∧
                    (y1_0 ≥ y5_0 →
                      ((List.length R0) = (List.length Y5_0)) ∧
                      (EV 45 [Y5_0] [(Lf.r t0), (Lf.i t1), (Lf.b t3), (Lf.i t12), (Lf.i t14), (Lf.i t15), (Lf.i (IntKind.wrap .i64 (t16 + (1 : Int)))), (Lf.r t30), (Lf.i t31), (Lf.i t32)]))))))) ∧
              (t3 = false →
                ((List.length R0) = (List.length Y1_0)) ∧
                (EV 45 [Y1_0] [(Lf.r t0), (Lf.i t1), (Lf.b t3), (Lf.i t12), (Lf.i t14), (Lf.i t15), (Lf.i (IntKind.wrap .i64 (t16 + (1 : Int)))), (Lf.r t30), (Lf.i t31), (Lf.i t32)]))) ∧
            (t15 < (0 : Int) →
              ((List.length R0) = (List.length Y1_0)) ∧
              (EV 45 [Y1_0] [(Lf.r t0), (Lf.i t1), (Lf.b t3), (Lf.i t12), (Lf.i t14), (Lf.i t16), (Lf.i (IntKind.wrap .i64 (t16 + (1 : Int)))), (Lf.r t30), (Lf.i t31), (Lf.i t32)]))) ∧
          (y1_0 < (cIS t0 (Int.toNat t14) 0) →
            ((List.length R0) = (List.length Y1_0)) ∧
            (EV 45 [Y1_0] [(Lf.r t0), (Lf.i t1), (Lf.b t3), (Lf.i t12), (Lf.i t14), (Lf.i t15), (Lf.i (IntKind.wrap .i64 (t16 + (1 : Int)))), (Lf.r t30), (Lf.i t31), (Lf.i t32)])))))) ∧
    (t16 ≥ t12 →
      (t15 < (0 : Int) →
        ((0 : Int) ≤ t14) ∧
        (t14 < (((List.length R0) : Nat) : Int)) ∧
        (R0[(Int.toNat t14)]? = some [(AV.int .i64 (cIS R0 (Int.toNat t14) 0))]) ∧
        (EV 28 [(List.set R0 (Int.toNat t14) [(AV.int .i64 t12)])] [(Lf.r t0), (Lf.i t1), (Lf.b t3), (Lf.i (IntKind.wrap .i64 (t12 + (1 : Int)))), (Lf.r t30), (Lf.i t31), (Lf.i (IntKind.wrap .i64 (t32 + (1 : Int))))])) ∧
      (t15 ≥ (0 : Int) →
        ((0 : Int) ≤ t14) ∧
        (t14 < (((List.length R0) : Nat) : Int)) ∧
        (R0[(Int.toNat t14)]? = some [(AV.int .i64 (cIS R0 (Int.toNat t14) 0))]) ∧
        (EV 28 [(List.set R0 (Int.toNat t14) [(AV.int .i64 t15)])] [(Lf.r t0), (Lf.i t1), (Lf.b t3), (Lf.i t12), (Lf.r t30), (Lf.i t31), (Lf.i (IntKind.wrap .i64 (t32 + (1 : Int))))])))) →
    EV 45 [R0] [.r t0, .i t1, .b t3, .i t12, .i t14, .i t15, .i t16, .r t30, .i t31, .i t32]

set_option maxHeartbeats 0 in
theorem V39.of {Q : Nat → Rs → List Lf → Prop} {A : Ar} {CE : Nat → Rs → List Lf → (Nat → Rs → List Lf → Prop) → Prop} {CK : Nat → Rs → List Lf → Cont → Prop} {Dn : Nat → List Bool → List AItem → Nat → List Bool → List AV → List ABlk → Prop} {EV RR : Nat → Rs → List Lf → Prop} (W : Wk Try.prog Try.f39 I39 L39 Q A sg CE CK Dn EV RR) : V39 EV Q := by
  have hA := W.hA
  refine ⟨?_, ?_, ?_⟩
  · intro R0 t0 t1 t2 t3 t22 t23 h
    refine W.step 80 fun hp => ?_
    have h := h hp.1
    cbv
    refine ⟨imI hA fun e0 => have c0 : t23 < t22 := (by have q := (cmpE (op := .lss) hA e0); subst hA; exact q); ⟨ndI hA (And.intro (by subst hA; exact (h.1 c0).1) (And.intro (by subst hA; exact (h.1 c0).2.1) rfl)), ⟨ndI hA (And.intro rfl (by subst hA; show R0[(0 + (Int.toNat t23))]? = some [(AV.int .i64 (cIS R0 (0 + (Int.toNat t23)) 0))]; (try simp only [rappS_end, Nat.zero_add, Int.toNat_natCast]); exact (h.1 c0).2.2.1)), ⟨ndI hA (And.intro (by subst hA; show (List.length R0) = (List.length (List.set R0 (0 + (Int.toNat t23)) [(AV.int .i64 (-1))])); (first | rfl | simp [rappS_end] | (simp only [rappS_end, List.length_append, List.length_set, List.length_cons, List.length_nil]; omega))) (And.intro rfl (by subst hA; show (List.length R0) = (List.length (List.set R0 (0 + (Int.toNat t23)) [(AV.int .i64 (-1))])); (first | rfl | simp [rappS_end] | (simp only [rappS_end, List.length_append, List.length_set, List.length_cons, List.length_nil]; omega))))), ⟨ndI hA (by subst hA; exact (vset hp.1 rfl)), (by subst hA; show EV 9 [(List.set R0 (0 + (Int.toNat t23)) [(AV.int .i64 (-1))])] [(Lf.r t0), (Lf.i t1), (Lf.r t2), (Lf.b t3), (Lf.i t22), (Lf.i (IntKind.wrap .i64 (t23 + (1 : Int))))]; (try simp only [rappS_end, Nat.zero_add, Int.toNat_natCast]); exact (h.1 c0).2.2.2)⟩⟩⟩⟩, imI hA fun e0 => have c0 : t23 ≥ t22 := (by have q := (cmpE (op := .lss) hA e0); subst hA; exact q); ⟨ndI hA (And.intro rfl (And.intro rfl rfl)), ⟨ndI hA (by subst hA; exact hp.1), (by subst hA; exact (h.2 c0))⟩⟩⟩
  · intro R0 t0 t1 t3 t12 t30 t31 t32 h
    refine W.step 80 fun hp => ?_
    have h := h hp.1
    cbv
    refine ⟨imI hA fun e0 => have c0 : t32 < t31 := (by have q := (cmpE (op := .lss) hA e0); subst hA; exact q); ⟨ndI hA (And.intro (by subst hA; exact (h.1 c0).1) (by subst hA; exact (h.1 c0).2.1)), ⟨ndI hA (And.intro rfl (And.intro rfl rfl)), ⟨ndI hA (by subst hA; exact hp.1), (by subst hA; exact (h.1 c0).2.2)⟩⟩⟩, imI hA fun e0 => have c0 : t32 ≥ t31 := (by have q := (cmpE (op := .lss) hA e0); subst hA; exact q); ⟨ndI hA (And.intro rfl (And.intro rfl rfl)), ⟨ndI hA (by subst hA; exact hp.1), (by rw [W.rr]; exact (by subst hA; exact (h.2 c0)))⟩⟩⟩
  · intro R0 t0 t1 t3 t12 t14 t15 t16 t30 t31 t32 h
    refine W.step 80 fun hp => ?_
    have h := h hp.1
    cbv
    refine ⟨imI hA fun e0 => have c0 : t16 < t12 := (by have q := (cmpE (op := .lss) hA e0); subst hA; exact q); ⟨ndI hA (And.intro rfl (And.intro rfl rfl)), ⟨ndI hA (by subst hA; exact hp.1), ?_⟩⟩, imI hA fun e0 => have c0 : t16 ≥ t12 := (by have q := (cmpE (op := .lss) hA e0); subst hA; exact q); ⟨imI hA fun e1 => have c1 : t15 < (0 : Int) := (by have q := (cmpE (op := .lss) hA e1); subst hA; exact q); ⟨ndI hA (And.intro (by subst hA; exact ((h.2 c0).1 c1).1) (And.intro (by subst hA; exact ((h.2 c0).1 c1).2.1) rfl)), ⟨ndI hA (And.intro rfl (by subst hA; show R0[(0 + (Int.toNat t14))]? = some [(AV.int .i64 (cIS R0 (0 + (Int.toNat t14)) 0))]; (try simp only [rappS_end, Nat.zero_add, Int.toNat_natCast]); exact ((h.2 c0).1 c1).2.2.1)), ⟨ndI hA (And.intro (by subst hA; show (List.length R0) = (List.length (List.set R0 (0 + (Int.toNat t14)) [(AV.int .i64 t12)])); (first | rfl | simp [rappS_end] | (simp only [rappS_end, List.length_append, List.length_set, List.length_cons, List.length_nil]; omega))) (And.intro rfl (by subst hA; show (List.length R0) = (List.length (List.set R0 (0 + (Int.toNat t14)) [(AV.int .i64 t12)])); (first | rfl | simp [rappS_end] | (simp only [rappS_end, List.length_append, List.length_set, List.length_cons, List.length_nil]; omega))))), ⟨ndI hA (by subst hA; exact (vset hp.1 rfl)), (by subst hA; show EV 28 [(List.set R0 (0 + (Int.toNat t14)) [(AV.int .i64 t12)])] [(Lf.r t0), (Lf.i t1), (Lf.b t3), (Lf.i (IntKind.wrap .i64 (t12 + (1 : Int)))), (Lf.r t30), (Lf.i t31), (Lf.i (IntKind.wrap .i64 (t32 + (1 : Int))))]; (try simp only [rappS_end, Nat.zero_add, Int.toNat_natCast]); exact ((h.2 c0).1 c1).2.2.2)⟩⟩⟩⟩, imI hA fun e1 => have c1 : t15 ≥ (0 : Int) := (by have q := (cmpE (op := .lss) hA e1); subst hA; exact q); ⟨ndI hA (And.intro (by subst hA; exact ((h.2 c0).2 c1).1) (And.intro (by subst hA; exact ((h.2 c0).2 c1).2.1) rfl)), ⟨ndI hA (And.intro rfl (by subst hA; show R0[(0 + (Int.toNat t14))]? = some [(AV.int .i64 (cIS R0 (0 + (Int.toNat t14)) 0))]; (try simp only [rappS_end, Nat.zero_add, Int.toNat_natCast]); exact ((h.2 c0).2 c1).2.2.1)), ⟨ndI hA (And.intro (by subst hA; show (List.length R0) = (List.length (List.set R0 (0 + (Int.toNat t14)) [(AV.int .i64 t15)])); (first | rfl | simp [rappS_end] | (simp only [rappS_end, List.length_append, List.length_set, List.length_cons, List.length_nil]; omega))) (And.intro rfl (by subst hA; show (List.length R0) = (List.length (List.set R0 (0 + (Int.toNat t14)) [(AV.int .i64 t15)])); (first | rfl | simp [rappS_end] | (simp only [rappS_end, List.length_append, List.length_set, List.length_cons, List.length_nil]; omega))))), ⟨ndI hA (by subst hA; exact (vset hp.1 rfl)), (by subst hA; show EV 28 [(List.set R0 (0 + (Int.toNat t14)) [(AV.int .i64 t15)])] [(Lf.r t0), (Lf.i t1), (Lf.b t3), (Lf.i t12), (Lf.r t30), (Lf.i t31), (Lf.i (IntKind.wrap .i64 (t32 + (1 : Int))))]; (try simp only [rappS_end, Nat.zero_add, Int.toNat_natCast]); exact ((h.2 c0).2 c1).2.2.2)⟩⟩⟩⟩⟩⟩
    · refine W.call 80 (by rfl) (h.1 c0) (by subst hA; rfl) (by subst hA; rfl) ?_
      rintro x rs vs hp1 hq1
      rcases hq1 with ⟨rfl, Y1_0, y1_0, rfl, rfl, k1⟩
      · cbv
        refine ⟨ndI hA (And.intro (by subst hA; exact k1.1) (by subst hA; exact k1.2.1)), ⟨imI hA fun e2 => have c2 : y1_0 ≥ (cIS t0 (Int.toNat t14) 0) := (by have q := (cmpE (op := .geq) hA e2); subst hA; exact q); ⟨imI hA fun e3 => have c3 : t15 ≥ (0 : Int) := (by have q := (cmpE (op := .lss) hA e3); subst hA; exact q); ⟨imI hA fun e4 => have c4 : t3 = true := (by have q := e4; subst hA; exact q); ⟨ndI hA (And.intro (by subst hA; exact (((k1.2.2.1 c2).1 c3).1 c4).1) (And.intro rfl (by subst hA; exact (((k1.2.2.1 c2).1 c3).1 c4).1))), ⟨ndI hA (by subst hA; exact hp1.1), ?_⟩⟩, imI hA fun e4 => have c4 : t3 = false := (by have q := e4; subst hA; exact q); ⟨ndI hA (And.intro (by subst hA; exact (((k1.2.2.1 c2).1 c3).2 c4).1) (And.intro rfl (by subst hA; exact (((k1.2.2.1 c2).1 c3).2 c4).1))), ⟨ndI hA (by subst hA; exact hp1.1), (by subst hA; exact (((k1.2.2.1 c2).1 c3).2 c4).2)⟩⟩⟩, imI hA fun e3 => have c3 : t15 < (0 : Int) := (by have q := (cmpE (op := .lss) hA e3); subst hA; exact q); ⟨ndI hA (And.intro (by subst hA; exact ((k1.2.2.1 c2).2 c3).1) (And.intro rfl (by subst hA; exact ((k1.2.2.1 c2).2 c3).1))), ⟨ndI hA (by subst hA; exact hp1.1), (by subst hA; exact ((k1.2.2.1 c2).2 c3).2)⟩⟩⟩, imI hA fun e2 => have c2 : y1_0 < (cIS t0 (Int.toNat t14) 0) := (by have q := (cmpE (op := .geq) hA e2); subst hA; exact q); ⟨ndI hA (And.intro (by subst hA; exact (k1.2.2.2 c2).1) (And.intro rfl (by subst hA; exact (k1.2.2.2 c2).1))), ⟨ndI hA (by subst hA; exact hp1.1), (by subst hA; exact (k1.2.2.2 c2).2)⟩⟩⟩⟩
        · refine W.call 80 (by rfl) (((k1.2.2.1 c2).1 c3).1 c4).2 (by subst hA; rfl) (by subst hA; rfl) ?_
          rintro x rs vs hp5 hq5
          rcases hq5 with ⟨rfl, Y5_0, y5_0, rfl, rfl, k5⟩
          · cbv
            refine ⟨imI hA fun e6 => have c6 : y1_0 < y5_0 := (by have q := (cmpE (op := .lss) hA e6); subst hA; exact q); ⟨ndI hA (And.intro (by subst hA; exact (k5.1 c6).1) (And.intro rfl (by subst hA; exact (k5.1 c6).1))), ⟨ndI hA (by subst hA; exact hp5.1), (by subst hA; exact (k5.1 c6).2)⟩⟩, imI hA fun e6 => have c6 : y1_0 ≥ y5_0 := (by have q := (cmpE (op := .lss) hA e6); subst hA; exact q); ⟨ndI hA (And.intro (by subst hA; exact (k5.2 c6).1) (And.intro rfl (by subst hA; exact (k5.2 c6).1))), ⟨ndI hA (by subst hA; exact hp5.1), (by subst hA; exact (k5.2 c6).2)⟩⟩⟩

end
set_option maxHeartbeats 0 in
/-- To enter. -/
theorem E39 {Q : Nat → Rs → List Lf → Prop} {a0 : List (List AV)} {a1 : Int} {a2 : List (List AV)} {a3 : Bool} (h : ∀ EV : Nat → Rs → List Lf → Prop, V39 EV Q →
    ((((List.length a0) : Nat) : Int) ≤ (140737488355328 : Int)) ∧
    (((((List.length a0) : Nat) : Int) * ((8 : Nat) : Int)) ≤ (140737488355328 : Int)) ∧
    (EV 9 [(List.replicate (List.length a0) [(AV.int .i64 (0 : Int))])] [(Lf.r a0), (Lf.i a1), (Lf.r a2), (Lf.b a3), (Lf.i (((List.length a0) : Nat) : Int)), (Lf.i (0 : Int))])) :
    EC Try.prog G39 [] [.r a0, .i a1, .r a2, .b a3] Q := by
  obtain ⟨A, hA⟩ : ∃ A, A = arS := ⟨_, rfl⟩
  refine Inst.enter (I := I39) hA mixed F39_at sg L39 80 rfl fun CE CK Dn EV RR W hp => ?_
  have h := h  EV (V39.of W)
  cbv
  refine ⟨ndI hA (And.intro (by subst hA; exact Int.natCast_nonneg _) (And.intro (by subst hA; exact Int.le_refl _) (And.intro (by subst hA; exact h.1) (by subst hA; exact h.2.1)))), ⟨ndI hA (by subst hA; show (Int.toNat (((List.length a0) : Nat) : Int)) = (List.length (List.replicate (Int.toNat (((List.length a0) : Nat) : Int)) [(AV.int .i64 (0 : Int))])); (first | rfl | simp [rappS_end] | (simp only [rappS_end, List.length_append, List.length_set, List.length_cons, List.length_nil]; omega))), ⟨ndI hA (And.intro (by subst hA; show (Int.toNat (((List.length a0) : Nat) : Int)) = (List.length (List.replicate (Int.toNat (((List.length a0) : Nat) : Int)) [(AV.int .i64 (0 : Int))])); (first | rfl | simp [rappS_end] | (simp only [rappS_end, List.length_append, List.length_set, List.length_cons, List.length_nil]; omega))) (And.intro rfl (by subst hA; show (Int.toNat (((List.length a0) : Nat) : Int)) = (List.length (List.replicate (Int.toNat (((List.length a0) : Nat) : Int)) [(AV.int .i64 (0 : Int))])); (first | rfl | simp [rappS_end] | (simp only [rappS_end, List.length_append, List.length_set, List.length_cons, List.length_nil]; omega))))), ⟨ndI hA (by subst hA; exact (vrep rfl)), (by subst hA; show EV 9 [(List.replicate (Int.toNat (((List.length a0) : Nat) : Int)) [(AV.int .i64 (0 : Int))])] [(Lf.r a0), (Lf.i a1), (Lf.r a2), (Lf.b a3), (Lf.i (((Int.toNat (((List.length a0) : Nat) : Int)) : Nat) : Int)), (Lf.i (0 : Int))]; (try simp only [rappS_end, Nat.zero_add, Int.toNat_natCast]); exact h.2.2)⟩⟩⟩⟩

-- 41: signalbox/signalboxlaw44.same DRAWN
section
structure V41 (EV Q : Nat → Rs → List Lf → Prop) : Prop where
  p15 : ∀ {t0 : List (List AV)} {t1 : List (List AV)} {t12 : Int} {t13 : Int}, (
    (t13 < t12 →
      ((0 : Int) ≤ t13) ∧
      (t0[(Int.toNat t13)]? = some [(AV.int .i64 (cIS t0 (Int.toNat t13) 0))]) ∧
      (t1[(Int.toNat t13)]? = some [(AV.int .i64 (cIS t1 (Int.toNat t13) 0))]) ∧
      ((cIS t0 (Int.toNat t13) 0) ≠ (cIS t1 (Int.toNat t13) 0) →
        Q 0 [] [(Lf.b false)]) ∧
      ((cIS t0 (Int.toNat t13) 0) = (cIS t1 (Int.toNat t13) 0) →
        EV 15 [] [(Lf.r t0), (Lf.r t1), (Lf.i t12), (Lf.i (IntKind.wrap .i64 (t13 + (1 : Int))))])) ∧
    (t13 ≥ t12 →
      Q 0 [] [(Lf.b true)])) →
    EV 15 [] [.r t0, .r t1, .i t12, .i t13]

set_option maxHeartbeats 0 in
theorem V41.of {Q : Nat → Rs → List Lf → Prop} {A : Ar} {CE : Nat → Rs → List Lf → (Nat → Rs → List Lf → Prop) → Prop} {CK : Nat → Rs → List Lf → Cont → Prop} {Dn : Nat → List Bool → List AItem → Nat → List Bool → List AV → List ABlk → Prop} {EV RR : Nat → Rs → List Lf → Prop} (W : Wk Try.prog Try.f41 I41 L41 Q A sg CE CK Dn EV RR) : V41 EV Q := by
  have hA := W.hA
  refine ⟨?_⟩
  · intro t0 t1 t12 t13 h
    refine W.step 80 fun hp => ?_
    cbv
    refine ⟨imI hA fun e0 => have c0 : t13 < t12 := (by have q := (cmpE (op := .lss) hA e0); subst hA; exact q); ⟨ndI hA (And.intro (by subst hA; exact (h.1 c0).1) (by subst hA; exact (h.1 c0).2.1)), ⟨ndI hA (And.intro (by subst hA; exact (h.1 c0).1) (by subst hA; exact (h.1 c0).2.2.1)), ⟨imI hA fun e1 => have c1 : (cIS t0 (Int.toNat t13) 0) ≠ (cIS t1 (Int.toNat t13) 0) := (by have q := (cmpE (op := .neq) hA e1); subst hA; exact q); (by rw [W.rr]; exact (by subst hA; exact ((h.1 c0).2.2.2.1 c1))), imI hA fun e1 => have c1 : (cIS t0 (Int.toNat t13) 0) = (cIS t1 (Int.toNat t13) 0) := (by have q := (cmpE (op := .neq) hA e1); subst hA; exact q); (by subst hA; exact ((h.1 c0).2.2.2.2 c1))⟩⟩⟩, imI hA fun e0 => have c0 : t13 ≥ t12 := (by have q := (cmpE (op := .lss) hA e0); subst hA; exact q); (by rw [W.rr]; exact (by subst hA; exact (h.2 c0)))⟩

end
set_option maxHeartbeats 0 in
/-- To enter. -/
theorem E41 {Q : Nat → Rs → List Lf → Prop} {a0 : List (List AV)} {a1 : List (List AV)} (h : ∀ EV : Nat → Rs → List Lf → Prop, V41 EV Q →
    ((((List.length a0) : Nat) : Int) ≠ (((List.length a1) : Nat) : Int) →
      Q 0 [] [(Lf.b false)]) ∧
    ((((List.length a0) : Nat) : Int) = (((List.length a1) : Nat) : Int) →
      EV 15 [] [(Lf.r a0), (Lf.r a1), (Lf.i (((List.length a0) : Nat) : Int)), (Lf.i (0 : Int))])) :
    EC Try.prog G41 [] [.r a0, .r a1] Q := by
  obtain ⟨A, hA⟩ : ∃ A, A = arS := ⟨_, rfl⟩
  refine Inst.enter (I := I41) hA mixed F41_at sg L41 80 rfl fun CE CK Dn EV RR W hp => ?_
  have h := h  EV (V41.of W)
  cbv
  refine ⟨imI hA fun e0 => have c0 : (((List.length a0) : Nat) : Int) ≠ (((List.length a1) : Nat) : Int) := (by have q := (cmpE (op := .neq) hA e0); subst hA; exact q); (by rw [W.rr]; exact (by subst hA; exact (h.1 c0))), imI hA fun e0 => have c0 : (((List.length a0) : Nat) : Int) = (((List.length a1) : Nat) : Int) := (by have q := (cmpE (op := .neq) hA e0); subst hA; exact q); (by subst hA; exact (h.2 c0))⟩

-- 11: signalbox/signalboxlaw44.PackTells
section
structure V11 (EV Q : Nat → Rs → List Lf → Prop) : Prop where
  none : True

end
set_option maxHeartbeats 0 in
/-- To enter. -/
theorem E11 {Q : Nat → Rs → List Lf → Prop} {a0 : List (List AV)} {a1 : Int} (h : ∀ EV : Nat → Rs → List Lf → Prop, V11 EV Q →
    EC Try.prog G32 [] [] (fun x rs vs => (x = 0 ∧ ∃ (y0_0 : Bool), rs = [] ∧ vs = [.b y0_0] ∧
      ((y0_0 = false →
          Q 0 [] [(Lf.b false)]) ∧
        (y0_0 = true →
          ((((List.length a0) : Nat) : Int) > (60 : Int) →
            Q 0 [] [(Lf.b true)]) ∧
          ((((List.length a0) : Nat) : Int) ≤ (60 : Int) →
            EC Try.prog G35 [] [(Lf.r a0), (Lf.i a1)] (fun x rs vs => (x = 0 ∧ ∃ (Y3_0 : List (List AV)) (y3_1 : Int), rs = [Y3_0] ∧ vs = [.i y3_1] ∧
              (EC Try.prog G36 [] [(Lf.r a0), (Lf.i a1)] (fun x rs vs => (x = 0 ∧ ∃ (Y4_0 : List (List AV)) (y4_1 : Int), rs = [Y4_0] ∧ vs = [.i y4_1] ∧
                  (EC Try.prog G37 [] [(Lf.r a0), (Lf.i a1)] (fun x rs vs => (x = 0 ∧ ∃ (Y5_0 : List (List AV)) (y5_1 : Int), rs = [Y5_0] ∧ vs = [.i y5_1] ∧
                      (EC Try.prog G33 [] [(Lf.r a0), (Lf.i a1)] (fun x rs vs => (x = 0 ∧ ∃ (y6_0 : Bool), rs = [] ∧ vs = [.b y6_0] ∧
                          ((y6_0 = false →
                              EC Try.prog G38 [] [(Lf.r a0), (Lf.i a1)] (fun x rs vs => (x = 0 ∧ ∃ (y8_0 : Int), rs = [] ∧ vs = [.i y8_0] ∧
                                (((IntKind.wrap .i64 ((IntKind.wrap .i64 ((IntKind.wrap .i64 ((IntKind.wrap .i64 ((IntKind.wrap .i64 ((IntKind.wrap .i64 ((((List.length Y3_0) : Nat) : Int) + (((List.length Y4_0) : Nat) : Int))) + (((List.length Y5_0) : Nat) : Int))) + y3_1)) + y4_1)) + y5_1)) + y8_0)) = (0 : Int) →
                                    ((((List.length a0) : Nat) : Int) ≤ (140737488355328 : Int)) ∧
                                    (((((List.length a0) : Nat) : Int) * ((8 : Nat) : Int)) ≤ (140737488355328 : Int)) ∧
                                    (EC Try.prog G34 [] [(Lf.r a0), (Lf.i a1), (Lf.r (List.take (List.length a0) (List.drop 0 (List.replicate (List.length a0) [(AV.int .i64 (0 : Int))]))))] (fun x rs vs => (x = 0 ∧ ∃ (y10_0 : Bool), rs = [] ∧ vs = [.b y10_0] ∧
                                      (Q 0 [] [(Lf.b (!y10_0))]))))) ∧
                                  ((IntKind.wrap .i64 ((IntKind.wrap .i64 ((IntKind.wrap .i64 ((IntKind.wrap .i64 ((IntKind.wrap .i64 ((IntKind.wrap .i64 ((((List.length Y3_0) : Nat) : Int) + (((List.length Y4_0) : Nat) : Int))) + (((List.length Y5_0) : Nat) : Int))) + y3_1)) + y4_1)) + y5_1)) + y8_0)) ≠ (0 : Int) →
                                    Q 0 [] [(Lf.b false)]))))) ∧
                            (y6_0 = true →
                              EC Try.prog G40 [] [(Lf.r a0), (Lf.b false)] (fun x rs vs => (x = 0 ∧ ∃ (Y8_0 : List (List AV)), rs = [Y8_0] ∧ vs = [] ∧
                                (EC Try.prog G39 [] [(Lf.r a0), (Lf.i a1), (Lf.r (List.take (List.length Y8_0) (List.drop 0 Y8_0))), (Lf.b false)] (fun x rs vs => (x = 0 ∧ ∃ (Y9_0 : List (List AV)) (y9_1 : Int), rs = [Y9_0] ∧ vs = [.i y9_1] ∧
                                    (EC Try.prog G40 [] [(Lf.r a0), (Lf.b true)] (fun x rs vs => (x = 0 ∧ ∃ (Y10_0 : List (List AV)), rs = [Y10_0] ∧ vs = [] ∧
                                        (EC Try.prog G39 [] [(Lf.r a0), (Lf.i a1), (Lf.r (List.take (List.length Y10_0) (List.drop 0 Y10_0))), (Lf.b false)] (fun x rs vs => (x = 0 ∧ ∃ (Y11_0 : List (List AV)) (y11_1 : Int), rs = [Y11_0] ∧ vs = [.i y11_1] ∧
                                            (EC Try.prog G40 [] [(Lf.r a0), (Lf.b false)] (fun x rs vs => (x = 0 ∧ ∃ (Y12_0 : List (List AV)), rs = [Y12_0] ∧ vs = [] ∧
                                                (EC Try.prog G39 [] [(Lf.r a0), (Lf.i a1), (Lf.r (List.take (List.length Y12_0) (List.drop 0 Y12_0))), (Lf.b true)] (fun x rs vs => (x = 0 ∧ ∃ (Y13_0 : List (List AV)) (y13_1 : Int), rs = [Y13_0] ∧ vs = [.i y13_1] ∧
                                                    (EC Try.prog G41 [] [(Lf.r (List.take (List.length Y3_0) (List.drop 0 Y3_0))), (Lf.r (List.take (List.length Y9_0) (List.drop 0 Y9_0)))] (fun x rs vs => (x = 0 ∧ ∃ (y14_0 : Bool), rs = [] ∧ vs = [.b y14_0] ∧
                                                        ((y14_0 = true →
                                                            (y3_1 = y9_1 →
                                                              EC Try.prog G41 [] [(Lf.r (List.take (List.length Y4_0) (List.drop 0 Y4_0))), (Lf.r (List.take (List.length Y11_0) (List.drop 0 Y11_0)))] (fun x rs vs => (x = 0 ∧ ∃ (y17_0 : Bool), rs = [] ∧ vs = [.b y17_0] ∧
                                                                ((y17_0 = true →
                                                                    (y4_1 = y11_1 →
                                                                      EC Try.prog G41 [] [(Lf.r (List.take (List.length Y5_0) (List.drop 0 Y5_0))), (Lf.r (List.take (List.length Y13_0) (List.drop 0 Y13_0)))] (fun x rs vs => (x = 0 ∧ ∃ (y20_0 : Bool), rs = [] ∧ vs = [.b y20_0] ∧
                                                                        ((y20_0 = true →
                                                                            Q 0 [] [(Lf.b (y5_1 == y13_1))]) ∧
                                                                          (y20_0 = false →
                                                                            Q 0 [] [(Lf.b false)]))))) ∧
                                                                    (y4_1 ≠ y11_1 →
                                                                      Q 0 [] [(Lf.b false)])) ∧
                                                                  (y17_0 = false →
                                                                    Q 0 [] [(Lf.b false)]))))) ∧
                                                            (y3_1 ≠ y9_1 →
                                                              Q 0 [] [(Lf.b false)])) ∧
                                                          (y14_0 = false →
                                                            Q 0 [] [(Lf.b false)]))))))))))))))))))))))))))))))))))))))))) :
    EC Try.prog G11 [] [.r a0, .i a1] Q := by
  obtain ⟨A, hA⟩ : ∃ A, A = arS := ⟨_, rfl⟩
  refine Inst.enter (I := I11) hA mixed F11_at sg L11 80 rfl fun CE CK Dn EV RR W hp => ?_
  have h := h  EV ⟨trivial⟩
  cbv
  refine ?_
  · refine W.call 80 (by rfl) h (by subst hA; rfl) (by subst hA; rfl) ?_
    rintro x rs vs hp0 hq0
    rcases hq0 with ⟨rfl, y0_0, rfl, rfl, k0⟩
    · cbv
      refine ⟨imI hA fun e1 => have c1 : y0_0 = false := (by have q := (notE hA e1); subst hA; exact q); (by rw [W.rr]; exact (by subst hA; exact (k0.1 c1))), imI hA fun e1 => have c1 : y0_0 = true := (by have q := (notE hA e1); subst hA; exact q); ⟨imI hA fun e2 => have c2 : (((List.length a0) : Nat) : Int) > (60 : Int) := (by have q := (cmpE (op := .gtr) hA e2); subst hA; exact q); (by rw [W.rr]; exact (by subst hA; exact ((k0.2 c1).1 c2))), imI hA fun e2 => have c2 : (((List.length a0) : Nat) : Int) ≤ (60 : Int) := (by have q := (cmpE (op := .gtr) hA e2); subst hA; exact q); ?_⟩⟩
      · refine W.call 80 (by rfl) ((k0.2 c1).2 c2) (by subst hA; rfl) (by subst hA; rfl) ?_
        rintro x rs vs hp3 hq3
        rcases hq3 with ⟨rfl, Y3_0, y3_1, rfl, rfl, k3⟩
        · cbv
          refine ?_
          · refine W.call 80 (by rfl) k3 (by subst hA; rfl) (by subst hA; rfl) ?_
            rintro x rs vs hp4 hq4
            rcases hq4 with ⟨rfl, Y4_0, y4_1, rfl, rfl, k4⟩
            · cbv
              refine ?_
              · refine W.call 80 (by rfl) k4 (by subst hA; rfl) (by subst hA; rfl) ?_
                rintro x rs vs hp5 hq5
                rcases hq5 with ⟨rfl, Y5_0, y5_1, rfl, rfl, k5⟩
                · cbv
                  refine ?_
                  · refine W.call 80 (by rfl) k5 (by subst hA; rfl) (by subst hA; rfl) ?_
                    rintro x rs vs hp6 hq6
                    rcases hq6 with ⟨rfl, y6_0, rfl, rfl, k6⟩
                    · cbv
                      refine ⟨imI hA fun e7 => have c7 : y6_0 = false := (by have q := (notE hA e7); subst hA; exact q); ⟨ndI hA rfl, ⟨ndI hA rfl, ⟨ndI hA rfl, ?_⟩⟩⟩, imI hA fun e7 => have c7 : y6_0 = true := (by have q := (notE hA e7); subst hA; exact q); ?_⟩
                      · refine W.call 80 (by rfl) (k6.1 c7) (by subst hA; rfl) (by subst hA; rfl) ?_
                        rintro x rs vs hp8 hq8
                        rcases hq8 with ⟨rfl, y8_0, rfl, rfl, k8⟩
                        · cbv
                          refine ⟨imI hA fun e9 => have c9 : (IntKind.wrap .i64 ((IntKind.wrap .i64 ((IntKind.wrap .i64 ((IntKind.wrap .i64 ((IntKind.wrap .i64 ((IntKind.wrap .i64 ((((List.length Y3_0) : Nat) : Int) + (((List.length Y4_0) : Nat) : Int))) + (((List.length Y5_0) : Nat) : Int))) + y3_1)) + y4_1)) + y5_1)) + y8_0)) = (0 : Int) := (by have q := (cmpE (op := .eql) hA e9); subst hA; exact q); ⟨ndI hA (And.intro (by subst hA; exact Int.natCast_nonneg _) (And.intro (by subst hA; exact Int.le_refl _) (And.intro (by subst hA; exact (k8.1 c9).1) (by subst hA; exact (k8.1 c9).2.1)))), ⟨ndI hA (And.intro (And.intro (by subst hA; exact hp3.1) (And.intro (by subst hA; exact hp4.1) (And.intro (by subst hA; exact hp5.1) (And.intro (by subst hA; exact (vrep rfl)) trivial)))) (And.intro (by subst hA; show (Int.toNat (((List.length a0) : Nat) : Int)) = (List.length (List.replicate (Int.toNat (((List.length a0) : Nat) : Int)) [(AV.int .i64 (0 : Int))])); (first | rfl | simp [rappS_end] | (simp only [rappS_end, List.length_append, List.length_set, List.length_cons, List.length_nil]; omega))) trivial)), ?_⟩⟩, imI hA fun e9 => have c9 : (IntKind.wrap .i64 ((IntKind.wrap .i64 ((IntKind.wrap .i64 ((IntKind.wrap .i64 ((IntKind.wrap .i64 ((IntKind.wrap .i64 ((((List.length Y3_0) : Nat) : Int) + (((List.length Y4_0) : Nat) : Int))) + (((List.length Y5_0) : Nat) : Int))) + y3_1)) + y4_1)) + y5_1)) + y8_0)) ≠ (0 : Int) := (by have q := (cmpE (op := .eql) hA e9); subst hA; exact q); (by rw [W.rr]; exact (by subst hA; exact (k8.2 c9)))⟩
                          · refine W.call 80 (by rfl) (k8.1 c9).2.2 (by subst hA; show [] = []; (try simp only [rappS_end, Nat.zero_add, Int.toNat_natCast])) (by subst hA; show [(Lf.r a0), (Lf.i a1), (Lf.r (List.take (Int.toNat (((List.length a0) : Nat) : Int)) (List.drop 0 (List.replicate (Int.toNat (((List.length a0) : Nat) : Int)) [(AV.int .i64 (0 : Int))]))))] = [(Lf.r a0), (Lf.i a1), (Lf.r (List.take (List.length a0) (List.drop 0 (List.replicate (List.length a0) [(AV.int .i64 (0 : Int))]))))]; (try simp only [rappS_end, Nat.zero_add, Int.toNat_natCast])) ?_
                            rintro x rs vs hp10 hq10
                            rcases hq10 with ⟨rfl, y10_0, rfl, rfl, k10⟩
                            · cbv
                              refine (by rw [W.rr]; exact (by subst hA; exact k10))
                      · refine W.call 80 (by rfl) (k6.2 c7) (by subst hA; rfl) (by subst hA; rfl) ?_
                        rintro x rs vs hp8 hq8
                        rcases hq8 with ⟨rfl, Y8_0, rfl, rfl, k8⟩
                        · cbv
                          refine ⟨ndI hA (And.intro (And.intro (by subst hA; exact hp3.1) (And.intro (by subst hA; exact hp4.1) (And.intro (by subst hA; exact hp5.1) (And.intro (by subst hA; exact hp8.1) trivial)))) (And.intro rfl trivial)), ?_⟩
                          · refine W.call 80 (by rfl) k8 (by subst hA; rfl) (by subst hA; rfl) ?_
                            rintro x rs vs hp9 hq9
                            rcases hq9 with ⟨rfl, Y9_0, y9_1, rfl, rfl, k9⟩
                            · cbv
                              refine ?_
                              · refine W.call 80 (by rfl) k9 (by subst hA; rfl) (by subst hA; rfl) ?_
                                rintro x rs vs hp10 hq10
                                rcases hq10 with ⟨rfl, Y10_0, rfl, rfl, k10⟩
                                · cbv
                                  refine ⟨ndI hA (And.intro (And.intro (by subst hA; exact hp3.1) (And.intro (by subst hA; exact hp4.1) (And.intro (by subst hA; exact hp5.1) (And.intro (by subst hA; exact hp9.1) (And.intro (by subst hA; exact hp10.1) trivial))))) (And.intro rfl trivial)), ?_⟩
                                  · refine W.call 80 (by rfl) k10 (by subst hA; rfl) (by subst hA; rfl) ?_
                                    rintro x rs vs hp11 hq11
                                    rcases hq11 with ⟨rfl, Y11_0, y11_1, rfl, rfl, k11⟩
                                    · cbv
                                      refine ?_
                                      · refine W.call 80 (by rfl) k11 (by subst hA; rfl) (by subst hA; rfl) ?_
                                        rintro x rs vs hp12 hq12
                                        rcases hq12 with ⟨rfl, Y12_0, rfl, rfl, k12⟩
                                        · cbv
                                          refine ⟨ndI hA (And.intro (And.intro (by subst hA; exact hp3.1) (And.intro (by subst hA; exact hp4.1) (And.intro (by subst hA; exact hp5.1) (And.intro (by subst hA; exact hp9.1) (And.intro (by subst hA; exact hp11.1) (And.intro (by subst hA; exact hp12.1) trivial)))))) (And.intro rfl trivial)), ?_⟩
                                          · refine W.call 80 (by rfl) k12 (by subst hA; rfl) (by subst hA; rfl) ?_
                                            rintro x rs vs hp13 hq13
                                            rcases hq13 with ⟨rfl, Y13_0, y13_1, rfl, rfl, k13⟩
                                            · cbv
                                              refine ⟨ndI hA (And.intro (And.intro (by subst hA; exact hp3.1) (And.intro (by subst hA; exact hp4.1) (And.intro (by subst hA; exact hp5.1) (And.intro (by subst hA; exact hp9.1) (And.intro (by subst hA; exact hp11.1) (And.intro (by subst hA; exact hp13.1) trivial)))))) (And.intro rfl trivial)), ⟨ndI hA (And.intro (And.intro (by subst hA; exact hp4.1) (And.intro (by subst hA; exact hp5.1) (And.intro (by subst hA; exact hp9.1) (And.intro (by subst hA; exact hp11.1) (And.intro (by subst hA; exact hp13.1) trivial))))) (And.intro rfl trivial)), ?_⟩⟩
                                              · refine W.call 80 (by rfl) k13 (by subst hA; rfl) (by subst hA; rfl) ?_
                                                rintro x rs vs hp14 hq14
                                                rcases hq14 with ⟨rfl, y14_0, rfl, rfl, k14⟩
                                                · cbv
                                                  refine ⟨imI hA fun e15 => have c15 : y14_0 = true := (by have q := e15; subst hA; exact q); ⟨imI hA fun e16 => have c16 : y3_1 = y9_1 := (by have q := (cmpE (op := .eql) hA e16); subst hA; exact q); ⟨ndI hA (And.intro (And.intro (by subst hA; exact hp4.1) (And.intro (by subst hA; exact hp5.1) (And.intro (by subst hA; exact hp11.1) (And.intro (by subst hA; exact hp13.1) trivial)))) (And.intro rfl trivial)), ⟨ndI hA (And.intro (And.intro (by subst hA; exact hp5.1) (And.intro (by subst hA; exact hp11.1) (And.intro (by subst hA; exact hp13.1) trivial))) (And.intro rfl trivial)), ?_⟩⟩, imI hA fun e16 => have c16 : y3_1 ≠ y9_1 := (by have q := (cmpE (op := .eql) hA e16); subst hA; exact q); (by rw [W.rr]; exact (by subst hA; exact ((k14.1 c15).2 c16)))⟩, imI hA fun e15 => have c15 : y14_0 = false := (by have q := e15; subst hA; exact q); (by rw [W.rr]; exact (by subst hA; exact (k14.2 c15)))⟩
                                                  · refine W.call 80 (by rfl) ((k14.1 c15).1 c16) (by subst hA; rfl) (by subst hA; rfl) ?_
                                                    rintro x rs vs hp17 hq17
                                                    rcases hq17 with ⟨rfl, y17_0, rfl, rfl, k17⟩
                                                    · cbv
                                                      refine ⟨imI hA fun e18 => have c18 : y17_0 = true := (by have q := e18; subst hA; exact q); ⟨imI hA fun e19 => have c19 : y4_1 = y11_1 := (by have q := (cmpE (op := .eql) hA e19); subst hA; exact q); ⟨ndI hA (And.intro (And.intro (by subst hA; exact hp5.1) (And.intro (by subst hA; exact hp13.1) trivial)) (And.intro rfl trivial)), ⟨ndI hA (And.intro (And.intro (by subst hA; exact hp13.1) trivial) (And.intro rfl trivial)), ?_⟩⟩, imI hA fun e19 => have c19 : y4_1 ≠ y11_1 := (by have q := (cmpE (op := .eql) hA e19); subst hA; exact q); (by rw [W.rr]; exact (by subst hA; exact ((k17.1 c18).2 c19)))⟩, imI hA fun e18 => have c18 : y17_0 = false := (by have q := e18; subst hA; exact q); (by rw [W.rr]; exact (by subst hA; exact (k17.2 c18)))⟩
                                                      · refine W.call 80 (by rfl) ((k17.1 c18).1 c19) (by subst hA; rfl) (by subst hA; rfl) ?_
                                                        rintro x rs vs hp20 hq20
                                                        rcases hq20 with ⟨rfl, y20_0, rfl, rfl, k20⟩
                                                        · cbv
                                                          refine ⟨imI hA fun e21 => have c21 : y20_0 = true := (by have q := e21; subst hA; exact q); (by rw [W.rr]; exact (by subst hA; exact (k20.1 c21))), imI hA fun e21 => have c21 : y20_0 = false := (by have q := e21; subst hA; exact q); (by rw [W.rr]; exact (by subst hA; exact (k20.2 c21)))⟩

end Go.Ab
