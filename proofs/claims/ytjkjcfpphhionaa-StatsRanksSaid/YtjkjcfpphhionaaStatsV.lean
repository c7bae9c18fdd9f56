/- PRINTED BY A PROGRAM (wip/tools/vc.py, AbVc.lean): what is to be shown of each function, from place to place, and that it is enough. -/
import Derived.Test.YtjkjcfpphhionaaStatsS
import Derived.Test.YtjkjcfpphhionaaAbV0
namespace Go.Ab
open Go Go.Proofs
set_option linter.unusedVariables false
set_option linter.unusedSimpArgs false
set_option maxRecDepth 100000

-- 46: signalbox/signalboxref35.Clamp
section
structure V46 (EV Q : Nat → Rs → List Lf → Prop) : Prop where
  none : True

end
set_option maxHeartbeats 0 in
/-- To enter. -/
theorem E46 {Q : Nat → Rs → List Lf → Prop} {a0 : Int} (h : ∀ EV : Nat → Rs → List Lf → Prop, V46 EV Q →
    (a0 < (-1099511627776) →
      Q 0 [] [(Lf.i (-1099511627776))]) ∧
    (a0 ≥ (-1099511627776) →
      (a0 > (1099511627776 : Int) →
        Q 0 [] [(Lf.i (1099511627776 : Int))]) ∧
      (a0 ≤ (1099511627776 : Int) →
        Q 0 [] [(Lf.i a0)]))) :
    EC Try.prog G46 [] [.i a0] Q := by
  obtain ⟨A, hA⟩ : ∃ A, A = arS := ⟨_, rfl⟩
  refine Inst.enter (I := I46) hA mixed F46_at sg L46 80 rfl fun CE CK Dn EV RR W hp => ?_
  have h := h  EV ⟨trivial⟩
  cbv
  refine ⟨imI hA fun e0 => have c0 : a0 < (-1099511627776) := (by have q := (cmpE (op := .lss) hA e0); subst hA; exact q); (by rw [W.rr]; exact (by subst hA; exact (h.1 c0))), imI hA fun e0 => have c0 : a0 ≥ (-1099511627776) := (by have q := (cmpE (op := .lss) hA e0); subst hA; exact q); ⟨imI hA fun e1 => have c1 : a0 > (1099511627776 : Int) := (by have q := (cmpE (op := .gtr) hA e1); subst hA; exact q); (by rw [W.rr]; exact (by subst hA; exact ((h.2 c0).1 c1))), imI hA fun e1 => have c1 : a0 ≤ (1099511627776 : Int) := (by have q := (cmpE (op := .gtr) hA e1); subst hA; exact q); (by rw [W.rr]; exact (by subst hA; exact ((h.2 c0).2 c1)))⟩⟩

-- 19: signalbox/signalboxref35.Sorted DRAWN
section
structure V19 (EV Q : Nat → Rs → List Lf → Prop) : Prop where
  p9 : ∀ {R0 : List (List AV)} {t7 : List (List AV)} {t8 : Int} {t9 : Int}, (pursS R0 = true → 
    (t9 < t8 →
      ((0 : Int) ≤ t9) ∧
      (t7[(Int.toNat t9)]? = some [(AV.int .i64 (cIS t7 (Int.toNat t9) 0))]) ∧
      (EC Try.prog G46 [] [(Lf.i (cIS t7 (Int.toNat t9) 0))] (fun x rs vs => (x = 0 ∧ ∃ (y1_0 : Int), rs = [] ∧ vs = [.i y1_0] ∧
        (EV 26 [R0] [(Lf.i y1_0), (Lf.i (0 : Int)), (Lf.r t7), (Lf.i t8), (Lf.i t9)]))))) ∧
    (t9 ≥ t8 →
      Q 0 [R0] [])) →
    EV 9 [R0] [.r t7, .i t8, .i t9]
  p26 : ∀ {R0 : List (List AV)} {t5 : Int} {t6 : Int} {t7 : List (List AV)} {t8 : Int} {t9 : Int}, (pursS R0 = true → 
    (t6 < (((List.length R0) : Nat) : Int) →
      ((0 : Int) ≤ t6) ∧
      (t6 < (((List.length R0) : Nat) : Int)) ∧
      (R0[(Int.toNat t6)]? = some [(AV.int .i64 (cIS R0 (Int.toNat t6) 0))]) ∧
      ((cIS R0 (Int.toNat t6) 0) ≤ t5 →
        EV 26 [R0] [(Lf.i t5), (Lf.i (IntKind.wrap .i64 (t6 + (1 : Int)))), (Lf.r t7), (Lf.i t8), (Lf.i t9)]) ∧
      ((cIS R0 (Int.toNat t6) 0) > t5 →
        ((0 : Int) ≤ t6) ∧
        (t6 ≤ (((List.length R0) : Nat) : Int)) ∧
        ((Int.toNat t6) ≤ (List.length R0)) ∧
        ((List.length (List.take (Int.toNat t6) (List.drop 0 R0))) ≤ 140737488355328) ∧
        (((List.length (List.take (Int.toNat t6) (List.drop 0 R0))) * 8) ≤ 140737488355328) ∧
        (((List.length (List.take (Int.toNat t6) (List.drop 0 R0))) + 1) ≤ 140737488355328) ∧
        ((((List.length (List.take (Int.toNat t6) (List.drop 0 R0))) + 1) * 8) ≤ 140737488355328) ∧
        (((Int.toNat t6) + ((List.length R0) - (Int.toNat t6))) ≤ (List.length R0)) ∧
        (((List.length (List.take (Int.toNat t6) (List.drop 0 R0))) + 1) ≤ (List.length ((List.take (Int.toNat t6) (List.drop 0 R0)) ++ [[(AV.int .i64 t5)]]))) ∧
        ((((List.length (List.take (Int.toNat t6) (List.drop 0 R0))) + 1) + (List.length (List.take ((List.length R0) - (Int.toNat t6)) (List.drop (Int.toNat t6) R0)))) ≤ 140737488355328) ∧
        (((((List.length (List.take (Int.toNat t6) (List.drop 0 R0))) + 1) + (List.length (List.take ((List.length R0) - (Int.toNat t6)) (List.drop (Int.toNat t6) R0)))) * 8) ≤ 140737488355328) ∧
        ((((List.length (List.take (Int.toNat t6) (List.drop 0 R0))) + 1) + (List.length (List.take ((List.length R0) - (Int.toNat t6)) (List.drop (Int.toNat t6) R0)))) = (List.length (rappS ((List.take (Int.toNat t6) (List.drop 0 R0)) ++ [[(AV.int .i64 t5)]]) ((List.length (List.take (Int.toNat t6) (List.drop 0 R0))) + 1) (List.take ((List.length R0) - (Int.toNat t6)) (List.drop (Int.toNat t6) R0))))) ∧
        (EV 9 [(rappS ((List.take (Int.toNat t6) (List.drop 0 R0)) ++ [[(AV.int .i64 t5)]]) ((List.length (List.take (Int.toNat t6) (List.drop 0 R0))) + 1) (List.take ((List.length R0) - (Int.toNat t6)) (List.drop (Int.toNat t6) R0)))] [(Lf.r t7), (Lf.i t8), (Lf.i (IntKind.wrap .i64 (t9 + (1 : Int))))]))) ∧
    (t6 ≥ (((List.length R0) : Nat) : Int) →
      ((0 : Int) ≤ t6) ∧
      (t6 ≤ (((List.length R0) : Nat) : Int)) ∧
      ((Int.toNat t6) ≤ (List.length R0)) ∧
      ((List.length (List.take (Int.toNat t6) (List.drop 0 R0))) ≤ 140737488355328) ∧
      (((List.length (List.take (Int.toNat t6) (List.drop 0 R0))) * 8) ≤ 140737488355328) ∧
      (((List.length (List.take (Int.toNat t6) (List.drop 0 R0))) + 1) ≤ 140737488355328) ∧
      ((((List.length (List.take (Int.toNat t6) (List.drop 0 R0))) + 1) * 8) ≤ 140737488355328) ∧
      (((Int.toNat t6) + ((List.length R0) - (Int.toNat t6))) ≤ (List.length R0)) ∧
      (((List.length (List.take (Int.toNat t6) (List.drop 0 R0))) + 1) ≤ (List.length ((List.take (Int.toNat t6) (List.drop 0 R0)) ++ [[(AV.int .i64 t5)]]))) ∧
      ((((List.length (List.take (Int.toNat t6) (List.drop 0 R0))) + 1) + (List.length (List.take ((List.length R0) - (Int.toNat t6)) (List.drop (Int.toNat t6) R0)))) ≤ 140737488355328) ∧
      (((((List.length (List.take (Int.toNat t6) (List.drop 0 R0))) + 1) + (List.length (List.take ((List.length R0) - (Int.toNat t6)) (List.drop (Int.toNat t6) R0)))) * 8) ≤ 140737488355328) ∧
      ((((List.length (List.take (Int.toNat t6) (List.drop 0 R0))) + 1) + (List.length (List.take ((List.length R0) - (Int.toNat t6)) (List.drop (Int.toNat t6) R0)))) = (List.length (rappS ((List.take (Int.toNat t6) (List.drop 0 R0)) ++ [[(AV.int .i64 t5)]]) ((List.length (List.take (Int.toNat t6) (List.drop 0 R0))) + 1) (List.take ((List.length R0) - (Int.toNat t6)) (List.drop (Int.toNat t6) R0))))) ∧
      (EV 9 [(rappS ((List.take (Int.toNat t6) (List.drop 0 R0)) ++ [[(AV.int .i64 t5)]]) ((List.length (List.take (Int.toNat t6) (List.drop 0 R0))) + 1) (List.take ((List.length R0) - (Int.toNat t6)) (List.drop (Int.toNat t6) R0)))] [(Lf.r t7), (Lf.i t8), (Lf.i (IntKind.wrap .i64 (t9 + (1 : Int))))]))) →
    EV 26 [R0] [.i t5, .i t6, .r t7, .i t8, .i t9]

set_option maxHeartbeats 0 in
theorem V19.of {Q : Nat → Rs → List Lf → Prop} {A : Ar} {CE : Nat → Rs → List Lf → (Nat → Rs → List Lf → Prop) → Prop} {CK : Nat → Rs → List Lf → Cont → Prop} {Dn : Nat → List Bool → List AItem → Nat → List Bool → List AV → List ABlk → Prop} {EV RR : Nat → Rs → List Lf → Prop} (W : Wk Try.prog Try.f19 I19 L19 Q A sg CE CK Dn EV RR) : V19 EV Q := by
  have hA := W.hA
  refine ⟨?_, ?_⟩
  · intro R0 t7 t8 t9 h
    refine W.step 80 fun hp => ?_
    have h := h hp.1
    cbv
    refine ⟨imI hA fun e0 => have c0 : t9 < t8 := (by have q := (cmpE (op := .lss) hA e0); subst hA; exact q); ⟨ndI hA (And.intro (by subst hA; exact (h.1 c0).1) (by subst hA; exact (h.1 c0).2.1)), ?_⟩, imI hA fun e0 => have c0 : t9 ≥ t8 := (by have q := (cmpE (op := .lss) hA e0); subst hA; exact q); ⟨ndI hA (And.intro rfl (And.intro rfl rfl)), ⟨ndI hA (by subst hA; exact hp.1), (by rw [W.rr]; exact (by subst hA; exact (h.2 c0)))⟩⟩⟩
    · refine W.call 80 (by rfl) (h.1 c0).2.2 (by subst hA; rfl) (by subst hA; rfl) ?_
      rintro x rs vs hp1 hq1
      rcases hq1 with ⟨rfl, y1_0, rfl, rfl, k1⟩
      · cbv
        refine ⟨ndI hA (And.intro rfl (And.intro rfl rfl)), ⟨ndI hA (by subst hA; exact hp.1), (by subst hA; exact k1)⟩⟩
  · intro R0 t5 t6 t7 t8 t9 h
    refine W.step 80 fun hp => ?_
    have h := h hp.1
    cbv
    refine ⟨ndI hA rfl, ⟨imI hA fun e0 => have c0 : t6 < (((List.length R0) : Nat) : Int) := (by have q := (cmpE (op := .lss) hA e0); subst hA; exact q); ⟨ndI hA (And.intro (by subst hA; exact (h.1 c0).1) (And.intro (by subst hA; exact (h.1 c0).2.1) rfl)), ⟨ndI hA (And.intro rfl (by subst hA; show R0[(0 + (Int.toNat t6))]? = some [(AV.int .i64 (cIS R0 (0 + (Int.toNat t6)) 0))]; simp only [rappS_end, Nat.zero_add, Int.toNat_natCast]; exact (h.1 c0).2.2.1)), ⟨imI hA fun e1 => have c1 : (cIS R0 (Int.toNat t6) 0) ≤ t5 := (by have q := (cmpE (op := .leq) hA e1); subst hA; have q : (cIS R0 (0 + (Int.toNat t6)) 0) ≤ t5 := q; simpa only [rappS_end, Nat.zero_add, Int.toNat_natCast] using q); ⟨ndI hA (And.intro rfl (And.intro rfl rfl)), ⟨ndI hA (by subst hA; exact hp.1), (by subst hA; exact ((h.1 c0).2.2.2.1 c1))⟩⟩, imI hA fun e1 => have c1 : (cIS R0 (Int.toNat t6) 0) > t5 := (by have q := (cmpE (op := .leq) hA e1); subst hA; have q : (cIS R0 (0 + (Int.toNat t6)) 0) > t5 := q; simpa only [rappS_end, Nat.zero_add, Int.toNat_natCast] using q); ⟨ndI hA (And.intro (by subst hA; exact ((h.1 c0).2.2.2.2 c1).1) (And.intro (by subst hA; exact ((h.1 c0).2.2.2.2 c1).2.1) rfl)), ⟨ndI hA (And.intro (by subst hA; exact ((h.1 c0).2.2.2.2 c1).1) (And.intro (by subst hA; exact ((h.1 c0).2.2.2.2 c1).2.1) rfl)), ⟨⟨⟨ndI hA (And.intro rfl (by subst hA; show (0 + (Int.toNat t6)) ≤ (List.length R0); simp only [rappS_end, Nat.zero_add, Int.toNat_natCast]; exact ((h.1 c0).2.2.2.2 c1).2.2.1)), ⟨ndI hA (And.intro (by subst hA; exact ((h.1 c0).2.2.2.2 c1).2.2.2.1) (by subst hA; exact ((h.1 c0).2.2.2.2 c1).2.2.2.2.1)), ?_⟩⟩, ⟨⟨⟨ndI hA (And.intro rfl (by subst hA; show (0 + (Int.toNat t6)) ≤ (List.length R0); simp only [rappS_end, Nat.zero_add, Int.toNat_natCast]; exact ((h.1 c0).2.2.2.2 c1).2.2.1)), ⟨ndI hA (And.intro (by subst hA; exact ((h.1 c0).2.2.2.2 c1).2.2.2.1) (by subst hA; exact ((h.1 c0).2.2.2.2 c1).2.2.2.2.1)), ?_⟩⟩, trivial⟩, trivial⟩⟩, ⟨⟨⟨⟨ndI hA (And.intro rfl (by subst hA; show (0 + (Int.toNat t6)) ≤ (List.length R0); simp only [rappS_end, Nat.zero_add, Int.toNat_natCast]; exact ((h.1 c0).2.2.2.2 c1).2.2.1)), ⟨ndI hA (And.intro (by subst hA; exact ((h.1 c0).2.2.2.2 c1).2.2.2.1) (by subst hA; exact ((h.1 c0).2.2.2.2 c1).2.2.2.2.1)), ?_⟩⟩, trivial⟩, trivial⟩, trivial⟩⟩⟩⟩⟩⟩⟩, imI hA fun e0 => have c0 : t6 ≥ (((List.length R0) : Nat) : Int) := (by have q := (cmpE (op := .lss) hA e0); subst hA; exact q); ⟨ndI hA (And.intro (by subst hA; exact (h.2 c0).1) (And.intro (by subst hA; exact (h.2 c0).2.1) rfl)), ⟨ndI hA (And.intro (by subst hA; exact (h.2 c0).1) (And.intro (by subst hA; exact (h.2 c0).2.1) rfl)), ⟨⟨⟨ndI hA (And.intro rfl (by subst hA; show (0 + (Int.toNat t6)) ≤ (List.length R0); simp only [rappS_end, Nat.zero_add, Int.toNat_natCast]; exact (h.2 c0).2.2.1)), ⟨ndI hA (And.intro (by subst hA; exact (h.2 c0).2.2.2.1) (by subst hA; exact (h.2 c0).2.2.2.2.1)), ?_⟩⟩, ⟨⟨⟨ndI hA (And.intro rfl (by subst hA; show (0 + (Int.toNat t6)) ≤ (List.length R0); simp only [rappS_end, Nat.zero_add, Int.toNat_natCast]; exact (h.2 c0).2.2.1)), ⟨ndI hA (And.intro (by subst hA; exact (h.2 c0).2.2.2.1) (by subst hA; exact (h.2 c0).2.2.2.2.1)), ?_⟩⟩, trivial⟩, trivial⟩⟩, ⟨⟨⟨⟨ndI hA (And.intro rfl (by subst hA; show (0 + (Int.toNat t6)) ≤ (List.length R0); simp only [rappS_end, Nat.zero_add, Int.toNat_natCast]; exact (h.2 c0).2.2.1)), ⟨ndI hA (And.intro (by subst hA; exact (h.2 c0).2.2.2.1) (by subst hA; exact (h.2 c0).2.2.2.2.1)), ?_⟩⟩, trivial⟩, trivial⟩, trivial⟩⟩⟩⟩⟩⟩
    · refine W.draw 80 (by rfl) ?_
      cbv
      refine ⟨⟨⟨ndI hA (And.intro rfl (And.intro (Nat.le_refl _) (And.intro (by subst hA; exact ((h.1 c0).2.2.2.2 c1).2.2.2.2.2.1) (by subst hA; exact ((h.1 c0).2.2.2.2 c1).2.2.2.2.2.2.1)))), ⟨⟨ndI hA (And.intro rfl (by subst hA; show ((0 + (Int.toNat t6)) + ((List.length R0) - (Int.toNat t6))) ≤ (List.length R0); simp only [rappS_end, Nat.zero_add, Int.toNat_natCast]; exact ((h.1 c0).2.2.2.2 c1).2.2.2.2.2.2.2.1)), ⟨ndI hA (And.intro rfl (And.intro (by subst hA; show ((List.length (List.take (Int.toNat t6) (List.drop 0 R0))) + 1) ≤ (List.length (rappS (List.take (Int.toNat t6) (List.drop 0 R0)) (List.length (List.take (Int.toNat t6) (List.drop 0 R0))) [[(AV.int .i64 t5)]])); simp only [rappS_end, Nat.zero_add, Int.toNat_natCast]; exact ((h.1 c0).2.2.2.2 c1).2.2.2.2.2.2.2.2.1) (And.intro (by subst hA; show (((List.length (List.take (Int.toNat t6) (List.drop 0 R0))) + 1) + (List.length (List.take ((List.length R0) - (Int.toNat t6)) (List.drop (0 + (Int.toNat t6)) R0)))) ≤ 140737488355328; simp only [rappS_end, Nat.zero_add, Int.toNat_natCast]; exact ((h.1 c0).2.2.2.2 c1).2.2.2.2.2.2.2.2.2.1) (by subst hA; show ((((List.length (List.take (Int.toNat t6) (List.drop 0 R0))) + 1) + (List.length (List.take ((List.length R0) - (Int.toNat t6)) (List.drop (0 + (Int.toNat t6)) R0)))) * 8) ≤ 140737488355328; simp only [rappS_end, Nat.zero_add, Int.toNat_natCast]; exact ((h.1 c0).2.2.2.2 c1).2.2.2.2.2.2.2.2.2.2.1)))), ?_⟩⟩, trivial⟩⟩, trivial⟩, trivial⟩
      · refine W.draw 80 (by rfl) ?_
        cbv
        refine ⟨ndI hA (And.intro rfl (And.intro rfl (by subst hA; show (((List.length (List.take (Int.toNat t6) (List.drop 0 R0))) + 1) + (List.length (List.take ((List.length R0) - (Int.toNat t6)) (List.drop (0 + (Int.toNat t6)) R0)))) = (List.length (rappS (rappS (List.take (Int.toNat t6) (List.drop 0 R0)) (List.length (List.take (Int.toNat t6) (List.drop 0 R0))) [[(AV.int .i64 t5)]]) ((List.length (List.take (Int.toNat t6) (List.drop 0 R0))) + 1) (List.take ((List.length R0) - (Int.toNat t6)) (List.drop (0 + (Int.toNat t6)) R0)))); simp only [rappS_end, Nat.zero_add, Int.toNat_natCast]; exact ((h.1 c0).2.2.2.2 c1).2.2.2.2.2.2.2.2.2.2.2.1))), ⟨ndI hA (by subst hA; exact (vapp (vapp (vtake (vdrop hp.1)) vpur) (vtake (vdrop hp.1)))), (by subst hA; show EV 9 [(rappS (rappS (List.take (Int.toNat t6) (List.drop 0 R0)) (List.length (List.take (Int.toNat t6) (List.drop 0 R0))) [[(AV.int .i64 t5)]]) ((List.length (List.take (Int.toNat t6) (List.drop 0 R0))) + 1) (List.take ((List.length R0) - (Int.toNat t6)) (List.drop (0 + (Int.toNat t6)) R0)))] [(Lf.r t7), (Lf.i t8), (Lf.i (IntKind.wrap .i64 (t9 + (1 : Int))))]; simp only [rappS_end, Nat.zero_add, Int.toNat_natCast]; exact ((h.1 c0).2.2.2.2 c1).2.2.2.2.2.2.2.2.2.2.2.2)⟩⟩
    · refine W.draw 80 (by rfl) ?_
      cbv
      refine ⟨⟨ndI hA (And.intro rfl (And.intro (Nat.le_refl _) (And.intro (by subst hA; exact ((h.1 c0).2.2.2.2 c1).2.2.2.2.2.1) (by subst hA; exact ((h.1 c0).2.2.2.2 c1).2.2.2.2.2.2.1)))), ⟨⟨ndI hA (And.intro rfl (by subst hA; show ((0 + (Int.toNat t6)) + ((List.length R0) - (Int.toNat t6))) ≤ (List.length R0); simp only [rappS_end, Nat.zero_add, Int.toNat_natCast]; exact ((h.1 c0).2.2.2.2 c1).2.2.2.2.2.2.2.1)), ⟨ndI hA (And.intro rfl (And.intro (by subst hA; show ((List.length (List.take (Int.toNat t6) (List.drop 0 R0))) + 1) ≤ (List.length (rappS (List.take (Int.toNat t6) (List.drop 0 R0)) (List.length (List.take (Int.toNat t6) (List.drop 0 R0))) [[(AV.int .i64 t5)]])); simp only [rappS_end, Nat.zero_add, Int.toNat_natCast]; exact ((h.1 c0).2.2.2.2 c1).2.2.2.2.2.2.2.2.1) (And.intro (by subst hA; show (((List.length (List.take (Int.toNat t6) (List.drop 0 R0))) + 1) + (List.length (List.take ((List.length R0) - (Int.toNat t6)) (List.drop (0 + (Int.toNat t6)) R0)))) ≤ 140737488355328; simp only [rappS_end, Nat.zero_add, Int.toNat_natCast]; exact ((h.1 c0).2.2.2.2 c1).2.2.2.2.2.2.2.2.2.1) (by subst hA; show ((((List.length (List.take (Int.toNat t6) (List.drop 0 R0))) + 1) + (List.length (List.take ((List.length R0) - (Int.toNat t6)) (List.drop (0 + (Int.toNat t6)) R0)))) * 8) ≤ 140737488355328; simp only [rappS_end, Nat.zero_add, Int.toNat_natCast]; exact ((h.1 c0).2.2.2.2 c1).2.2.2.2.2.2.2.2.2.2.1)))), ?_⟩⟩, trivial⟩⟩, trivial⟩
      · refine W.draw 80 (by rfl) ?_
        cbv
        refine ⟨ndI hA (And.intro rfl (And.intro rfl (by subst hA; show (((List.length (List.take (Int.toNat t6) (List.drop 0 R0))) + 1) + (List.length (List.take ((List.length R0) - (Int.toNat t6)) (List.drop (0 + (Int.toNat t6)) R0)))) = (List.length (rappS (rappS (List.take (Int.toNat t6) (List.drop 0 R0)) (List.length (List.take (Int.toNat t6) (List.drop 0 R0))) [[(AV.int .i64 t5)]]) ((List.length (List.take (Int.toNat t6) (List.drop 0 R0))) + 1) (List.take ((List.length R0) - (Int.toNat t6)) (List.drop (0 + (Int.toNat t6)) R0)))); simp only [rappS_end, Nat.zero_add, Int.toNat_natCast]; exact ((h.1 c0).2.2.2.2 c1).2.2.2.2.2.2.2.2.2.2.2.1))), ⟨ndI hA (by subst hA; exact (vapp (vapp (vtake (vdrop hp.1)) vpur) (vtake (vdrop hp.1)))), (by subst hA; show EV 9 [(rappS (rappS (List.take (Int.toNat t6) (List.drop 0 R0)) (List.length (List.take (Int.toNat t6) (List.drop 0 R0))) [[(AV.int .i64 t5)]]) ((List.length (List.take (Int.toNat t6) (List.drop 0 R0))) + 1) (List.take ((List.length R0) - (Int.toNat t6)) (List.drop (0 + (Int.toNat t6)) R0)))] [(Lf.r t7), (Lf.i t8), (Lf.i (IntKind.wrap .i64 (t9 + (1 : Int))))]; simp only [rappS_end, Nat.zero_add, Int.toNat_natCast]; exact ((h.1 c0).2.2.2.2 c1).2.2.2.2.2.2.2.2.2.2.2.2)⟩⟩
    · refine W.draw 80 (by rfl) ?_
      cbv
      refine ⟨⟨ndI hA (And.intro rfl (And.intro (Nat.le_refl _) (And.intro (by subst hA; exact ((h.1 c0).2.2.2.2 c1).2.2.2.2.2.1) (by subst hA; exact ((h.1 c0).2.2.2.2 c1).2.2.2.2.2.2.1)))), ⟨⟨ndI hA (And.intro rfl (by subst hA; show ((0 + (Int.toNat t6)) + ((List.length R0) - (Int.toNat t6))) ≤ (List.length R0); simp only [rappS_end, Nat.zero_add, Int.toNat_natCast]; exact ((h.1 c0).2.2.2.2 c1).2.2.2.2.2.2.2.1)), ⟨ndI hA (And.intro rfl (And.intro (by subst hA; show ((List.length (List.take (Int.toNat t6) (List.drop 0 R0))) + 1) ≤ (List.length (rappS (List.take (Int.toNat t6) (List.drop 0 R0)) (List.length (List.take (Int.toNat t6) (List.drop 0 R0))) [[(AV.int .i64 t5)]])); simp only [rappS_end, Nat.zero_add, Int.toNat_natCast]; exact ((h.1 c0).2.2.2.2 c1).2.2.2.2.2.2.2.2.1) (And.intro (by subst hA; show (((List.length (List.take (Int.toNat t6) (List.drop 0 R0))) + 1) + (List.length (List.take ((List.length R0) - (Int.toNat t6)) (List.drop (0 + (Int.toNat t6)) R0)))) ≤ 140737488355328; simp only [rappS_end, Nat.zero_add, Int.toNat_natCast]; exact ((h.1 c0).2.2.2.2 c1).2.2.2.2.2.2.2.2.2.1) (by subst hA; show ((((List.length (List.take (Int.toNat t6) (List.drop 0 R0))) + 1) + (List.length (List.take ((List.length R0) - (Int.toNat t6)) (List.drop (0 + (Int.toNat t6)) R0)))) * 8) ≤ 140737488355328; simp only [rappS_end, Nat.zero_add, Int.toNat_natCast]; exact ((h.1 c0).2.2.2.2 c1).2.2.2.2.2.2.2.2.2.2.1)))), ?_⟩⟩, trivial⟩⟩, trivial⟩
      · refine W.draw 80 (by rfl) ?_
        cbv
        refine ⟨ndI hA (And.intro rfl (And.intro rfl (by subst hA; show (((List.length (List.take (Int.toNat t6) (List.drop 0 R0))) + 1) + (List.length (List.take ((List.length R0) - (Int.toNat t6)) (List.drop (0 + (Int.toNat t6)) R0)))) = (List.length (rappS (rappS (List.take (Int.toNat t6) (List.drop 0 R0)) (List.length (List.take (Int.toNat t6) (List.drop 0 R0))) [[(AV.int .i64 t5)]]) ((List.length (List.take (Int.toNat t6) (List.drop 0 R0))) + 1) (List.take ((List.length R0) - (Int.toNat t6)) (List.drop (0 + (Int.toNat t6)) R0)))); simp only [rappS_end, Nat.zero_add, Int.toNat_natCast]; exact ((h.1 c0).2.2.2.2 c1).2.2.2.2.2.2.2.2.2.2.2.1))), ⟨ndI hA (by subst hA; exact (vapp (vapp (vtake (vdrop hp.1)) vpur) (vtake (vdrop hp.1)))), (by subst hA; show EV 9 [(rappS (rappS (List.take (Int.toNat t6) (List.drop 0 R0)) (List.length (List.take (Int.toNat t6) (List.drop 0 R0))) [[(AV.int .i64 t5)]]) ((List.length (List.take (Int.toNat t6) (List.drop 0 R0))) + 1) (List.take ((List.length R0) - (Int.toNat t6)) (List.drop (0 + (Int.toNat t6)) R0)))] [(Lf.r t7), (Lf.i t8), (Lf.i (IntKind.wrap .i64 (t9 + (1 : Int))))]; simp only [rappS_end, Nat.zero_add, Int.toNat_natCast]; exact ((h.1 c0).2.2.2.2 c1).2.2.2.2.2.2.2.2.2.2.2.2)⟩⟩
    · refine W.draw 80 (by rfl) ?_
      cbv
      refine ⟨⟨⟨ndI hA (And.intro rfl (And.intro (Nat.le_refl _) (And.intro (by subst hA; exact (h.2 c0).2.2.2.2.2.1) (by subst hA; exact (h.2 c0).2.2.2.2.2.2.1)))), ⟨⟨ndI hA (And.intro rfl (by subst hA; show ((0 + (Int.toNat t6)) + ((List.length R0) - (Int.toNat t6))) ≤ (List.length R0); simp only [rappS_end, Nat.zero_add, Int.toNat_natCast]; exact (h.2 c0).2.2.2.2.2.2.2.1)), ⟨ndI hA (And.intro rfl (And.intro (by subst hA; show ((List.length (List.take (Int.toNat t6) (List.drop 0 R0))) + 1) ≤ (List.length (rappS (List.take (Int.toNat t6) (List.drop 0 R0)) (List.length (List.take (Int.toNat t6) (List.drop 0 R0))) [[(AV.int .i64 t5)]])); simp only [rappS_end, Nat.zero_add, Int.toNat_natCast]; exact (h.2 c0).2.2.2.2.2.2.2.2.1) (And.intro (by subst hA; show (((List.length (List.take (Int.toNat t6) (List.drop 0 R0))) + 1) + (List.length (List.take ((List.length R0) - (Int.toNat t6)) (List.drop (0 + (Int.toNat t6)) R0)))) ≤ 140737488355328; simp only [rappS_end, Nat.zero_add, Int.toNat_natCast]; exact (h.2 c0).2.2.2.2.2.2.2.2.2.1) (by subst hA; show ((((List.length (List.take (Int.toNat t6) (List.drop 0 R0))) + 1) + (List.length (List.take ((List.length R0) - (Int.toNat t6)) (List.drop (0 + (Int.toNat t6)) R0)))) * 8) ≤ 140737488355328; simp only [rappS_end, Nat.zero_add, Int.toNat_natCast]; exact (h.2 c0).2.2.2.2.2.2.2.2.2.2.1)))), ?_⟩⟩, trivial⟩⟩, trivial⟩, trivial⟩
      · refine W.draw 80 (by rfl) ?_
        cbv
        refine ⟨ndI hA (And.intro rfl (And.intro rfl (by subst hA; show (((List.length (List.take (Int.toNat t6) (List.drop 0 R0))) + 1) + (List.length (List.take ((List.length R0) - (Int.toNat t6)) (List.drop (0 + (Int.toNat t6)) R0)))) = (List.length (rappS (rappS (List.take (Int.toNat t6) (List.drop 0 R0)) (List.length (List.take (Int.toNat t6) (List.drop 0 R0))) [[(AV.int .i64 t5)]]) ((List.length (List.take (Int.toNat t6) (List.drop 0 R0))) + 1) (List.take ((List.length R0) - (Int.toNat t6)) (List.drop (0 + (Int.toNat t6)) R0)))); simp only [rappS_end, Nat.zero_add, Int.toNat_natCast]; exact (h.2 c0).2.2.2.2.2.2.2.2.2.2.2.1))), ⟨ndI hA (by subst hA; exact (vapp (vapp (vtake (vdrop hp.1)) vpur) (vtake (vdrop hp.1)))), (by subst hA; show EV 9 [(rappS (rappS (List.take (Int.toNat t6) (List.drop 0 R0)) (List.length (List.take (Int.toNat t6) (List.drop 0 R0))) [[(AV.int .i64 t5)]]) ((List.length (List.take (Int.toNat t6) (List.drop 0 R0))) + 1) (List.take ((List.length R0) - (Int.toNat t6)) (List.drop (0 + (Int.toNat t6)) R0)))] [(Lf.r t7), (Lf.i t8), (Lf.i (IntKind.wrap .i64 (t9 + (1 : Int))))]; simp only [rappS_end, Nat.zero_add, Int.toNat_natCast]; exact (h.2 c0).2.2.2.2.2.2.2.2.2.2.2.2)⟩⟩
    · refine W.draw 80 (by rfl) ?_
      cbv
      refine ⟨⟨ndI hA (And.intro rfl (And.intro (Nat.le_refl _) (And.intro (by subst hA; exact (h.2 c0).2.2.2.2.2.1) (by subst hA; exact (h.2 c0).2.2.2.2.2.2.1)))), ⟨⟨ndI hA (And.intro rfl (by subst hA; show ((0 + (Int.toNat t6)) + ((List.length R0) - (Int.toNat t6))) ≤ (List.length R0); simp only [rappS_end, Nat.zero_add, Int.toNat_natCast]; exact (h.2 c0).2.2.2.2.2.2.2.1)), ⟨ndI hA (And.intro rfl (And.intro (by subst hA; show ((List.length (List.take (Int.toNat t6) (List.drop 0 R0))) + 1) ≤ (List.length (rappS (List.take (Int.toNat t6) (List.drop 0 R0)) (List.length (List.take (Int.toNat t6) (List.drop 0 R0))) [[(AV.int .i64 t5)]])); simp only [rappS_end, Nat.zero_add, Int.toNat_natCast]; exact (h.2 c0).2.2.2.2.2.2.2.2.1) (And.intro (by subst hA; show (((List.length (List.take (Int.toNat t6) (List.drop 0 R0))) + 1) + (List.length (List.take ((List.length R0) - (Int.toNat t6)) (List.drop (0 + (Int.toNat t6)) R0)))) ≤ 140737488355328; simp only [rappS_end, Nat.zero_add, Int.toNat_natCast]; exact (h.2 c0).2.2.2.2.2.2.2.2.2.1) (by subst hA; show ((((List.length (List.take (Int.toNat t6) (List.drop 0 R0))) + 1) + (List.length (List.take ((List.length R0) - (Int.toNat t6)) (List.drop (0 + (Int.toNat t6)) R0)))) * 8) ≤ 140737488355328; simp only [rappS_end, Nat.zero_add, Int.toNat_natCast]; exact (h.2 c0).2.2.2.2.2.2.2.2.2.2.1)))), ?_⟩⟩, trivial⟩⟩, trivial⟩
      · refine W.draw 80 (by rfl) ?_
        cbv
        refine ⟨ndI hA (And.intro rfl (And.intro rfl (by subst hA; show (((List.length (List.take (Int.toNat t6) (List.drop 0 R0))) + 1) + (List.length (List.take ((List.length R0) - (Int.toNat t6)) (List.drop (0 + (Int.toNat t6)) R0)))) = (List.length (rappS (rappS (List.take (Int.toNat t6) (List.drop 0 R0)) (List.length (List.take (Int.toNat t6) (List.drop 0 R0))) [[(AV.int .i64 t5)]]) ((List.length (List.take (Int.toNat t6) (List.drop 0 R0))) + 1) (List.take ((List.length R0) - (Int.toNat t6)) (List.drop (0 + (Int.toNat t6)) R0)))); simp only [rappS_end, Nat.zero_add, Int.toNat_natCast]; exact (h.2 c0).2.2.2.2.2.2.2.2.2.2.2.1))), ⟨ndI hA (by subst hA; exact (vapp (vapp (vtake (vdrop hp.1)) vpur) (vtake (vdrop hp.1)))), (by subst hA; show EV 9 [(rappS (rappS (List.take (Int.toNat t6) (List.drop 0 R0)) (List.length (List.take (Int.toNat t6) (List.drop 0 R0))) [[(AV.int .i64 t5)]]) ((List.length (List.take (Int.toNat t6) (List.drop 0 R0))) + 1) (List.take ((List.length R0) - (Int.toNat t6)) (List.drop (0 + (Int.toNat t6)) R0)))] [(Lf.r t7), (Lf.i t8), (Lf.i (IntKind.wrap .i64 (t9 + (1 : Int))))]; simp only [rappS_end, Nat.zero_add, Int.toNat_natCast]; exact (h.2 c0).2.2.2.2.2.2.2.2.2.2.2.2)⟩⟩
    · refine W.draw 80 (by rfl) ?_
      cbv
      refine ⟨⟨ndI hA (And.intro rfl (And.intro (Nat.le_refl _) (And.intro (by subst hA; exact (h.2 c0).2.2.2.2.2.1) (by subst hA; exact (h.2 c0).2.2.2.2.2.2.1)))), ⟨⟨ndI hA (And.intro rfl (by subst hA; show ((0 + (Int.toNat t6)) + ((List.length R0) - (Int.toNat t6))) ≤ (List.length R0); simp only [rappS_end, Nat.zero_add, Int.toNat_natCast]; exact (h.2 c0).2.2.2.2.2.2.2.1)), ⟨ndI hA (And.intro rfl (And.intro (by subst hA; show ((List.length (List.take (Int.toNat t6) (List.drop 0 R0))) + 1) ≤ (List.length (rappS (List.take (Int.toNat t6) (List.drop 0 R0)) (List.length (List.take (Int.toNat t6) (List.drop 0 R0))) [[(AV.int .i64 t5)]])); simp only [rappS_end, Nat.zero_add, Int.toNat_natCast]; exact (h.2 c0).2.2.2.2.2.2.2.2.1) (And.intro (by subst hA; show (((List.length (List.take (Int.toNat t6) (List.drop 0 R0))) + 1) + (List.length (List.take ((List.length R0) - (Int.toNat t6)) (List.drop (0 + (Int.toNat t6)) R0)))) ≤ 140737488355328; simp only [rappS_end, Nat.zero_add, Int.toNat_natCast]; exact (h.2 c0).2.2.2.2.2.2.2.2.2.1) (by subst hA; show ((((List.length (List.take (Int.toNat t6) (List.drop 0 R0))) + 1) + (List.length (List.take ((List.length R0) - (Int.toNat t6)) (List.drop (0 + (Int.toNat t6)) R0)))) * 8) ≤ 140737488355328; simp only [rappS_end, Nat.zero_add, Int.toNat_natCast]; exact (h.2 c0).2.2.2.2.2.2.2.2.2.2.1)))), ?_⟩⟩, trivial⟩⟩, trivial⟩
      · refine W.draw 80 (by rfl) ?_
        cbv
        refine ⟨ndI hA (And.intro rfl (And.intro rfl (by subst hA; show (((List.length (List.take (Int.toNat t6) (List.drop 0 R0))) + 1) + (List.length (List.take ((List.length R0) - (Int.toNat t6)) (List.drop (0 + (Int.toNat t6)) R0)))) = (List.length (rappS (rappS (List.take (Int.toNat t6) (List.drop 0 R0)) (List.length (List.take (Int.toNat t6) (List.drop 0 R0))) [[(AV.int .i64 t5)]]) ((List.length (List.take (Int.toNat t6) (List.drop 0 R0))) + 1) (List.take ((List.length R0) - (Int.toNat t6)) (List.drop (0 + (Int.toNat t6)) R0)))); simp only [rappS_end, Nat.zero_add, Int.toNat_natCast]; exact (h.2 c0).2.2.2.2.2.2.2.2.2.2.2.1))), ⟨ndI hA (by subst hA; exact (vapp (vapp (vtake (vdrop hp.1)) vpur) (vtake (vdrop hp.1)))), (by subst hA; show EV 9 [(rappS (rappS (List.take (Int.toNat t6) (List.drop 0 R0)) (List.length (List.take (Int.toNat t6) (List.drop 0 R0))) [[(AV.int .i64 t5)]]) ((List.length (List.take (Int.toNat t6) (List.drop 0 R0))) + 1) (List.take ((List.length R0) - (Int.toNat t6)) (List.drop (0 + (Int.toNat t6)) R0)))] [(Lf.r t7), (Lf.i t8), (Lf.i (IntKind.wrap .i64 (t9 + (1 : Int))))]; simp only [rappS_end, Nat.zero_add, Int.toNat_natCast]; exact (h.2 c0).2.2.2.2.2.2.2.2.2.2.2.2)⟩⟩

end
set_option maxHeartbeats 0 in
/-- To enter. -/
theorem E19 {Q : Nat → Rs → List Lf → Prop} {a0 : List (List AV)} (h : ∀ EV : Nat → Rs → List Lf → Prop, V19 EV Q →
    EV 9 [[]] [(Lf.r a0), (Lf.i (((List.length a0) : Nat) : Int)), (Lf.i (0 : Int))]) :
    EC Try.prog G19 [] [.r a0] Q := by
  obtain ⟨A, hA⟩ : ∃ A, A = arS := ⟨_, rfl⟩
  refine Inst.enter (I := I19) hA mixed F19_at sg L19 80 rfl fun CE CK Dn EV RR W hp => ?_
  have h := h  EV (V19.of W)
  cbv
  refine ⟨ndI hA (And.intro (by subst hA; show 0 = 0; (first | rfl | simp [rappS_end] | (simp only [rappS_end, List.length_append, List.length_set, List.length_cons, List.length_nil]; omega))) (And.intro rfl (by subst hA; show 0 = 0; (first | rfl | simp [rappS_end] | (simp only [rappS_end, List.length_append, List.length_set, List.length_cons, List.length_nil]; omega))))), ⟨ndI hA (by subst hA; exact vpur), (by subst hA; exact h)⟩⟩

-- 66: signalbox/stats.clamp
section
structure V66 (EV Q : Nat → Rs → List Lf → Prop) : Prop where
  none : True

end
set_option maxHeartbeats 0 in
/-- To enter. -/
theorem E66 {Q : Nat → Rs → List Lf → Prop} {a0 : Int} (h : ∀ EV : Nat → Rs → List Lf → Prop, V66 EV Q →
    Q 0 [] [(Lf.i (arS.mn (arS.mx a0 (-1099511627776)) (1099511627776 : Int)))]) :
    EC Try.prog G66 [] [.i a0] Q := by
  obtain ⟨A, hA⟩ : ∃ A, A = arS := ⟨_, rfl⟩
  refine Inst.enter (I := I66) hA mixed F66_at sg L66 80 rfl fun CE CK Dn EV RR W hp => ?_
  have h := h  EV ⟨trivial⟩
  cbv
  refine (by rw [W.rr]; exact (by subst hA; exact h))

-- 47: signalbox/stats.sorted
section
structure V47 (EV Q : Nat → Rs → List Lf → Prop) : Prop where
  p9 : ∀ {R0 : List (List AV)} {t6 : List (List AV)} {t7 : Int} {t8 : Int}, (pursS R0 = true → 
    (t8 < t7 →
      ((0 : Int) ≤ t8) ∧
      (t6[(Int.toNat t8)]? = some [(AV.int .i64 (cIS t6 (Int.toNat t8) 0))]) ∧
      (EC Try.prog G66 [] [(Lf.i (cIS t6 (Int.toNat t8) 0))] (fun x rs vs => (x = 0 ∧ ∃ (y1_0 : Int), rs = [] ∧ vs = [.i y1_0] ∧
        ((((List.length R0) + 1) ≤ 140737488355328) ∧
          ((((List.length R0) + 1) * 8) ≤ 140737488355328) ∧
          (EV 9 [(R0 ++ [[(AV.int .i64 y1_0)]])] [(Lf.r t6), (Lf.i t7), (Lf.i (IntKind.wrap .i64 (t8 + (1 : Int))))])))))) ∧
    (t8 ≥ t7 →
      EC Try.prog G67a [R0] [] (fun x rs vs => (x = 0 ∧ ∃ (Y1_0 : List (List AV)), rs = [Y1_0] ∧ vs = [] ∧
        (((List.length R0) = (List.length Y1_0)) ∧
          (Q 0 [Y1_0] [])))))) →
    EV 9 [R0] [.r t6, .i t7, .i t8]

set_option maxHeartbeats 0 in
theorem V47.of {Q : Nat → Rs → List Lf → Prop} {A : Ar} {CE : Nat → Rs → List Lf → (Nat → Rs → List Lf → Prop) → Prop} {CK : Nat → Rs → List Lf → Cont → Prop} {Dn : Nat → List Bool → List AItem → Nat → List Bool → List AV → List ABlk → Prop} {EV RR : Nat → Rs → List Lf → Prop} (W : Wk Try.prog Try.f47 I47 L47 Q A sg CE CK Dn EV RR) : V47 EV Q := by
  have hA := W.hA
  refine ⟨?_⟩
  · intro R0 t6 t7 t8 h
    refine W.step 80 fun hp => ?_
    have h := h hp.1
    cbv
    refine ⟨imI hA fun e0 => have c0 : t8 < t7 := (by have q := (cmpE (op := .lss) hA e0); subst hA; exact q); ⟨ndI hA (And.intro (by subst hA; exact (h.1 c0).1) (by subst hA; exact (h.1 c0).2.1)), ?_⟩, imI hA fun e0 => have c0 : t8 ≥ t7 := (by have q := (cmpE (op := .lss) hA e0); subst hA; exact q); ⟨ndI hA (And.intro rfl (And.intro rfl rfl)), ⟨ndI hA (by subst hA; exact hp.1), ?_⟩⟩⟩
    · refine W.call 80 (by rfl) (h.1 c0).2.2 (by subst hA; rfl) (by subst hA; rfl) ?_
      rintro x rs vs hp1 hq1
      rcases hq1 with ⟨rfl, y1_0, rfl, rfl, k1⟩
      · cbv
        refine ⟨ndI hA (And.intro rfl (And.intro (Nat.le_refl _) (And.intro (by subst hA; exact k1.1) (by subst hA; exact k1.2.1)))), ⟨ndI hA (And.intro rfl (And.intro rfl (by subst hA; show ((List.length R0) + 1) = (List.length (rappS R0 (List.length R0) [[(AV.int .i64 y1_0)]])); (first | rfl | simp [rappS_end] | (simp only [rappS_end, List.length_append, List.length_set, List.length_cons, List.length_nil]; omega))))), ⟨ndI hA (by subst hA; exact (vapp hp.1 vpur)), (by subst hA; show EV 9 [(rappS R0 (List.length R0) [[(AV.int .i64 y1_0)]])] [(Lf.r t6), (Lf.i t7), (Lf.i (IntKind.wrap .i64 (t8 + (1 : Int))))]; simp only [rappS_end, Nat.zero_add, Int.toNat_natCast]; exact k1.2.2)⟩⟩⟩
    · refine W.call 80 (by rfl) (h.2 c0) (by subst hA; rfl) (by subst hA; rfl) ?_
      rintro x rs vs hp1 hq1
      rcases hq1 with ⟨rfl, Y1_0, rfl, rfl, k1⟩
      · cbv
        refine ⟨ndI hA (And.intro (by subst hA; exact k1.1) (And.intro rfl (by subst hA; exact k1.1))), ⟨ndI hA (by subst hA; exact hp1.1), (by rw [W.rr]; exact (by subst hA; exact k1.2))⟩⟩

end
set_option maxHeartbeats 0 in
/-- To enter. -/
theorem E47 {Q : Nat → Rs → List Lf → Prop} {a0 : List (List AV)} (h : ∀ EV : Nat → Rs → List Lf → Prop, V47 EV Q →
    EV 9 [[]] [(Lf.r a0), (Lf.i (((List.length a0) : Nat) : Int)), (Lf.i (0 : Int))]) :
    EC Try.prog G47 [] [.r a0] Q := by
  obtain ⟨A, hA⟩ : ∃ A, A = arS := ⟨_, rfl⟩
  refine Inst.enter (I := I47) hA mixed F47_at sg L47 80 rfl fun CE CK Dn EV RR W hp => ?_
  have h := h  EV (V47.of W)
  cbv
  refine ⟨ndI hA (And.intro (by subst hA; show 0 = 0; (first | rfl | simp [rappS_end] | (simp only [rappS_end, List.length_append, List.length_set, List.length_cons, List.length_nil]; omega))) (And.intro rfl (by subst hA; show 0 = 0; (first | rfl | simp [rappS_end] | (simp only [rappS_end, List.length_append, List.length_set, List.length_cons, List.length_nil]; omega))))), ⟨ndI hA (by subst hA; exact vpur), (by subst hA; exact h)⟩⟩

-- 20: signalbox/stats.Of DRAWN
section
structure V20 (EV Q : Nat → Rs → List Lf → Prop) : Prop where
  p14 : ∀ {R0 : List (List AV)} {tb0_0 : Int} {tb0_1 : Int} {tb0_2 : Int} {tb0_3 : Int} {tb0_4 : Int} {tb2_0 : Int} {tb2_1 : Int} {tb2_2 : Int} {tb2_3 : Int} {tb2_4 : Int}, (pursS R0 = true → 
    EV 19 [R0] [(Lf.i (((List.length R0) : Nat) : Int)), (Lf.i (0 : Int)), (Lf.i tb0_0), (Lf.i tb0_1), (Lf.i tb0_2), (Lf.i tb0_3), (Lf.i tb0_4), (Lf.i tb2_0), (Lf.i tb2_1), (Lf.i tb2_2), (Lf.i tb2_3), (Lf.i tb2_4)]) →
    EV 14 [R0] [.i tb0_0, .i tb0_1, .i tb0_2, .i tb0_3, .i tb0_4, .i tb2_0, .i tb2_1, .i tb2_2, .i tb2_3, .i tb2_4]
  p19 : ∀ {R0 : List (List AV)} {t33 : Int} {t34 : Int} {tb0_0 : Int} {tb0_1 : Int} {tb0_2 : Int} {tb0_3 : Int} {tb0_4 : Int} {tb1_0 : Int} {tb1_1 : Int} {tb1_2 : Int} {tb1_3 : Int} {tb1_4 : Int}, (pursS R0 = true → 
    (t34 < t33 →
      ((0 : Int) ≤ t34) ∧
      (t34 < (((List.length R0) : Nat) : Int)) ∧
      (R0[(Int.toNat t34)]? = some [(AV.int .i64 (cIS R0 (Int.toNat t34) 0))]) ∧
      (EV 19 [R0] [(Lf.i t33), (Lf.i (IntKind.wrap .i64 (t34 + (1 : Int)))), (Lf.i tb0_0), (Lf.i tb0_1), (Lf.i tb0_2), (Lf.i tb0_3), (Lf.i tb0_4), (Lf.i tb1_0), (Lf.i tb1_1), (Lf.i tb1_2), (Lf.i (IntKind.wrap .i64 (tb1_3 + (cIS R0 (Int.toNat t34) 0)))), (Lf.i tb1_4)])) ∧
    (t34 ≥ t33 →
      Q 0 [] [(Lf.i tb1_0), (Lf.i tb1_1), (Lf.i tb1_2), (Lf.i tb1_3), (Lf.i tb1_4)])) →
    EV 19 [R0] [.i t33, .i t34, .i tb0_0, .i tb0_1, .i tb0_2, .i tb0_3, .i tb0_4, .i tb1_0, .i tb1_1, .i tb1_2, .i tb1_3, .i tb1_4]

set_option maxHeartbeats 0 in
theorem V20.of {Q : Nat → Rs → List Lf → Prop} {A : Ar} {CE : Nat → Rs → List Lf → (Nat → Rs → List Lf → Prop) → Prop} {CK : Nat → Rs → List Lf → Cont → Prop} {Dn : Nat → List Bool → List AItem → Nat → List Bool → List AV → List ABlk → Prop} {EV RR : Nat → Rs → List Lf → Prop} (W : Wk Try.prog Try.f20 I20 L20 Q A sg CE CK Dn EV RR) : V20 EV Q := by
  have hA := W.hA
  refine ⟨?_, ?_⟩
  · intro R0 tb0_0 tb0_1 tb0_2 tb0_3 tb0_4 tb2_0 tb2_1 tb2_2 tb2_3 tb2_4 h
    refine W.step 80 fun hp => ?_
    have h := h hp.1
    cbv
    refine ⟨ndI hA rfl, ⟨ndI hA (And.intro rfl (And.intro rfl rfl)), ⟨ndI hA (by subst hA; exact hp.1), (by subst hA; exact h)⟩⟩⟩
  · intro R0 t33 t34 tb0_0 tb0_1 tb0_2 tb0_3 tb0_4 tb1_0 tb1_1 tb1_2 tb1_3 tb1_4 h
    refine W.step 80 fun hp => ?_
    have h := h hp.1
    cbv
    refine ⟨imI hA fun e0 => have c0 : t34 < t33 := (by have q := (cmpE (op := .lss) hA e0); subst hA; exact q); ⟨ndI hA (And.intro (by subst hA; exact (h.1 c0).1) (And.intro (by subst hA; exact (h.1 c0).2.1) rfl)), ⟨ndI hA (And.intro rfl (by subst hA; show R0[(0 + (Int.toNat t34))]? = some [(AV.int .i64 (cIS R0 (0 + (Int.toNat t34)) 0))]; simp only [rappS_end, Nat.zero_add, Int.toNat_natCast]; exact (h.1 c0).2.2.1)), ⟨ndI hA (And.intro rfl (And.intro rfl rfl)), ⟨ndI hA (by subst hA; exact hp.1), (by subst hA; show EV 19 [R0] [(Lf.i t33), (Lf.i (IntKind.wrap .i64 (t34 + (1 : Int)))), (Lf.i tb0_0), (Lf.i tb0_1), (Lf.i tb0_2), (Lf.i tb0_3), (Lf.i tb0_4), (Lf.i tb1_0), (Lf.i tb1_1), (Lf.i tb1_2), (Lf.i (IntKind.wrap .i64 (tb1_3 + (cIS R0 (0 + (Int.toNat t34)) 0)))), (Lf.i tb1_4)]; simp only [rappS_end, Nat.zero_add, Int.toNat_natCast]; exact (h.1 c0).2.2.2)⟩⟩⟩⟩, imI hA fun e0 => have c0 : t34 ≥ t33 := (by have q := (cmpE (op := .lss) hA e0); subst hA; exact q); (by rw [W.rr]; exact (by subst hA; exact (h.2 c0)))⟩

end
set_option maxHeartbeats 0 in
/-- To enter. -/
theorem E20 {Q : Nat → Rs → List Lf → Prop} {a0 : List (List AV)} (h : ∀ EV : Nat → Rs → List Lf → Prop, V20 EV Q →
    ((((List.length a0) : Nat) : Int) = (0 : Int) →
      Q 0 [] [(Lf.i (0 : Int)), (Lf.i (0 : Int)), (Lf.i (0 : Int)), (Lf.i (0 : Int)), (Lf.i (0 : Int))]) ∧
    ((((List.length a0) : Nat) : Int) ≠ (0 : Int) →
      EC Try.prog G47 [] [(Lf.r a0)] (fun x rs vs => (x = 0 ∧ ∃ (Y1_0 : List (List AV)), rs = [Y1_0] ∧ vs = [] ∧
        (((0 : Int) < (((List.length Y1_0) : Nat) : Int)) ∧
          (Y1_0[(Int.toNat (0 : Int))]? = some [(AV.int .i64 (cIS Y1_0 (Int.toNat (0 : Int)) 0))]) ∧
          ((0 : Int) ≤ (IntKind.wrap .i64 ((((List.length Y1_0) : Nat) : Int) - (1 : Int)))) ∧
          ((IntKind.wrap .i64 ((((List.length Y1_0) : Nat) : Int) - (1 : Int))) < (((List.length Y1_0) : Nat) : Int)) ∧
          (Y1_0[(Int.toNat (IntKind.wrap .i64 ((((List.length Y1_0) : Nat) : Int) - (1 : Int))))]? = some [(AV.int .i64 (cIS Y1_0 (Int.toNat (IntKind.wrap .i64 ((((List.length Y1_0) : Nat) : Int) - (1 : Int)))) 0))]) ∧
          ((0 : Int) ≤ (IntKind.wrap .i64 (Int.tdiv (IntKind.wrap .i64 ((((List.length Y1_0) : Nat) : Int) - (1 : Int))) (2 : Int)))) ∧
          ((IntKind.wrap .i64 (Int.tdiv (IntKind.wrap .i64 ((((List.length Y1_0) : Nat) : Int) - (1 : Int))) (2 : Int))) < (((List.length Y1_0) : Nat) : Int)) ∧
          (Y1_0[(Int.toNat (IntKind.wrap .i64 (Int.tdiv (IntKind.wrap .i64 ((((List.length Y1_0) : Nat) : Int) - (1 : Int))) (2 : Int))))]? = some [(AV.int .i64 (cIS Y1_0 (Int.toNat (IntKind.wrap .i64 (Int.tdiv (IntKind.wrap .i64 ((((List.length Y1_0) : Nat) : Int) - (1 : Int))) (2 : Int)))) 0))]) ∧
          (EV 14 [Y1_0] [(Lf.i (0 : Int)), (Lf.i (0 : Int)), (Lf.i (0 : Int)), (Lf.i (0 : Int)), (Lf.i (0 : Int)), (Lf.i (((List.length Y1_0) : Nat) : Int)), (Lf.i (cIS Y1_0 (Int.toNat (0 : Int)) 0)), (Lf.i (cIS Y1_0 (Int.toNat (IntKind.wrap .i64 ((((List.length Y1_0) : Nat) : Int) - (1 : Int)))) 0)), (Lf.i (0 : Int)), (Lf.i (cIS Y1_0 (Int.toNat (IntKind.wrap .i64 (Int.tdiv (IntKind.wrap .i64 ((((List.length Y1_0) : Nat) : Int) - (1 : Int))) (2 : Int)))) 0))])))))) :
    EC Try.prog G20 [] [.r a0] Q := by
  obtain ⟨A, hA⟩ : ∃ A, A = arS := ⟨_, rfl⟩
  refine Inst.enter (I := I20) hA mixed F20_at sg L20 80 rfl fun CE CK Dn EV RR W hp => ?_
  have h := h  EV (V20.of W)
  cbv
  refine ⟨imI hA fun e0 => have c0 : (((List.length a0) : Nat) : Int) = (0 : Int) := (by have q := (cmpE (op := .eql) hA e0); subst hA; exact q); (by rw [W.rr]; exact (by subst hA; exact (h.1 c0))), imI hA fun e0 => have c0 : (((List.length a0) : Nat) : Int) ≠ (0 : Int) := (by have q := (cmpE (op := .eql) hA e0); subst hA; exact q); ?_⟩
  · refine W.call 80 (by rfl) (h.2 c0) (by subst hA; rfl) (by subst hA; rfl) ?_
    rintro x rs vs hp1 hq1
    rcases hq1 with ⟨rfl, Y1_0, rfl, rfl, k1⟩
    · cbv
      refine ⟨ndI hA rfl, ⟨ndI hA (And.intro (by subst hA; exact Int.le_refl _) (And.intro (by subst hA; exact k1.1) rfl)), ⟨ndI hA (And.intro rfl (by subst hA; show Y1_0[(0 + (Int.toNat (0 : Int)))]? = some [(AV.int .i64 (cIS Y1_0 (0 + (Int.toNat (0 : Int))) 0))]; simp only [rappS_end, Nat.zero_add, Int.toNat_natCast]; exact k1.2.1)), ⟨ndI hA rfl, ⟨ndI hA (And.intro (by subst hA; exact k1.2.2.1) (And.intro (by subst hA; exact k1.2.2.2.1) rfl)), ⟨ndI hA (And.intro rfl (by subst hA; show Y1_0[(0 + (Int.toNat (IntKind.wrap .i64 ((((List.length Y1_0) : Nat) : Int) - (1 : Int)))))]? = some [(AV.int .i64 (cIS Y1_0 (0 + (Int.toNat (IntKind.wrap .i64 ((((List.length Y1_0) : Nat) : Int) - (1 : Int))))) 0))]; simp only [rappS_end, Nat.zero_add, Int.toNat_natCast]; exact k1.2.2.2.2.1)), ⟨ndI hA rfl, ⟨ndI hA (show _ ≠ _ by decide), ⟨ndI hA (And.intro (by subst hA; exact k1.2.2.2.2.2.1) (And.intro (by subst hA; exact k1.2.2.2.2.2.2.1) rfl)), ⟨ndI hA (And.intro rfl (by subst hA; show Y1_0[(0 + (Int.toNat (IntKind.wrap .i64 (Int.tdiv (IntKind.wrap .i64 ((((List.length Y1_0) : Nat) : Int) - (1 : Int))) (2 : Int)))))]? = some [(AV.int .i64 (cIS Y1_0 (0 + (Int.toNat (IntKind.wrap .i64 (Int.tdiv (IntKind.wrap .i64 ((((List.length Y1_0) : Nat) : Int) - (1 : Int))) (2 : Int))))) 0))]; simp only [rappS_end, Nat.zero_add, Int.toNat_natCast]; exact k1.2.2.2.2.2.2.2.1)), ⟨⟨⟨ndI hA (And.intro rfl (And.intro rfl rfl)), ⟨ndI hA (by subst hA; exact hp1.1), (by subst hA; show EV 14 [Y1_0] [(Lf.i (0 : Int)), (Lf.i (0 : Int)), (Lf.i (0 : Int)), (Lf.i (0 : Int)), (Lf.i (0 : Int)), (Lf.i (((List.length Y1_0) : Nat) : Int)), (Lf.i (cIS Y1_0 (0 + (Int.toNat (0 : Int))) 0)), (Lf.i (cIS Y1_0 (0 + (Int.toNat (IntKind.wrap .i64 ((((List.length Y1_0) : Nat) : Int) - (1 : Int))))) 0)), (Lf.i (0 : Int)), (Lf.i (cIS Y1_0 (0 + (Int.toNat (IntKind.wrap .i64 (Int.tdiv (IntKind.wrap .i64 ((((List.length Y1_0) : Nat) : Int) - (1 : Int))) (2 : Int))))) 0))]; simp only [rappS_end, Nat.zero_add, Int.toNat_natCast]; exact k1.2.2.2.2.2.2.2.2)⟩⟩, trivial⟩, trivial⟩⟩⟩⟩⟩⟩⟩⟩⟩⟩⟩

-- 21: signalbox/stats.Rank
section
structure V21 (EV Q : Nat → Rs → List Lf → Prop) : Prop where
  none : True

end
set_option maxHeartbeats 0 in
/-- To enter. -/
theorem E21 {Q : Nat → Rs → List Lf → Prop} {a0 : List (List AV)} {a1 : Int} {a2 : Int} (h : ∀ EV : Nat → Rs → List Lf → Prop, V21 EV Q →
    ((((List.length a0) : Nat) : Int) ≠ (0 : Int) →
      (a2 ≥ (1 : Int) →
        (a2 ≤ (1048576 : Int) →
          (a1 ≥ (0 : Int) →
            (a1 > a2 →
              Q 0 [] [(Lf.i (0 : Int)), (Lf.b false)]) ∧
            (a1 ≤ a2 →
              (a2 ≠ (0 : Int)) ∧
              (EC Try.prog G47 [] [(Lf.r a0)] (fun x rs vs => (x = 0 ∧ ∃ (Y5_0 : List (List AV)), rs = [Y5_0] ∧ vs = [] ∧
                (((0 : Int) ≤ (arS.mx (IntKind.wrap .i64 ((IntKind.wrap .i64 (Int.tdiv (IntKind.wrap .i64 ((IntKind.wrap .i64 ((IntKind.wrap .i64 ((((List.length a0) : Nat) : Int) * a1)) + a2)) - (1 : Int))) a2)) - (1 : Int))) (0 : Int))) ∧
                  ((arS.mx (IntKind.wrap .i64 ((IntKind.wrap .i64 (Int.tdiv (IntKind.wrap .i64 ((IntKind.wrap .i64 ((IntKind.wrap .i64 ((((List.length a0) : Nat) : Int) * a1)) + a2)) - (1 : Int))) a2)) - (1 : Int))) (0 : Int)) < (((List.length Y5_0) : Nat) : Int)) ∧
                  (Y5_0[(Int.toNat (arS.mx (IntKind.wrap .i64 ((IntKind.wrap .i64 (Int.tdiv (IntKind.wrap .i64 ((IntKind.wrap .i64 ((IntKind.wrap .i64 ((((List.length a0) : Nat) : Int) * a1)) + a2)) - (1 : Int))) a2)) - (1 : Int))) (0 : Int)))]? = some [(AV.int .i64 (cIS Y5_0 (Int.toNat (arS.mx (IntKind.wrap .i64 ((IntKind.wrap .i64 (Int.tdiv (IntKind.wrap .i64 ((IntKind.wrap .i64 ((IntKind.wrap .i64 ((((List.length a0) : Nat) : Int) * a1)) + a2)) - (1 : Int))) a2)) - (1 : Int))) (0 : Int))) 0))]) ∧
                  (Q 0 [] [(Lf.i (cIS Y5_0 (Int.toNat (arS.mx (IntKind.wrap .i64 ((IntKind.wrap .i64 (Int.tdiv (IntKind.wrap .i64 ((IntKind.wrap .i64 ((IntKind.wrap .i64 ((((List.length a0) : Nat) : Int) * a1)) + a2)) - (1 : Int))) a2)) - (1 : Int))) (0 : Int))) 0)), (Lf.b true)]))))))) ∧
          (a1 < (0 : Int) →
            Q 0 [] [(Lf.i (0 : Int)), (Lf.b false)])) ∧
        (a2 > (1048576 : Int) →
          Q 0 [] [(Lf.i (0 : Int)), (Lf.b false)])) ∧
      (a2 < (1 : Int) →
        Q 0 [] [(Lf.i (0 : Int)), (Lf.b false)])) ∧
    ((((List.length a0) : Nat) : Int) = (0 : Int) →
      Q 0 [] [(Lf.i (0 : Int)), (Lf.b false)])) :
    EC Try.prog G21 [] [.r a0, .i a1, .i a2] Q := by
  obtain ⟨A, hA⟩ : ∃ A, A = arS := ⟨_, rfl⟩
  refine Inst.enter (I := I21) hA mixed F21_at sg L21 80 rfl fun CE CK Dn EV RR W hp => ?_
  have h := h  EV ⟨trivial⟩
  cbv
  refine ⟨imI hA fun e0 => have c0 : (((List.length a0) : Nat) : Int) ≠ (0 : Int) := (by have q := (cmpE (op := .eql) hA e0); subst hA; exact q); ⟨imI hA fun e1 => have c1 : a2 ≥ (1 : Int) := (by have q := (cmpE (op := .lss) hA e1); subst hA; exact q); ⟨imI hA fun e2 => have c2 : a2 ≤ (1048576 : Int) := (by have q := (cmpE (op := .gtr) hA e2); subst hA; exact q); ⟨imI hA fun e3 => have c3 : a1 ≥ (0 : Int) := (by have q := (cmpE (op := .lss) hA e3); subst hA; exact q); ⟨imI hA fun e4 => have c4 : a1 > a2 := (by have q := (cmpE (op := .gtr) hA e4); subst hA; exact q); (by rw [W.rr]; exact (by subst hA; exact (((((h.1 c0).1 c1).1 c2).1 c3).1 c4))), imI hA fun e4 => have c4 : a1 ≤ a2 := (by have q := (cmpE (op := .gtr) hA e4); subst hA; exact q); ⟨ndI hA (by subst hA; exact (((((h.1 c0).1 c1).1 c2).1 c3).2 c4).1), ?_⟩⟩, imI hA fun e3 => have c3 : a1 < (0 : Int) := (by have q := (cmpE (op := .lss) hA e3); subst hA; exact q); (by rw [W.rr]; exact (by subst hA; exact ((((h.1 c0).1 c1).1 c2).2 c3)))⟩, imI hA fun e2 => have c2 : a2 > (1048576 : Int) := (by have q := (cmpE (op := .gtr) hA e2); subst hA; exact q); (by rw [W.rr]; exact (by subst hA; exact (((h.1 c0).1 c1).2 c2)))⟩, imI hA fun e1 => have c1 : a2 < (1 : Int) := (by have q := (cmpE (op := .lss) hA e1); subst hA; exact q); (by rw [W.rr]; exact (by subst hA; exact ((h.1 c0).2 c1)))⟩, imI hA fun e0 => have c0 : (((List.length a0) : Nat) : Int) = (0 : Int) := (by have q := (cmpE (op := .eql) hA e0); subst hA; exact q); (by rw [W.rr]; exact (by subst hA; exact (h.2 c0)))⟩
  · refine W.call 80 (by rfl) (((((h.1 c0).1 c1).1 c2).1 c3).2 c4).2 (by subst hA; rfl) (by subst hA; rfl) ?_
    rintro x rs vs hp5 hq5
    rcases hq5 with ⟨rfl, Y5_0, rfl, rfl, k5⟩
    · cbv
      refine ⟨ndI hA (And.intro (by subst hA; exact k5.1) (And.intro (by subst hA; exact k5.2.1) rfl)), ⟨ndI hA (And.intro rfl (by subst hA; show Y5_0[(0 + (Int.toNat (arS.mx (IntKind.wrap .i64 ((IntKind.wrap .i64 (Int.tdiv (IntKind.wrap .i64 ((IntKind.wrap .i64 ((IntKind.wrap .i64 ((((List.length a0) : Nat) : Int) * a1)) + a2)) - (1 : Int))) a2)) - (1 : Int))) (0 : Int))))]? = some [(AV.int .i64 (cIS Y5_0 (0 + (Int.toNat (arS.mx (IntKind.wrap .i64 ((IntKind.wrap .i64 (Int.tdiv (IntKind.wrap .i64 ((IntKind.wrap .i64 ((IntKind.wrap .i64 ((((List.length a0) : Nat) : Int) * a1)) + a2)) - (1 : Int))) a2)) - (1 : Int))) (0 : Int)))) 0))]; simp only [rappS_end, Nat.zero_add, Int.toNat_natCast]; exact k5.2.2.1)), (by rw [W.rr]; exact (by subst hA; show Q 0 [] [(Lf.i (cIS Y5_0 (0 + (Int.toNat (arS.mx (IntKind.wrap .i64 ((IntKind.wrap .i64 (Int.tdiv (IntKind.wrap .i64 ((IntKind.wrap .i64 ((IntKind.wrap .i64 ((((List.length a0) : Nat) : Int) * a1)) + a2)) - (1 : Int))) a2)) - (1 : Int))) (0 : Int)))) 0)), (Lf.b true)]; simp only [rappS_end, Nat.zero_add, Int.toNat_natCast]; exact k5.2.2.2))⟩⟩

-- 22: signalbox/stats.Bins
section
structure V22 (EV Q : Nat → Rs → List Lf → Prop) : Prop where
  p17 : ∀ {R0 : List (List AV)} {t1 : Int} {t2 : Int} {t26 : List (List AV)} {t27 : Int} {t28 : Int}, (pursS R0 = true → 
    (t28 < t27 →
      ((0 : Int) ≤ t28) ∧
      (t26[(Int.toNat t28)]? = some [(AV.int .i64 (cIS t26 (Int.toNat t28) 0))]) ∧
      (t1 ≠ (0 : Int)) ∧
      ((0 : Int) ≤ (arS.mn (IntKind.wrap .i64 (Int.tdiv (arS.mx (cIS t26 (Int.toNat t28) 0) (0 : Int)) t1)) (IntKind.wrap .i64 (t2 - (1 : Int))))) ∧
      ((arS.mn (IntKind.wrap .i64 (Int.tdiv (arS.mx (cIS t26 (Int.toNat t28) 0) (0 : Int)) t1)) (IntKind.wrap .i64 (t2 - (1 : Int)))) < (((List.length R0) : Nat) : Int)) ∧
      (R0[(Int.toNat (arS.mn (IntKind.wrap .i64 (Int.tdiv (arS.mx (cIS t26 (Int.toNat t28) 0) (0 : Int)) t1)) (IntKind.wrap .i64 (t2 - (1 : Int)))))]? = some [(AV.int .i64 (cIS R0 (Int.toNat (arS.mn (IntKind.wrap .i64 (Int.tdiv (arS.mx (cIS t26 (Int.toNat t28) 0) (0 : Int)) t1)) (IntKind.wrap .i64 (t2 - (1 : Int))))) 0))]) ∧
      (EV 17 [(List.set R0 (Int.toNat (arS.mn (IntKind.wrap .i64 (Int.tdiv (arS.mx (cIS t26 (Int.toNat t28) 0) (0 : Int)) t1)) (IntKind.wrap .i64 (t2 - (1 : Int))))) [(AV.int .i64 (IntKind.wrap .i64 ((cIS R0 (Int.toNat (arS.mn (IntKind.wrap .i64 (Int.tdiv (arS.mx (cIS t26 (Int.toNat t28) 0) (0 : Int)) t1)) (IntKind.wrap .i64 (t2 - (1 : Int))))) 0) + (1 : Int))))])] [(Lf.i t1), (Lf.i t2), (Lf.r t26), (Lf.i t27), (Lf.i (IntKind.wrap .i64 (t28 + (1 : Int))))])) ∧
    (t28 ≥ t27 →
      Q 0 [R0] [])) →
    EV 17 [R0] [.i t1, .i t2, .r t26, .i t27, .i t28]

set_option maxHeartbeats 0 in
theorem V22.of {Q : Nat → Rs → List Lf → Prop} {A : Ar} {CE : Nat → Rs → List Lf → (Nat → Rs → List Lf → Prop) → Prop} {CK : Nat → Rs → List Lf → Cont → Prop} {Dn : Nat → List Bool → List AItem → Nat → List Bool → List AV → List ABlk → Prop} {EV RR : Nat → Rs → List Lf → Prop} (W : Wk Try.prog Try.f22 I22 L22 Q A sg CE CK Dn EV RR) : V22 EV Q := by
  have hA := W.hA
  refine ⟨?_⟩
  · intro R0 t1 t2 t26 t27 t28 h
    refine W.step 80 fun hp => ?_
    have h := h hp.1
    cbv
    refine ⟨imI hA fun e0 => have c0 : t28 < t27 := (by have q := (cmpE (op := .lss) hA e0); subst hA; exact q); ⟨ndI hA (And.intro (by subst hA; exact (h.1 c0).1) (by subst hA; exact (h.1 c0).2.1)), ⟨ndI hA (by subst hA; exact (h.1 c0).2.2.1), ⟨ndI hA (And.intro (by subst hA; exact (h.1 c0).2.2.2.1) (And.intro (by subst hA; exact (h.1 c0).2.2.2.2.1) rfl)), ⟨ndI hA (And.intro rfl (by subst hA; show R0[(0 + (Int.toNat (arS.mn (IntKind.wrap .i64 (Int.tdiv (arS.mx (cIS t26 (Int.toNat t28) 0) (0 : Int)) t1)) (IntKind.wrap .i64 (t2 - (1 : Int))))))]? = some [(AV.int .i64 (cIS R0 (0 + (Int.toNat (arS.mn (IntKind.wrap .i64 (Int.tdiv (arS.mx (cIS t26 (Int.toNat t28) 0) (0 : Int)) t1)) (IntKind.wrap .i64 (t2 - (1 : Int)))))) 0))]; simp only [rappS_end, Nat.zero_add, Int.toNat_natCast]; exact (h.1 c0).2.2.2.2.2.1)), ⟨ndI hA (And.intro (by subst hA; exact (h.1 c0).2.2.2.1) (And.intro (by subst hA; exact (h.1 c0).2.2.2.2.1) rfl)), ⟨ndI hA (And.intro rfl (by subst hA; show R0[(0 + (Int.toNat (arS.mn (IntKind.wrap .i64 (Int.tdiv (arS.mx (cIS t26 (Int.toNat t28) 0) (0 : Int)) t1)) (IntKind.wrap .i64 (t2 - (1 : Int))))))]? = some [(AV.int .i64 (cIS R0 (0 + (Int.toNat (arS.mn (IntKind.wrap .i64 (Int.tdiv (arS.mx (cIS t26 (Int.toNat t28) 0) (0 : Int)) t1)) (IntKind.wrap .i64 (t2 - (1 : Int)))))) 0))]; simp only [rappS_end, Nat.zero_add, Int.toNat_natCast]; exact (h.1 c0).2.2.2.2.2.1)), ⟨ndI hA (And.intro (by subst hA; show (List.length R0) = (List.length (List.set R0 (0 + (Int.toNat (arS.mn (IntKind.wrap .i64 (Int.tdiv (arS.mx (cIS t26 (Int.toNat t28) 0) (0 : Int)) t1)) (IntKind.wrap .i64 (t2 - (1 : Int)))))) [(AV.int .i64 (IntKind.wrap .i64 ((cIS R0 (0 + (Int.toNat (arS.mn (IntKind.wrap .i64 (Int.tdiv (arS.mx (cIS t26 (Int.toNat t28) 0) (0 : Int)) t1)) (IntKind.wrap .i64 (t2 - (1 : Int)))))) 0) + (1 : Int))))])); (first | rfl | simp [rappS_end] | (simp only [rappS_end, List.length_append, List.length_set, List.length_cons, List.length_nil]; omega))) (And.intro rfl (by subst hA; show (List.length R0) = (List.length (List.set R0 (0 + (Int.toNat (arS.mn (IntKind.wrap .i64 (Int.tdiv (arS.mx (cIS t26 (Int.toNat t28) 0) (0 : Int)) t1)) (IntKind.wrap .i64 (t2 - (1 : Int)))))) [(AV.int .i64 (IntKind.wrap .i64 ((cIS R0 (0 + (Int.toNat (arS.mn (IntKind.wrap .i64 (Int.tdiv (arS.mx (cIS t26 (Int.toNat t28) 0) (0 : Int)) t1)) (IntKind.wrap .i64 (t2 - (1 : Int)))))) 0) + (1 : Int))))])); (first | rfl | simp [rappS_end] | (simp only [rappS_end, List.length_append, List.length_set, List.length_cons, List.length_nil]; omega))))), ⟨ndI hA (by subst hA; exact (vset hp.1 rfl)), (by subst hA; show EV 17 [(List.set R0 (0 + (Int.toNat (arS.mn (IntKind.wrap .i64 (Int.tdiv (arS.mx (cIS t26 (Int.toNat t28) 0) (0 : Int)) t1)) (IntKind.wrap .i64 (t2 - (1 : Int)))))) [(AV.int .i64 (IntKind.wrap .i64 ((cIS R0 (0 + (Int.toNat (arS.mn (IntKind.wrap .i64 (Int.tdiv (arS.mx (cIS t26 (Int.toNat t28) 0) (0 : Int)) t1)) (IntKind.wrap .i64 (t2 - (1 : Int)))))) 0) + (1 : Int))))])] [(Lf.i t1), (Lf.i t2), (Lf.r t26), (Lf.i t27), (Lf.i (IntKind.wrap .i64 (t28 + (1 : Int))))]; simp only [rappS_end, Nat.zero_add, Int.toNat_natCast]; exact (h.1 c0).2.2.2.2.2.2)⟩⟩⟩⟩⟩⟩⟩⟩, imI hA fun e0 => have c0 : t28 ≥ t27 := (by have q := (cmpE (op := .lss) hA e0); subst hA; exact q); ⟨ndI hA (And.intro rfl (And.intro rfl rfl)), ⟨ndI hA (by subst hA; exact hp.1), (by rw [W.rr]; exact (by subst hA; exact (h.2 c0)))⟩⟩⟩

end
set_option maxHeartbeats 0 in
/-- To enter. -/
theorem E22 {Q : Nat → Rs → List Lf → Prop} {a0 : List (List AV)} {a1 : Int} {a2 : Int} (h : ∀ EV : Nat → Rs → List Lf → Prop, V22 EV Q →
    (a1 ≥ (1 : Int) →
      (a1 ≤ (1048576 : Int) →
        (a2 ≥ (1 : Int) →
          (a2 > (256 : Int) →
            Q 0 [[]] []) ∧
          (a2 ≤ (256 : Int) →
            ((0 : Int) ≤ a2) ∧
            (a2 ≤ (140737488355328 : Int)) ∧
            ((a2 * ((8 : Nat) : Int)) ≤ (140737488355328 : Int)) ∧
            (EV 17 [(List.replicate (Int.toNat a2) [(AV.int .i64 (0 : Int))])] [(Lf.i a1), (Lf.i a2), (Lf.r a0), (Lf.i (((List.length a0) : Nat) : Int)), (Lf.i (0 : Int))]))) ∧
        (a2 < (1 : Int) →
          Q 0 [[]] [])) ∧
      (a1 > (1048576 : Int) →
        Q 0 [[]] [])) ∧
    (a1 < (1 : Int) →
      Q 0 [[]] [])) :
    EC Try.prog G22 [] [.r a0, .i a1, .i a2] Q := by
  obtain ⟨A, hA⟩ : ∃ A, A = arS := ⟨_, rfl⟩
  refine Inst.enter (I := I22) hA mixed F22_at sg L22 80 rfl fun CE CK Dn EV RR W hp => ?_
  have h := h  EV (V22.of W)
  cbv
  refine ⟨imI hA fun e0 => have c0 : a1 ≥ (1 : Int) := (by have q := (cmpE (op := .lss) hA e0); subst hA; exact q); ⟨imI hA fun e1 => have c1 : a1 ≤ (1048576 : Int) := (by have q := (cmpE (op := .gtr) hA e1); subst hA; exact q); ⟨imI hA fun e2 => have c2 : a2 ≥ (1 : Int) := (by have q := (cmpE (op := .lss) hA e2); subst hA; exact q); ⟨imI hA fun e3 => have c3 : a2 > (256 : Int) := (by have q := (cmpE (op := .gtr) hA e3); subst hA; exact q); ⟨ndI hA (And.intro (by subst hA; show 0 = 0; (first | rfl | simp [rappS_end] | (simp only [rappS_end, List.length_append, List.length_set, List.length_cons, List.length_nil]; omega))) (And.intro rfl (by subst hA; show 0 = 0; (first | rfl | simp [rappS_end] | (simp only [rappS_end, List.length_append, List.length_set, List.length_cons, List.length_nil]; omega))))), ⟨ndI hA (by subst hA; exact vpur), (by rw [W.rr]; exact (by subst hA; exact ((((h.1 c0).1 c1).1 c2).1 c3)))⟩⟩, imI hA fun e3 => have c3 : a2 ≤ (256 : Int) := (by have q := (cmpE (op := .gtr) hA e3); subst hA; exact q); ⟨ndI hA (And.intro (by subst hA; exact ((((h.1 c0).1 c1).1 c2).2 c3).1) (And.intro (by subst hA; exact Int.le_refl _) (And.intro (by subst hA; exact ((((h.1 c0).1 c1).1 c2).2 c3).2.1) (by subst hA; exact ((((h.1 c0).1 c1).1 c2).2 c3).2.2.1)))), ⟨ndI hA (And.intro (by subst hA; show (Int.toNat a2) = (List.length (List.replicate (Int.toNat a2) [(AV.int .i64 (0 : Int))])); (first | rfl | simp [rappS_end] | (simp only [rappS_end, List.length_append, List.length_set, List.length_cons, List.length_nil]; omega))) (And.intro rfl (by subst hA; show (Int.toNat a2) = (List.length (List.replicate (Int.toNat a2) [(AV.int .i64 (0 : Int))])); (first | rfl | simp [rappS_end] | (simp only [rappS_end, List.length_append, List.length_set, List.length_cons, List.length_nil]; omega))))), ⟨ndI hA (by subst hA; exact (vrep rfl)), (by subst hA; exact ((((h.1 c0).1 c1).1 c2).2 c3).2.2.2)⟩⟩⟩⟩, imI hA fun e2 => have c2 : a2 < (1 : Int) := (by have q := (cmpE (op := .lss) hA e2); subst hA; exact q); ⟨ndI hA (And.intro (by subst hA; show 0 = 0; (first | rfl | simp [rappS_end] | (simp only [rappS_end, List.length_append, List.length_set, List.length_cons, List.length_nil]; omega))) (And.intro rfl (by subst hA; show 0 = 0; (first | rfl | simp [rappS_end] | (simp only [rappS_end, List.length_append, List.length_set, List.length_cons, List.length_nil]; omega))))), ⟨ndI hA (by subst hA; exact vpur), (by rw [W.rr]; exact (by subst hA; exact (((h.1 c0).1 c1).2 c2)))⟩⟩⟩, imI hA fun e1 => have c1 : a1 > (1048576 : Int) := (by have q := (cmpE (op := .gtr) hA e1); subst hA; exact q); ⟨ndI hA (And.intro (by subst hA; show 0 = 0; (first | rfl | simp [rappS_end] | (simp only [rappS_end, List.length_append, List.length_set, List.length_cons, List.length_nil]; omega))) (And.intro rfl (by subst hA; show 0 = 0; (first | rfl | simp [rappS_end] | (simp only [rappS_end, List.length_append, List.length_set, List.length_cons, List.length_nil]; omega))))), ⟨ndI hA (by subst hA; exact vpur), (by rw [W.rr]; exact (by subst hA; exact ((h.1 c0).2 c1)))⟩⟩⟩, imI hA fun e0 => have c0 : a1 < (1 : Int) := (by have q := (cmpE (op := .lss) hA e0); subst hA; exact q); ⟨ndI hA (And.intro (by subst hA; show 0 = 0; (first | rfl | simp [rappS_end] | (simp only [rappS_end, List.length_append, List.length_set, List.length_cons, List.length_nil]; omega))) (And.intro rfl (by subst hA; show 0 = 0; (first | rfl | simp [rappS_end] | (simp only [rappS_end, List.length_append, List.length_set, List.length_cons, List.length_nil]; omega))))), ⟨ndI hA (by subst hA; exact vpur), (by rw [W.rr]; exact (by subst hA; exact (h.2 c0)))⟩⟩⟩

-- 23: signalbox/signalboxref35.Bin
section
structure V23 (EV Q : Nat → Rs → List Lf → Prop) : Prop where
  p7 : ∀ {t0 : Int} {t1 : Int} {t2 : Int} {t7 : Int}, (
    (t7 < (IntKind.wrap .i64 (t2 - (1 : Int))) →
      (t0 < (IntKind.wrap .i64 ((IntKind.wrap .i64 (t7 + (1 : Int))) * t1)) →
        Q 0 [] [(Lf.i t7)]) ∧
      (t0 ≥ (IntKind.wrap .i64 ((IntKind.wrap .i64 (t7 + (1 : Int))) * t1)) →
        EV 7 [] [(Lf.i t0), (Lf.i t1), (Lf.i t2), (Lf.i (IntKind.wrap .i64 (t7 + (1 : Int))))])) ∧
    (t7 ≥ (IntKind.wrap .i64 (t2 - (1 : Int))) →
      Q 0 [] [(Lf.i (IntKind.wrap .i64 (t2 - (1 : Int))))])) →
    EV 7 [] [.i t0, .i t1, .i t2, .i t7]

set_option maxHeartbeats 0 in
theorem V23.of {Q : Nat → Rs → List Lf → Prop} {A : Ar} {CE : Nat → Rs → List Lf → (Nat → Rs → List Lf → Prop) → Prop} {CK : Nat → Rs → List Lf → Cont → Prop} {Dn : Nat → List Bool → List AItem → Nat → List Bool → List AV → List ABlk → Prop} {EV RR : Nat → Rs → List Lf → Prop} (W : Wk Try.prog Try.f23 I23 L23 Q A sg CE CK Dn EV RR) : V23 EV Q := by
  have hA := W.hA
  refine ⟨?_⟩
  · intro t0 t1 t2 t7 h
    refine W.step 80 fun hp => ?_
    cbv
    refine ⟨imI hA fun e0 => have c0 : t7 < (IntKind.wrap .i64 (t2 - (1 : Int))) := (by have q := (cmpE (op := .lss) hA e0); subst hA; exact q); ⟨imI hA fun e1 => have c1 : t0 < (IntKind.wrap .i64 ((IntKind.wrap .i64 (t7 + (1 : Int))) * t1)) := (by have q := (cmpE (op := .lss) hA e1); subst hA; exact q); (by rw [W.rr]; exact (by subst hA; exact ((h.1 c0).1 c1))), imI hA fun e1 => have c1 : t0 ≥ (IntKind.wrap .i64 ((IntKind.wrap .i64 (t7 + (1 : Int))) * t1)) := (by have q := (cmpE (op := .lss) hA e1); subst hA; exact q); (by subst hA; exact ((h.1 c0).2 c1))⟩, imI hA fun e0 => have c0 : t7 ≥ (IntKind.wrap .i64 (t2 - (1 : Int))) := (by have q := (cmpE (op := .lss) hA e0); subst hA; exact q); (by rw [W.rr]; exact (by subst hA; exact (h.2 c0)))⟩

end
set_option maxHeartbeats 0 in
/-- To enter. -/
theorem E23 {Q : Nat → Rs → List Lf → Prop} {a0 : Int} {a1 : Int} {a2 : Int} (h : ∀ EV : Nat → Rs → List Lf → Prop, V23 EV Q →
    EV 7 [] [(Lf.i a0), (Lf.i a1), (Lf.i a2), (Lf.i (0 : Int))]) :
    EC Try.prog G23 [] [.i a0, .i a1, .i a2] Q := by
  obtain ⟨A, hA⟩ : ∃ A, A = arS := ⟨_, rfl⟩
  refine Inst.enter (I := I23) hA mixed F23_at sg L23 80 rfl fun CE CK Dn EV RR W hp => ?_
  have h := h  EV (V23.of W)
  cbv
  refine (by subst hA; exact h)

-- 6: signalbox/signalboxlaw35.StatsTell DRAWN
section
structure V6 (EV Q : Nat → Rs → List Lf → Prop) : Prop where
  p40 : ∀ {R0 : List (List AV)} {t0 : List (List AV)} {t1 : Int} {t2 : Int} {t3 : Int} {t4 : Int} {t13 : Int} {t40 : Int} {t41 : Int} {tb1_0 : Int} {tb1_1 : Int} {tb1_2 : Int} {tb1_3 : Int} {tb1_4 : Int}, (pursS R0 = true → 
    (t41 < t40 →
      ((0 : Int) ≤ t41) ∧
      (t41 < (((List.length R0) : Nat) : Int)) ∧
      (R0[(Int.toNat t41)]? = some [(AV.int .i64 (cIS R0 (Int.toNat t41) 0))]) ∧
      (EV 40 [R0] [(Lf.r t0), (Lf.i t1), (Lf.i t2), (Lf.i t3), (Lf.i t4), (Lf.i (IntKind.wrap .i64 (t13 + (cIS R0 (Int.toNat t41) 0)))), (Lf.i t40), (Lf.i (IntKind.wrap .i64 (t41 + (1 : Int)))), (Lf.i tb1_0), (Lf.i tb1_1), (Lf.i tb1_2), (Lf.i tb1_3), (Lf.i tb1_4)])) ∧
    (t41 ≥ t40 →
      ((0 : Int) < (((List.length R0) : Nat) : Int)) ∧
      (R0[(Int.toNat (0 : Int))]? = some [(AV.int .i64 (cIS R0 (Int.toNat (0 : Int)) 0))]) ∧
      ((0 : Int) ≤ (IntKind.wrap .i64 ((((List.length R0) : Nat) : Int) - (1 : Int)))) ∧
      ((IntKind.wrap .i64 ((((List.length R0) : Nat) : Int) - (1 : Int))) < (((List.length R0) : Nat) : Int)) ∧
      (R0[(Int.toNat (IntKind.wrap .i64 ((((List.length R0) : Nat) : Int) - (1 : Int))))]? = some [(AV.int .i64 (cIS R0 (Int.toNat (IntKind.wrap .i64 ((((List.length R0) : Nat) : Int) - (1 : Int)))) 0))]) ∧
      ((0 : Int) ≤ (IntKind.wrap .i64 (Int.tdiv (IntKind.wrap .i64 ((((List.length R0) : Nat) : Int) - (1 : Int))) (2 : Int)))) ∧
      ((IntKind.wrap .i64 (Int.tdiv (IntKind.wrap .i64 ((((List.length R0) : Nat) : Int) - (1 : Int))) (2 : Int))) < (((List.length R0) : Nat) : Int)) ∧
      (R0[(Int.toNat (IntKind.wrap .i64 (Int.tdiv (IntKind.wrap .i64 ((((List.length R0) : Nat) : Int) - (1 : Int))) (2 : Int))))]? = some [(AV.int .i64 (cIS R0 (Int.toNat (IntKind.wrap .i64 (Int.tdiv (IntKind.wrap .i64 ((((List.length R0) : Nat) : Int) - (1 : Int))) (2 : Int)))) 0))]) ∧
      (((tb1_0 == (((List.length t0) : Nat) : Int)) && ((tb1_1 == (cIS R0 (Int.toNat (0 : Int)) 0)) && ((tb1_2 == (cIS R0 (Int.toNat (IntKind.wrap .i64 ((((List.length R0) : Nat) : Int) - (1 : Int)))) 0)) && ((tb1_3 == t13) && ((tb1_4 == (cIS R0 (Int.toNat (IntKind.wrap .i64 (Int.tdiv (IntKind.wrap .i64 ((((List.length R0) : Nat) : Int) - (1 : Int))) (2 : Int)))) 0)) && true))))) = false →
        Q 0 [] [(Lf.b false)]) ∧
      (((tb1_0 == (((List.length t0) : Nat) : Int)) && ((tb1_1 == (cIS R0 (Int.toNat (0 : Int)) 0)) && ((tb1_2 == (cIS R0 (Int.toNat (IntKind.wrap .i64 ((((List.length R0) : Nat) : Int) - (1 : Int)))) 0)) && ((tb1_3 == t13) && ((tb1_4 == (cIS R0 (Int.toNat (IntKind.wrap .i64 (Int.tdiv (IntKind.wrap .i64 ((((List.length R0) : Nat) : Int) - (1 : Int))) (2 : Int)))) 0)) && true))))) = true →
        EV 59 [R0] [(Lf.r t0), (Lf.i t1), (Lf.i t2), (Lf.i t3), (Lf.i t4)]))) →
    EV 40 [R0] [.r t0, .i t1, .i t2, .i t3, .i t4, .i t13, .i t40, .i t41, .i tb1_0, .i tb1_1, .i tb1_2, .i tb1_3, .i tb1_4]
  p59 : ∀ {R0 : List (List AV)} {t0 : List (List AV)} {t1 : Int} {t2 : Int} {t3 : Int} {t4 : Int}, (pursS R0 = true → 
    EC Try.prog G21 [] [(Lf.r t0), (Lf.i t1), (Lf.i t2)] (fun x rs vs => (x = 0 ∧ ∃ (y0_0 : Int) (y0_1 : Bool), rs = [] ∧ vs = [.i y0_0, .b y0_1] ∧
      (((((List.length t0) : Nat) : Int) ≠ (0 : Int) →
          (t2 ≥ (1 : Int) →
            (t2 ≤ (1048576 : Int) →
              (t1 ≥ (0 : Int) →
                (t1 > t2 →
                  (y0_1 = false →
                    (y0_0 ≠ (0 : Int) →
                      Q 0 [] [(Lf.b false)]) ∧
                    (y0_0 = (0 : Int) →
                      EV 92 [] [(Lf.r t0), (Lf.i t3), (Lf.i t4)])) ∧
                  (y0_1 = true →
                    Q 0 [] [(Lf.b false)])) ∧
                (t1 ≤ t2 →
                  EV 77 [R0] [(Lf.r t0), (Lf.i t1), (Lf.i t2), (Lf.i t3), (Lf.i t4), (Lf.i y0_0), (Lf.b y0_1), (Lf.i (0 : Int))])) ∧
              (t1 < (0 : Int) →
                (y0_1 = false →
                  (y0_0 ≠ (0 : Int) →
                    Q 0 [] [(Lf.b false)]) ∧
                  (y0_0 = (0 : Int) →
                    EV 92 [] [(Lf.r t0), (Lf.i t3), (Lf.i t4)])) ∧
                (y0_1 = true →
                  Q 0 [] [(Lf.b false)]))) ∧
            (t2 > (1048576 : Int) →
              (y0_1 = false →
                (y0_0 ≠ (0 : Int) →
                  Q 0 [] [(Lf.b false)]) ∧
                (y0_0 = (0 : Int) →
                  EV 92 [] [(Lf.r t0), (Lf.i t3), (Lf.i t4)])) ∧
              (y0_1 = true →
                Q 0 [] [(Lf.b false)]))) ∧
          (t2 < (1 : Int) →
            (y0_1 = false →
              (y0_0 ≠ (0 : Int) →
                Q 0 [] [(Lf.b false)]) ∧
              (y0_0 = (0 : Int) →
                EV 92 [] [(Lf.r t0), (Lf.i t3), (Lf.i t4)])) ∧
            (y0_1 = true →
              Q 0 [] [(Lf.b false)]))) ∧
        ((((List.length t0) : Nat) : Int) = (0 : Int) →
          (y0_1 = false →
            (y0_0 ≠ (0 : Int) →
              Q 0 [] [(Lf.b false)]) ∧
            (y0_0 = (0 : Int) →
              EV 92 [] [(Lf.r t0), (Lf.i t3), (Lf.i t4)])) ∧
          (y0_1 = true →
            Q 0 [] [(Lf.b false)])))))) →
    EV 59 [R0] [.r t0, .i t1, .i t2, .i t3, .i t4]
  p77 : ∀ {R0 : List (List AV)} {t0 : List (List AV)} {t1 : Int} {t2 : Int} {t3 : Int} {t4 : Int} {t16 : Int} {t17 : Bool} {t18 : Int}, (pursS R0 = true → 
    ((IntKind.wrap .i64 (t18 * t2)) < (IntKind.wrap .i64 ((((List.length t0) : Nat) : Int) * t1)) →
      EV 77 [R0] [(Lf.r t0), (Lf.i t1), (Lf.i t2), (Lf.i t3), (Lf.i t4), (Lf.i t16), (Lf.b t17), (Lf.i (IntKind.wrap .i64 (t18 + (1 : Int))))]) ∧
    ((IntKind.wrap .i64 (t18 * t2)) ≥ (IntKind.wrap .i64 ((((List.length t0) : Nat) : Int) * t1)) →
      (t17 = true →
        ((0 : Int) ≤ (arS.mx (IntKind.wrap .i64 (t18 - (1 : Int))) (0 : Int))) ∧
        ((arS.mx (IntKind.wrap .i64 (t18 - (1 : Int))) (0 : Int)) < (((List.length R0) : Nat) : Int)) ∧
        (R0[(Int.toNat (arS.mx (IntKind.wrap .i64 (t18 - (1 : Int))) (0 : Int)))]? = some [(AV.int .i64 (cIS R0 (Int.toNat (arS.mx (IntKind.wrap .i64 (t18 - (1 : Int))) (0 : Int))) 0))]) ∧
        (t16 ≠ (cIS R0 (Int.toNat (arS.mx (IntKind.wrap .i64 (t18 - (1 : Int))) (0 : Int))) 0) →
          Q 0 [] [(Lf.b false)]) ∧
        (t16 = (cIS R0 (Int.toNat (arS.mx (IntKind.wrap .i64 (t18 - (1 : Int))) (0 : Int))) 0) →
          EV 92 [] [(Lf.r t0), (Lf.i t3), (Lf.i t4)])) ∧
      (t17 = false →
        Q 0 [] [(Lf.b false)]))) →
    EV 77 [R0] [.r t0, .i t1, .i t2, .i t3, .i t4, .i t16, .b t17, .i t18]
  p92 : ∀ {t0 : List (List AV)} {t3 : Int} {t4 : Int}, (
    EC Try.prog G22 [] [(Lf.r t0), (Lf.i t3), (Lf.i t4)] (fun x rs vs => (x = 0 ∧ ∃ (Y0_0 : List (List AV)), rs = [Y0_0] ∧ vs = [] ∧
      ((t3 ≥ (1 : Int) →
          (t3 ≤ (1048576 : Int) →
            (t4 ≥ (1 : Int) →
              (t4 > (256 : Int) →
                Q 0 [] [(Lf.b ((((List.length Y0_0) : Nat) : Int) == (0 : Int)))]) ∧
              (t4 ≤ (256 : Int) →
                ((0 : Int) ≤ t4) ∧
                (t4 ≤ (140737488355328 : Int)) ∧
                ((t4 * ((8 : Nat) : Int)) ≤ (140737488355328 : Int)) ∧
                (EV 109 [Y0_0, (List.replicate (Int.toNat t4) [(AV.int .i64 (0 : Int))])] [(Lf.i t3), (Lf.i t4), (Lf.r t0), (Lf.i (((List.length t0) : Nat) : Int)), (Lf.i (0 : Int))]))) ∧
            (t4 < (1 : Int) →
              Q 0 [] [(Lf.b ((((List.length Y0_0) : Nat) : Int) == (0 : Int)))])) ∧
          (t3 > (1048576 : Int) →
            Q 0 [] [(Lf.b ((((List.length Y0_0) : Nat) : Int) == (0 : Int)))])) ∧
        (t3 < (1 : Int) →
          Q 0 [] [(Lf.b ((((List.length Y0_0) : Nat) : Int) == (0 : Int)))]))))) →
    EV 92 [] [.r t0, .i t3, .i t4]
  p109 : ∀ {R0 : List (List AV)} {R1 : List (List AV)} {t3 : Int} {t4 : Int} {t148 : List (List AV)} {t149 : Int} {t150 : Int}, (pursS R0 = true → pursS R1 = true → 
    (t150 < t149 →
      ((0 : Int) ≤ t150) ∧
      (t148[(Int.toNat t150)]? = some [(AV.int .i64 (cIS t148 (Int.toNat t150) 0))]) ∧
      (EC Try.prog G23 [] [(Lf.i (cIS t148 (Int.toNat t150) 0)), (Lf.i t3), (Lf.i t4)] (fun x rs vs => (x = 0 ∧ ∃ (y1_0 : Int), rs = [] ∧ vs = [.i y1_0] ∧
        (((0 : Int) ≤ y1_0) ∧
          (y1_0 < (((List.length R1) : Nat) : Int)) ∧
          (R1[(Int.toNat y1_0)]? = some [(AV.int .i64 (cIS R1 (Int.toNat y1_0) 0))]) ∧
          (EV 109 [R0, (List.set R1 (Int.toNat y1_0) [(AV.int .i64 (IntKind.wrap .i64 ((cIS R1 (Int.toNat y1_0) 0) + (1 : Int))))])] [(Lf.i t3), (Lf.i t4), (Lf.r t148), (Lf.i t149), (Lf.i (IntKind.wrap .i64 (t150 + (1 : Int))))])))))) ∧
    (t150 ≥ t149 →
      ((((List.length R0) : Nat) : Int) ≠ t4 →
        Q 0 [] [(Lf.b false)]) ∧
      ((((List.length R0) : Nat) : Int) = t4 →
        EV 134 [R0, R1] [(Lf.i (((List.length R0) : Nat) : Int)), (Lf.i (0 : Int))]))) →
    EV 109 [R0, R1] [.i t3, .i t4, .r t148, .i t149, .i t150]
  p134 : ∀ {R0 : List (List AV)} {R1 : List (List AV)} {t169 : Int} {t170 : Int}, (pursS R0 = true → pursS R1 = true → 
    (t170 < t169 →
      ((0 : Int) ≤ t170) ∧
      (t170 < (((List.length R0) : Nat) : Int)) ∧
      (R0[(Int.toNat t170)]? = some [(AV.int .i64 (cIS R0 (Int.toNat t170) 0))]) ∧
      (t170 < (((List.length R1) : Nat) : Int)) ∧
      (R1[(Int.toNat t170)]? = some [(AV.int .i64 (cIS R1 (Int.toNat t170) 0))]) ∧
      ((cIS R0 (Int.toNat t170) 0) ≠ (cIS R1 (Int.toNat t170) 0) →
        Q 0 [] [(Lf.b false)]) ∧
      ((cIS R0 (Int.toNat t170) 0) = (cIS R1 (Int.toNat t170) 0) →
        EV 134 [R0, R1] [(Lf.i t169), (Lf.i (IntKind.wrap .i64 (t170 + (1 : Int))))])) ∧
    (t170 ≥ t169 →
      Q 0 [] [(Lf.b true)])) →
    EV 134 [R0, R1] [.i t169, .i t170]

set_option maxHeartbeats 0 in
theorem V6.of {Q : Nat → Rs → List Lf → Prop} {A : Ar} {CE : Nat → Rs → List Lf → (Nat → Rs → List Lf → Prop) → Prop} {CK : Nat → Rs → List Lf → Cont → Prop} {Dn : Nat → List Bool → List AItem → Nat → List Bool → List AV → List ABlk → Prop} {EV RR : Nat → Rs → List Lf → Prop} (W : Wk Try.prog Try.f6 I6 L6 Q A sg CE CK Dn EV RR) : V6 EV Q := by
  have hA := W.hA
  refine ⟨?_, ?_, ?_, ?_, ?_, ?_⟩
  · intro R0 t0 t1 t2 t3 t4 t13 t40 t41 tb1_0 tb1_1 tb1_2 tb1_3 tb1_4 h
    refine W.step 80 fun hp => ?_
    have h := h hp.1
    cbv
    refine ⟨imI hA fun e0 => have c0 : t41 < t40 := (by have q := (cmpE (op := .lss) hA e0); subst hA; exact q); ⟨ndI hA (And.intro (by subst hA; exact (h.1 c0).1) (And.intro (by subst hA; exact (h.1 c0).2.1) rfl)), ⟨ndI hA (And.intro rfl (by subst hA; show R0[(0 + (Int.toNat t41))]? = some [(AV.int .i64 (cIS R0 (0 + (Int.toNat t41)) 0))]; simp only [rappS_end, Nat.zero_add, Int.toNat_natCast]; exact (h.1 c0).2.2.1)), ⟨ndI hA (And.intro rfl (And.intro rfl rfl)), ⟨ndI hA (And.intro rfl (And.intro rfl rfl)), ⟨ndI hA (by subst hA; exact hp.1), (by subst hA; show EV 40 [R0] [(Lf.r t0), (Lf.i t1), (Lf.i t2), (Lf.i t3), (Lf.i t4), (Lf.i (IntKind.wrap .i64 (t13 + (cIS R0 (0 + (Int.toNat t41)) 0)))), (Lf.i t40), (Lf.i (IntKind.wrap .i64 (t41 + (1 : Int)))), (Lf.i tb1_0), (Lf.i tb1_1), (Lf.i tb1_2), (Lf.i tb1_3), (Lf.i tb1_4)]; simp only [rappS_end, Nat.zero_add, Int.toNat_natCast]; exact (h.1 c0).2.2.2)⟩⟩⟩⟩⟩, imI hA fun e0 => have c0 : t41 ≥ t40 := (by have q := (cmpE (op := .lss) hA e0); subst hA; exact q); ⟨ndI hA (And.intro (by subst hA; exact Int.le_refl _) (And.intro (by subst hA; exact (h.2 c0).1) rfl)), ⟨ndI hA (And.intro rfl (by subst hA; show R0[(0 + (Int.toNat (0 : Int)))]? = some [(AV.int .i64 (cIS R0 (0 + (Int.toNat (0 : Int))) 0))]; simp only [rappS_end, Nat.zero_add, Int.toNat_natCast]; exact (h.2 c0).2.1)), ⟨ndI hA rfl, ⟨ndI hA (And.intro (by subst hA; exact (h.2 c0).2.2.1) (And.intro (by subst hA; exact (h.2 c0).2.2.2.1) rfl)), ⟨ndI hA (And.intro rfl (by subst hA; show R0[(0 + (Int.toNat (IntKind.wrap .i64 ((((List.length R0) : Nat) : Int) - (1 : Int)))))]? = some [(AV.int .i64 (cIS R0 (0 + (Int.toNat (IntKind.wrap .i64 ((((List.length R0) : Nat) : Int) - (1 : Int))))) 0))]; simp only [rappS_end, Nat.zero_add, Int.toNat_natCast]; exact (h.2 c0).2.2.2.2.1)), ⟨ndI hA rfl, ⟨ndI hA (show _ ≠ _ by decide), ⟨ndI hA (And.intro (by subst hA; exact (h.2 c0).2.2.2.2.2.1) (And.intro (by subst hA; exact (h.2 c0).2.2.2.2.2.2.1) rfl)), ⟨ndI hA (And.intro rfl (by subst hA; show R0[(0 + (Int.toNat (IntKind.wrap .i64 (Int.tdiv (IntKind.wrap .i64 ((((List.length R0) : Nat) : Int) - (1 : Int))) (2 : Int)))))]? = some [(AV.int .i64 (cIS R0 (0 + (Int.toNat (IntKind.wrap .i64 (Int.tdiv (IntKind.wrap .i64 ((((List.length R0) : Nat) : Int) - (1 : Int))) (2 : Int))))) 0))]; simp only [rappS_end, Nat.zero_add, Int.toNat_natCast]; exact (h.2 c0).2.2.2.2.2.2.2.1)), ⟨imI hA fun e1 => have c1 : ((tb1_0 == (((List.length t0) : Nat) : Int)) && ((tb1_1 == (cIS R0 (Int.toNat (0 : Int)) 0)) && ((tb1_2 == (cIS R0 (Int.toNat (IntKind.wrap .i64 ((((List.length R0) : Nat) : Int) - (1 : Int)))) 0)) && ((tb1_3 == t13) && ((tb1_4 == (cIS R0 (Int.toNat (IntKind.wrap .i64 (Int.tdiv (IntKind.wrap .i64 ((((List.length R0) : Nat) : Int) - (1 : Int))) (2 : Int)))) 0)) && true))))) = false := (by have q := (notE hA e1); subst hA; have q : ((tb1_0 == (((List.length t0) : Nat) : Int)) && ((tb1_1 == (cIS R0 (0 + (Int.toNat (0 : Int))) 0)) && ((tb1_2 == (cIS R0 (0 + (Int.toNat (IntKind.wrap .i64 ((((List.length R0) : Nat) : Int) - (1 : Int))))) 0)) && ((tb1_3 == t13) && ((tb1_4 == (cIS R0 (0 + (Int.toNat (IntKind.wrap .i64 (Int.tdiv (IntKind.wrap .i64 ((((List.length R0) : Nat) : Int) - (1 : Int))) (2 : Int))))) 0)) && true))))) = false := q; simpa only [rappS_end, Nat.zero_add, Int.toNat_natCast] using q); (by rw [W.rr]; exact (by subst hA; exact ((h.2 c0).2.2.2.2.2.2.2.2.1 c1))), imI hA fun e1 => have c1 : ((tb1_0 == (((List.length t0) : Nat) : Int)) && ((tb1_1 == (cIS R0 (Int.toNat (0 : Int)) 0)) && ((tb1_2 == (cIS R0 (Int.toNat (IntKind.wrap .i64 ((((List.length R0) : Nat) : Int) - (1 : Int)))) 0)) && ((tb1_3 == t13) && ((tb1_4 == (cIS R0 (Int.toNat (IntKind.wrap .i64 (Int.tdiv (IntKind.wrap .i64 ((((List.length R0) : Nat) : Int) - (1 : Int))) (2 : Int)))) 0)) && true))))) = true := (by have q := (notE hA e1); subst hA; have q : ((tb1_0 == (((List.length t0) : Nat) : Int)) && ((tb1_1 == (cIS R0 (0 + (Int.toNat (0 : Int))) 0)) && ((tb1_2 == (cIS R0 (0 + (Int.toNat (IntKind.wrap .i64 ((((List.length R0) : Nat) : Int) - (1 : Int))))) 0)) && ((tb1_3 == t13) && ((tb1_4 == (cIS R0 (0 + (Int.toNat (IntKind.wrap .i64 (Int.tdiv (IntKind.wrap .i64 ((((List.length R0) : Nat) : Int) - (1 : Int))) (2 : Int))))) 0)) && true))))) = true := q; simpa only [rappS_end, Nat.zero_add, Int.toNat_natCast] using q); ⟨ndI hA (And.intro rfl (And.intro rfl rfl)), ⟨ndI hA (by subst hA; exact hp.1), (by subst hA; exact ((h.2 c0).2.2.2.2.2.2.2.2.2 c1))⟩⟩⟩⟩⟩⟩⟩⟩⟩⟩⟩⟩⟩
  · intro R0 t0 t1 t2 t3 t4 h
    refine W.step 80 fun hp => ?_
    have h := h hp.1
    cbv
    refine ?_
    · refine W.call 80 (by rfl) h (by subst hA; rfl) (by subst hA; rfl) ?_
      rintro x rs vs hp0 hq0
      rcases hq0 with ⟨rfl, y0_0, y0_1, rfl, rfl, k0⟩
      · cbv
        refine ⟨imI hA fun e1 => have c1 : (((List.length t0) : Nat) : Int) ≠ (0 : Int) := (by have q := (cmpE (op := .eql) hA e1); subst hA; exact q); ⟨imI hA fun e2 => have c2 : t2 ≥ (1 : Int) := (by have q := (cmpE (op := .lss) hA e2); subst hA; exact q); ⟨imI hA fun e3 => have c3 : t2 ≤ (1048576 : Int) := (by have q := (cmpE (op := .gtr) hA e3); subst hA; exact q); ⟨imI hA fun e4 => have c4 : t1 ≥ (0 : Int) := (by have q := (cmpE (op := .lss) hA e4); subst hA; exact q); ⟨imI hA fun e5 => have c5 : t1 > t2 := (by have q := (cmpE (op := .gtr) hA e5); subst hA; exact q); ⟨imI hA fun e6 => have c6 : y0_1 = false := (by have q := e6; subst hA; exact q); ⟨imI hA fun e7 => have c7 : y0_0 ≠ (0 : Int) := (by have q := (cmpE (op := .neq) hA e7); subst hA; exact q); (by rw [W.rr]; exact (by subst hA; exact (((((((k0.1 c1).1 c2).1 c3).1 c4).1 c5).1 c6).1 c7))), imI hA fun e7 => have c7 : y0_0 = (0 : Int) := (by have q := (cmpE (op := .neq) hA e7); subst hA; exact q); (by subst hA; exact (((((((k0.1 c1).1 c2).1 c3).1 c4).1 c5).1 c6).2 c7))⟩, imI hA fun e6 => have c6 : y0_1 = true := (by have q := e6; subst hA; exact q); (by rw [W.rr]; exact (by subst hA; exact ((((((k0.1 c1).1 c2).1 c3).1 c4).1 c5).2 c6)))⟩, imI hA fun e5 => have c5 : t1 ≤ t2 := (by have q := (cmpE (op := .gtr) hA e5); subst hA; exact q); ⟨ndI hA (And.intro rfl (And.intro rfl rfl)), ⟨ndI hA (by subst hA; exact hp.1), (by subst hA; exact (((((k0.1 c1).1 c2).1 c3).1 c4).2 c5))⟩⟩⟩, imI hA fun e4 => have c4 : t1 < (0 : Int) := (by have q := (cmpE (op := .lss) hA e4); subst hA; exact q); ⟨imI hA fun e5 => have c5 : y0_1 = false := (by have q := e5; subst hA; exact q); ⟨imI hA fun e6 => have c6 : y0_0 ≠ (0 : Int) := (by have q := (cmpE (op := .neq) hA e6); subst hA; exact q); (by rw [W.rr]; exact (by subst hA; exact ((((((k0.1 c1).1 c2).1 c3).2 c4).1 c5).1 c6))), imI hA fun e6 => have c6 : y0_0 = (0 : Int) := (by have q := (cmpE (op := .neq) hA e6); subst hA; exact q); (by subst hA; exact ((((((k0.1 c1).1 c2).1 c3).2 c4).1 c5).2 c6))⟩, imI hA fun e5 => have c5 : y0_1 = true := (by have q := e5; subst hA; exact q); (by rw [W.rr]; exact (by subst hA; exact (((((k0.1 c1).1 c2).1 c3).2 c4).2 c5)))⟩⟩, imI hA fun e3 => have c3 : t2 > (1048576 : Int) := (by have q := (cmpE (op := .gtr) hA e3); subst hA; exact q); ⟨imI hA fun e4 => have c4 : y0_1 = false := (by have q := e4; subst hA; exact q); ⟨imI hA fun e5 => have c5 : y0_0 ≠ (0 : Int) := (by have q := (cmpE (op := .neq) hA e5); subst hA; exact q); (by rw [W.rr]; exact (by subst hA; exact (((((k0.1 c1).1 c2).2 c3).1 c4).1 c5))), imI hA fun e5 => have c5 : y0_0 = (0 : Int) := (by have q := (cmpE (op := .neq) hA e5); subst hA; exact q); (by subst hA; exact (((((k0.1 c1).1 c2).2 c3).1 c4).2 c5))⟩, imI hA fun e4 => have c4 : y0_1 = true := (by have q := e4; subst hA; exact q); (by rw [W.rr]; exact (by subst hA; exact ((((k0.1 c1).1 c2).2 c3).2 c4)))⟩⟩, imI hA fun e2 => have c2 : t2 < (1 : Int) := (by have q := (cmpE (op := .lss) hA e2); subst hA; exact q); ⟨imI hA fun e3 => have c3 : y0_1 = false := (by have q := e3; subst hA; exact q); ⟨imI hA fun e4 => have c4 : y0_0 ≠ (0 : Int) := (by have q := (cmpE (op := .neq) hA e4); subst hA; exact q); (by rw [W.rr]; exact (by subst hA; exact ((((k0.1 c1).2 c2).1 c3).1 c4))), imI hA fun e4 => have c4 : y0_0 = (0 : Int) := (by have q := (cmpE (op := .neq) hA e4); subst hA; exact q); (by subst hA; exact ((((k0.1 c1).2 c2).1 c3).2 c4))⟩, imI hA fun e3 => have c3 : y0_1 = true := (by have q := e3; subst hA; exact q); (by rw [W.rr]; exact (by subst hA; exact (((k0.1 c1).2 c2).2 c3)))⟩⟩, imI hA fun e1 => have c1 : (((List.length t0) : Nat) : Int) = (0 : Int) := (by have q := (cmpE (op := .eql) hA e1); subst hA; exact q); ⟨imI hA fun e2 => have c2 : y0_1 = false := (by have q := e2; subst hA; exact q); ⟨imI hA fun e3 => have c3 : y0_0 ≠ (0 : Int) := (by have q := (cmpE (op := .neq) hA e3); subst hA; exact q); (by rw [W.rr]; exact (by subst hA; exact (((k0.2 c1).1 c2).1 c3))), imI hA fun e3 => have c3 : y0_0 = (0 : Int) := (by have q := (cmpE (op := .neq) hA e3); subst hA; exact q); (by subst hA; exact (((k0.2 c1).1 c2).2 c3))⟩, imI hA fun e2 => have c2 : y0_1 = true := (by have q := e2; subst hA; exact q); (by rw [W.rr]; exact (by subst hA; exact ((k0.2 c1).2 c2)))⟩⟩
  · intro R0 t0 t1 t2 t3 t4 t16 t17 t18 h
    refine W.step 80 fun hp => ?_
    have h := h hp.1
    cbv
    refine ⟨imI hA fun e0 => have c0 : (IntKind.wrap .i64 (t18 * t2)) < (IntKind.wrap .i64 ((((List.length t0) : Nat) : Int) * t1)) := (by have q := (cmpE (op := .lss) hA e0); subst hA; exact q); ⟨ndI hA (And.intro rfl (And.intro rfl rfl)), ⟨ndI hA (by subst hA; exact hp.1), (by subst hA; exact (h.1 c0))⟩⟩, imI hA fun e0 => have c0 : (IntKind.wrap .i64 (t18 * t2)) ≥ (IntKind.wrap .i64 ((((List.length t0) : Nat) : Int) * t1)) := (by have q := (cmpE (op := .lss) hA e0); subst hA; exact q); ⟨imI hA fun e1 => have c1 : t17 = true := (by have q := (notE hA e1); subst hA; exact q); ⟨ndI hA (And.intro (by subst hA; exact ((h.2 c0).1 c1).1) (And.intro (by subst hA; exact ((h.2 c0).1 c1).2.1) rfl)), ⟨ndI hA (And.intro rfl (by subst hA; show R0[(0 + (Int.toNat (arS.mx (IntKind.wrap .i64 (t18 - (1 : Int))) (0 : Int))))]? = some [(AV.int .i64 (cIS R0 (0 + (Int.toNat (arS.mx (IntKind.wrap .i64 (t18 - (1 : Int))) (0 : Int)))) 0))]; simp only [rappS_end, Nat.zero_add, Int.toNat_natCast]; exact ((h.2 c0).1 c1).2.2.1)), ⟨imI hA fun e2 => have c2 : t16 ≠ (cIS R0 (Int.toNat (arS.mx (IntKind.wrap .i64 (t18 - (1 : Int))) (0 : Int))) 0) := (by have q := (cmpE (op := .neq) hA e2); subst hA; have q : t16 ≠ (cIS R0 (0 + (Int.toNat (arS.mx (IntKind.wrap .i64 (t18 - (1 : Int))) (0 : Int)))) 0) := q; simpa only [rappS_end, Nat.zero_add, Int.toNat_natCast] using q); (by rw [W.rr]; exact (by subst hA; exact (((h.2 c0).1 c1).2.2.2.1 c2))), imI hA fun e2 => have c2 : t16 = (cIS R0 (Int.toNat (arS.mx (IntKind.wrap .i64 (t18 - (1 : Int))) (0 : Int))) 0) := (by have q := (cmpE (op := .neq) hA e2); subst hA; have q : t16 = (cIS R0 (0 + (Int.toNat (arS.mx (IntKind.wrap .i64 (t18 - (1 : Int))) (0 : Int)))) 0) := q; simpa only [rappS_end, Nat.zero_add, Int.toNat_natCast] using q); (by subst hA; exact (((h.2 c0).1 c1).2.2.2.2 c2))⟩⟩⟩, imI hA fun e1 => have c1 : t17 = false := (by have q := (notE hA e1); subst hA; exact q); (by rw [W.rr]; exact (by subst hA; exact ((h.2 c0).2 c1)))⟩⟩
  · intro t0 t3 t4 h
    refine W.step 80 fun hp => ?_
    cbv
    refine ?_
    · refine W.call 80 (by rfl) h (by subst hA; rfl) (by subst hA; rfl) ?_
      rintro x rs vs hp0 hq0
      rcases hq0 with ⟨rfl, Y0_0, rfl, rfl, k0⟩
      · cbv
        refine ⟨imI hA fun e1 => have c1 : t3 ≥ (1 : Int) := (by have q := (cmpE (op := .lss) hA e1); subst hA; exact q); ⟨imI hA fun e2 => have c2 : t3 ≤ (1048576 : Int) := (by have q := (cmpE (op := .gtr) hA e2); subst hA; exact q); ⟨imI hA fun e3 => have c3 : t4 ≥ (1 : Int) := (by have q := (cmpE (op := .lss) hA e3); subst hA; exact q); ⟨imI hA fun e4 => have c4 : t4 > (256 : Int) := (by have q := (cmpE (op := .gtr) hA e4); subst hA; exact q); ⟨ndI hA rfl, (by rw [W.rr]; exact (by subst hA; exact ((((k0.1 c1).1 c2).1 c3).1 c4)))⟩, imI hA fun e4 => have c4 : t4 ≤ (256 : Int) := (by have q := (cmpE (op := .gtr) hA e4); subst hA; exact q); ⟨ndI hA (And.intro (by subst hA; exact ((((k0.1 c1).1 c2).1 c3).2 c4).1) (And.intro (by subst hA; exact Int.le_refl _) (And.intro (by subst hA; exact ((((k0.1 c1).1 c2).1 c3).2 c4).2.1) (by subst hA; exact ((((k0.1 c1).1 c2).1 c3).2 c4).2.2.1)))), ⟨ndI hA (And.intro rfl (And.intro rfl rfl)), ⟨ndI hA (And.intro (by subst hA; show (Int.toNat t4) = (List.length (List.replicate (Int.toNat t4) [(AV.int .i64 (0 : Int))])); (first | rfl | simp [rappS_end] | (simp only [rappS_end, List.length_append, List.length_set, List.length_cons, List.length_nil]; omega))) (And.intro rfl (by subst hA; show (Int.toNat t4) = (List.length (List.replicate (Int.toNat t4) [(AV.int .i64 (0 : Int))])); (first | rfl | simp [rappS_end] | (simp only [rappS_end, List.length_append, List.length_set, List.length_cons, List.length_nil]; omega))))), ⟨ndI hA (by subst hA; exact hp0.1), ⟨ndI hA (by subst hA; exact (vrep rfl)), (by subst hA; exact ((((k0.1 c1).1 c2).1 c3).2 c4).2.2.2)⟩⟩⟩⟩⟩⟩, imI hA fun e3 => have c3 : t4 < (1 : Int) := (by have q := (cmpE (op := .lss) hA e3); subst hA; exact q); ⟨ndI hA rfl, (by rw [W.rr]; exact (by subst hA; exact (((k0.1 c1).1 c2).2 c3)))⟩⟩, imI hA fun e2 => have c2 : t3 > (1048576 : Int) := (by have q := (cmpE (op := .gtr) hA e2); subst hA; exact q); ⟨ndI hA rfl, (by rw [W.rr]; exact (by subst hA; exact ((k0.1 c1).2 c2)))⟩⟩, imI hA fun e1 => have c1 : t3 < (1 : Int) := (by have q := (cmpE (op := .lss) hA e1); subst hA; exact q); ⟨ndI hA rfl, (by rw [W.rr]; exact (by subst hA; exact (k0.2 c1)))⟩⟩
  · intro R0 R1 t3 t4 t148 t149 t150 h
    refine W.step 80 fun hp => ?_
    have h := h hp.1 hp.2.1
    cbv
    refine ⟨imI hA fun e0 => have c0 : t150 < t149 := (by have q := (cmpE (op := .lss) hA e0); subst hA; exact q); ⟨ndI hA (And.intro (by subst hA; exact (h.1 c0).1) (by subst hA; exact (h.1 c0).2.1)), ?_⟩, imI hA fun e0 => have c0 : t150 ≥ t149 := (by have q := (cmpE (op := .lss) hA e0); subst hA; exact q); ⟨ndI hA rfl, ⟨imI hA fun e1 => have c1 : (((List.length R0) : Nat) : Int) ≠ t4 := (by have q := (cmpE (op := .neq) hA e1); subst hA; exact q); (by rw [W.rr]; exact (by subst hA; exact ((h.2 c0).1 c1))), imI hA fun e1 => have c1 : (((List.length R0) : Nat) : Int) = t4 := (by have q := (cmpE (op := .neq) hA e1); subst hA; exact q); ⟨ndI hA rfl, ⟨ndI hA (And.intro rfl (And.intro rfl rfl)), ⟨ndI hA (And.intro rfl (And.intro rfl rfl)), ⟨ndI hA (by subst hA; exact hp.1), ⟨ndI hA (by subst hA; exact hp.2.1), (by subst hA; exact ((h.2 c0).2 c1))⟩⟩⟩⟩⟩⟩⟩⟩
    · refine W.call 80 (by rfl) (h.1 c0).2.2 (by subst hA; rfl) (by subst hA; rfl) ?_
      rintro x rs vs hp1 hq1
      rcases hq1 with ⟨rfl, y1_0, rfl, rfl, k1⟩
      · cbv
        refine ⟨ndI hA (And.intro (by subst hA; exact k1.1) (And.intro (by subst hA; exact k1.2.1) rfl)), ⟨ndI hA (And.intro rfl (by subst hA; show R1[(0 + (Int.toNat y1_0))]? = some [(AV.int .i64 (cIS R1 (0 + (Int.toNat y1_0)) 0))]; simp only [rappS_end, Nat.zero_add, Int.toNat_natCast]; exact k1.2.2.1)), ⟨ndI hA (And.intro (by subst hA; exact k1.1) (And.intro (by subst hA; exact k1.2.1) rfl)), ⟨ndI hA (And.intro rfl (by subst hA; show R1[(0 + (Int.toNat y1_0))]? = some [(AV.int .i64 (cIS R1 (0 + (Int.toNat y1_0)) 0))]; simp only [rappS_end, Nat.zero_add, Int.toNat_natCast]; exact k1.2.2.1)), ⟨ndI hA (And.intro rfl (And.intro rfl rfl)), ⟨ndI hA (And.intro (by subst hA; show (List.length R1) = (List.length (List.set R1 (0 + (Int.toNat y1_0)) [(AV.int .i64 (IntKind.wrap .i64 ((cIS R1 (0 + (Int.toNat y1_0)) 0) + (1 : Int))))])); (first | rfl | simp [rappS_end] | (simp only [rappS_end, List.length_append, List.length_set, List.length_cons, List.length_nil]; omega))) (And.intro rfl (by subst hA; show (List.length R1) = (List.length (List.set R1 (0 + (Int.toNat y1_0)) [(AV.int .i64 (IntKind.wrap .i64 ((cIS R1 (0 + (Int.toNat y1_0)) 0) + (1 : Int))))])); (first | rfl | simp [rappS_end] | (simp only [rappS_end, List.length_append, List.length_set, List.length_cons, List.length_nil]; omega))))), ⟨ndI hA (by subst hA; exact hp.1), ⟨ndI hA (by subst hA; exact (vset hp.2.1 rfl)), (by subst hA; show EV 109 [R0, (List.set R1 (0 + (Int.toNat y1_0)) [(AV.int .i64 (IntKind.wrap .i64 ((cIS R1 (0 + (Int.toNat y1_0)) 0) + (1 : Int))))])] [(Lf.i t3), (Lf.i t4), (Lf.r t148), (Lf.i t149), (Lf.i (IntKind.wrap .i64 (t150 + (1 : Int))))]; simp only [rappS_end, Nat.zero_add, Int.toNat_natCast]; exact k1.2.2.2)⟩⟩⟩⟩⟩⟩⟩⟩
  · intro R0 R1 t169 t170 h
    refine W.step 80 fun hp => ?_
    have h := h hp.1 hp.2.1
    cbv
    refine ⟨imI hA fun e0 => have c0 : t170 < t169 := (by have q := (cmpE (op := .lss) hA e0); subst hA; exact q); ⟨ndI hA (And.intro (by subst hA; exact (h.1 c0).1) (And.intro (by subst hA; exact (h.1 c0).2.1) rfl)), ⟨ndI hA (And.intro rfl (by subst hA; show R0[(0 + (Int.toNat t170))]? = some [(AV.int .i64 (cIS R0 (0 + (Int.toNat t170)) 0))]; simp only [rappS_end, Nat.zero_add, Int.toNat_natCast]; exact (h.1 c0).2.2.1)), ⟨ndI hA (And.intro (by subst hA; exact (h.1 c0).1) (And.intro (by subst hA; exact (h.1 c0).2.2.2.1) rfl)), ⟨ndI hA (And.intro rfl (by subst hA; show R1[(0 + (Int.toNat t170))]? = some [(AV.int .i64 (cIS R1 (0 + (Int.toNat t170)) 0))]; simp only [rappS_end, Nat.zero_add, Int.toNat_natCast]; exact (h.1 c0).2.2.2.2.1)), ⟨imI hA fun e1 => have c1 : (cIS R0 (Int.toNat t170) 0) ≠ (cIS R1 (Int.toNat t170) 0) := (by have q := (cmpE (op := .neq) hA e1); subst hA; have q : (cIS R0 (0 + (Int.toNat t170)) 0) ≠ (cIS R1 (0 + (Int.toNat t170)) 0) := q; simpa only [rappS_end, Nat.zero_add, Int.toNat_natCast] using q); (by rw [W.rr]; exact (by subst hA; exact ((h.1 c0).2.2.2.2.2.1 c1))), imI hA fun e1 => have c1 : (cIS R0 (Int.toNat t170) 0) = (cIS R1 (Int.toNat t170) 0) := (by have q := (cmpE (op := .neq) hA e1); subst hA; have q : (cIS R0 (0 + (Int.toNat t170)) 0) = (cIS R1 (0 + (Int.toNat t170)) 0) := q; simpa only [rappS_end, Nat.zero_add, Int.toNat_natCast] using q); ⟨ndI hA (And.intro rfl (And.intro rfl rfl)), ⟨ndI hA (And.intro rfl (And.intro rfl rfl)), ⟨ndI hA (by subst hA; exact hp.1), ⟨ndI hA (by subst hA; exact hp.2.1), (by subst hA; exact ((h.1 c0).2.2.2.2.2.2 c1))⟩⟩⟩⟩⟩⟩⟩⟩⟩, imI hA fun e0 => have c0 : t170 ≥ t169 := (by have q := (cmpE (op := .lss) hA e0); subst hA; exact q); (by rw [W.rr]; exact (by subst hA; exact (h.2 c0)))⟩

end
set_option maxHeartbeats 0 in
/-- To enter. -/
theorem E6 {Q : Nat → Rs → List Lf → Prop} {a0 : List (List AV)} {a1 : Int} {a2 : Int} {a3 : Int} {a4 : Int} (h : ∀ EV : Nat → Rs → List Lf → Prop, V6 EV Q →
    EC Try.prog G18 [] [] (fun x rs vs => (x = 0 ∧ ∃ (y0_0 : Bool), rs = [] ∧ vs = [.b y0_0] ∧
      ((y0_0 = false →
          Q 0 [] [(Lf.b false)]) ∧
        (y0_0 = true →
          ((((List.length a0) : Nat) : Int) > (100 : Int) →
            Q 0 [] [(Lf.b true)]) ∧
          ((((List.length a0) : Nat) : Int) ≤ (100 : Int) →
            EC Try.prog G19 [] [(Lf.r a0)] (fun x rs vs => (x = 0 ∧ ∃ (Y3_0 : List (List AV)), rs = [Y3_0] ∧ vs = [] ∧
              (EC Try.prog G20 [] [(Lf.r a0)] (fun x rs vs => (x = 0 ∧ ∃ (y4_0_0 : Int) (y4_0_1 : Int) (y4_0_2 : Int) (y4_0_3 : Int) (y4_0_4 : Int), rs = [] ∧ vs = [.i y4_0_0, .i y4_0_1, .i y4_0_2, .i y4_0_3, .i y4_0_4] ∧
                  (((((List.length a0) : Nat) : Int) = (0 : Int) →
                      (((y4_0_0 == (0 : Int)) && ((y4_0_1 == (0 : Int)) && ((y4_0_2 == (0 : Int)) && ((y4_0_3 == (0 : Int)) && ((y4_0_4 == (0 : Int)) && true))))) = false →
                        Q 0 [] [(Lf.b false)]) ∧
                      (((y4_0_0 == (0 : Int)) && ((y4_0_1 == (0 : Int)) && ((y4_0_2 == (0 : Int)) && ((y4_0_3 == (0 : Int)) && ((y4_0_4 == (0 : Int)) && true))))) = true →
                        EV 59 [Y3_0] [(Lf.r a0), (Lf.i a1), (Lf.i a2), (Lf.i a3), (Lf.i a4)])) ∧
                    ((((List.length a0) : Nat) : Int) ≠ (0 : Int) →
                      EV 40 [Y3_0] [(Lf.r a0), (Lf.i a1), (Lf.i a2), (Lf.i a3), (Lf.i a4), (Lf.i (0 : Int)), (Lf.i (((List.length Y3_0) : Nat) : Int)), (Lf.i (0 : Int)), (Lf.i y4_0_0), (Lf.i y4_0_1), (Lf.i y4_0_2), (Lf.i y4_0_3), (Lf.i y4_0_4)]))))))))))))) :
    EC Try.prog G6 [] [.r a0, .i a1, .i a2, .i a3, .i a4] Q := by
  obtain ⟨A, hA⟩ : ∃ A, A = arS := ⟨_, rfl⟩
  refine Inst.enter (I := I6) hA mixed F6_at sg L6 80 rfl fun CE CK Dn EV RR W hp => ?_
  have h := h  EV (V6.of W)
  cbv
  refine ?_
  · refine W.call 80 (by rfl) h (by subst hA; rfl) (by subst hA; rfl) ?_
    rintro x rs vs hp0 hq0
    rcases hq0 with ⟨rfl, y0_0, rfl, rfl, k0⟩
    · cbv
      refine ⟨imI hA fun e1 => have c1 : y0_0 = false := (by have q := (notE hA e1); subst hA; exact q); (by rw [W.rr]; exact (by subst hA; exact (k0.1 c1))), imI hA fun e1 => have c1 : y0_0 = true := (by have q := (notE hA e1); subst hA; exact q); ⟨imI hA fun e2 => have c2 : (((List.length a0) : Nat) : Int) > (100 : Int) := (by have q := (cmpE (op := .gtr) hA e2); subst hA; exact q); (by rw [W.rr]; exact (by subst hA; exact ((k0.2 c1).1 c2))), imI hA fun e2 => have c2 : (((List.length a0) : Nat) : Int) ≤ (100 : Int) := (by have q := (cmpE (op := .gtr) hA e2); subst hA; exact q); ?_⟩⟩
      · refine W.call 80 (by rfl) ((k0.2 c1).2 c2) (by subst hA; rfl) (by subst hA; rfl) ?_
        rintro x rs vs hp3 hq3
        rcases hq3 with ⟨rfl, Y3_0, rfl, rfl, k3⟩
        · cbv
          refine ?_
          · refine W.call 80 (by rfl) k3 (by subst hA; rfl) (by subst hA; rfl) ?_
            rintro x rs vs hp4 hq4
            rcases hq4 with ⟨rfl, y4_0_0, y4_0_1, y4_0_2, y4_0_3, y4_0_4, rfl, rfl, k4⟩
            · cbv
              refine ⟨imI hA fun e5 => have c5 : (((List.length a0) : Nat) : Int) = (0 : Int) := (by have q := (cmpE (op := .eql) hA e5); subst hA; exact q); ⟨imI hA fun e6 => have c6 : ((y4_0_0 == (0 : Int)) && ((y4_0_1 == (0 : Int)) && ((y4_0_2 == (0 : Int)) && ((y4_0_3 == (0 : Int)) && ((y4_0_4 == (0 : Int)) && true))))) = false := (by have q := (notE hA e6); subst hA; exact q); (by rw [W.rr]; exact (by subst hA; exact ((k4.1 c5).1 c6))), imI hA fun e6 => have c6 : ((y4_0_0 == (0 : Int)) && ((y4_0_1 == (0 : Int)) && ((y4_0_2 == (0 : Int)) && ((y4_0_3 == (0 : Int)) && ((y4_0_4 == (0 : Int)) && true))))) = true := (by have q := (notE hA e6); subst hA; exact q); ⟨ndI hA (And.intro rfl (And.intro rfl rfl)), ⟨ndI hA (by subst hA; exact hp3.1), (by subst hA; exact ((k4.1 c5).2 c6))⟩⟩⟩, imI hA fun e5 => have c5 : (((List.length a0) : Nat) : Int) ≠ (0 : Int) := (by have q := (cmpE (op := .eql) hA e5); subst hA; exact q); ⟨ndI hA rfl, ⟨ndI hA (And.intro rfl (And.intro rfl rfl)), ⟨ndI hA (And.intro rfl (And.intro rfl rfl)), ⟨ndI hA (by subst hA; exact hp3.1), (by subst hA; exact (k4.2 c5))⟩⟩⟩⟩⟩

-- 7: signalbox/signalboxlaw35.StatsRanks
section
structure V7 (EV Q : Nat → Rs → List Lf → Prop) : Prop where
  p31 : ∀ {R0 : List (List AV)} {t0 : List (List AV)} {t11 : Int} {t12 : Bool} {t13 : Int} {t14 : Bool} {t16 : Int} {t56 : Int} {t57 : Int} {tb0_0 : Int} {tb0_1 : Int} {tb0_2 : Int} {tb0_3 : Int} {tb0_4 : Int}, (pursS R0 = true → 
    (t57 < t56 →
      ((0 : Int) ≤ t57) ∧
      (t57 < (((List.length R0) : Nat) : Int)) ∧
      (R0[(Int.toNat t57)]? = some [(AV.int .i64 (cIS R0 (Int.toNat t57) 0))]) ∧
      (EV 31 [R0] [(Lf.r t0), (Lf.i t11), (Lf.b t12), (Lf.i t13), (Lf.b t14), (Lf.i (IntKind.wrap .i64 (t16 + (cIS R0 (Int.toNat t57) 0)))), (Lf.i t56), (Lf.i (IntKind.wrap .i64 (t57 + (1 : Int)))), (Lf.i tb0_0), (Lf.i tb0_1), (Lf.i tb0_2), (Lf.i tb0_3), (Lf.i tb0_4)])) ∧
    (t57 ≥ t56 →
      EV 43 [] [(Lf.r t0), (Lf.i t11), (Lf.b t12), (Lf.i t13), (Lf.b t14), (Lf.i t16), (Lf.i tb0_0), (Lf.i tb0_1), (Lf.i tb0_2), (Lf.i tb0_3), (Lf.i tb0_4)])) →
    EV 31 [R0] [.r t0, .i t11, .b t12, .i t13, .b t14, .i t16, .i t56, .i t57, .i tb0_0, .i tb0_1, .i tb0_2, .i tb0_3, .i tb0_4]
  p43 : ∀ {t0 : List (List AV)} {t11 : Int} {t12 : Bool} {t13 : Int} {t14 : Bool} {t16 : Int} {tb0_0 : Int} {tb0_1 : Int} {tb0_2 : Int} {tb0_3 : Int} {tb0_4 : Int}, (
    ((((List.length t0) : Nat) : Int) = (0 : Int) →
      (t12 = false →
        (t14 = false →
          Q 0 [] [(Lf.b (t16 == (0 : Int)))]) ∧
        (t14 = true →
          Q 0 [] [(Lf.b false)])) ∧
      (t12 = true →
        Q 0 [] [(Lf.b false)])) ∧
    ((((List.length t0) : Nat) : Int) ≠ (0 : Int) →
      EV 51 [] [(Lf.r t0), (Lf.i t11), (Lf.b t12), (Lf.i t13), (Lf.b t14), (Lf.i t16), (Lf.i tb0_0), (Lf.i tb0_1), (Lf.i tb0_2), (Lf.i tb0_3), (Lf.i tb0_4)])) →
    EV 43 [] [.r t0, .i t11, .b t12, .i t13, .b t14, .i t16, .i tb0_0, .i tb0_1, .i tb0_2, .i tb0_3, .i tb0_4]
  p51 : ∀ {t0 : List (List AV)} {t11 : Int} {t12 : Bool} {t13 : Int} {t14 : Bool} {t16 : Int} {tb0_0 : Int} {tb0_1 : Int} {tb0_2 : Int} {tb0_3 : Int} {tb0_4 : Int}, (
    EC Try.prog G21 [] [(Lf.r t0), (Lf.i (0 : Int)), (Lf.i (1 : Int))] (fun x rs vs => (x = 0 ∧ ∃ (y0_0 : Int) (y0_1 : Bool), rs = [] ∧ vs = [.i y0_0, .b y0_1] ∧
      (EV 53 [] [(Lf.r t0), (Lf.i t11), (Lf.b t12), (Lf.i t13), (Lf.b t14), (Lf.i t16), (Lf.i y0_0), (Lf.i tb0_0), (Lf.i tb0_1), (Lf.i tb0_2), (Lf.i tb0_3), (Lf.i tb0_4)])))) →
    EV 51 [] [.r t0, .i t11, .b t12, .i t13, .b t14, .i t16, .i tb0_0, .i tb0_1, .i tb0_2, .i tb0_3, .i tb0_4]
  p53 : ∀ {t0 : List (List AV)} {t11 : Int} {t12 : Bool} {t13 : Int} {t14 : Bool} {t16 : Int} {t19 : Int} {tb0_0 : Int} {tb0_1 : Int} {tb0_2 : Int} {tb0_3 : Int} {tb0_4 : Int}, (
    EC Try.prog G21 [] [(Lf.r t0), (Lf.i (1 : Int)), (Lf.i (1 : Int))] (fun x rs vs => (x = 0 ∧ ∃ (y0_0 : Int) (y0_1 : Bool), rs = [] ∧ vs = [.i y0_0, .b y0_1] ∧
      (EV 55 [] [(Lf.r t0), (Lf.i t11), (Lf.b t12), (Lf.i t13), (Lf.b t14), (Lf.i t16), (Lf.i t19), (Lf.i y0_0), (Lf.i tb0_0), (Lf.i tb0_1), (Lf.i tb0_2), (Lf.i tb0_3), (Lf.i tb0_4)])))) →
    EV 53 [] [.r t0, .i t11, .b t12, .i t13, .b t14, .i t16, .i t19, .i tb0_0, .i tb0_1, .i tb0_2, .i tb0_3, .i tb0_4]
  p55 : ∀ {t0 : List (List AV)} {t11 : Int} {t12 : Bool} {t13 : Int} {t14 : Bool} {t16 : Int} {t19 : Int} {t21 : Int} {tb0_0 : Int} {tb0_1 : Int} {tb0_2 : Int} {tb0_3 : Int} {tb0_4 : Int}, (
    (t12 = true →
      (t14 = true →
        (t11 ≤ t13 →
          (t19 = tb0_1 →
            (t21 = tb0_2 →
              (t16 = (((List.length t0) : Nat) : Int) →
                (tb0_1 ≤ tb0_4 →
                  Q 0 [] [(Lf.b (decide (tb0_4 ≤ tb0_2)))]) ∧
                (tb0_1 > tb0_4 →
                  Q 0 [] [(Lf.b false)])) ∧
              (t16 ≠ (((List.length t0) : Nat) : Int) →
                Q 0 [] [(Lf.b false)])) ∧
            (t21 ≠ tb0_2 →
              Q 0 [] [(Lf.b false)])) ∧
          (t19 ≠ tb0_1 →
            Q 0 [] [(Lf.b false)])) ∧
        (t11 > t13 →
          Q 0 [] [(Lf.b false)])) ∧
      (t14 = false →
        Q 0 [] [(Lf.b false)])) ∧
    (t12 = false →
      Q 0 [] [(Lf.b false)])) →
    EV 55 [] [.r t0, .i t11, .b t12, .i t13, .b t14, .i t16, .i t19, .i t21, .i tb0_0, .i tb0_1, .i tb0_2, .i tb0_3, .i tb0_4]

set_option maxHeartbeats 0 in
theorem V7.of {Q : Nat → Rs → List Lf → Prop} {A : Ar} {CE : Nat → Rs → List Lf → (Nat → Rs → List Lf → Prop) → Prop} {CK : Nat → Rs → List Lf → Cont → Prop} {Dn : Nat → List Bool → List AItem → Nat → List Bool → List AV → List ABlk → Prop} {EV RR : Nat → Rs → List Lf → Prop} (W : Wk Try.prog Try.f7 I7 L7 Q A sg CE CK Dn EV RR) : V7 EV Q := by
  have hA := W.hA
  refine ⟨?_, ?_, ?_, ?_, ?_⟩
  · intro R0 t0 t11 t12 t13 t14 t16 t56 t57 tb0_0 tb0_1 tb0_2 tb0_3 tb0_4 h
    refine W.step 80 fun hp => ?_
    have h := h hp.1
    cbv
    refine ⟨imI hA fun e0 => have c0 : t57 < t56 := (by have q := (cmpE (op := .lss) hA e0); subst hA; exact q); ⟨ndI hA (And.intro (by subst hA; exact (h.1 c0).1) (And.intro (by subst hA; exact (h.1 c0).2.1) rfl)), ⟨ndI hA (And.intro rfl (by subst hA; show R0[(0 + (Int.toNat t57))]? = some [(AV.int .i64 (cIS R0 (0 + (Int.toNat t57)) 0))]; simp only [rappS_end, Nat.zero_add, Int.toNat_natCast]; exact (h.1 c0).2.2.1)), ⟨ndI hA (And.intro rfl (And.intro rfl rfl)), ⟨ndI hA (by subst hA; exact hp.1), (by subst hA; show EV 31 [R0] [(Lf.r t0), (Lf.i t11), (Lf.b t12), (Lf.i t13), (Lf.b t14), (Lf.i (IntKind.wrap .i64 (t16 + (cIS R0 (0 + (Int.toNat t57)) 0)))), (Lf.i t56), (Lf.i (IntKind.wrap .i64 (t57 + (1 : Int)))), (Lf.i tb0_0), (Lf.i tb0_1), (Lf.i tb0_2), (Lf.i tb0_3), (Lf.i tb0_4)]; simp only [rappS_end, Nat.zero_add, Int.toNat_natCast]; exact (h.1 c0).2.2.2)⟩⟩⟩⟩, imI hA fun e0 => have c0 : t57 ≥ t56 := (by have q := (cmpE (op := .lss) hA e0); subst hA; exact q); (by subst hA; exact (h.2 c0))⟩
  · intro t0 t11 t12 t13 t14 t16 tb0_0 tb0_1 tb0_2 tb0_3 tb0_4 h
    refine W.step 80 fun hp => ?_
    cbv
    refine ⟨imI hA fun e0 => have c0 : (((List.length t0) : Nat) : Int) = (0 : Int) := (by have q := (cmpE (op := .eql) hA e0); subst hA; exact q); ⟨imI hA fun e1 => have c1 : t12 = false := (by have q := (notE hA e1); subst hA; exact q); ⟨imI hA fun e2 => have c2 : t14 = false := (by have q := (notE hA e2); subst hA; exact q); (by rw [W.rr]; exact (by subst hA; exact (((h.1 c0).1 c1).1 c2))), imI hA fun e2 => have c2 : t14 = true := (by have q := (notE hA e2); subst hA; exact q); (by rw [W.rr]; exact (by subst hA; exact (((h.1 c0).1 c1).2 c2)))⟩, imI hA fun e1 => have c1 : t12 = true := (by have q := (notE hA e1); subst hA; exact q); (by rw [W.rr]; exact (by subst hA; exact ((h.1 c0).2 c1)))⟩, imI hA fun e0 => have c0 : (((List.length t0) : Nat) : Int) ≠ (0 : Int) := (by have q := (cmpE (op := .eql) hA e0); subst hA; exact q); (by subst hA; exact (h.2 c0))⟩
  · intro t0 t11 t12 t13 t14 t16 tb0_0 tb0_1 tb0_2 tb0_3 tb0_4 h
    refine W.step 80 fun hp => ?_
    cbv
    refine ?_
    · refine W.call 80 (by rfl) h (by subst hA; rfl) (by subst hA; rfl) ?_
      rintro x rs vs hp0 hq0
      rcases hq0 with ⟨rfl, y0_0, y0_1, rfl, rfl, k0⟩
      · cbv
        refine (by subst hA; exact k0)
  · intro t0 t11 t12 t13 t14 t16 t19 tb0_0 tb0_1 tb0_2 tb0_3 tb0_4 h
    refine W.step 80 fun hp => ?_
    cbv
    refine ?_
    · refine W.call 80 (by rfl) h (by subst hA; rfl) (by subst hA; rfl) ?_
      rintro x rs vs hp0 hq0
      rcases hq0 with ⟨rfl, y0_0, y0_1, rfl, rfl, k0⟩
      · cbv
        refine (by subst hA; exact k0)
  · intro t0 t11 t12 t13 t14 t16 t19 t21 tb0_0 tb0_1 tb0_2 tb0_3 tb0_4 h
    refine W.step 80 fun hp => ?_
    cbv
    refine ⟨imI hA fun e0 => have c0 : t12 = true := (by have q := e0; subst hA; exact q); ?_, imI hA fun e0 => have c0 : t12 = false := (by have q := e0; subst hA; exact q); ?_⟩
    · refine W.draw 80 (by rfl) ?_
      cbv
      refine ⟨imI hA fun e1 => have c1 : t14 = true := (by have q := e1; subst hA; exact q); ?_, imI hA fun e1 => have c1 : t14 = false := (by have q := e1; subst hA; exact q); ?_⟩
      · refine W.draw 80 (by rfl) ?_
        cbv
        refine ⟨imI hA fun e2 => have c2 : t11 ≤ t13 := (by have q := (cmpE (op := .leq) hA e2); subst hA; exact q); ?_, imI hA fun e2 => have c2 : t11 > t13 := (by have q := (cmpE (op := .leq) hA e2); subst hA; exact q); ?_⟩
        · refine W.draw 80 (by rfl) ?_
          cbv
          refine ⟨imI hA fun e3 => have c3 : t19 = tb0_1 := (by have q := (cmpE (op := .eql) hA e3); subst hA; exact q); ?_, imI hA fun e3 => have c3 : t19 ≠ tb0_1 := (by have q := (cmpE (op := .eql) hA e3); subst hA; exact q); ?_⟩
          · refine W.draw 80 (by rfl) ?_
            cbv
            refine ⟨imI hA fun e4 => have c4 : t21 = tb0_2 := (by have q := (cmpE (op := .eql) hA e4); subst hA; exact q); ?_, imI hA fun e4 => have c4 : t21 ≠ tb0_2 := (by have q := (cmpE (op := .eql) hA e4); subst hA; exact q); ?_⟩
            · refine W.draw 80 (by rfl) ?_
              cbv
              refine ⟨imI hA fun e5 => have c5 : t16 = (((List.length t0) : Nat) : Int) := (by have q := (cmpE (op := .eql) hA e5); subst hA; exact q); ?_, imI hA fun e5 => have c5 : t16 ≠ (((List.length t0) : Nat) : Int) := (by have q := (cmpE (op := .eql) hA e5); subst hA; exact q); ?_⟩
              · refine W.draw 80 (by rfl) ?_
                cbv
                refine ⟨imI hA fun e6 => have c6 : tb0_1 ≤ tb0_4 := (by have q := (cmpE (op := .leq) hA e6); subst hA; exact q); (by rw [W.rr]; exact (by subst hA; exact (((((((h.1 c0).1 c1).1 c2).1 c3).1 c4).1 c5).1 c6))), imI hA fun e6 => have c6 : tb0_1 > tb0_4 := (by have q := (cmpE (op := .leq) hA e6); subst hA; exact q); (by rw [W.rr]; exact (by subst hA; exact (((((((h.1 c0).1 c1).1 c2).1 c3).1 c4).1 c5).2 c6)))⟩
              · refine W.draw 80 (by rfl) ?_
                cbv
                refine (by rw [W.rr]; exact (by subst hA; exact ((((((h.1 c0).1 c1).1 c2).1 c3).1 c4).2 c5)))
            · refine W.draw 80 (by rfl) ?_
              cbv
              refine ?_
              · refine W.draw 80 (by rfl) ?_
                cbv
                refine (by rw [W.rr]; exact (by subst hA; exact (((((h.1 c0).1 c1).1 c2).1 c3).2 c4)))
          · refine W.draw 80 (by rfl) ?_
            cbv
            refine ?_
            · refine W.draw 80 (by rfl) ?_
              cbv
              refine ?_
              · refine W.draw 80 (by rfl) ?_
                cbv
                refine (by rw [W.rr]; exact (by subst hA; exact ((((h.1 c0).1 c1).1 c2).2 c3)))
        · refine W.draw 80 (by rfl) ?_
          cbv
          refine ?_
          · refine W.draw 80 (by rfl) ?_
            cbv
            refine ?_
            · refine W.draw 80 (by rfl) ?_
              cbv
              refine ?_
              · refine W.draw 80 (by rfl) ?_
                cbv
                refine (by rw [W.rr]; exact (by subst hA; exact (((h.1 c0).1 c1).2 c2)))
      · refine W.draw 80 (by rfl) ?_
        cbv
        refine ?_
        · refine W.draw 80 (by rfl) ?_
          cbv
          refine ?_
          · refine W.draw 80 (by rfl) ?_
            cbv
            refine ?_
            · refine W.draw 80 (by rfl) ?_
              cbv
              refine ?_
              · refine W.draw 80 (by rfl) ?_
                cbv
                refine (by rw [W.rr]; exact (by subst hA; exact ((h.1 c0).2 c1)))
    · refine W.draw 80 (by rfl) ?_
      cbv
      refine ?_
      · refine W.draw 80 (by rfl) ?_
        cbv
        refine ?_
        · refine W.draw 80 (by rfl) ?_
          cbv
          refine ?_
          · refine W.draw 80 (by rfl) ?_
            cbv
            refine ?_
            · refine W.draw 80 (by rfl) ?_
              cbv
              refine ?_
              · refine W.draw 80 (by rfl) ?_
                cbv
                refine (by rw [W.rr]; exact (by subst hA; exact (h.2 c0)))

end
set_option maxHeartbeats 0 in
/-- To enter. -/
theorem E7 {Q : Nat → Rs → List Lf → Prop} {a0 : List (List AV)} {a1 : Int} {a2 : Int} {a3 : Int} {a4 : Int} (h : ∀ EV : Nat → Rs → List Lf → Prop, V7 EV Q →
    EC Try.prog G18 [] [] (fun x rs vs => (x = 0 ∧ ∃ (y0_0 : Bool), rs = [] ∧ vs = [.b y0_0] ∧
      ((y0_0 = false →
          Q 0 [] [(Lf.b false)]) ∧
        (y0_0 = true →
          ((((List.length a0) : Nat) : Int) > (200 : Int) →
            Q 0 [] [(Lf.b true)]) ∧
          ((((List.length a0) : Nat) : Int) ≤ (200 : Int) →
            EC Try.prog G21 [] [(Lf.r a0), (Lf.i (IntKind.wrap .i64 (arS.mn a1 a2))), (Lf.i (255 : Int))] (fun x rs vs => (x = 0 ∧ ∃ (y3_0 : Int) (y3_1 : Bool), rs = [] ∧ vs = [.i y3_0, .b y3_1] ∧
              (EC Try.prog G21 [] [(Lf.r a0), (Lf.i (IntKind.wrap .i64 (arS.mx a1 a2))), (Lf.i (255 : Int))] (fun x rs vs => (x = 0 ∧ ∃ (y4_0 : Int) (y4_1 : Bool), rs = [] ∧ vs = [.i y4_0, .b y4_1] ∧
                  (EC Try.prog G20 [] [(Lf.r a0)] (fun x rs vs => (x = 0 ∧ ∃ (y5_0_0 : Int) (y5_0_1 : Int) (y5_0_2 : Int) (y5_0_3 : Int) (y5_0_4 : Int), rs = [] ∧ vs = [.i y5_0_0, .i y5_0_1, .i y5_0_2, .i y5_0_3, .i y5_0_4] ∧
                      (EC Try.prog G22 [] [(Lf.r a0), (Lf.i (IntKind.wrap .i64 ((1 : Int) + (IntKind.wrap .i64 a3)))), (Lf.i (IntKind.wrap .i64 ((1 : Int) + (IntKind.wrap .i64 a4))))] (fun x rs vs => (x = 0 ∧ ∃ (Y6_0 : List (List AV)), rs = [Y6_0] ∧ vs = [] ∧
                          (EV 31 [Y6_0] [(Lf.r a0), (Lf.i y3_0), (Lf.b y3_1), (Lf.i y4_0), (Lf.b y4_1), (Lf.i (0 : Int)), (Lf.i (((List.length Y6_0) : Nat) : Int)), (Lf.i (0 : Int)), (Lf.i y5_0_0), (Lf.i y5_0_1), (Lf.i y5_0_2), (Lf.i y5_0_3), (Lf.i y5_0_4)])))))))))))))))))) :
    EC Try.prog G7 [] [.r a0, .i a1, .i a2, .i a3, .i a4] Q := by
  obtain ⟨A, hA⟩ : ∃ A, A = arS := ⟨_, rfl⟩
  refine Inst.enter (I := I7) hA mixed F7_at sg L7 80 rfl fun CE CK Dn EV RR W hp => ?_
  have h := h  EV (V7.of W)
  cbv
  refine ?_
  · refine W.call 80 (by rfl) h (by subst hA; rfl) (by subst hA; rfl) ?_
    rintro x rs vs hp0 hq0
    rcases hq0 with ⟨rfl, y0_0, rfl, rfl, k0⟩
    · cbv
      refine ⟨imI hA fun e1 => have c1 : y0_0 = false := (by have q := (notE hA e1); subst hA; exact q); (by rw [W.rr]; exact (by subst hA; exact (k0.1 c1))), imI hA fun e1 => have c1 : y0_0 = true := (by have q := (notE hA e1); subst hA; exact q); ⟨imI hA fun e2 => have c2 : (((List.length a0) : Nat) : Int) > (200 : Int) := (by have q := (cmpE (op := .gtr) hA e2); subst hA; exact q); (by rw [W.rr]; exact (by subst hA; exact ((k0.2 c1).1 c2))), imI hA fun e2 => have c2 : (((List.length a0) : Nat) : Int) ≤ (200 : Int) := (by have q := (cmpE (op := .gtr) hA e2); subst hA; exact q); ?_⟩⟩
      · refine W.call 80 (by rfl) ((k0.2 c1).2 c2) (by subst hA; rfl) (by subst hA; rfl) ?_
        rintro x rs vs hp3 hq3
        rcases hq3 with ⟨rfl, y3_0, y3_1, rfl, rfl, k3⟩
        · cbv
          refine ?_
          · refine W.call 80 (by rfl) k3 (by subst hA; rfl) (by subst hA; rfl) ?_
            rintro x rs vs hp4 hq4
            rcases hq4 with ⟨rfl, y4_0, y4_1, rfl, rfl, k4⟩
            · cbv
              refine ?_
              · refine W.call 80 (by rfl) k4 (by subst hA; rfl) (by subst hA; rfl) ?_
                rintro x rs vs hp5 hq5
                rcases hq5 with ⟨rfl, y5_0_0, y5_0_1, y5_0_2, y5_0_3, y5_0_4, rfl, rfl, k5⟩
                · cbv
                  refine ?_
                  · refine W.call 80 (by rfl) k5 (by subst hA; rfl) (by subst hA; rfl) ?_
                    rintro x rs vs hp6 hq6
                    rcases hq6 with ⟨rfl, Y6_0, rfl, rfl, k6⟩
                    · cbv
                      refine ⟨ndI hA rfl, ⟨ndI hA (And.intro rfl (And.intro rfl rfl)), ⟨ndI hA (by subst hA; exact hp6.1), (by subst hA; exact k6)⟩⟩⟩

end Go.Ab
