/- PRINTED BY A PROGRAM (wip/tools/vc.py, AbVc.lean): what is to be shown of each function, from place to place, and that it is enough. -/
import Derived.Test.YtkcnlpelbcpmgaaShapes
import Derived.Test.YtkcnlpelbcpmgaaAbV0
namespace Go.Ab
open Go Go.Proofs
set_option linter.unusedVariables false
set_option linter.unusedSimpArgs false
set_option maxRecDepth 100000

-- 10: signalbox/ceiling.New
section
variable {Q : Nat → Rs → List Lf → Prop} {A : Ar} {CE : Nat → Rs → List Lf → (Nat → Rs → List Lf → Prop) → Prop} {CK : Nat → Rs → List Lf → Cont → Prop} {Dn : Nat → List Bool → List AItem → Nat → List Bool → List AV → List ABlk → Prop} {EV RR : Nat → Rs → List Lf → Prop}
set_option maxHeartbeats 2000000 in
theorem V10_p9 (W : Wk Try.prog Try.f10 I10 L10 Q A sg CE CK Dn EV RR) {R0 : List (List AV)} {t8 : List (List AV)} {t9 : Int} {t10 : Int} (h : pursS R0 = true → 
    (t10 < t9 →
      ((0 : Int) ≤ t10) ∧
      (t8[(Int.toNat t10)]? = some [(AV.int .i64 (cIS t8 (Int.toNat t10) 0))]) ∧
      (((List.length R0) + 1) ≤ 140737488355328) ∧
      ((((List.length R0) + 1) * 24) ≤ 140737488355328) ∧
      (EV 9 [(R0 ++ [[(AV.int .i64 (cIS t8 (Int.toNat t10) 0)), (AV.int .i64 (0 : Int)), (AV.bool false)]])] [(Lf.r t8), (Lf.i t9), (Lf.i (IntKind.wrap .i64 (t10 + (1 : Int))))])) ∧
    (t10 ≥ t9 →
      Q 0 [R0] [])) :
    EV 9 [R0] [.r t8, .i t9, .i t10] := by
  have hA := W.hA
  refine W.step 80 fun hp => ?_
  have h := h hp.1
  cbv
  refine ⟨imI hA fun e0 => have c0 : t10 < t9 := (by have q := (cmpE (op := .lss) hA e0); subst hA; exact q); ⟨ndI hA (And.intro (by subst hA; exact (h.1 c0).1) (by subst hA; exact (h.1 c0).2.1)), ⟨ndI hA (And.intro rfl (And.intro (Nat.le_refl _) (And.intro (by subst hA; exact (h.1 c0).2.2.1) (by subst hA; exact (h.1 c0).2.2.2.1)))), ⟨ndI hA (And.intro rfl (And.intro rfl (by subst hA; show ((List.length R0) + 1) = (List.length (rappS R0 (List.length R0) [[(AV.int .i64 (cIS t8 (Int.toNat t10) 0)), (AV.int .i64 (0 : Int)), (AV.bool false)]])); (first | rfl | simp [rappS_end] | (simp only [rappS_end, List.length_append, List.length_set, List.length_cons, List.length_nil]; omega))))), ⟨ndI hA (by subst hA; exact (vapp hp.1 vpur)), (by subst hA; show EV 9 [(rappS R0 (List.length R0) [[(AV.int .i64 (cIS t8 (Int.toNat t10) 0)), (AV.int .i64 (0 : Int)), (AV.bool false)]])] [(Lf.r t8), (Lf.i t9), (Lf.i (IntKind.wrap .i64 (t10 + (1 : Int))))]; simp only [rappS_end, Nat.zero_add, Int.toNat_natCast]; exact (h.1 c0).2.2.2.2)⟩⟩⟩⟩, imI hA fun e1 => have c1 : t10 ≥ t9 := (by have q := (cmpE (op := .lss) hA e1); subst hA; exact q); ⟨ndI hA (And.intro rfl (And.intro rfl rfl)), ⟨ndI hA (by subst hA; exact hp.1), (by rw [W.rr]; exact (by subst hA; exact (h.2 c1)))⟩⟩⟩

end
structure V10 (EV Q : Nat → Rs → List Lf → Prop) : Prop where
  p9 : ∀ {R0 : List (List AV)} {t8 : List (List AV)} {t9 : Int} {t10 : Int}, (pursS R0 = true → 
    (t10 < t9 →
      ((0 : Int) ≤ t10) ∧
      (t8[(Int.toNat t10)]? = some [(AV.int .i64 (cIS t8 (Int.toNat t10) 0))]) ∧
      (((List.length R0) + 1) ≤ 140737488355328) ∧
      ((((List.length R0) + 1) * 24) ≤ 140737488355328) ∧
      (EV 9 [(R0 ++ [[(AV.int .i64 (cIS t8 (Int.toNat t10) 0)), (AV.int .i64 (0 : Int)), (AV.bool false)]])] [(Lf.r t8), (Lf.i t9), (Lf.i (IntKind.wrap .i64 (t10 + (1 : Int))))])) ∧
    (t10 ≥ t9 →
      Q 0 [R0] [])) →
    EV 9 [R0] [.r t8, .i t9, .i t10]

set_option maxHeartbeats 2000000 in
/-- To enter. -/
theorem E10 {Q : Nat → Rs → List Lf → Prop} {a0 : List (List AV)} (h : ∀ EV : Nat → Rs → List Lf → Prop, V10 EV Q →
    EV 9 [[]] [(Lf.r a0), (Lf.i (((List.length a0) : Nat) : Int)), (Lf.i (0 : Int))]) :
    EC Try.prog G10 [] [.r a0] Q := by
  obtain ⟨A, hA⟩ : ∃ A, A = arS := ⟨_, rfl⟩
  refine Inst.enter (I := I10) hA mixed F10_at sg L10 80 rfl fun CE CK Dn EV RR W hp => ?_
  have h := h  EV ⟨V10_p9 W⟩
  cbv
  refine ⟨ndI hA (And.intro (by subst hA; show 0 = 0; (first | rfl | simp [rappS_end] | (simp only [rappS_end, List.length_append, List.length_set, List.length_cons, List.length_nil]; omega))) (And.intro rfl (by subst hA; show 0 = 0; (first | rfl | simp [rappS_end] | (simp only [rappS_end, List.length_append, List.length_set, List.length_cons, List.length_nil]; omega))))), ⟨ndI hA (by subst hA; exact vpur), (by subst hA; exact h)⟩⟩

-- 17: (*signalbox/ceiling.Locks).Len
section
variable {Q : Nat → Rs → List Lf → Prop} {A : Ar} {CE : Nat → Rs → List Lf → (Nat → Rs → List Lf → Prop) → Prop} {CK : Nat → Rs → List Lf → Cont → Prop} {Dn : Nat → List Bool → List AItem → Nat → List Bool → List AV → List ABlk → Prop} {EV RR : Nat → Rs → List Lf → Prop}
end
structure V17 (EV Q : Nat → Rs → List Lf → Prop) : Prop where
  none : True

set_option maxHeartbeats 2000000 in
/-- To enter. -/
theorem E17 {Q : Nat → Rs → List Lf → Prop} {R0 : List (List AV)} (h : pursS R0 = true → ∀ EV : Nat → Rs → List Lf → Prop, V17 EV Q →
    Q 0 [R0] [(Lf.i (((List.length R0) : Nat) : Int))]) :
    EC Try.prog G17 [R0] [] Q := by
  obtain ⟨A, hA⟩ : ∃ A, A = arS := ⟨_, rfl⟩
  refine Inst.enter (I := I17) hA mixed F17_at sg L17 80 rfl fun CE CK Dn EV RR W hp => ?_
  have h := h hp.1 EV ⟨trivial⟩
  cbv
  refine ⟨ndI hA rfl, ⟨ndI hA (And.intro rfl (And.intro rfl rfl)), ⟨ndI hA (by subst hA; exact hp.1), (by rw [W.rr]; exact (by subst hA; exact h))⟩⟩⟩

-- 36: (*signalbox/ceiling.Locks).at
section
variable {Q : Nat → Rs → List Lf → Prop} {A : Ar} {CE : Nat → Rs → List Lf → (Nat → Rs → List Lf → Prop) → Prop} {CK : Nat → Rs → List Lf → Cont → Prop} {Dn : Nat → List Bool → List AItem → Nat → List Bool → List AV → List ABlk → Prop} {EV RR : Nat → Rs → List Lf → Prop}
end
structure V36 (EV Q : Nat → Rs → List Lf → Prop) : Prop where
  none : True

set_option maxHeartbeats 2000000 in
/-- To enter. -/
theorem E36 {Q : Nat → Rs → List Lf → Prop} {R0 : List (List AV)} {a1 : Int} (h : pursS R0 = true → ∀ EV : Nat → Rs → List Lf → Prop, V36 EV Q →
    (a1 ≥ (0 : Int) →
      EC Try.prog G17 [R0] [] (fun x rs vs => (x = 0 ∧ ∃ (Y0_0 : List (List AV)) (y0_0 : Int), rs = [Y0_0] ∧ vs = [.i y0_0] ∧
        ((a1 ≥ y0_0 →
            Q 0 [Y0_0] []) ∧
          (a1 < y0_0 →
            ((0 : Int) ≤ a1) ∧
            (a1 < (((List.length Y0_0) : Nat) : Int)) ∧
            (Q 1 [Y0_0] [(Lf.n (Int.toNat a1))])))))) ∧
    (a1 < (0 : Int) →
      Q 0 [R0] [])) :
    EC Try.prog G36 [R0] [.i a1] Q := by
  obtain ⟨A, hA⟩ : ∃ A, A = arS := ⟨_, rfl⟩
  refine Inst.enter (I := I36) hA mixed F36_at sg L36 80 rfl fun CE CK Dn EV RR W hp => ?_
  have h := h hp.1 EV ⟨trivial⟩
  cbv
  refine ⟨imI hA fun e3 => have c3 : a1 ≥ (0 : Int) := (by have q := (cmpE (op := .lss) hA e3); subst hA; exact q); ⟨ndI hA (And.intro rfl (And.intro rfl rfl)), ⟨ndI hA (by subst hA; exact hp.1), ?_⟩⟩, imI hA fun e4 => have c4 : a1 < (0 : Int) := (by have q := (cmpE (op := .lss) hA e4); subst hA; exact q); ⟨ndI hA (And.intro rfl (And.intro rfl rfl)), ⟨ndI hA (by subst hA; exact hp.1), (by rw [W.rr]; exact (by subst hA; exact (h.2 c4)))⟩⟩⟩
  · refine W.call 80 (by rfl) (h.1 c3) (by subst hA; rfl) (by subst hA; rfl) ?_
    rintro x rs vs hp0 hq0
    rcases hq0 with ⟨rfl, Y0_0, y0_0, rfl, rfl, k0⟩
    · cbv
      refine ⟨imI hA fun e1 => have c1 : a1 ≥ y0_0 := (by have q := (cmpE (op := .geq) hA e1); subst hA; exact q); ⟨ndI hA (And.intro rfl (And.intro rfl rfl)), ⟨ndI hA (by subst hA; exact hp0.1), (by rw [W.rr]; exact (by subst hA; exact (k0.1 c1)))⟩⟩, imI hA fun e2 => have c2 : a1 < y0_0 := (by have q := (cmpE (op := .geq) hA e2); subst hA; exact q); ⟨ndI hA (And.intro (by subst hA; exact (k0.2 c2).1) (And.intro (by subst hA; exact (k0.2 c2).2.1) rfl)), ⟨ndI hA rfl, ⟨ndI hA (And.intro rfl (And.intro rfl rfl)), ⟨ndI hA (by subst hA; exact hp0.1), (by rw [W.rr]; exact (by subst hA; show Q 1 [Y0_0] [(Lf.n (0 + (Int.toNat a1)))]; simp only [rappS_end, Nat.zero_add, Int.toNat_natCast]; exact (k0.2 c2).2.2))⟩⟩⟩⟩⟩

-- 11: (*signalbox/ceiling.Locks).Lock
section
variable {Q : Nat → Rs → List Lf → Prop} {A : Ar} {CE : Nat → Rs → List Lf → (Nat → Rs → List Lf → Prop) → Prop} {CK : Nat → Rs → List Lf → Cont → Prop} {Dn : Nat → List Bool → List AItem → Nat → List Bool → List AV → List ABlk → Prop} {EV RR : Nat → Rs → List Lf → Prop}
end
structure V11 (EV Q : Nat → Rs → List Lf → Prop) : Prop where
  none : True

set_option maxHeartbeats 2000000 in
/-- To enter. -/
theorem E11 {Q : Nat → Rs → List Lf → Prop} {R0 : List (List AV)} {a1 : Int} {a2 : Int} (h : pursS R0 = true → ∀ EV : Nat → Rs → List Lf → Prop, V11 EV Q →
    EC Try.prog G36 [R0] [(Lf.i a1)] (fun x rs vs => (x = 0 ∧ ∃ (Y0_0 : List (List AV)), rs = [Y0_0] ∧ vs = [] ∧
      (Q 0 [Y0_0] [(Lf.i (6 : Int))])) ∨ (x = 1 ∧ ∃ (Y0_0 : List (List AV)) (y0_0 : Nat), rs = [Y0_0] ∧ vs = [.n y0_0] ∧
      ((Y0_0[y0_0]? = some [(AV.int .i64 (cIS Y0_0 y0_0 0)), (AV.int .i64 (cIS Y0_0 y0_0 1)), (AV.bool (cBS Y0_0 y0_0 2))]) ∧
        ((cBS Y0_0 y0_0 2) = true →
          Q 0 [Y0_0] [(Lf.i (10 : Int))]) ∧
        ((cBS Y0_0 y0_0 2) = false →
          (Y0_0[y0_0]? = some [(AV.int .i64 (cIS Y0_0 y0_0 0)), (AV.int .i64 (cIS Y0_0 y0_0 1)), (AV.bool (cBS Y0_0 y0_0 2))]) ∧
          ((List.set Y0_0 y0_0 [(AV.int .i64 (cIS Y0_0 y0_0 0)), (AV.int .i64 a2), (AV.bool (cBS Y0_0 y0_0 2))])[y0_0]? = some [(AV.int .i64 (cIS (List.set Y0_0 y0_0 [(AV.int .i64 (cIS Y0_0 y0_0 0)), (AV.int .i64 a2), (AV.bool (cBS Y0_0 y0_0 2))]) y0_0 0)), (AV.int .i64 (cIS (List.set Y0_0 y0_0 [(AV.int .i64 (cIS Y0_0 y0_0 0)), (AV.int .i64 a2), (AV.bool (cBS Y0_0 y0_0 2))]) y0_0 1)), (AV.bool (cBS (List.set Y0_0 y0_0 [(AV.int .i64 (cIS Y0_0 y0_0 0)), (AV.int .i64 a2), (AV.bool (cBS Y0_0 y0_0 2))]) y0_0 2))]) ∧
          (Q 0 [(List.set (List.set Y0_0 y0_0 [(AV.int .i64 (cIS Y0_0 y0_0 0)), (AV.int .i64 a2), (AV.bool (cBS Y0_0 y0_0 2))]) y0_0 [(AV.int .i64 (cIS (List.set Y0_0 y0_0 [(AV.int .i64 (cIS Y0_0 y0_0 0)), (AV.int .i64 a2), (AV.bool (cBS Y0_0 y0_0 2))]) y0_0 0)), (AV.int .i64 (cIS (List.set Y0_0 y0_0 [(AV.int .i64 (cIS Y0_0 y0_0 0)), (AV.int .i64 a2), (AV.bool (cBS Y0_0 y0_0 2))]) y0_0 1)), (AV.bool true)])] [(Lf.i (0 : Int))])))))) :
    EC Try.prog G11 [R0] [.i a1, .i a2] Q := by
  obtain ⟨A, hA⟩ : ∃ A, A = arS := ⟨_, rfl⟩
  refine Inst.enter (I := I11) hA mixed F11_at sg L11 80 rfl fun CE CK Dn EV RR W hp => ?_
  have h := h hp.1 EV ⟨trivial⟩
  cbv
  refine ⟨ndI hA (And.intro rfl (And.intro rfl rfl)), ⟨ndI hA (by subst hA; exact hp.1), ?_⟩⟩
  · refine W.call 80 (by rfl) h (by subst hA; rfl) (by subst hA; rfl) ?_
    rintro x rs vs hp0 hq0
    rcases hq0 with ⟨rfl, Y0_0, rfl, rfl, k0⟩ | ⟨rfl, Y0_0, y0_0, rfl, rfl, k0⟩
    · cbv
      refine ⟨ndI hA (And.intro rfl (And.intro rfl rfl)), ⟨ndI hA (by subst hA; exact hp0.1), (by rw [W.rr]; exact (by subst hA; exact k0))⟩⟩
    · cbv
      refine ⟨ndI hA (And.intro rfl (by subst hA; exact k0.1)), ⟨imI hA fun e1 => have c1 : (cBS Y0_0 y0_0 2) = true := (by have q := e1; subst hA; exact q); ⟨ndI hA (And.intro rfl (And.intro rfl rfl)), ⟨ndI hA (by subst hA; exact hp0.1), (by rw [W.rr]; exact (by subst hA; exact (k0.2.1 c1)))⟩⟩, imI hA fun e2 => have c2 : (cBS Y0_0 y0_0 2) = false := (by have q := e2; subst hA; exact q); ⟨ndI hA (And.intro rfl (by subst hA; exact (k0.2.2 c2).1)), ⟨ndI hA (And.intro (by subst hA; show (List.length Y0_0) = (List.length (List.set Y0_0 y0_0 [(AV.int .i64 (cIS Y0_0 y0_0 0)), (AV.int .i64 a2), (AV.bool (cBS Y0_0 y0_0 2))])); (first | rfl | simp [rappS_end] | (simp only [rappS_end, List.length_append, List.length_set, List.length_cons, List.length_nil]; omega))) (by subst hA; exact (k0.2.2 c2).2.1)), ⟨ndI hA (And.intro (by subst hA; show (List.length Y0_0) = (List.length (List.set (List.set Y0_0 y0_0 [(AV.int .i64 (cIS Y0_0 y0_0 0)), (AV.int .i64 a2), (AV.bool (cBS Y0_0 y0_0 2))]) y0_0 [(AV.int .i64 (cIS (List.set Y0_0 y0_0 [(AV.int .i64 (cIS Y0_0 y0_0 0)), (AV.int .i64 a2), (AV.bool (cBS Y0_0 y0_0 2))]) y0_0 0)), (AV.int .i64 (cIS (List.set Y0_0 y0_0 [(AV.int .i64 (cIS Y0_0 y0_0 0)), (AV.int .i64 a2), (AV.bool (cBS Y0_0 y0_0 2))]) y0_0 1)), (AV.bool true)])); (first | rfl | simp [rappS_end] | (simp only [rappS_end, List.length_append, List.length_set, List.length_cons, List.length_nil]; omega))) (And.intro rfl (by subst hA; show (List.length Y0_0) = (List.length (List.set (List.set Y0_0 y0_0 [(AV.int .i64 (cIS Y0_0 y0_0 0)), (AV.int .i64 a2), (AV.bool (cBS Y0_0 y0_0 2))]) y0_0 [(AV.int .i64 (cIS (List.set Y0_0 y0_0 [(AV.int .i64 (cIS Y0_0 y0_0 0)), (AV.int .i64 a2), (AV.bool (cBS Y0_0 y0_0 2))]) y0_0 0)), (AV.int .i64 (cIS (List.set Y0_0 y0_0 [(AV.int .i64 (cIS Y0_0 y0_0 0)), (AV.int .i64 a2), (AV.bool (cBS Y0_0 y0_0 2))]) y0_0 1)), (AV.bool true)])); (first | rfl | simp [rappS_end] | (simp only [rappS_end, List.length_append, List.length_set, List.length_cons, List.length_nil]; omega))))), ⟨ndI hA (by subst hA; exact (vset (vset hp0.1 rfl) rfl)), (by rw [W.rr]; exact (by subst hA; exact (k0.2.2 c2).2.2))⟩⟩⟩⟩⟩⟩

-- 12: (*signalbox/ceiling.Locks).Unlock
section
variable {Q : Nat → Rs → List Lf → Prop} {A : Ar} {CE : Nat → Rs → List Lf → (Nat → Rs → List Lf → Prop) → Prop} {CK : Nat → Rs → List Lf → Cont → Prop} {Dn : Nat → List Bool → List AItem → Nat → List Bool → List AV → List ABlk → Prop} {EV RR : Nat → Rs → List Lf → Prop}
end
structure V12 (EV Q : Nat → Rs → List Lf → Prop) : Prop where
  none : True

set_option maxHeartbeats 2000000 in
/-- To enter. -/
theorem E12 {Q : Nat → Rs → List Lf → Prop} {R0 : List (List AV)} {a1 : Int} {a2 : Int} (h : pursS R0 = true → ∀ EV : Nat → Rs → List Lf → Prop, V12 EV Q →
    EC Try.prog G36 [R0] [(Lf.i a1)] (fun x rs vs => (x = 0 ∧ ∃ (Y0_0 : List (List AV)), rs = [Y0_0] ∧ vs = [] ∧
      (Q 0 [Y0_0] [(Lf.i (6 : Int))])) ∨ (x = 1 ∧ ∃ (Y0_0 : List (List AV)) (y0_0 : Nat), rs = [Y0_0] ∧ vs = [.n y0_0] ∧
      ((Y0_0[y0_0]? = some [(AV.int .i64 (cIS Y0_0 y0_0 0)), (AV.int .i64 (cIS Y0_0 y0_0 1)), (AV.bool (cBS Y0_0 y0_0 2))]) ∧
        ((cBS Y0_0 y0_0 2) = true →
          (Y0_0[y0_0]? = some [(AV.int .i64 (cIS Y0_0 y0_0 0)), (AV.int .i64 (cIS Y0_0 y0_0 1)), (AV.bool (cBS Y0_0 y0_0 2))]) ∧
          ((cIS Y0_0 y0_0 1) ≠ a2 →
            Q 0 [Y0_0] [(Lf.i (8 : Int))]) ∧
          ((cIS Y0_0 y0_0 1) = a2 →
            (Y0_0[y0_0]? = some [(AV.int .i64 (cIS Y0_0 y0_0 0)), (AV.int .i64 (cIS Y0_0 y0_0 1)), (AV.bool (cBS Y0_0 y0_0 2))]) ∧
            ((List.set Y0_0 y0_0 [(AV.int .i64 (cIS Y0_0 y0_0 0)), (AV.int .i64 (0 : Int)), (AV.bool (cBS Y0_0 y0_0 2))])[y0_0]? = some [(AV.int .i64 (cIS (List.set Y0_0 y0_0 [(AV.int .i64 (cIS Y0_0 y0_0 0)), (AV.int .i64 (0 : Int)), (AV.bool (cBS Y0_0 y0_0 2))]) y0_0 0)), (AV.int .i64 (cIS (List.set Y0_0 y0_0 [(AV.int .i64 (cIS Y0_0 y0_0 0)), (AV.int .i64 (0 : Int)), (AV.bool (cBS Y0_0 y0_0 2))]) y0_0 1)), (AV.bool (cBS (List.set Y0_0 y0_0 [(AV.int .i64 (cIS Y0_0 y0_0 0)), (AV.int .i64 (0 : Int)), (AV.bool (cBS Y0_0 y0_0 2))]) y0_0 2))]) ∧
            (Q 0 [(List.set (List.set Y0_0 y0_0 [(AV.int .i64 (cIS Y0_0 y0_0 0)), (AV.int .i64 (0 : Int)), (AV.bool (cBS Y0_0 y0_0 2))]) y0_0 [(AV.int .i64 (cIS (List.set Y0_0 y0_0 [(AV.int .i64 (cIS Y0_0 y0_0 0)), (AV.int .i64 (0 : Int)), (AV.bool (cBS Y0_0 y0_0 2))]) y0_0 0)), (AV.int .i64 (cIS (List.set Y0_0 y0_0 [(AV.int .i64 (cIS Y0_0 y0_0 0)), (AV.int .i64 (0 : Int)), (AV.bool (cBS Y0_0 y0_0 2))]) y0_0 1)), (AV.bool false)])] [(Lf.i (0 : Int))]))) ∧
        ((cBS Y0_0 y0_0 2) = false →
          Q 0 [Y0_0] [(Lf.i (8 : Int))]))))) :
    EC Try.prog G12 [R0] [.i a1, .i a2] Q := by
  obtain ⟨A, hA⟩ : ∃ A, A = arS := ⟨_, rfl⟩
  refine Inst.enter (I := I12) hA mixed F12_at sg L12 80 rfl fun CE CK Dn EV RR W hp => ?_
  have h := h hp.1 EV ⟨trivial⟩
  cbv
  refine ⟨ndI hA (And.intro rfl (And.intro rfl rfl)), ⟨ndI hA (by subst hA; exact hp.1), ?_⟩⟩
  · refine W.call 80 (by rfl) h (by subst hA; rfl) (by subst hA; rfl) ?_
    rintro x rs vs hp0 hq0
    rcases hq0 with ⟨rfl, Y0_0, rfl, rfl, k0⟩ | ⟨rfl, Y0_0, y0_0, rfl, rfl, k0⟩
    · cbv
      refine ⟨ndI hA (And.intro rfl (And.intro rfl rfl)), ⟨ndI hA (by subst hA; exact hp0.1), (by rw [W.rr]; exact (by subst hA; exact k0))⟩⟩
    · cbv
      refine ⟨ndI hA (And.intro rfl (by subst hA; exact k0.1)), ⟨imI hA fun e3 => have c3 : (cBS Y0_0 y0_0 2) = true := (by have q := (notE hA e3); subst hA; exact q); ⟨ndI hA (And.intro rfl (by subst hA; exact (k0.2.1 c3).1)), ⟨imI hA fun e1 => have c1 : (cIS Y0_0 y0_0 1) ≠ a2 := (by have q := (cmpE (op := .neq) hA e1); subst hA; exact q); ⟨ndI hA (And.intro rfl (And.intro rfl rfl)), ⟨ndI hA (by subst hA; exact hp0.1), (by rw [W.rr]; exact (by subst hA; exact ((k0.2.1 c3).2.1 c1)))⟩⟩, imI hA fun e2 => have c2 : (cIS Y0_0 y0_0 1) = a2 := (by have q := (cmpE (op := .neq) hA e2); subst hA; exact q); ⟨ndI hA (And.intro rfl (by subst hA; exact ((k0.2.1 c3).2.2 c2).1)), ⟨ndI hA (And.intro (by subst hA; show (List.length Y0_0) = (List.length (List.set Y0_0 y0_0 [(AV.int .i64 (cIS Y0_0 y0_0 0)), (AV.int .i64 (0 : Int)), (AV.bool (cBS Y0_0 y0_0 2))])); (first | rfl | simp [rappS_end] | (simp only [rappS_end, List.length_append, List.length_set, List.length_cons, List.length_nil]; omega))) (by subst hA; exact ((k0.2.1 c3).2.2 c2).2.1)), ⟨ndI hA (And.intro (by subst hA; show (List.length Y0_0) = (List.length (List.set (List.set Y0_0 y0_0 [(AV.int .i64 (cIS Y0_0 y0_0 0)), (AV.int .i64 (0 : Int)), (AV.bool (cBS Y0_0 y0_0 2))]) y0_0 [(AV.int .i64 (cIS (List.set Y0_0 y0_0 [(AV.int .i64 (cIS Y0_0 y0_0 0)), (AV.int .i64 (0 : Int)), (AV.bool (cBS Y0_0 y0_0 2))]) y0_0 0)), (AV.int .i64 (cIS (List.set Y0_0 y0_0 [(AV.int .i64 (cIS Y0_0 y0_0 0)), (AV.int .i64 (0 : Int)), (AV.bool (cBS Y0_0 y0_0 2))]) y0_0 1)), (AV.bool false)])); (first | rfl | simp [rappS_end] | (simp only [rappS_end, List.length_append, List.length_set, List.length_cons, List.length_nil]; omega))) (And.intro rfl (by subst hA; show (List.length Y0_0) = (List.length (List.set (List.set Y0_0 y0_0 [(AV.int .i64 (cIS Y0_0 y0_0 0)), (AV.int .i64 (0 : Int)), (AV.bool (cBS Y0_0 y0_0 2))]) y0_0 [(AV.int .i64 (cIS (List.set Y0_0 y0_0 [(AV.int .i64 (cIS Y0_0 y0_0 0)), (AV.int .i64 (0 : Int)), (AV.bool (cBS Y0_0 y0_0 2))]) y0_0 0)), (AV.int .i64 (cIS (List.set Y0_0 y0_0 [(AV.int .i64 (cIS Y0_0 y0_0 0)), (AV.int .i64 (0 : Int)), (AV.bool (cBS Y0_0 y0_0 2))]) y0_0 1)), (AV.bool false)])); (first | rfl | simp [rappS_end] | (simp only [rappS_end, List.length_append, List.length_set, List.length_cons, List.length_nil]; omega))))), ⟨ndI hA (by subst hA; exact (vset (vset hp0.1 rfl) rfl)), (by rw [W.rr]; exact (by subst hA; exact ((k0.2.1 c3).2.2 c2).2.2))⟩⟩⟩⟩⟩⟩, imI hA fun e4 => have c4 : (cBS Y0_0 y0_0 2) = false := (by have q := (notE hA e4); subst hA; exact q); ⟨ndI hA (And.intro rfl (And.intro rfl rfl)), ⟨ndI hA (by subst hA; exact hp0.1), (by rw [W.rr]; exact (by subst hA; exact (k0.2.2 c4)))⟩⟩⟩⟩

-- 15: (*signalbox/ceiling.Locks).Holder DRAWN
section
variable {Q : Nat → Rs → List Lf → Prop} {A : Ar} {CE : Nat → Rs → List Lf → (Nat → Rs → List Lf → Prop) → Prop} {CK : Nat → Rs → List Lf → Cont → Prop} {Dn : Nat → List Bool → List AItem → Nat → List Bool → List AV → List ABlk → Prop} {EV RR : Nat → Rs → List Lf → Prop}
end
structure V15 (EV Q : Nat → Rs → List Lf → Prop) : Prop where
  none : True

set_option maxHeartbeats 2000000 in
/-- To enter. -/
theorem E15 {Q : Nat → Rs → List Lf → Prop} {R0 : List (List AV)} {a1 : Int} (h : pursS R0 = true → ∀ EV : Nat → Rs → List Lf → Prop, V15 EV Q →
    EC Try.prog G36 [R0] [(Lf.i a1)] (fun x rs vs => (x = 0 ∧ ∃ (Y0_0 : List (List AV)), rs = [Y0_0] ∧ vs = [] ∧
      (Q 0 [Y0_0] [(Lf.i (0 : Int)), (Lf.b false)])) ∨ (x = 1 ∧ ∃ (Y0_0 : List (List AV)) (y0_0 : Nat), rs = [Y0_0] ∧ vs = [.n y0_0] ∧
      ((Y0_0[y0_0]? = some [(AV.int .i64 (cIS Y0_0 y0_0 0)), (AV.int .i64 (cIS Y0_0 y0_0 1)), (AV.bool (cBS Y0_0 y0_0 2))]) ∧
        (Q 0 [Y0_0] [(Lf.i (cIS Y0_0 y0_0 1)), (Lf.b (cBS Y0_0 y0_0 2))]))))) :
    EC Try.prog G15 [R0] [.i a1] Q := by
  obtain ⟨A, hA⟩ : ∃ A, A = arS := ⟨_, rfl⟩
  refine Inst.enter (I := I15) hA mixed F15_at sg L15 80 rfl fun CE CK Dn EV RR W hp => ?_
  have h := h hp.1 EV ⟨trivial⟩
  cbv
  refine ⟨ndI hA (And.intro rfl (And.intro rfl rfl)), ⟨ndI hA (by subst hA; exact hp.1), ?_⟩⟩
  · refine W.call 80 (by rfl) h (by subst hA; rfl) (by subst hA; rfl) ?_
    rintro x rs vs hp0 hq0
    rcases hq0 with ⟨rfl, Y0_0, rfl, rfl, k0⟩ | ⟨rfl, Y0_0, y0_0, rfl, rfl, k0⟩
    · cbv
      refine ⟨ndI hA (And.intro rfl (And.intro rfl rfl)), ⟨ndI hA (by subst hA; exact hp0.1), (by rw [W.rr]; exact (by subst hA; exact k0))⟩⟩
    · cbv
      refine ⟨ndI hA (And.intro rfl (by subst hA; exact k0.1)), ⟨ndI hA (And.intro rfl (by subst hA; exact k0.1)), ⟨ndI hA (And.intro rfl (And.intro rfl rfl)), ⟨ndI hA (by subst hA; exact hp0.1), (by rw [W.rr]; exact (by subst hA; exact k0.2))⟩⟩⟩⟩

-- 14: (*signalbox/ceiling.Locks).Held
section
variable {Q : Nat → Rs → List Lf → Prop} {A : Ar} {CE : Nat → Rs → List Lf → (Nat → Rs → List Lf → Prop) → Prop} {CK : Nat → Rs → List Lf → Cont → Prop} {Dn : Nat → List Bool → List AItem → Nat → List Bool → List AV → List ABlk → Prop} {EV RR : Nat → Rs → List Lf → Prop}
set_option maxHeartbeats 2000000 in
theorem V14_p9 (W : Wk Try.prog Try.f14 I14 L14 Q A sg CE CK Dn EV RR) {R0 : List (List AV)} {R1 : List (List AV)} {t1 : Int} {t9 : Int} {t10 : Int} (h : pursS R0 = true → pursS R1 = true → 
    (t10 < t9 →
      EC Try.prog G36 [R0] [(Lf.i t10)] (fun x rs vs => (x = 0 ∧ ∃ (Y0_0 : List (List AV)), rs = [Y0_0] ∧ vs = [] ∧
        (False)) ∨ (x = 1 ∧ ∃ (Y0_0 : List (List AV)) (y0_0 : Nat), rs = [Y0_0] ∧ vs = [.n y0_0] ∧
        ((Y0_0[y0_0]? = some [(AV.int .i64 (cIS Y0_0 y0_0 0)), (AV.int .i64 (cIS Y0_0 y0_0 1)), (AV.bool (cBS Y0_0 y0_0 2))]) ∧
          ((cBS Y0_0 y0_0 2) = true →
            (Y0_0[y0_0]? = some [(AV.int .i64 (cIS Y0_0 y0_0 0)), (AV.int .i64 (cIS Y0_0 y0_0 1)), (AV.bool (cBS Y0_0 y0_0 2))]) ∧
            ((cIS Y0_0 y0_0 1) = t1 →
              (((List.length R1) + 1) ≤ 140737488355328) ∧
              ((((List.length R1) + 1) * 8) ≤ 140737488355328) ∧
              (EV 9 [Y0_0, (R1 ++ [[(AV.int .i64 t10)]])] [(Lf.i t1), (Lf.i t9), (Lf.i (IntKind.wrap .i64 (t10 + (1 : Int))))])) ∧
            ((cIS Y0_0 y0_0 1) ≠ t1 →
              EV 9 [Y0_0, R1] [(Lf.i t1), (Lf.i t9), (Lf.i (IntKind.wrap .i64 (t10 + (1 : Int))))])) ∧
          ((cBS Y0_0 y0_0 2) = false →
            EV 9 [Y0_0, R1] [(Lf.i t1), (Lf.i t9), (Lf.i (IntKind.wrap .i64 (t10 + (1 : Int))))]))))) ∧
    (t10 ≥ t9 →
      Q 0 [R0, R1] [])) :
    EV 9 [R0, R1] [.i t1, .i t9, .i t10] := by
  have hA := W.hA
  refine W.step 80 fun hp => ?_
  have h := h hp.1 hp.2.1
  cbv
  refine ⟨imI hA fun e5 => have c5 : t10 < t9 := (by have q := (cmpE (op := .lss) hA e5); subst hA; exact q); ⟨ndI hA (And.intro rfl (And.intro rfl rfl)), ⟨ndI hA (by subst hA; exact hp.1), ?_⟩⟩, imI hA fun e6 => have c6 : t10 ≥ t9 := (by have q := (cmpE (op := .lss) hA e6); subst hA; exact q); ⟨ndI hA (And.intro rfl (And.intro rfl rfl)), ⟨ndI hA (And.intro rfl (And.intro rfl rfl)), ⟨ndI hA (by subst hA; exact hp.1), ⟨ndI hA (by subst hA; exact hp.2.1), (by rw [W.rr]; exact (by subst hA; exact (h.2 c6)))⟩⟩⟩⟩⟩
  · refine W.call 80 (by rfl) (h.1 c5) (by subst hA; rfl) (by subst hA; rfl) ?_
    rintro x rs vs hp0 hq0
    rcases hq0 with ⟨rfl, Y0_0, rfl, rfl, k0⟩ | ⟨rfl, Y0_0, y0_0, rfl, rfl, k0⟩
    · cbv
      refine k0
    · cbv
      refine ⟨ndI hA (And.intro rfl (by subst hA; exact k0.1)), ⟨imI hA fun e3 => have c3 : (cBS Y0_0 y0_0 2) = true := (by have q := e3; subst hA; exact q); ⟨ndI hA (And.intro rfl (by subst hA; exact (k0.2.1 c3).1)), ⟨imI hA fun e1 => have c1 : (cIS Y0_0 y0_0 1) = t1 := (by have q := (cmpE (op := .eql) hA e1); subst hA; exact q); ⟨ndI hA (And.intro rfl (And.intro (Nat.le_refl _) (And.intro (by subst hA; exact ((k0.2.1 c3).2.1 c1).1) (by subst hA; exact ((k0.2.1 c3).2.1 c1).2.1)))), ⟨ndI hA (And.intro rfl (And.intro rfl (by subst hA; show ((List.length R1) + 1) = (List.length (rappS R1 (List.length R1) [[(AV.int .i64 t10)]])); (first | rfl | simp [rappS_end] | (simp only [rappS_end, List.length_append, List.length_set, List.length_cons, List.length_nil]; omega))))), ⟨ndI hA (And.intro rfl (And.intro rfl rfl)), ⟨ndI hA (by subst hA; exact hp0.1), ⟨ndI hA (by subst hA; exact (vapp hp.2.1 vpur)), (by subst hA; show EV 9 [Y0_0, (rappS R1 (List.length R1) [[(AV.int .i64 t10)]])] [(Lf.i t1), (Lf.i t9), (Lf.i (IntKind.wrap .i64 (t10 + (1 : Int))))]; simp only [rappS_end, Nat.zero_add, Int.toNat_natCast]; exact ((k0.2.1 c3).2.1 c1).2.2)⟩⟩⟩⟩⟩, imI hA fun e2 => have c2 : (cIS Y0_0 y0_0 1) ≠ t1 := (by have q := (cmpE (op := .eql) hA e2); subst hA; exact q); ⟨ndI hA (And.intro rfl (And.intro rfl rfl)), ⟨ndI hA (And.intro rfl (And.intro rfl rfl)), ⟨ndI hA (by subst hA; exact hp0.1), ⟨ndI hA (by subst hA; exact hp.2.1), (by subst hA; exact ((k0.2.1 c3).2.2 c2))⟩⟩⟩⟩⟩⟩, imI hA fun e4 => have c4 : (cBS Y0_0 y0_0 2) = false := (by have q := e4; subst hA; exact q); ⟨ndI hA (And.intro rfl (And.intro rfl rfl)), ⟨ndI hA (And.intro rfl (And.intro rfl rfl)), ⟨ndI hA (by subst hA; exact hp0.1), ⟨ndI hA (by subst hA; exact hp.2.1), (by subst hA; exact (k0.2.2 c4))⟩⟩⟩⟩⟩⟩

end
structure V14 (EV Q : Nat → Rs → List Lf → Prop) : Prop where
  p9 : ∀ {R0 : List (List AV)} {R1 : List (List AV)} {t1 : Int} {t9 : Int} {t10 : Int}, (pursS R0 = true → pursS R1 = true → 
    (t10 < t9 →
      EC Try.prog G36 [R0] [(Lf.i t10)] (fun x rs vs => (x = 0 ∧ ∃ (Y0_0 : List (List AV)), rs = [Y0_0] ∧ vs = [] ∧
        (False)) ∨ (x = 1 ∧ ∃ (Y0_0 : List (List AV)) (y0_0 : Nat), rs = [Y0_0] ∧ vs = [.n y0_0] ∧
        ((Y0_0[y0_0]? = some [(AV.int .i64 (cIS Y0_0 y0_0 0)), (AV.int .i64 (cIS Y0_0 y0_0 1)), (AV.bool (cBS Y0_0 y0_0 2))]) ∧
          ((cBS Y0_0 y0_0 2) = true →
            (Y0_0[y0_0]? = some [(AV.int .i64 (cIS Y0_0 y0_0 0)), (AV.int .i64 (cIS Y0_0 y0_0 1)), (AV.bool (cBS Y0_0 y0_0 2))]) ∧
            ((cIS Y0_0 y0_0 1) = t1 →
              (((List.length R1) + 1) ≤ 140737488355328) ∧
              ((((List.length R1) + 1) * 8) ≤ 140737488355328) ∧
              (EV 9 [Y0_0, (R1 ++ [[(AV.int .i64 t10)]])] [(Lf.i t1), (Lf.i t9), (Lf.i (IntKind.wrap .i64 (t10 + (1 : Int))))])) ∧
            ((cIS Y0_0 y0_0 1) ≠ t1 →
              EV 9 [Y0_0, R1] [(Lf.i t1), (Lf.i t9), (Lf.i (IntKind.wrap .i64 (t10 + (1 : Int))))])) ∧
          ((cBS Y0_0 y0_0 2) = false →
            EV 9 [Y0_0, R1] [(Lf.i t1), (Lf.i t9), (Lf.i (IntKind.wrap .i64 (t10 + (1 : Int))))]))))) ∧
    (t10 ≥ t9 →
      Q 0 [R0, R1] [])) →
    EV 9 [R0, R1] [.i t1, .i t9, .i t10]

set_option maxHeartbeats 2000000 in
/-- To enter. -/
theorem E14 {Q : Nat → Rs → List Lf → Prop} {R0 : List (List AV)} {a1 : Int} (h : pursS R0 = true → ∀ EV : Nat → Rs → List Lf → Prop, V14 EV Q →
    EC Try.prog G17 [R0] [] (fun x rs vs => (x = 0 ∧ ∃ (Y7_0 : List (List AV)) (y7_0 : Int), rs = [Y7_0] ∧ vs = [.i y7_0] ∧
      (EV 9 [Y7_0, []] [(Lf.i a1), (Lf.i y7_0), (Lf.i (0 : Int))])))) :
    EC Try.prog G14 [R0] [.i a1] Q := by
  obtain ⟨A, hA⟩ : ∃ A, A = arS := ⟨_, rfl⟩
  refine Inst.enter (I := I14) hA mixed F14_at sg L14 80 rfl fun CE CK Dn EV RR W hp => ?_
  have h := h hp.1 EV ⟨V14_p9 W⟩
  cbv
  refine ⟨ndI hA (And.intro rfl (And.intro rfl rfl)), ⟨ndI hA (by subst hA; exact hp.1), ?_⟩⟩
  · refine W.call 80 (by rfl) h (by subst hA; rfl) (by subst hA; rfl) ?_
    rintro x rs vs hp7 hq7
    rcases hq7 with ⟨rfl, Y7_0, y7_0, rfl, rfl, k7⟩
    · cbv
      refine ⟨ndI hA (And.intro (by subst hA; show 0 = 0; (first | rfl | simp [rappS_end] | (simp only [rappS_end, List.length_append, List.length_set, List.length_cons, List.length_nil]; omega))) (And.intro rfl (by subst hA; show 0 = 0; (first | rfl | simp [rappS_end] | (simp only [rappS_end, List.length_append, List.length_set, List.length_cons, List.length_nil]; omega))))), ⟨ndI hA (And.intro rfl (And.intro rfl rfl)), ⟨ndI hA (by subst hA; exact hp7.1), ⟨ndI hA (by subst hA; exact vpur), (by subst hA; exact k7)⟩⟩⟩⟩

-- 16: (*signalbox/ceiling.Locks).Level
section
variable {Q : Nat → Rs → List Lf → Prop} {A : Ar} {CE : Nat → Rs → List Lf → (Nat → Rs → List Lf → Prop) → Prop} {CK : Nat → Rs → List Lf → Cont → Prop} {Dn : Nat → List Bool → List AItem → Nat → List Bool → List AV → List ABlk → Prop} {EV RR : Nat → Rs → List Lf → Prop}
set_option maxHeartbeats 2000000 in
theorem V16_p7 (W : Wk Try.prog Try.f16 I16 L16 Q A sg CE CK Dn EV RR) {R0 : List (List AV)} {R1 : List (List AV)} {t2 : Int} {t12 : Int} {t13 : Int} (h : pursS R0 = true → pursS R1 = true → 
    (t13 < t12 →
      ((0 : Int) ≤ t13) ∧
      (t13 < (((List.length R1) : Nat) : Int)) ∧
      (R1[(Int.toNat t13)]? = some [(AV.int .i64 (cIS R1 (Int.toNat t13) 0))]) ∧
      (EC Try.prog G36 [R0] [(Lf.i (cIS R1 (Int.toNat t13) 0))] (fun x rs vs => (x = 0 ∧ ∃ (Y0_0 : List (List AV)), rs = [Y0_0] ∧ vs = [] ∧
        (False)) ∨ (x = 1 ∧ ∃ (Y0_0 : List (List AV)) (y0_0 : Nat), rs = [Y0_0] ∧ vs = [.n y0_0] ∧
        ((Y0_0[y0_0]? = some [(AV.int .i64 (cIS Y0_0 y0_0 0)), (AV.int .i64 (cIS Y0_0 y0_0 1)), (AV.bool (cBS Y0_0 y0_0 2))]) ∧
          (EV 7 [Y0_0, R1] [(Lf.i (arS.mx t2 (cIS Y0_0 y0_0 0))), (Lf.i t12), (Lf.i (IntKind.wrap .i64 (t13 + (1 : Int))))])))))) ∧
    (t13 ≥ t12 →
      Q 0 [R0] [(Lf.i t2)])) :
    EV 7 [R0, R1] [.i t2, .i t12, .i t13] := by
  have hA := W.hA
  refine W.step 80 fun hp => ?_
  have h := h hp.1 hp.2.1
  cbv
  refine ⟨imI hA fun e1 => have c1 : t13 < t12 := (by have q := (cmpE (op := .lss) hA e1); subst hA; exact q); ⟨ndI hA (And.intro (by subst hA; exact (h.1 c1).1) (And.intro (by subst hA; exact (h.1 c1).2.1) rfl)), ⟨ndI hA (And.intro rfl (by subst hA; show R1[(0 + (Int.toNat t13))]? = some [(AV.int .i64 (cIS R1 (0 + (Int.toNat t13)) 0))]; simp only [rappS_end, Nat.zero_add, Int.toNat_natCast]; exact (h.1 c1).2.2.1)), ⟨ndI hA (And.intro rfl (And.intro rfl rfl)), ⟨ndI hA (by subst hA; exact hp.1), ?_⟩⟩⟩⟩, imI hA fun e2 => have c2 : t13 ≥ t12 := (by have q := (cmpE (op := .lss) hA e2); subst hA; exact q); ⟨ndI hA (And.intro rfl (And.intro rfl rfl)), ⟨ndI hA (by subst hA; exact hp.1), (by rw [W.rr]; exact (by subst hA; exact (h.2 c2)))⟩⟩⟩
  · refine W.call 80 (by rfl) (h.1 c1).2.2.2 (by subst hA; show [R0] = [R0]; simp only [rappS_end, Nat.zero_add, Int.toNat_natCast]) (by subst hA; show [(Lf.i (cIS R1 (0 + (Int.toNat t13)) 0))] = [(Lf.i (cIS R1 (Int.toNat t13) 0))]; simp only [rappS_end, Nat.zero_add, Int.toNat_natCast]) ?_
    rintro x rs vs hp0 hq0
    rcases hq0 with ⟨rfl, Y0_0, rfl, rfl, k0⟩ | ⟨rfl, Y0_0, y0_0, rfl, rfl, k0⟩
    · cbv
      refine k0
    · cbv
      refine ⟨ndI hA (And.intro rfl (by subst hA; exact k0.1)), ⟨ndI hA (And.intro rfl (And.intro rfl rfl)), ⟨ndI hA (And.intro rfl (And.intro rfl rfl)), ⟨ndI hA (by subst hA; exact hp0.1), ⟨ndI hA (by subst hA; exact hp.2.1), (by subst hA; exact k0.2)⟩⟩⟩⟩⟩

end
structure V16 (EV Q : Nat → Rs → List Lf → Prop) : Prop where
  p7 : ∀ {R0 : List (List AV)} {R1 : List (List AV)} {t2 : Int} {t12 : Int} {t13 : Int}, (pursS R0 = true → pursS R1 = true → 
    (t13 < t12 →
      ((0 : Int) ≤ t13) ∧
      (t13 < (((List.length R1) : Nat) : Int)) ∧
      (R1[(Int.toNat t13)]? = some [(AV.int .i64 (cIS R1 (Int.toNat t13) 0))]) ∧
      (EC Try.prog G36 [R0] [(Lf.i (cIS R1 (Int.toNat t13) 0))] (fun x rs vs => (x = 0 ∧ ∃ (Y0_0 : List (List AV)), rs = [Y0_0] ∧ vs = [] ∧
        (False)) ∨ (x = 1 ∧ ∃ (Y0_0 : List (List AV)) (y0_0 : Nat), rs = [Y0_0] ∧ vs = [.n y0_0] ∧
        ((Y0_0[y0_0]? = some [(AV.int .i64 (cIS Y0_0 y0_0 0)), (AV.int .i64 (cIS Y0_0 y0_0 1)), (AV.bool (cBS Y0_0 y0_0 2))]) ∧
          (EV 7 [Y0_0, R1] [(Lf.i (arS.mx t2 (cIS Y0_0 y0_0 0))), (Lf.i t12), (Lf.i (IntKind.wrap .i64 (t13 + (1 : Int))))])))))) ∧
    (t13 ≥ t12 →
      Q 0 [R0] [(Lf.i t2)])) →
    EV 7 [R0, R1] [.i t2, .i t12, .i t13]

set_option maxHeartbeats 2000000 in
/-- To enter. -/
theorem E16 {Q : Nat → Rs → List Lf → Prop} {R0 : List (List AV)} {a1 : Int} {a2 : Int} (h : pursS R0 = true → ∀ EV : Nat → Rs → List Lf → Prop, V16 EV Q →
    EC Try.prog G14 [R0] [(Lf.i a1)] (fun x rs vs => (x = 0 ∧ ∃ (Y3_0 : List (List AV)) (Y3_1 : List (List AV)), rs = [Y3_0, Y3_1] ∧ vs = [] ∧
      (EV 7 [Y3_0, Y3_1] [(Lf.i a2), (Lf.i (((List.length Y3_1) : Nat) : Int)), (Lf.i (0 : Int))])))) :
    EC Try.prog G16 [R0] [.i a1, .i a2] Q := by
  obtain ⟨A, hA⟩ : ∃ A, A = arS := ⟨_, rfl⟩
  refine Inst.enter (I := I16) hA mixed F16_at sg L16 80 rfl fun CE CK Dn EV RR W hp => ?_
  have h := h hp.1 EV ⟨V16_p7 W⟩
  cbv
  refine ⟨ndI hA (And.intro rfl (And.intro rfl rfl)), ⟨ndI hA (by subst hA; exact hp.1), ?_⟩⟩
  · refine W.call 80 (by rfl) h (by subst hA; rfl) (by subst hA; rfl) ?_
    rintro x rs vs hp3 hq3
    rcases hq3 with ⟨rfl, Y3_0, Y3_1, rfl, rfl, k3⟩
    · cbv
      refine ⟨ndI hA rfl, ⟨ndI hA (And.intro rfl (And.intro rfl rfl)), ⟨ndI hA (And.intro rfl (And.intro rfl rfl)), ⟨ndI hA (by subst hA; exact hp3.1), ⟨ndI hA (by subst hA; exact hp3.2.1), (by subst hA; exact k3)⟩⟩⟩⟩⟩

-- 13: (*signalbox/ceiling.Locks).Free
section
variable {Q : Nat → Rs → List Lf → Prop} {A : Ar} {CE : Nat → Rs → List Lf → (Nat → Rs → List Lf → Prop) → Prop} {CK : Nat → Rs → List Lf → Cont → Prop} {Dn : Nat → List Bool → List AItem → Nat → List Bool → List AV → List ABlk → Prop} {EV RR : Nat → Rs → List Lf → Prop}
set_option maxHeartbeats 2000000 in
theorem V13_p9 (W : Wk Try.prog Try.f13 I13 L13 Q A sg CE CK Dn EV RR) {R0 : List (List AV)} {R1 : List (List AV)} {t1 : Int} {t12 : Int} {t13 : Int} (h : pursS R0 = true → pursS R1 = true → 
    (t13 < t12 →
      ((0 : Int) ≤ t13) ∧
      (t13 < (((List.length R1) : Nat) : Int)) ∧
      (R1[(Int.toNat t13)]? = some [(AV.int .i64 (cIS R1 (Int.toNat t13) 0))]) ∧
      (EC Try.prog G12 [R0] [(Lf.i (cIS R1 (Int.toNat t13) 0)), (Lf.i t1)] (fun x rs vs => (x = 0 ∧ ∃ (Y0_0 : List (List AV)) (y0_0 : Int), rs = [Y0_0] ∧ vs = [.i y0_0] ∧
        (EV 9 [Y0_0, R1] [(Lf.i t1), (Lf.i t12), (Lf.i (IntKind.wrap .i64 (t13 + (1 : Int))))]))))) ∧
    (t13 ≥ t12 →
      Q 0 [R0] [(Lf.i (((List.length R1) : Nat) : Int))])) :
    EV 9 [R0, R1] [.i t1, .i t12, .i t13] := by
  have hA := W.hA
  refine W.step 80 fun hp => ?_
  have h := h hp.1 hp.2.1
  cbv
  refine ⟨imI hA fun e1 => have c1 : t13 < t12 := (by have q := (cmpE (op := .lss) hA e1); subst hA; exact q); ⟨ndI hA (And.intro (by subst hA; exact (h.1 c1).1) (And.intro (by subst hA; exact (h.1 c1).2.1) rfl)), ⟨ndI hA (And.intro rfl (by subst hA; show R1[(0 + (Int.toNat t13))]? = some [(AV.int .i64 (cIS R1 (0 + (Int.toNat t13)) 0))]; simp only [rappS_end, Nat.zero_add, Int.toNat_natCast]; exact (h.1 c1).2.2.1)), ⟨ndI hA (And.intro rfl (And.intro rfl rfl)), ⟨ndI hA (by subst hA; exact hp.1), ?_⟩⟩⟩⟩, imI hA fun e2 => have c2 : t13 ≥ t12 := (by have q := (cmpE (op := .lss) hA e2); subst hA; exact q); ⟨ndI hA rfl, ⟨ndI hA (And.intro rfl (And.intro rfl rfl)), ⟨ndI hA (by subst hA; exact hp.1), (by rw [W.rr]; exact (by subst hA; exact (h.2 c2)))⟩⟩⟩⟩
  · refine W.call 80 (by rfl) (h.1 c1).2.2.2 (by subst hA; show [R0] = [R0]; simp only [rappS_end, Nat.zero_add, Int.toNat_natCast]) (by subst hA; show [(Lf.i (cIS R1 (0 + (Int.toNat t13)) 0)), (Lf.i t1)] = [(Lf.i (cIS R1 (Int.toNat t13) 0)), (Lf.i t1)]; simp only [rappS_end, Nat.zero_add, Int.toNat_natCast]) ?_
    rintro x rs vs hp0 hq0
    rcases hq0 with ⟨rfl, Y0_0, y0_0, rfl, rfl, k0⟩
    · cbv
      refine ⟨ndI hA (And.intro rfl (And.intro rfl rfl)), ⟨ndI hA (And.intro rfl (And.intro rfl rfl)), ⟨ndI hA (And.intro rfl (And.intro rfl rfl)), ⟨ndI hA (by subst hA; exact hp0.1), ⟨ndI hA (by subst hA; exact hp.2.1), (by subst hA; exact k0)⟩⟩⟩⟩⟩

end
structure V13 (EV Q : Nat → Rs → List Lf → Prop) : Prop where
  p9 : ∀ {R0 : List (List AV)} {R1 : List (List AV)} {t1 : Int} {t12 : Int} {t13 : Int}, (pursS R0 = true → pursS R1 = true → 
    (t13 < t12 →
      ((0 : Int) ≤ t13) ∧
      (t13 < (((List.length R1) : Nat) : Int)) ∧
      (R1[(Int.toNat t13)]? = some [(AV.int .i64 (cIS R1 (Int.toNat t13) 0))]) ∧
      (EC Try.prog G12 [R0] [(Lf.i (cIS R1 (Int.toNat t13) 0)), (Lf.i t1)] (fun x rs vs => (x = 0 ∧ ∃ (Y0_0 : List (List AV)) (y0_0 : Int), rs = [Y0_0] ∧ vs = [.i y0_0] ∧
        (EV 9 [Y0_0, R1] [(Lf.i t1), (Lf.i t12), (Lf.i (IntKind.wrap .i64 (t13 + (1 : Int))))]))))) ∧
    (t13 ≥ t12 →
      Q 0 [R0] [(Lf.i (((List.length R1) : Nat) : Int))])) →
    EV 9 [R0, R1] [.i t1, .i t12, .i t13]

set_option maxHeartbeats 2000000 in
/-- To enter. -/
theorem E13 {Q : Nat → Rs → List Lf → Prop} {R0 : List (List AV)} {a1 : Int} (h : pursS R0 = true → ∀ EV : Nat → Rs → List Lf → Prop, V13 EV Q →
    EC Try.prog G14 [R0] [(Lf.i a1)] (fun x rs vs => (x = 0 ∧ ∃ (Y3_0 : List (List AV)) (Y3_1 : List (List AV)), rs = [Y3_0, Y3_1] ∧ vs = [] ∧
      (EV 9 [Y3_0, Y3_1] [(Lf.i a1), (Lf.i (((List.length Y3_1) : Nat) : Int)), (Lf.i (0 : Int))])))) :
    EC Try.prog G13 [R0] [.i a1] Q := by
  obtain ⟨A, hA⟩ : ∃ A, A = arS := ⟨_, rfl⟩
  refine Inst.enter (I := I13) hA mixed F13_at sg L13 80 rfl fun CE CK Dn EV RR W hp => ?_
  have h := h hp.1 EV ⟨V13_p9 W⟩
  cbv
  refine ⟨ndI hA (And.intro rfl (And.intro rfl rfl)), ⟨ndI hA (by subst hA; exact hp.1), ?_⟩⟩
  · refine W.call 80 (by rfl) h (by subst hA; rfl) (by subst hA; rfl) ?_
    rintro x rs vs hp3 hq3
    rcases hq3 with ⟨rfl, Y3_0, Y3_1, rfl, rfl, k3⟩
    · cbv
      refine ⟨ndI hA rfl, ⟨ndI hA (And.intro rfl (And.intro rfl rfl)), ⟨ndI hA (And.intro rfl (And.intro rfl rfl)), ⟨ndI hA (And.intro rfl (And.intro rfl rfl)), ⟨ndI hA (by subst hA; exact hp3.1), ⟨ndI hA (by subst hA; exact hp3.2.1), (by subst hA; exact k3)⟩⟩⟩⟩⟩⟩

-- 9: signalbox/signalboxlaw13.fixed
section
variable {Q : Nat → Rs → List Lf → Prop} {A : Ar} {CE : Nat → Rs → List Lf → (Nat → Rs → List Lf → Prop) → Prop} {CK : Nat → Rs → List Lf → Cont → Prop} {Dn : Nat → List Bool → List AItem → Nat → List Bool → List AV → List ABlk → Prop} {EV RR : Nat → Rs → List Lf → Prop}
end
structure V9 (EV Q : Nat → Rs → List Lf → Prop) : Prop where
  none : True

set_option maxHeartbeats 2000000 in
/-- To enter. -/
theorem E9 {Q : Nat → Rs → List Lf → Prop}  (h : ∀ EV : Nat → Rs → List Lf → Prop, V9 EV Q →
    EC Try.prog G10 [] [(Lf.r [[(AV.int .i64 (7 : Int))], [(AV.int .i64 (2 : Int))]])] (fun x rs vs => (x = 0 ∧ ∃ (Y0_0 : List (List AV)), rs = [Y0_0] ∧ vs = [] ∧
      (EC Try.prog G11 [Y0_0] [(Lf.i (0 : Int)), (Lf.i (5 : Int))] (fun x rs vs => (x = 0 ∧ ∃ (Y1_0 : List (List AV)) (y1_0 : Int), rs = [Y1_0] ∧ vs = [.i y1_0] ∧
          (EC Try.prog G11 [Y1_0] [(Lf.i (0 : Int)), (Lf.i (6 : Int))] (fun x rs vs => (x = 0 ∧ ∃ (Y2_0 : List (List AV)) (y2_0 : Int), rs = [Y2_0] ∧ vs = [.i y2_0] ∧
              (EC Try.prog G12 [Y2_0] [(Lf.i (0 : Int)), (Lf.i (6 : Int))] (fun x rs vs => (x = 0 ∧ ∃ (Y3_0 : List (List AV)) (y3_0 : Int), rs = [Y3_0] ∧ vs = [.i y3_0] ∧
                  (EC Try.prog G15 [Y3_0] [(Lf.i (0 : Int))] (fun x rs vs => (x = 0 ∧ ∃ (Y4_0 : List (List AV)) (y4_0 : Int) (y4_1 : Bool), rs = [Y4_0] ∧ vs = [.i y4_0, .b y4_1] ∧
                      (EC Try.prog G15 [Y4_0] [(Lf.i (1 : Int))] (fun x rs vs => (x = 0 ∧ ∃ (Y5_0 : List (List AV)) (y5_0 : Int) (y5_1 : Bool), rs = [Y5_0] ∧ vs = [.i y5_0, .b y5_1] ∧
                          ((y1_0 = (0 : Int) →
                              (y2_0 = (10 : Int) →
                                (y3_0 = (8 : Int) →
                                  EC Try.prog G16 [Y5_0] [(Lf.i (5 : Int)), (Lf.i (3 : Int))] (fun x rs vs => (x = 0 ∧ ∃ (Y6_0 : List (List AV)) (y6_0 : Int), rs = [Y6_0] ∧ vs = [.i y6_0] ∧
                                    ((y6_0 = (7 : Int) →
                                        EC Try.prog G16 [Y6_0] [(Lf.i (6 : Int)), (Lf.i (3 : Int))] (fun x rs vs => (x = 0 ∧ ∃ (Y7_0 : List (List AV)) (y7_0 : Int), rs = [Y7_0] ∧ vs = [.i y7_0] ∧
                                          ((y7_0 = (3 : Int) →
                                              (y4_0 = (5 : Int) →
                                                (y4_1 = true →
                                                  (y5_1 = false →
                                                    EC Try.prog G13 [Y7_0] [(Lf.i (5 : Int))] (fun x rs vs => (x = 0 ∧ ∃ (Y8_0 : List (List AV)) (y8_0 : Int), rs = [Y8_0] ∧ vs = [.i y8_0] ∧
                                                      ((y8_0 = (1 : Int) →
                                                          EC Try.prog G14 [Y8_0] [(Lf.i (5 : Int))] (fun x rs vs => (x = 0 ∧ ∃ (Y9_0 : List (List AV)) (Y9_1 : List (List AV)), rs = [Y9_0, Y9_1] ∧ vs = [] ∧
                                                            (((((List.length Y9_1) : Nat) : Int) = (0 : Int) →
                                                                EC Try.prog G11 [Y9_0] [(Lf.i (2 : Int)), (Lf.i (1 : Int))] (fun x rs vs => (x = 0 ∧ ∃ (Y10_0 : List (List AV)) (y10_0 : Int), rs = [Y10_0] ∧ vs = [.i y10_0] ∧
                                                                  (Q 0 [] [(Lf.b (y10_0 == (6 : Int)))])))) ∧
                                                              ((((List.length Y9_1) : Nat) : Int) ≠ (0 : Int) →
                                                                Q 0 [] [(Lf.b false)]))))) ∧
                                                        (y8_0 ≠ (1 : Int) →
                                                          Q 0 [] [(Lf.b false)]))))) ∧
                                                  (y5_1 = true →
                                                    Q 0 [] [(Lf.b false)])) ∧
                                                (y4_1 = false →
                                                  Q 0 [] [(Lf.b false)])) ∧
                                              (y4_0 ≠ (5 : Int) →
                                                Q 0 [] [(Lf.b false)])) ∧
                                            (y7_0 ≠ (3 : Int) →
                                              Q 0 [] [(Lf.b false)]))))) ∧
                                      (y6_0 ≠ (7 : Int) →
                                        Q 0 [] [(Lf.b false)]))))) ∧
                                (y3_0 ≠ (8 : Int) →
                                  Q 0 [] [(Lf.b false)])) ∧
                              (y2_0 ≠ (10 : Int) →
                                Q 0 [] [(Lf.b false)])) ∧
                            (y1_0 ≠ (0 : Int) →
                              Q 0 [] [(Lf.b false)])))))))))))))))))))) :
    EC Try.prog G9 [] [] Q := by
  obtain ⟨A, hA⟩ : ∃ A, A = arS := ⟨_, rfl⟩
  refine Inst.enter (I := I9) hA mixed F9_at sg L9 80 rfl fun CE CK Dn EV RR W hp => ?_
  have h := h  EV ⟨trivial⟩
  cbv
  refine ?_
  · refine W.call 80 (by rfl) h (by subst hA; rfl) (by subst hA; rfl) ?_
    rintro x rs vs hp0 hq0
    rcases hq0 with ⟨rfl, Y0_0, rfl, rfl, k0⟩
    · cbv
      refine ⟨ndI hA (And.intro rfl (And.intro rfl rfl)), ⟨ndI hA (by subst hA; exact hp0.1), ?_⟩⟩
      · refine W.call 80 (by rfl) k0 (by subst hA; rfl) (by subst hA; rfl) ?_
        rintro x rs vs hp1 hq1
        rcases hq1 with ⟨rfl, Y1_0, y1_0, rfl, rfl, k1⟩
        · cbv
          refine ⟨ndI hA (And.intro rfl (And.intro rfl rfl)), ⟨ndI hA (by subst hA; exact hp1.1), ?_⟩⟩
          · refine W.call 80 (by rfl) k1 (by subst hA; rfl) (by subst hA; rfl) ?_
            rintro x rs vs hp2 hq2
            rcases hq2 with ⟨rfl, Y2_0, y2_0, rfl, rfl, k2⟩
            · cbv
              refine ⟨ndI hA (And.intro rfl (And.intro rfl rfl)), ⟨ndI hA (by subst hA; exact hp2.1), ?_⟩⟩
              · refine W.call 80 (by rfl) k2 (by subst hA; rfl) (by subst hA; rfl) ?_
                rintro x rs vs hp3 hq3
                rcases hq3 with ⟨rfl, Y3_0, y3_0, rfl, rfl, k3⟩
                · cbv
                  refine ⟨ndI hA (And.intro rfl (And.intro rfl rfl)), ⟨ndI hA (by subst hA; exact hp3.1), ?_⟩⟩
                  · refine W.call 80 (by rfl) k3 (by subst hA; rfl) (by subst hA; rfl) ?_
                    rintro x rs vs hp4 hq4
                    rcases hq4 with ⟨rfl, Y4_0, y4_0, y4_1, rfl, rfl, k4⟩
                    · cbv
                      refine ⟨ndI hA (And.intro rfl (And.intro rfl rfl)), ⟨ndI hA (by subst hA; exact hp4.1), ?_⟩⟩
                      · refine W.call 80 (by rfl) k4 (by subst hA; rfl) (by subst hA; rfl) ?_
                        rintro x rs vs hp5 hq5
                        rcases hq5 with ⟨rfl, Y5_0, y5_0, y5_1, rfl, rfl, k5⟩
                        · cbv
                          refine ⟨imI hA fun e29 => have c29 : y1_0 = (0 : Int) := (by have q := (cmpE (op := .eql) hA e29); subst hA; exact q); ⟨imI hA fun e27 => have c27 : y2_0 = (10 : Int) := (by have q := (cmpE (op := .eql) hA e27); subst hA; exact q); ⟨imI hA fun e25 => have c25 : y3_0 = (8 : Int) := (by have q := (cmpE (op := .eql) hA e25); subst hA; exact q); ⟨ndI hA (And.intro rfl (And.intro rfl rfl)), ⟨ndI hA (by subst hA; exact hp5.1), ?_⟩⟩, imI hA fun e26 => have c26 : y3_0 ≠ (8 : Int) := (by have q := (cmpE (op := .eql) hA e26); subst hA; exact q); (by rw [W.rr]; exact (by subst hA; exact (((k5.1 c29).1 c27).2 c26)))⟩, imI hA fun e28 => have c28 : y2_0 ≠ (10 : Int) := (by have q := (cmpE (op := .eql) hA e28); subst hA; exact q); (by rw [W.rr]; exact (by subst hA; exact ((k5.1 c29).2 c28)))⟩, imI hA fun e30 => have c30 : y1_0 ≠ (0 : Int) := (by have q := (cmpE (op := .eql) hA e30); subst hA; exact q); (by rw [W.rr]; exact (by subst hA; exact (k5.2 c30)))⟩
                          · refine W.call 80 (by rfl) (((k5.1 c29).1 c27).1 c25) (by subst hA; rfl) (by subst hA; rfl) ?_
                            rintro x rs vs hp6 hq6
                            rcases hq6 with ⟨rfl, Y6_0, y6_0, rfl, rfl, k6⟩
                            · cbv
                              refine ⟨imI hA fun e23 => have c23 : y6_0 = (7 : Int) := (by have q := (cmpE (op := .eql) hA e23); subst hA; exact q); ⟨ndI hA (And.intro rfl (And.intro rfl rfl)), ⟨ndI hA (by subst hA; exact hp6.1), ?_⟩⟩, imI hA fun e24 => have c24 : y6_0 ≠ (7 : Int) := (by have q := (cmpE (op := .eql) hA e24); subst hA; exact q); (by rw [W.rr]; exact (by subst hA; exact (k6.2 c24)))⟩
                              · refine W.call 80 (by rfl) (k6.1 c23) (by subst hA; rfl) (by subst hA; rfl) ?_
                                rintro x rs vs hp7 hq7
                                rcases hq7 with ⟨rfl, Y7_0, y7_0, rfl, rfl, k7⟩
                                · cbv
                                  refine ⟨imI hA fun e21 => have c21 : y7_0 = (3 : Int) := (by have q := (cmpE (op := .eql) hA e21); subst hA; exact q); ⟨imI hA fun e19 => have c19 : y4_0 = (5 : Int) := (by have q := (cmpE (op := .eql) hA e19); subst hA; exact q); ⟨imI hA fun e17 => have c17 : y4_1 = true := (by have q := e17; subst hA; exact q); ⟨imI hA fun e15 => have c15 : y5_1 = false := (by have q := (notE hA e15); subst hA; exact q); ⟨ndI hA (And.intro rfl (And.intro rfl rfl)), ⟨ndI hA (by subst hA; exact hp7.1), ?_⟩⟩, imI hA fun e16 => have c16 : y5_1 = true := (by have q := (notE hA e16); subst hA; exact q); (by rw [W.rr]; exact (by subst hA; exact ((((k7.1 c21).1 c19).1 c17).2 c16)))⟩, imI hA fun e18 => have c18 : y4_1 = false := (by have q := e18; subst hA; exact q); (by rw [W.rr]; exact (by subst hA; exact (((k7.1 c21).1 c19).2 c18)))⟩, imI hA fun e20 => have c20 : y4_0 ≠ (5 : Int) := (by have q := (cmpE (op := .eql) hA e20); subst hA; exact q); (by rw [W.rr]; exact (by subst hA; exact ((k7.1 c21).2 c20)))⟩, imI hA fun e22 => have c22 : y7_0 ≠ (3 : Int) := (by have q := (cmpE (op := .eql) hA e22); subst hA; exact q); (by rw [W.rr]; exact (by subst hA; exact (k7.2 c22)))⟩
                                  · refine W.call 80 (by rfl) ((((k7.1 c21).1 c19).1 c17).1 c15) (by subst hA; rfl) (by subst hA; rfl) ?_
                                    rintro x rs vs hp8 hq8
                                    rcases hq8 with ⟨rfl, Y8_0, y8_0, rfl, rfl, k8⟩
                                    · cbv
                                      refine ⟨imI hA fun e13 => have c13 : y8_0 = (1 : Int) := (by have q := (cmpE (op := .eql) hA e13); subst hA; exact q); ⟨ndI hA (And.intro rfl (And.intro rfl rfl)), ⟨ndI hA (by subst hA; exact hp8.1), ?_⟩⟩, imI hA fun e14 => have c14 : y8_0 ≠ (1 : Int) := (by have q := (cmpE (op := .eql) hA e14); subst hA; exact q); (by rw [W.rr]; exact (by subst hA; exact (k8.2 c14)))⟩
                                      · refine W.call 80 (by rfl) (k8.1 c13) (by subst hA; rfl) (by subst hA; rfl) ?_
                                        rintro x rs vs hp9 hq9
                                        rcases hq9 with ⟨rfl, Y9_0, Y9_1, rfl, rfl, k9⟩
                                        · cbv
                                          refine ⟨ndI hA rfl, ⟨imI hA fun e11 => have c11 : (((List.length Y9_1) : Nat) : Int) = (0 : Int) := (by have q := (cmpE (op := .eql) hA e11); subst hA; exact q); ⟨ndI hA (And.intro rfl (And.intro rfl rfl)), ⟨ndI hA (by subst hA; exact hp9.1), ?_⟩⟩, imI hA fun e12 => have c12 : (((List.length Y9_1) : Nat) : Int) ≠ (0 : Int) := (by have q := (cmpE (op := .eql) hA e12); subst hA; exact q); (by rw [W.rr]; exact (by subst hA; exact (k9.2 c12)))⟩⟩
                                          · refine W.call 80 (by rfl) (k9.1 c11) (by subst hA; rfl) (by subst hA; rfl) ?_
                                            rintro x rs vs hp10 hq10
                                            rcases hq10 with ⟨rfl, Y10_0, y10_0, rfl, rfl, k10⟩
                                            · cbv
                                              refine (by rw [W.rr]; exact (by subst hA; exact k10))

-- 17a: (*signalbox/ceiling.Locks).Len
section
variable {Q : Nat → Rs → List Lf → Prop} {A : Ar} {CE : Nat → Rs → List Lf → (Nat → Rs → List Lf → Prop) → Prop} {CK : Nat → Rs → List Lf → Cont → Prop} {Dn : Nat → List Bool → List AItem → Nat → List Bool → List AV → List ABlk → Prop} {EV RR : Nat → Rs → List Lf → Prop}
end
structure V17a (EV Q : Nat → Rs → List Lf → Prop) : Prop where
  none : True

set_option maxHeartbeats 2000000 in
/-- To enter. -/
theorem E17a {Q : Nat → Rs → List Lf → Prop}  (h : ∀ EV : Nat → Rs → List Lf → Prop, V17a EV Q →
    Q 0 [] [(Lf.i (0 : Int))]) :
    EC Try.prog G17a [] [] Q := by
  obtain ⟨A, hA⟩ : ∃ A, A = arS := ⟨_, rfl⟩
  refine Inst.enter (I := I17a) hA mixed F17_at sg L17a 80 rfl fun CE CK Dn EV RR W hp => ?_
  have h := h  EV ⟨trivial⟩
  cbv
  refine (by rw [W.rr]; exact (by subst hA; exact h))

-- 36a: (*signalbox/ceiling.Locks).at
section
variable {Q : Nat → Rs → List Lf → Prop} {A : Ar} {CE : Nat → Rs → List Lf → (Nat → Rs → List Lf → Prop) → Prop} {CK : Nat → Rs → List Lf → Cont → Prop} {Dn : Nat → List Bool → List AItem → Nat → List Bool → List AV → List ABlk → Prop} {EV RR : Nat → Rs → List Lf → Prop}
end
structure V36a (EV Q : Nat → Rs → List Lf → Prop) : Prop where
  none : True

set_option maxHeartbeats 2000000 in
/-- To enter. -/
theorem E36a {Q : Nat → Rs → List Lf → Prop} {a1 : Int} (h : ∀ EV : Nat → Rs → List Lf → Prop, V36a EV Q →
    (a1 ≥ (0 : Int) →
      EC Try.prog G17a [] [] (fun x rs vs => (x = 0 ∧ ∃ (y0_0 : Int), rs = [] ∧ vs = [.i y0_0] ∧
        ((a1 ≥ y0_0 →
            Q 0 [] []) ∧
          (a1 < y0_0 →
            False))))) ∧
    (a1 < (0 : Int) →
      Q 0 [] [])) :
    EC Try.prog G36a [] [.i a1] Q := by
  obtain ⟨A, hA⟩ : ∃ A, A = arS := ⟨_, rfl⟩
  refine Inst.enter (I := I36a) hA mixed F36_at sg L36a 80 rfl fun CE CK Dn EV RR W hp => ?_
  have h := h  EV ⟨trivial⟩
  cbv
  refine ⟨imI hA fun e3 => have c3 : a1 ≥ (0 : Int) := (by have q := (cmpE (op := .lss) hA e3); subst hA; exact q); ?_, imI hA fun e4 => have c4 : a1 < (0 : Int) := (by have q := (cmpE (op := .lss) hA e4); subst hA; exact q); (by rw [W.rr]; exact (by subst hA; exact (h.2 c4)))⟩
  · refine W.call 80 (by rfl) (h.1 c3) (by subst hA; rfl) (by subst hA; rfl) ?_
    rintro x rs vs hp0 hq0
    rcases hq0 with ⟨rfl, y0_0, rfl, rfl, k0⟩
    · cbv
      refine ⟨imI hA fun e1 => have c1 : a1 ≥ y0_0 := (by have q := (cmpE (op := .geq) hA e1); subst hA; exact q); (by rw [W.rr]; exact (by subst hA; exact (k0.1 c1))), imI hA fun e2 => have c2 : a1 < y0_0 := (by have q := (cmpE (op := .geq) hA e2); subst hA; exact q); (k0.2 c2)⟩

-- 15a: (*signalbox/ceiling.Locks).Holder
section
variable {Q : Nat → Rs → List Lf → Prop} {A : Ar} {CE : Nat → Rs → List Lf → (Nat → Rs → List Lf → Prop) → Prop} {CK : Nat → Rs → List Lf → Cont → Prop} {Dn : Nat → List Bool → List AItem → Nat → List Bool → List AV → List ABlk → Prop} {EV RR : Nat → Rs → List Lf → Prop}
end
structure V15a (EV Q : Nat → Rs → List Lf → Prop) : Prop where
  none : True

set_option maxHeartbeats 2000000 in
/-- To enter. -/
theorem E15a {Q : Nat → Rs → List Lf → Prop} {a1 : Int} (h : ∀ EV : Nat → Rs → List Lf → Prop, V15a EV Q →
    EC Try.prog G36a [] [(Lf.i a1)] (fun x rs vs => (x = 0 ∧ rs = [] ∧ vs = [] ∧
      (Q 0 [] [(Lf.i (0 : Int)), (Lf.b false)])))) :
    EC Try.prog G15a [] [.i a1] Q := by
  obtain ⟨A, hA⟩ : ∃ A, A = arS := ⟨_, rfl⟩
  refine Inst.enter (I := I15a) hA mixed F15_at sg L15a 80 rfl fun CE CK Dn EV RR W hp => ?_
  have h := h  EV ⟨trivial⟩
  cbv
  refine ?_
  · refine W.call 80 (by rfl) h (by subst hA; rfl) (by subst hA; rfl) ?_
    rintro x rs vs hp0 hq0
    rcases hq0 with ⟨rfl, rfl, rfl, k0⟩
    · cbv
      refine (by rw [W.rr]; exact (by subst hA; exact k0))

-- 14a: (*signalbox/ceiling.Locks).Held
section
variable {Q : Nat → Rs → List Lf → Prop} {A : Ar} {CE : Nat → Rs → List Lf → (Nat → Rs → List Lf → Prop) → Prop} {CK : Nat → Rs → List Lf → Cont → Prop} {Dn : Nat → List Bool → List AItem → Nat → List Bool → List AV → List ABlk → Prop} {EV RR : Nat → Rs → List Lf → Prop}
set_option maxHeartbeats 2000000 in
theorem V14a_p9 (W : Wk Try.prog Try.f14 I14a L14a Q A sg CE CK Dn EV RR) {t1 : Int} {t9 : Int} {t10 : Int} (h : 
    (t10 < t9 →
      EC Try.prog G36a [] [(Lf.i t10)] (fun x rs vs => (x = 0 ∧ rs = [] ∧ vs = [] ∧
        (False)))) ∧
    (t10 ≥ t9 →
      Q 0 [] [])) :
    EV 9 [] [.i t1, .i t9, .i t10] := by
  have hA := W.hA
  refine W.step 80 fun hp => ?_
  cbv
  refine ⟨imI hA fun e1 => have c1 : t10 < t9 := (by have q := (cmpE (op := .lss) hA e1); subst hA; exact q); ?_, imI hA fun e2 => have c2 : t10 ≥ t9 := (by have q := (cmpE (op := .lss) hA e2); subst hA; exact q); (by rw [W.rr]; exact (by subst hA; exact (h.2 c2)))⟩
  · refine W.call 80 (by rfl) (h.1 c1) (by subst hA; rfl) (by subst hA; rfl) ?_
    rintro x rs vs hp0 hq0
    rcases hq0 with ⟨rfl, rfl, rfl, k0⟩
    · cbv
      refine k0

end
structure V14a (EV Q : Nat → Rs → List Lf → Prop) : Prop where
  p9 : ∀ {t1 : Int} {t9 : Int} {t10 : Int}, (
    (t10 < t9 →
      EC Try.prog G36a [] [(Lf.i t10)] (fun x rs vs => (x = 0 ∧ rs = [] ∧ vs = [] ∧
        (False)))) ∧
    (t10 ≥ t9 →
      Q 0 [] [])) →
    EV 9 [] [.i t1, .i t9, .i t10]

set_option maxHeartbeats 2000000 in
/-- To enter. -/
theorem E14a {Q : Nat → Rs → List Lf → Prop} {a1 : Int} (h : ∀ EV : Nat → Rs → List Lf → Prop, V14a EV Q →
    EC Try.prog G17a [] [] (fun x rs vs => (x = 0 ∧ ∃ (y3_0 : Int), rs = [] ∧ vs = [.i y3_0] ∧
      (EV 9 [] [(Lf.i a1), (Lf.i y3_0), (Lf.i (0 : Int))])))) :
    EC Try.prog G14a [] [.i a1] Q := by
  obtain ⟨A, hA⟩ : ∃ A, A = arS := ⟨_, rfl⟩
  refine Inst.enter (I := I14a) hA mixed F14_at sg L14a 80 rfl fun CE CK Dn EV RR W hp => ?_
  have h := h  EV ⟨V14a_p9 W⟩
  cbv
  refine ?_
  · refine W.call 80 (by rfl) h (by subst hA; rfl) (by subst hA; rfl) ?_
    rintro x rs vs hp3 hq3
    rcases hq3 with ⟨rfl, y3_0, rfl, rfl, k3⟩
    · cbv
      refine (by subst hA; exact k3)

-- 13a: (*signalbox/ceiling.Locks).Free
section
variable {Q : Nat → Rs → List Lf → Prop} {A : Ar} {CE : Nat → Rs → List Lf → (Nat → Rs → List Lf → Prop) → Prop} {CK : Nat → Rs → List Lf → Cont → Prop} {Dn : Nat → List Bool → List AItem → Nat → List Bool → List AV → List ABlk → Prop} {EV RR : Nat → Rs → List Lf → Prop}
set_option maxHeartbeats 2000000 in
theorem V13a_p9 (W : Wk Try.prog Try.f13 I13a L13a Q A sg CE CK Dn EV RR) {t1 : Int} {t12 : Int} {t13 : Int} (h : 
    (t13 < t12 →
      False) ∧
    (t13 ≥ t12 →
      Q 0 [] [(Lf.i (0 : Int))])) :
    EV 9 [] [.i t1, .i t12, .i t13] := by
  have hA := W.hA
  refine W.step 80 fun hp => ?_
  cbv
  refine ⟨imI hA fun e0 => have c0 : t13 < t12 := (by have q := (cmpE (op := .lss) hA e0); subst hA; exact q); (h.1 c0), imI hA fun e1 => have c1 : t13 ≥ t12 := (by have q := (cmpE (op := .lss) hA e1); subst hA; exact q); (by rw [W.rr]; exact (by subst hA; exact (h.2 c1)))⟩

end
structure V13a (EV Q : Nat → Rs → List Lf → Prop) : Prop where
  p9 : ∀ {t1 : Int} {t12 : Int} {t13 : Int}, (
    (t13 < t12 →
      False) ∧
    (t13 ≥ t12 →
      Q 0 [] [(Lf.i (0 : Int))])) →
    EV 9 [] [.i t1, .i t12, .i t13]

set_option maxHeartbeats 2000000 in
/-- To enter. -/
theorem E13a {Q : Nat → Rs → List Lf → Prop} {a1 : Int} (h : ∀ EV : Nat → Rs → List Lf → Prop, V13a EV Q →
    EC Try.prog G14a [] [(Lf.i a1)] (fun x rs vs => (x = 0 ∧ rs = [] ∧ vs = [] ∧
      (EV 9 [] [(Lf.i a1), (Lf.i (0 : Int)), (Lf.i (0 : Int))])))) :
    EC Try.prog G13a [] [.i a1] Q := by
  obtain ⟨A, hA⟩ : ∃ A, A = arS := ⟨_, rfl⟩
  refine Inst.enter (I := I13a) hA mixed F13_at sg L13a 80 rfl fun CE CK Dn EV RR W hp => ?_
  have h := h  EV ⟨V13a_p9 W⟩
  cbv
  refine ?_
  · refine W.call 80 (by rfl) h (by subst hA; rfl) (by subst hA; rfl) ?_
    rintro x rs vs hp2 hq2
    rcases hq2 with ⟨rfl, rfl, rfl, k2⟩
    · cbv
      refine (by subst hA; exact k2)

-- 11a: (*signalbox/ceiling.Locks).Lock
section
variable {Q : Nat → Rs → List Lf → Prop} {A : Ar} {CE : Nat → Rs → List Lf → (Nat → Rs → List Lf → Prop) → Prop} {CK : Nat → Rs → List Lf → Cont → Prop} {Dn : Nat → List Bool → List AItem → Nat → List Bool → List AV → List ABlk → Prop} {EV RR : Nat → Rs → List Lf → Prop}
end
structure V11a (EV Q : Nat → Rs → List Lf → Prop) : Prop where
  none : True

set_option maxHeartbeats 2000000 in
/-- To enter. -/
theorem E11a {Q : Nat → Rs → List Lf → Prop} {a1 : Int} {a2 : Int} (h : ∀ EV : Nat → Rs → List Lf → Prop, V11a EV Q →
    EC Try.prog G36a [] [(Lf.i a1)] (fun x rs vs => (x = 0 ∧ rs = [] ∧ vs = [] ∧
      (Q 0 [] [(Lf.i (6 : Int))])))) :
    EC Try.prog G11a [] [.i a1, .i a2] Q := by
  obtain ⟨A, hA⟩ : ∃ A, A = arS := ⟨_, rfl⟩
  refine Inst.enter (I := I11a) hA mixed F11_at sg L11a 80 rfl fun CE CK Dn EV RR W hp => ?_
  have h := h  EV ⟨trivial⟩
  cbv
  refine ?_
  · refine W.call 80 (by rfl) h (by subst hA; rfl) (by subst hA; rfl) ?_
    rintro x rs vs hp0 hq0
    rcases hq0 with ⟨rfl, rfl, rfl, k0⟩
    · cbv
      refine (by rw [W.rr]; exact (by subst hA; exact k0))

-- 16a: (*signalbox/ceiling.Locks).Level
section
variable {Q : Nat → Rs → List Lf → Prop} {A : Ar} {CE : Nat → Rs → List Lf → (Nat → Rs → List Lf → Prop) → Prop} {CK : Nat → Rs → List Lf → Cont → Prop} {Dn : Nat → List Bool → List AItem → Nat → List Bool → List AV → List ABlk → Prop} {EV RR : Nat → Rs → List Lf → Prop}
set_option maxHeartbeats 2000000 in
theorem V16a_p7 (W : Wk Try.prog Try.f16 I16a L16a Q A sg CE CK Dn EV RR) {t2 : Int} {t12 : Int} {t13 : Int} (h : 
    (t13 < t12 →
      False) ∧
    (t13 ≥ t12 →
      Q 0 [] [(Lf.i t2)])) :
    EV 7 [] [.i t2, .i t12, .i t13] := by
  have hA := W.hA
  refine W.step 80 fun hp => ?_
  cbv
  refine ⟨imI hA fun e0 => have c0 : t13 < t12 := (by have q := (cmpE (op := .lss) hA e0); subst hA; exact q); (h.1 c0), imI hA fun e1 => have c1 : t13 ≥ t12 := (by have q := (cmpE (op := .lss) hA e1); subst hA; exact q); (by rw [W.rr]; exact (by subst hA; exact (h.2 c1)))⟩

end
structure V16a (EV Q : Nat → Rs → List Lf → Prop) : Prop where
  p7 : ∀ {t2 : Int} {t12 : Int} {t13 : Int}, (
    (t13 < t12 →
      False) ∧
    (t13 ≥ t12 →
      Q 0 [] [(Lf.i t2)])) →
    EV 7 [] [.i t2, .i t12, .i t13]

set_option maxHeartbeats 2000000 in
/-- To enter. -/
theorem E16a {Q : Nat → Rs → List Lf → Prop} {a1 : Int} {a2 : Int} (h : ∀ EV : Nat → Rs → List Lf → Prop, V16a EV Q →
    EC Try.prog G14a [] [(Lf.i a1)] (fun x rs vs => (x = 0 ∧ rs = [] ∧ vs = [] ∧
      (EV 7 [] [(Lf.i a2), (Lf.i (0 : Int)), (Lf.i (0 : Int))])))) :
    EC Try.prog G16a [] [.i a1, .i a2] Q := by
  obtain ⟨A, hA⟩ : ∃ A, A = arS := ⟨_, rfl⟩
  refine Inst.enter (I := I16a) hA mixed F16_at sg L16a 80 rfl fun CE CK Dn EV RR W hp => ?_
  have h := h  EV ⟨V16a_p7 W⟩
  cbv
  refine ?_
  · refine W.call 80 (by rfl) h (by subst hA; rfl) (by subst hA; rfl) ?_
    rintro x rs vs hp2 hq2
    rcases hq2 with ⟨rfl, rfl, rfl, k2⟩
    · cbv
      refine (by subst hA; exact k2)

-- 3: signalbox/signalboxlaw13.CeilingPlays DRAWN
section
variable {Q : Nat → Rs → List Lf → Prop} {A : Ar} {CE : Nat → Rs → List Lf → (Nat → Rs → List Lf → Prop) → Prop} {CK : Nat → Rs → List Lf → Cont → Prop} {Dn : Nat → List Bool → List AItem → Nat → List Bool → List AV → List ABlk → Prop} {EV RR : Nat → Rs → List Lf → Prop}
set_option maxHeartbeats 2000000 in
theorem V3_p29 (W : Wk Try.prog Try.f3 I3 L3 Q A sg CE CK Dn EV RR) {R0 : List (List AV)} {R1 : List (List AV)} {R2 : List (List AV)} {t0 : List (List AV)} {t2 : Int} {t3 : Int} {t45 : List (List AV)} {t46 : Int} {t47 : Int} (h : pursS R0 = true → pursS R1 = true → pursS R2 = true → 
    (t47 < t46 →
      ((0 : Int) ≤ t47) ∧
      (t45[(Int.toNat t47)]? = some [(AV.int .u8 (cIS t45 (Int.toNat t47) 0)), (AV.int .i64 (cIS t45 (Int.toNat t47) 1)), (AV.int .i64 (cIS t45 (Int.toNat t47) 2))]) ∧
      ((cIS t45 (Int.toNat t47) 1) ≥ (0 : Int) →
        EV 43 [R0, R1, R2] [(Lf.r t0), (Lf.i t2), (Lf.i t3), (Lf.b (decide ((cIS t45 (Int.toNat t47) 1) < (((List.length t0) : Nat) : Int)))), (Lf.i (0 : Int)), (Lf.r t45), (Lf.i t46), (Lf.i t47), (Lf.i (cIS t45 (Int.toNat t47) 0)), (Lf.i (cIS t45 (Int.toNat t47) 1)), (Lf.i (cIS t45 (Int.toNat t47) 2))]) ∧
      ((cIS t45 (Int.toNat t47) 1) < (0 : Int) →
        EV 43 [R0, R1, R2] [(Lf.r t0), (Lf.i t2), (Lf.i t3), (Lf.b false), (Lf.i (0 : Int)), (Lf.r t45), (Lf.i t46), (Lf.i t47), (Lf.i (cIS t45 (Int.toNat t47) 0)), (Lf.i (cIS t45 (Int.toNat t47) 1)), (Lf.i (cIS t45 (Int.toNat t47) 2))])) ∧
    (t47 ≥ t46 →
      EV 178 [R2] [(Lf.r t0), (Lf.i t2), (Lf.i t3)])) :
    EV 29 [R0, R1, R2] [.r t0, .i t2, .i t3, .r t45, .i t46, .i t47] := by
  have hA := W.hA
  refine W.step 80 fun hp => ?_
  have h := h hp.1 hp.2.1 hp.2.2.1
  cbv
  refine ⟨imI hA fun e2 => have c2 : t47 < t46 := (by have q := (cmpE (op := .lss) hA e2); subst hA; exact q); ⟨ndI hA (And.intro (by subst hA; exact (h.1 c2).1) (by subst hA; exact (h.1 c2).2.1)), ⟨imI hA fun e0 => have c0 : (cIS t45 (Int.toNat t47) 1) ≥ (0 : Int) := (by have q := (cmpE (op := .geq) hA e0); subst hA; exact q); ⟨ndI hA (And.intro rfl (And.intro rfl rfl)), ⟨ndI hA (And.intro rfl (And.intro rfl rfl)), ⟨ndI hA (And.intro rfl (And.intro rfl rfl)), ⟨ndI hA (by subst hA; exact hp.1), ⟨ndI hA (by subst hA; exact hp.2.1), ⟨ndI hA (by subst hA; exact hp.2.2.1), (by subst hA; exact ((h.1 c2).2.2.1 c0))⟩⟩⟩⟩⟩⟩, imI hA fun e1 => have c1 : (cIS t45 (Int.toNat t47) 1) < (0 : Int) := (by have q := (cmpE (op := .geq) hA e1); subst hA; exact q); ⟨ndI hA (And.intro rfl (And.intro rfl rfl)), ⟨ndI hA (And.intro rfl (And.intro rfl rfl)), ⟨ndI hA (And.intro rfl (And.intro rfl rfl)), ⟨ndI hA (by subst hA; exact hp.1), ⟨ndI hA (by subst hA; exact hp.2.1), ⟨ndI hA (by subst hA; exact hp.2.2.1), (by subst hA; exact ((h.1 c2).2.2.2 c1))⟩⟩⟩⟩⟩⟩⟩⟩, imI hA fun e3 => have c3 : t47 ≥ t46 := (by have q := (cmpE (op := .lss) hA e3); subst hA; exact q); ⟨ndI hA (And.intro rfl (And.intro rfl rfl)), ⟨ndI hA (by subst hA; exact hp.2.2.1), (by subst hA; exact (h.2 c3))⟩⟩⟩

set_option maxHeartbeats 2000000 in
theorem V3_p43 (W : Wk Try.prog Try.f3 I3 L3 Q A sg CE CK Dn EV RR) {R0 : List (List AV)} {R1 : List (List AV)} {R2 : List (List AV)} {t0 : List (List AV)} {t2 : Int} {t3 : Int} {t14 : Bool} {t15 : Int} {t45 : List (List AV)} {t46 : Int} {t47 : Int} {tb3_0 : Int} {tb3_1 : Int} {tb3_2 : Int} (h : pursS R0 = true → pursS R1 = true → pursS R2 = true → 
    ((Int.tmod tb3_0 (3 : Int)) = (0 : Int) →
      EV 50 [R0, R1, R2] [(Lf.r t0), (Lf.i t2), (Lf.i t3), (Lf.b t14), (Lf.i t15), (Lf.r t45), (Lf.i t46), (Lf.i t47), (Lf.i tb3_0), (Lf.i tb3_1), (Lf.i tb3_2)]) ∧
    ((Int.tmod tb3_0 (3 : Int)) ≠ (0 : Int) →
      ((Int.tmod tb3_0 (3 : Int)) = (1 : Int) →
        EV 71 [R0, R1, R2] [(Lf.r t0), (Lf.i t2), (Lf.i t3), (Lf.b t14), (Lf.i t15), (Lf.r t45), (Lf.i t46), (Lf.i t47), (Lf.i tb3_0), (Lf.i tb3_1), (Lf.i tb3_2)]) ∧
      ((Int.tmod tb3_0 (3 : Int)) ≠ (1 : Int) →
        ((Int.tmod tb3_0 (3 : Int)) = (2 : Int) →
          EV 92 [R0, R1, R2] [(Lf.r t0), (Lf.i t2), (Lf.i t3), (Lf.r t45), (Lf.i t46), (Lf.i t47), (Lf.i tb3_0), (Lf.i tb3_1), (Lf.i tb3_2)]) ∧
        ((Int.tmod tb3_0 (3 : Int)) ≠ (2 : Int) →
          EV 125 [R0, R1, R2] [(Lf.r t0), (Lf.i t2), (Lf.i t3), (Lf.r t45), (Lf.i t46), (Lf.i t47)])))) :
    EV 43 [R0, R1, R2] [.r t0, .i t2, .i t3, .b t14, .i t15, .r t45, .i t46, .i t47, .i tb3_0, .i tb3_1, .i tb3_2] := by
  have hA := W.hA
  refine W.step 80 fun hp => ?_
  have h := h hp.1 hp.2.1 hp.2.2.1
  cbv
  refine ⟨ndI hA (show _ ≠ _ by decide), ⟨imI hA fun e4 => have c4 : (Int.tmod tb3_0 (3 : Int)) = (0 : Int) := (by have q := (cmpE (op := .eql) hA e4); subst hA; exact q); ⟨ndI hA (And.intro rfl (And.intro rfl rfl)), ⟨ndI hA (And.intro rfl (And.intro rfl rfl)), ⟨ndI hA (And.intro rfl (And.intro rfl rfl)), ⟨ndI hA (by subst hA; exact hp.1), ⟨ndI hA (by subst hA; exact hp.2.1), ⟨ndI hA (by subst hA; exact hp.2.2.1), (by subst hA; exact (h.1 c4))⟩⟩⟩⟩⟩⟩, imI hA fun e9 => have c9 : (Int.tmod tb3_0 (3 : Int)) ≠ (0 : Int) := (by have q := (cmpE (op := .eql) hA e9); subst hA; exact q); ⟨imI hA fun e5 => have c5 : (Int.tmod tb3_0 (3 : Int)) = (1 : Int) := (by have q := (cmpE (op := .eql) hA e5); subst hA; exact q); ⟨ndI hA (And.intro rfl (And.intro rfl rfl)), ⟨ndI hA (And.intro rfl (And.intro rfl rfl)), ⟨ndI hA (And.intro rfl (And.intro rfl rfl)), ⟨ndI hA (by subst hA; exact hp.1), ⟨ndI hA (by subst hA; exact hp.2.1), ⟨ndI hA (by subst hA; exact hp.2.2.1), (by subst hA; exact ((h.2 c9).1 c5))⟩⟩⟩⟩⟩⟩, imI hA fun e8 => have c8 : (Int.tmod tb3_0 (3 : Int)) ≠ (1 : Int) := (by have q := (cmpE (op := .eql) hA e8); subst hA; exact q); ⟨imI hA fun e6 => have c6 : (Int.tmod tb3_0 (3 : Int)) = (2 : Int) := (by have q := (cmpE (op := .eql) hA e6); subst hA; exact q); ⟨ndI hA (And.intro rfl (And.intro rfl rfl)), ⟨ndI hA (And.intro rfl (And.intro rfl rfl)), ⟨ndI hA (And.intro rfl (And.intro rfl rfl)), ⟨ndI hA (by subst hA; exact hp.1), ⟨ndI hA (by subst hA; exact hp.2.1), ⟨ndI hA (by subst hA; exact hp.2.2.1), (by subst hA; exact (((h.2 c9).2 c8).1 c6))⟩⟩⟩⟩⟩⟩, imI hA fun e7 => have c7 : (Int.tmod tb3_0 (3 : Int)) ≠ (2 : Int) := (by have q := (cmpE (op := .eql) hA e7); subst hA; exact q); ⟨ndI hA (And.intro rfl (And.intro rfl rfl)), ⟨ndI hA (And.intro rfl (And.intro rfl rfl)), ⟨ndI hA (And.intro rfl (And.intro rfl rfl)), ⟨ndI hA (by subst hA; exact hp.1), ⟨ndI hA (by subst hA; exact hp.2.1), ⟨ndI hA (by subst hA; exact hp.2.2.1), (by subst hA; exact (((h.2 c9).2 c8).2 c7))⟩⟩⟩⟩⟩⟩⟩⟩⟩⟩

set_option maxHeartbeats 2000000 in
theorem V3_p50 (W : Wk Try.prog Try.f3 I3 L3 Q A sg CE CK Dn EV RR) {R0 : List (List AV)} {R1 : List (List AV)} {R2 : List (List AV)} {t0 : List (List AV)} {t2 : Int} {t3 : Int} {t14 : Bool} {t15 : Int} {t45 : List (List AV)} {t46 : Int} {t47 : Int} {tb3_0 : Int} {tb3_1 : Int} {tb3_2 : Int} (h : pursS R0 = true → pursS R1 = true → pursS R2 = true → 
    (t14 = false →
      EV 61 [R0, R1, R2] [(Lf.r t0), (Lf.i t2), (Lf.i t3), (Lf.i (6 : Int)), (Lf.r t45), (Lf.i t46), (Lf.i t47), (Lf.i tb3_0), (Lf.i tb3_1), (Lf.i tb3_2)]) ∧
    (t14 = true →
      ((0 : Int) ≤ tb3_1) ∧
      (tb3_1 < (((List.length R0) : Nat) : Int)) ∧
      (R0[(Int.toNat tb3_1)]? = some [(AV.bool (cBS R0 (Int.toNat tb3_1) 0))]) ∧
      ((cBS R0 (Int.toNat tb3_1) 0) = true →
        EV 61 [R0, R1, R2] [(Lf.r t0), (Lf.i t2), (Lf.i t3), (Lf.i (10 : Int)), (Lf.r t45), (Lf.i t46), (Lf.i t47), (Lf.i tb3_0), (Lf.i tb3_1), (Lf.i tb3_2)]) ∧
      ((cBS R0 (Int.toNat tb3_1) 0) = false →
        ((0 : Int) ≤ tb3_1) ∧
        (tb3_1 < (((List.length R0) : Nat) : Int)) ∧
        (R0[(Int.toNat tb3_1)]? = some [(AV.bool (cBS R0 (Int.toNat tb3_1) 0))]) ∧
        (tb3_1 < (((List.length R1) : Nat) : Int)) ∧
        (R1[(Int.toNat tb3_1)]? = some [(AV.int .i64 (cIS R1 (Int.toNat tb3_1) 0))]) ∧
        (EV 61 [(List.set R0 (Int.toNat tb3_1) [(AV.bool true)]), (List.set R1 (Int.toNat tb3_1) [(AV.int .i64 tb3_2)]), R2] [(Lf.r t0), (Lf.i t2), (Lf.i t3), (Lf.i t15), (Lf.r t45), (Lf.i t46), (Lf.i t47), (Lf.i tb3_0), (Lf.i tb3_1), (Lf.i tb3_2)])))) :
    EV 50 [R0, R1, R2] [.r t0, .i t2, .i t3, .b t14, .i t15, .r t45, .i t46, .i t47, .i tb3_0, .i tb3_1, .i tb3_2] := by
  have hA := W.hA
  refine W.step 80 fun hp => ?_
  have h := h hp.1 hp.2.1 hp.2.2.1
  cbv
  refine ⟨imI hA fun e10 => have c10 : t14 = false := (by have q := (notE hA e10); subst hA; exact q); ⟨ndI hA (And.intro rfl (And.intro rfl rfl)), ⟨ndI hA (And.intro rfl (And.intro rfl rfl)), ⟨ndI hA (And.intro rfl (And.intro rfl rfl)), ⟨ndI hA (by subst hA; exact hp.1), ⟨ndI hA (by subst hA; exact hp.2.1), ⟨ndI hA (by subst hA; exact hp.2.2.1), (by subst hA; exact (h.1 c10))⟩⟩⟩⟩⟩⟩, imI hA fun e13 => have c13 : t14 = true := (by have q := (notE hA e13); subst hA; exact q); ⟨ndI hA (And.intro (by subst hA; exact (h.2 c13).1) (And.intro (by subst hA; exact (h.2 c13).2.1) rfl)), ⟨ndI hA (And.intro rfl (by subst hA; show R0[(0 + (Int.toNat tb3_1))]? = some [(AV.bool (cBS R0 (0 + (Int.toNat tb3_1)) 0))]; simp only [rappS_end, Nat.zero_add, Int.toNat_natCast]; exact (h.2 c13).2.2.1)), ⟨imI hA fun e11 => have c11 : (cBS R0 (Int.toNat tb3_1) 0) = true := (by have q := e11; subst hA; have q : (cBS R0 (0 + (Int.toNat tb3_1)) 0) = true := q; simpa only [rappS_end, Nat.zero_add, Int.toNat_natCast] using q); ⟨ndI hA (And.intro rfl (And.intro rfl rfl)), ⟨ndI hA (And.intro rfl (And.intro rfl rfl)), ⟨ndI hA (And.intro rfl (And.intro rfl rfl)), ⟨ndI hA (by subst hA; exact hp.1), ⟨ndI hA (by subst hA; exact hp.2.1), ⟨ndI hA (by subst hA; exact hp.2.2.1), (by subst hA; exact ((h.2 c13).2.2.2.1 c11))⟩⟩⟩⟩⟩⟩, imI hA fun e12 => have c12 : (cBS R0 (Int.toNat tb3_1) 0) = false := (by have q := e12; subst hA; have q : (cBS R0 (0 + (Int.toNat tb3_1)) 0) = false := q; simpa only [rappS_end, Nat.zero_add, Int.toNat_natCast] using q); ⟨⟨⟨⟨⟨ndI hA (And.intro (by subst hA; exact ((h.2 c13).2.2.2.2 c12).1) (And.intro (by subst hA; exact ((h.2 c13).2.2.2.2 c12).2.1) rfl)), ⟨⟨ndI hA (And.intro rfl (by subst hA; show R0[(0 + (Int.toNat tb3_1))]? = some [(AV.bool (cBS R0 (0 + (Int.toNat tb3_1)) 0))]; simp only [rappS_end, Nat.zero_add, Int.toNat_natCast]; exact ((h.2 c13).2.2.2.2 c12).2.2.1)), ⟨⟨ndI hA (And.intro (by subst hA; exact ((h.2 c13).2.2.2.2 c12).1) (And.intro (by subst hA; exact ((h.2 c13).2.2.2.2 c12).2.2.2.1) rfl)), ⟨⟨ndI hA (And.intro rfl (by subst hA; show R1[(0 + (Int.toNat tb3_1))]? = some [(AV.int .i64 (cIS R1 (0 + (Int.toNat tb3_1)) 0))]; simp only [rappS_end, Nat.zero_add, Int.toNat_natCast]; exact ((h.2 c13).2.2.2.2 c12).2.2.2.2.1)), ⟨ndI hA (And.intro (by subst hA; show (List.length R0) = (List.length (List.set R0 (0 + (Int.toNat tb3_1)) [(AV.bool true)])); (first | rfl | simp [rappS_end] | (simp only [rappS_end, List.length_append, List.length_set, List.length_cons, List.length_nil]; omega))) (And.intro rfl (by subst hA; show (List.length R0) = (List.length (List.set R0 (0 + (Int.toNat tb3_1)) [(AV.bool true)])); (first | rfl | simp [rappS_end] | (simp only [rappS_end, List.length_append, List.length_set, List.length_cons, List.length_nil]; omega))))), ⟨ndI hA (And.intro (by subst hA; show (List.length R1) = (List.length (List.set R1 (0 + (Int.toNat tb3_1)) [(AV.int .i64 tb3_2)])); (first | rfl | simp [rappS_end] | (simp only [rappS_end, List.length_append, List.length_set, List.length_cons, List.length_nil]; omega))) (And.intro rfl (by subst hA; show (List.length R1) = (List.length (List.set R1 (0 + (Int.toNat tb3_1)) [(AV.int .i64 tb3_2)])); (first | rfl | simp [rappS_end] | (simp only [rappS_end, List.length_append, List.length_set, List.length_cons, List.length_nil]; omega))))), ⟨ndI hA (And.intro rfl (And.intro rfl rfl)), ⟨ndI hA (by subst hA; exact (vset hp.1 rfl)), ⟨ndI hA (by subst hA; exact (vset hp.2.1 rfl)), ⟨ndI hA (by subst hA; exact hp.2.2.1), (by subst hA; show EV 61 [(List.set R0 (0 + (Int.toNat tb3_1)) [(AV.bool true)]), (List.set R1 (0 + (Int.toNat tb3_1)) [(AV.int .i64 tb3_2)]), R2] [(Lf.r t0), (Lf.i t2), (Lf.i t3), (Lf.i t15), (Lf.r t45), (Lf.i t46), (Lf.i t47), (Lf.i tb3_0), (Lf.i tb3_1), (Lf.i tb3_2)]; simp only [rappS_end, Nat.zero_add, Int.toNat_natCast]; exact ((h.2 c13).2.2.2.2 c12).2.2.2.2.2)⟩⟩⟩⟩⟩⟩⟩, trivial⟩⟩, trivial⟩⟩, trivial⟩⟩, trivial⟩, ⟨⟨ndI hA (And.intro (by subst hA; exact ((h.2 c13).2.2.2.2 c12).1) (And.intro (by subst hA; exact ((h.2 c13).2.2.2.2 c12).2.1) rfl)), ⟨⟨⟨ndI hA (And.intro rfl (by subst hA; show R0[(0 + (Int.toNat tb3_1))]? = some [(AV.bool (cBS R0 (0 + (Int.toNat tb3_1)) 0))]; simp only [rappS_end, Nat.zero_add, Int.toNat_natCast]; exact ((h.2 c13).2.2.2.2 c12).2.2.1)), ⟨⟨ndI hA (And.intro (by subst hA; exact ((h.2 c13).2.2.2.2 c12).1) (And.intro (by subst hA; exact ((h.2 c13).2.2.2.2 c12).2.2.2.1) rfl)), ⟨⟨ndI hA (And.intro rfl (by subst hA; show R1[(0 + (Int.toNat tb3_1))]? = some [(AV.int .i64 (cIS R1 (0 + (Int.toNat tb3_1)) 0))]; simp only [rappS_end, Nat.zero_add, Int.toNat_natCast]; exact ((h.2 c13).2.2.2.2 c12).2.2.2.2.1)), ⟨ndI hA (And.intro (by subst hA; show (List.length R0) = (List.length (List.set R0 (0 + (Int.toNat tb3_1)) [(AV.bool true)])); (first | rfl | simp [rappS_end] | (simp only [rappS_end, List.length_append, List.length_set, List.length_cons, List.length_nil]; omega))) (And.intro rfl (by subst hA; show (List.length R0) = (List.length (List.set R0 (0 + (Int.toNat tb3_1)) [(AV.bool true)])); (first | rfl | simp [rappS_end] | (simp only [rappS_end, List.length_append, List.length_set, List.length_cons, List.length_nil]; omega))))), ⟨ndI hA (And.intro (by subst hA; show (List.length R1) = (List.length (List.set R1 (0 + (Int.toNat tb3_1)) [(AV.int .i64 tb3_2)])); (first | rfl | simp [rappS_end] | (simp only [rappS_end, List.length_append, List.length_set, List.length_cons, List.length_nil]; omega))) (And.intro rfl (by subst hA; show (List.length R1) = (List.length (List.set R1 (0 + (Int.toNat tb3_1)) [(AV.int .i64 tb3_2)])); (first | rfl | simp [rappS_end] | (simp only [rappS_end, List.length_append, List.length_set, List.length_cons, List.length_nil]; omega))))), ⟨ndI hA (And.intro rfl (And.intro rfl rfl)), ⟨ndI hA (by subst hA; exact (vset hp.1 rfl)), ⟨ndI hA (by subst hA; exact (vset hp.2.1 rfl)), ⟨ndI hA (by subst hA; exact hp.2.2.1), (by subst hA; show EV 61 [(List.set R0 (0 + (Int.toNat tb3_1)) [(AV.bool true)]), (List.set R1 (0 + (Int.toNat tb3_1)) [(AV.int .i64 tb3_2)]), R2] [(Lf.r t0), (Lf.i t2), (Lf.i t3), (Lf.i t15), (Lf.r t45), (Lf.i t46), (Lf.i t47), (Lf.i tb3_0), (Lf.i tb3_1), (Lf.i tb3_2)]; simp only [rappS_end, Nat.zero_add, Int.toNat_natCast]; exact ((h.2 c13).2.2.2.2 c12).2.2.2.2.2)⟩⟩⟩⟩⟩⟩⟩, trivial⟩⟩, trivial⟩⟩, trivial⟩, ⟨⟨ndI hA (And.intro rfl (by subst hA; show R0[(0 + (Int.toNat tb3_1))]? = some [(AV.bool (cBS R0 (0 + (Int.toNat tb3_1)) 0))]; simp only [rappS_end, Nat.zero_add, Int.toNat_natCast]; exact ((h.2 c13).2.2.2.2 c12).2.2.1)), ⟨⟨⟨ndI hA (And.intro (by subst hA; exact ((h.2 c13).2.2.2.2 c12).1) (And.intro (by subst hA; exact ((h.2 c13).2.2.2.2 c12).2.2.2.1) rfl)), ⟨⟨ndI hA (And.intro rfl (by subst hA; show R1[(0 + (Int.toNat tb3_1))]? = some [(AV.int .i64 (cIS R1 (0 + (Int.toNat tb3_1)) 0))]; simp only [rappS_end, Nat.zero_add, Int.toNat_natCast]; exact ((h.2 c13).2.2.2.2 c12).2.2.2.2.1)), ⟨ndI hA (And.intro (by subst hA; show (List.length R0) = (List.length (List.set R0 (0 + (Int.toNat tb3_1)) [(AV.bool true)])); (first | rfl | simp [rappS_end] | (simp only [rappS_end, List.length_append, List.length_set, List.length_cons, List.length_nil]; omega))) (And.intro rfl (by subst hA; show (List.length R0) = (List.length (List.set R0 (0 + (Int.toNat tb3_1)) [(AV.bool true)])); (first | rfl | simp [rappS_end] | (simp only [rappS_end, List.length_append, List.length_set, List.length_cons, List.length_nil]; omega))))), ⟨ndI hA (And.intro (by subst hA; show (List.length R1) = (List.length (List.set R1 (0 + (Int.toNat tb3_1)) [(AV.int .i64 tb3_2)])); (first | rfl | simp [rappS_end] | (simp only [rappS_end, List.length_append, List.length_set, List.length_cons, List.length_nil]; omega))) (And.intro rfl (by subst hA; show (List.length R1) = (List.length (List.set R1 (0 + (Int.toNat tb3_1)) [(AV.int .i64 tb3_2)])); (first | rfl | simp [rappS_end] | (simp only [rappS_end, List.length_append, List.length_set, List.length_cons, List.length_nil]; omega))))), ⟨ndI hA (And.intro rfl (And.intro rfl rfl)), ⟨ndI hA (by subst hA; exact (vset hp.1 rfl)), ⟨ndI hA (by subst hA; exact (vset hp.2.1 rfl)), ⟨ndI hA (by subst hA; exact hp.2.2.1), (by subst hA; show EV 61 [(List.set R0 (0 + (Int.toNat tb3_1)) [(AV.bool true)]), (List.set R1 (0 + (Int.toNat tb3_1)) [(AV.int .i64 tb3_2)]), R2] [(Lf.r t0), (Lf.i t2), (Lf.i t3), (Lf.i t15), (Lf.r t45), (Lf.i t46), (Lf.i t47), (Lf.i tb3_0), (Lf.i tb3_1), (Lf.i tb3_2)]; simp only [rappS_end, Nat.zero_add, Int.toNat_natCast]; exact ((h.2 c13).2.2.2.2 c12).2.2.2.2.2)⟩⟩⟩⟩⟩⟩⟩, trivial⟩⟩, trivial⟩, trivial⟩⟩, trivial⟩⟩⟩, trivial⟩⟩, ⟨⟨⟨⟨ndI hA (And.intro (by subst hA; exact ((h.2 c13).2.2.2.2 c12).1) (And.intro (by subst hA; exact ((h.2 c13).2.2.2.2 c12).2.1) rfl)), ⟨⟨ndI hA (And.intro rfl (by subst hA; show R0[(0 + (Int.toNat tb3_1))]? = some [(AV.bool (cBS R0 (0 + (Int.toNat tb3_1)) 0))]; simp only [rappS_end, Nat.zero_add, Int.toNat_natCast]; exact ((h.2 c13).2.2.2.2 c12).2.2.1)), ⟨⟨ndI hA (And.intro (by subst hA; exact ((h.2 c13).2.2.2.2 c12).1) (And.intro (by subst hA; exact ((h.2 c13).2.2.2.2 c12).2.2.2.1) rfl)), ⟨⟨ndI hA (And.intro rfl (by subst hA; show R1[(0 + (Int.toNat tb3_1))]? = some [(AV.int .i64 (cIS R1 (0 + (Int.toNat tb3_1)) 0))]; simp only [rappS_end, Nat.zero_add, Int.toNat_natCast]; exact ((h.2 c13).2.2.2.2 c12).2.2.2.2.1)), ⟨ndI hA (And.intro (by subst hA; show (List.length R0) = (List.length (List.set R0 (0 + (Int.toNat tb3_1)) [(AV.bool true)])); (first | rfl | simp [rappS_end] | (simp only [rappS_end, List.length_append, List.length_set, List.length_cons, List.length_nil]; omega))) (And.intro rfl (by subst hA; show (List.length R0) = (List.length (List.set R0 (0 + (Int.toNat tb3_1)) [(AV.bool true)])); (first | rfl | simp [rappS_end] | (simp only [rappS_end, List.length_append, List.length_set, List.length_cons, List.length_nil]; omega))))), ⟨ndI hA (And.intro (by subst hA; show (List.length R1) = (List.length (List.set R1 (0 + (Int.toNat tb3_1)) [(AV.int .i64 tb3_2)])); (first | rfl | simp [rappS_end] | (simp only [rappS_end, List.length_append, List.length_set, List.length_cons, List.length_nil]; omega))) (And.intro rfl (by subst hA; show (List.length R1) = (List.length (List.set R1 (0 + (Int.toNat tb3_1)) [(AV.int .i64 tb3_2)])); (first | rfl | simp [rappS_end] | (simp only [rappS_end, List.length_append, List.length_set, List.length_cons, List.length_nil]; omega))))), ⟨ndI hA (And.intro rfl (And.intro rfl rfl)), ⟨ndI hA (by subst hA; exact (vset hp.1 rfl)), ⟨ndI hA (by subst hA; exact (vset hp.2.1 rfl)), ⟨ndI hA (by subst hA; exact hp.2.2.1), (by subst hA; show EV 61 [(List.set R0 (0 + (Int.toNat tb3_1)) [(AV.bool true)]), (List.set R1 (0 + (Int.toNat tb3_1)) [(AV.int .i64 tb3_2)]), R2] [(Lf.r t0), (Lf.i t2), (Lf.i t3), (Lf.i t15), (Lf.r t45), (Lf.i t46), (Lf.i t47), (Lf.i tb3_0), (Lf.i tb3_1), (Lf.i tb3_2)]; simp only [rappS_end, Nat.zero_add, Int.toNat_natCast]; exact ((h.2 c13).2.2.2.2 c12).2.2.2.2.2)⟩⟩⟩⟩⟩⟩⟩, trivial⟩⟩, trivial⟩⟩, trivial⟩⟩, trivial⟩, ⟨⟨ndI hA (And.intro (by subst hA; exact ((h.2 c13).2.2.2.2 c12).1) (And.intro (by subst hA; exact ((h.2 c13).2.2.2.2 c12).2.1) rfl)), ⟨⟨⟨ndI hA (And.intro rfl (by subst hA; show R0[(0 + (Int.toNat tb3_1))]? = some [(AV.bool (cBS R0 (0 + (Int.toNat tb3_1)) 0))]; simp only [rappS_end, Nat.zero_add, Int.toNat_natCast]; exact ((h.2 c13).2.2.2.2 c12).2.2.1)), ⟨⟨ndI hA (And.intro (by subst hA; exact ((h.2 c13).2.2.2.2 c12).1) (And.intro (by subst hA; exact ((h.2 c13).2.2.2.2 c12).2.2.2.1) rfl)), ⟨⟨ndI hA (And.intro rfl (by subst hA; show R1[(0 + (Int.toNat tb3_1))]? = some [(AV.int .i64 (cIS R1 (0 + (Int.toNat tb3_1)) 0))]; simp only [rappS_end, Nat.zero_add, Int.toNat_natCast]; exact ((h.2 c13).2.2.2.2 c12).2.2.2.2.1)), ⟨ndI hA (And.intro (by subst hA; show (List.length R0) = (List.length (List.set R0 (0 + (Int.toNat tb3_1)) [(AV.bool true)])); (first | rfl | simp [rappS_end] | (simp only [rappS_end, List.length_append, List.length_set, List.length_cons, List.length_nil]; omega))) (And.intro rfl (by subst hA; show (List.length R0) = (List.length (List.set R0 (0 + (Int.toNat tb3_1)) [(AV.bool true)])); (first | rfl | simp [rappS_end] | (simp only [rappS_end, List.length_append, List.length_set, List.length_cons, List.length_nil]; omega))))), ⟨ndI hA (And.intro (by subst hA; show (List.length R1) = (List.length (List.set R1 (0 + (Int.toNat tb3_1)) [(AV.int .i64 tb3_2)])); (first | rfl | simp [rappS_end] | (simp only [rappS_end, List.length_append, List.length_set, List.length_cons, List.length_nil]; omega))) (And.intro rfl (by subst hA; show (List.length R1) = (List.length (List.set R1 (0 + (Int.toNat tb3_1)) [(AV.int .i64 tb3_2)])); (first | rfl | simp [rappS_end] | (simp only [rappS_end, List.length_append, List.length_set, List.length_cons, List.length_nil]; omega))))), ⟨ndI hA (And.intro rfl (And.intro rfl rfl)), ⟨ndI hA (by subst hA; exact (vset hp.1 rfl)), ⟨ndI hA (by subst hA; exact (vset hp.2.1 rfl)), ⟨ndI hA (by subst hA; exact hp.2.2.1), (by subst hA; show EV 61 [(List.set R0 (0 + (Int.toNat tb3_1)) [(AV.bool true)]), (List.set R1 (0 + (Int.toNat tb3_1)) [(AV.int .i64 tb3_2)]), R2] [(Lf.r t0), (Lf.i t2), (Lf.i t3), (Lf.i t15), (Lf.r t45), (Lf.i t46), (Lf.i t47), (Lf.i tb3_0), (Lf.i tb3_1), (Lf.i tb3_2)]; simp only [rappS_end, Nat.zero_add, Int.toNat_natCast]; exact ((h.2 c13).2.2.2.2 c12).2.2.2.2.2)⟩⟩⟩⟩⟩⟩⟩, trivial⟩⟩, trivial⟩⟩, trivial⟩, ⟨⟨ndI hA (And.intro rfl (by subst hA; show R0[(0 + (Int.toNat tb3_1))]? = some [(AV.bool (cBS R0 (0 + (Int.toNat tb3_1)) 0))]; simp only [rappS_end, Nat.zero_add, Int.toNat_natCast]; exact ((h.2 c13).2.2.2.2 c12).2.2.1)), ⟨⟨⟨ndI hA (And.intro (by subst hA; exact ((h.2 c13).2.2.2.2 c12).1) (And.intro (by subst hA; exact ((h.2 c13).2.2.2.2 c12).2.2.2.1) rfl)), ⟨⟨ndI hA (And.intro rfl (by subst hA; show R1[(0 + (Int.toNat tb3_1))]? = some [(AV.int .i64 (cIS R1 (0 + (Int.toNat tb3_1)) 0))]; simp only [rappS_end, Nat.zero_add, Int.toNat_natCast]; exact ((h.2 c13).2.2.2.2 c12).2.2.2.2.1)), ⟨ndI hA (And.intro (by subst hA; show (List.length R0) = (List.length (List.set R0 (0 + (Int.toNat tb3_1)) [(AV.bool true)])); (first | rfl | simp [rappS_end] | (simp only [rappS_end, List.length_append, List.length_set, List.length_cons, List.length_nil]; omega))) (And.intro rfl (by subst hA; show (List.length R0) = (List.length (List.set R0 (0 + (Int.toNat tb3_1)) [(AV.bool true)])); (first | rfl | simp [rappS_end] | (simp only [rappS_end, List.length_append, List.length_set, List.length_cons, List.length_nil]; omega))))), ⟨ndI hA (And.intro (by subst hA; show (List.length R1) = (List.length (List.set R1 (0 + (Int.toNat tb3_1)) [(AV.int .i64 tb3_2)])); (first | rfl | simp [rappS_end] | (simp only [rappS_end, List.length_append, List.length_set, List.length_cons, List.length_nil]; omega))) (And.intro rfl (by subst hA; show (List.length R1) = (List.length (List.set R1 (0 + (Int.toNat tb3_1)) [(AV.int .i64 tb3_2)])); (first | rfl | simp [rappS_end] | (simp only [rappS_end, List.length_append, List.length_set, List.length_cons, List.length_nil]; omega))))), ⟨ndI hA (And.intro rfl (And.intro rfl rfl)), ⟨ndI hA (by subst hA; exact (vset hp.1 rfl)), ⟨ndI hA (by subst hA; exact (vset hp.2.1 rfl)), ⟨ndI hA (by subst hA; exact hp.2.2.1), (by subst hA; show EV 61 [(List.set R0 (0 + (Int.toNat tb3_1)) [(AV.bool true)]), (List.set R1 (0 + (Int.toNat tb3_1)) [(AV.int .i64 tb3_2)]), R2] [(Lf.r t0), (Lf.i t2), (Lf.i t3), (Lf.i t15), (Lf.r t45), (Lf.i t46), (Lf.i t47), (Lf.i tb3_0), (Lf.i tb3_1), (Lf.i tb3_2)]; simp only [rappS_end, Nat.zero_add, Int.toNat_natCast]; exact ((h.2 c13).2.2.2.2 c12).2.2.2.2.2)⟩⟩⟩⟩⟩⟩⟩, trivial⟩⟩, trivial⟩, trivial⟩⟩, trivial⟩⟩⟩, trivial⟩⟩, ⟨⟨ndI hA (And.intro (by subst hA; exact ((h.2 c13).2.2.2.2 c12).1) (And.intro (by subst hA; exact ((h.2 c13).2.2.2.2 c12).2.1) rfl)), ⟨⟨⟨⟨ndI hA (And.intro rfl (by subst hA; show R0[(0 + (Int.toNat tb3_1))]? = some [(AV.bool (cBS R0 (0 + (Int.toNat tb3_1)) 0))]; simp only [rappS_end, Nat.zero_add, Int.toNat_natCast]; exact ((h.2 c13).2.2.2.2 c12).2.2.1)), ⟨⟨ndI hA (And.intro (by subst hA; exact ((h.2 c13).2.2.2.2 c12).1) (And.intro (by subst hA; exact ((h.2 c13).2.2.2.2 c12).2.2.2.1) rfl)), ⟨⟨ndI hA (And.intro rfl (by subst hA; show R1[(0 + (Int.toNat tb3_1))]? = some [(AV.int .i64 (cIS R1 (0 + (Int.toNat tb3_1)) 0))]; simp only [rappS_end, Nat.zero_add, Int.toNat_natCast]; exact ((h.2 c13).2.2.2.2 c12).2.2.2.2.1)), ⟨ndI hA (And.intro (by subst hA; show (List.length R0) = (List.length (List.set R0 (0 + (Int.toNat tb3_1)) [(AV.bool true)])); (first | rfl | simp [rappS_end] | (simp only [rappS_end, List.length_append, List.length_set, List.length_cons, List.length_nil]; omega))) (And.intro rfl (by subst hA; show (List.length R0) = (List.length (List.set R0 (0 + (Int.toNat tb3_1)) [(AV.bool true)])); (first | rfl | simp [rappS_end] | (simp only [rappS_end, List.length_append, List.length_set, List.length_cons, List.length_nil]; omega))))), ⟨ndI hA (And.intro (by subst hA; show (List.length R1) = (List.length (List.set R1 (0 + (Int.toNat tb3_1)) [(AV.int .i64 tb3_2)])); (first | rfl | simp [rappS_end] | (simp only [rappS_end, List.length_append, List.length_set, List.length_cons, List.length_nil]; omega))) (And.intro rfl (by subst hA; show (List.length R1) = (List.length (List.set R1 (0 + (Int.toNat tb3_1)) [(AV.int .i64 tb3_2)])); (first | rfl | simp [rappS_end] | (simp only [rappS_end, List.length_append, List.length_set, List.length_cons, List.length_nil]; omega))))), ⟨ndI hA (And.intro rfl (And.intro rfl rfl)), ⟨ndI hA (by subst hA; exact (vset hp.1 rfl)), ⟨ndI hA (by subst hA; exact (vset hp.2.1 rfl)), ⟨ndI hA (by subst hA; exact hp.2.2.1), (by subst hA; show EV 61 [(List.set R0 (0 + (Int.toNat tb3_1)) [(AV.bool true)]), (List.set R1 (0 + (Int.toNat tb3_1)) [(AV.int .i64 tb3_2)]), R2] [(Lf.r t0), (Lf.i t2), (Lf.i t3), (Lf.i t15), (Lf.r t45), (Lf.i t46), (Lf.i t47), (Lf.i tb3_0), (Lf.i tb3_1), (Lf.i tb3_2)]; simp only [rappS_end, Nat.zero_add, Int.toNat_natCast]; exact ((h.2 c13).2.2.2.2 c12).2.2.2.2.2)⟩⟩⟩⟩⟩⟩⟩, trivial⟩⟩, trivial⟩⟩, trivial⟩, ⟨⟨ndI hA (And.intro rfl (by subst hA; show R0[(0 + (Int.toNat tb3_1))]? = some [(AV.bool (cBS R0 (0 + (Int.toNat tb3_1)) 0))]; simp only [rappS_end, Nat.zero_add, Int.toNat_natCast]; exact ((h.2 c13).2.2.2.2 c12).2.2.1)), ⟨⟨⟨ndI hA (And.intro (by subst hA; exact ((h.2 c13).2.2.2.2 c12).1) (And.intro (by subst hA; exact ((h.2 c13).2.2.2.2 c12).2.2.2.1) rfl)), ⟨⟨ndI hA (And.intro rfl (by subst hA; show R1[(0 + (Int.toNat tb3_1))]? = some [(AV.int .i64 (cIS R1 (0 + (Int.toNat tb3_1)) 0))]; simp only [rappS_end, Nat.zero_add, Int.toNat_natCast]; exact ((h.2 c13).2.2.2.2 c12).2.2.2.2.1)), ⟨ndI hA (And.intro (by subst hA; show (List.length R0) = (List.length (List.set R0 (0 + (Int.toNat tb3_1)) [(AV.bool true)])); (first | rfl | simp [rappS_end] | (simp only [rappS_end, List.length_append, List.length_set, List.length_cons, List.length_nil]; omega))) (And.intro rfl (by subst hA; show (List.length R0) = (List.length (List.set R0 (0 + (Int.toNat tb3_1)) [(AV.bool true)])); (first | rfl | simp [rappS_end] | (simp only [rappS_end, List.length_append, List.length_set, List.length_cons, List.length_nil]; omega))))), ⟨ndI hA (And.intro (by subst hA; show (List.length R1) = (List.length (List.set R1 (0 + (Int.toNat tb3_1)) [(AV.int .i64 tb3_2)])); (first | rfl | simp [rappS_end] | (simp only [rappS_end, List.length_append, List.length_set, List.length_cons, List.length_nil]; omega))) (And.intro rfl (by subst hA; show (List.length R1) = (List.length (List.set R1 (0 + (Int.toNat tb3_1)) [(AV.int .i64 tb3_2)])); (first | rfl | simp [rappS_end] | (simp only [rappS_end, List.length_append, List.length_set, List.length_cons, List.length_nil]; omega))))), ⟨ndI hA (And.intro rfl (And.intro rfl rfl)), ⟨ndI hA (by subst hA; exact (vset hp.1 rfl)), ⟨ndI hA (by subst hA; exact (vset hp.2.1 rfl)), ⟨ndI hA (by subst hA; exact hp.2.2.1), (by subst hA; show EV 61 [(List.set R0 (0 + (Int.toNat tb3_1)) [(AV.bool true)]), (List.set R1 (0 + (Int.toNat tb3_1)) [(AV.int .i64 tb3_2)]), R2] [(Lf.r t0), (Lf.i t2), (Lf.i t3), (Lf.i t15), (Lf.r t45), (Lf.i t46), (Lf.i t47), (Lf.i tb3_0), (Lf.i tb3_1), (Lf.i tb3_2)]; simp only [rappS_end, Nat.zero_add, Int.toNat_natCast]; exact ((h.2 c13).2.2.2.2 c12).2.2.2.2.2)⟩⟩⟩⟩⟩⟩⟩, trivial⟩⟩, trivial⟩, trivial⟩⟩, trivial⟩⟩, ⟨⟨⟨⟨ndI hA (And.intro rfl (by subst hA; show R0[(0 + (Int.toNat tb3_1))]? = some [(AV.bool (cBS R0 (0 + (Int.toNat tb3_1)) 0))]; simp only [rappS_end, Nat.zero_add, Int.toNat_natCast]; exact ((h.2 c13).2.2.2.2 c12).2.2.1)), ⟨⟨ndI hA (And.intro (by subst hA; exact ((h.2 c13).2.2.2.2 c12).1) (And.intro (by subst hA; exact ((h.2 c13).2.2.2.2 c12).2.2.2.1) rfl)), ⟨⟨ndI hA (And.intro rfl (by subst hA; show R1[(0 + (Int.toNat tb3_1))]? = some [(AV.int .i64 (cIS R1 (0 + (Int.toNat tb3_1)) 0))]; simp only [rappS_end, Nat.zero_add, Int.toNat_natCast]; exact ((h.2 c13).2.2.2.2 c12).2.2.2.2.1)), ⟨ndI hA (And.intro (by subst hA; show (List.length R0) = (List.length (List.set R0 (0 + (Int.toNat tb3_1)) [(AV.bool true)])); (first | rfl | simp [rappS_end] | (simp only [rappS_end, List.length_append, List.length_set, List.length_cons, List.length_nil]; omega))) (And.intro rfl (by subst hA; show (List.length R0) = (List.length (List.set R0 (0 + (Int.toNat tb3_1)) [(AV.bool true)])); (first | rfl | simp [rappS_end] | (simp only [rappS_end, List.length_append, List.length_set, List.length_cons, List.length_nil]; omega))))), ⟨ndI hA (And.intro (by subst hA; show (List.length R1) = (List.length (List.set R1 (0 + (Int.toNat tb3_1)) [(AV.int .i64 tb3_2)])); (first | rfl | simp [rappS_end] | (simp only [rappS_end, List.length_append, List.length_set, List.length_cons, List.length_nil]; omega))) (And.intro rfl (by subst hA; show (List.length R1) = (List.length (List.set R1 (0 + (Int.toNat tb3_1)) [(AV.int .i64 tb3_2)])); (first | rfl | simp [rappS_end] | (simp only [rappS_end, List.length_append, List.length_set, List.length_cons, List.length_nil]; omega))))), ⟨ndI hA (And.intro rfl (And.intro rfl rfl)), ⟨ndI hA (by subst hA; exact (vset hp.1 rfl)), ⟨ndI hA (by subst hA; exact (vset hp.2.1 rfl)), ⟨ndI hA (by subst hA; exact hp.2.2.1), (by subst hA; show EV 61 [(List.set R0 (0 + (Int.toNat tb3_1)) [(AV.bool true)]), (List.set R1 (0 + (Int.toNat tb3_1)) [(AV.int .i64 tb3_2)]), R2] [(Lf.r t0), (Lf.i t2), (Lf.i t3), (Lf.i t15), (Lf.r t45), (Lf.i t46), (Lf.i t47), (Lf.i tb3_0), (Lf.i tb3_1), (Lf.i tb3_2)]; simp only [rappS_end, Nat.zero_add, Int.toNat_natCast]; exact ((h.2 c13).2.2.2.2 c12).2.2.2.2.2)⟩⟩⟩⟩⟩⟩⟩, trivial⟩⟩, trivial⟩⟩, trivial⟩, ⟨⟨ndI hA (And.intro rfl (by subst hA; show R0[(0 + (Int.toNat tb3_1))]? = some [(AV.bool (cBS R0 (0 + (Int.toNat tb3_1)) 0))]; simp only [rappS_end, Nat.zero_add, Int.toNat_natCast]; exact ((h.2 c13).2.2.2.2 c12).2.2.1)), ⟨⟨⟨ndI hA (And.intro (by subst hA; exact ((h.2 c13).2.2.2.2 c12).1) (And.intro (by subst hA; exact ((h.2 c13).2.2.2.2 c12).2.2.2.1) rfl)), ⟨⟨ndI hA (And.intro rfl (by subst hA; show R1[(0 + (Int.toNat tb3_1))]? = some [(AV.int .i64 (cIS R1 (0 + (Int.toNat tb3_1)) 0))]; simp only [rappS_end, Nat.zero_add, Int.toNat_natCast]; exact ((h.2 c13).2.2.2.2 c12).2.2.2.2.1)), ⟨ndI hA (And.intro (by subst hA; show (List.length R0) = (List.length (List.set R0 (0 + (Int.toNat tb3_1)) [(AV.bool true)])); (first | rfl | simp [rappS_end] | (simp only [rappS_end, List.length_append, List.length_set, List.length_cons, List.length_nil]; omega))) (And.intro rfl (by subst hA; show (List.length R0) = (List.length (List.set R0 (0 + (Int.toNat tb3_1)) [(AV.bool true)])); (first | rfl | simp [rappS_end] | (simp only [rappS_end, List.length_append, List.length_set, List.length_cons, List.length_nil]; omega))))), ⟨ndI hA (And.intro (by subst hA; show (List.length R1) = (List.length (List.set R1 (0 + (Int.toNat tb3_1)) [(AV.int .i64 tb3_2)])); (first | rfl | simp [rappS_end] | (simp only [rappS_end, List.length_append, List.length_set, List.length_cons, List.length_nil]; omega))) (And.intro rfl (by subst hA; show (List.length R1) = (List.length (List.set R1 (0 + (Int.toNat tb3_1)) [(AV.int .i64 tb3_2)])); (first | rfl | simp [rappS_end] | (simp only [rappS_end, List.length_append, List.length_set, List.length_cons, List.length_nil]; omega))))), ⟨ndI hA (And.intro rfl (And.intro rfl rfl)), ⟨ndI hA (by subst hA; exact (vset hp.1 rfl)), ⟨ndI hA (by subst hA; exact (vset hp.2.1 rfl)), ⟨ndI hA (by subst hA; exact hp.2.2.1), (by subst hA; show EV 61 [(List.set R0 (0 + (Int.toNat tb3_1)) [(AV.bool true)]), (List.set R1 (0 + (Int.toNat tb3_1)) [(AV.int .i64 tb3_2)]), R2] [(Lf.r t0), (Lf.i t2), (Lf.i t3), (Lf.i t15), (Lf.r t45), (Lf.i t46), (Lf.i t47), (Lf.i tb3_0), (Lf.i tb3_1), (Lf.i tb3_2)]; simp only [rappS_end, Nat.zero_add, Int.toNat_natCast]; exact ((h.2 c13).2.2.2.2 c12).2.2.2.2.2)⟩⟩⟩⟩⟩⟩⟩, trivial⟩⟩, trivial⟩, trivial⟩⟩, trivial⟩⟩, ⟨⟨ndI hA (And.intro rfl (by subst hA; show R0[(0 + (Int.toNat tb3_1))]? = some [(AV.bool (cBS R0 (0 + (Int.toNat tb3_1)) 0))]; simp only [rappS_end, Nat.zero_add, Int.toNat_natCast]; exact ((h.2 c13).2.2.2.2 c12).2.2.1)), ⟨⟨⟨⟨ndI hA (And.intro (by subst hA; exact ((h.2 c13).2.2.2.2 c12).1) (And.intro (by subst hA; exact ((h.2 c13).2.2.2.2 c12).2.2.2.1) rfl)), ⟨⟨ndI hA (And.intro rfl (by subst hA; show R1[(0 + (Int.toNat tb3_1))]? = some [(AV.int .i64 (cIS R1 (0 + (Int.toNat tb3_1)) 0))]; simp only [rappS_end, Nat.zero_add, Int.toNat_natCast]; exact ((h.2 c13).2.2.2.2 c12).2.2.2.2.1)), ⟨ndI hA (And.intro (by subst hA; show (List.length R0) = (List.length (List.set R0 (0 + (Int.toNat tb3_1)) [(AV.bool true)])); (first | rfl | simp [rappS_end] | (simp only [rappS_end, List.length_append, List.length_set, List.length_cons, List.length_nil]; omega))) (And.intro rfl (by subst hA; show (List.length R0) = (List.length (List.set R0 (0 + (Int.toNat tb3_1)) [(AV.bool true)])); (first | rfl | simp [rappS_end] | (simp only [rappS_end, List.length_append, List.length_set, List.length_cons, List.length_nil]; omega))))), ⟨ndI hA (And.intro (by subst hA; show (List.length R1) = (List.length (List.set R1 (0 + (Int.toNat tb3_1)) [(AV.int .i64 tb3_2)])); (first | rfl | simp [rappS_end] | (simp only [rappS_end, List.length_append, List.length_set, List.length_cons, List.length_nil]; omega))) (And.intro rfl (by subst hA; show (List.length R1) = (List.length (List.set R1 (0 + (Int.toNat tb3_1)) [(AV.int .i64 tb3_2)])); (first | rfl | simp [rappS_end] | (simp only [rappS_end, List.length_append, List.length_set, List.length_cons, List.length_nil]; omega))))), ⟨ndI hA (And.intro rfl (And.intro rfl rfl)), ⟨ndI hA (by subst hA; exact (vset hp.1 rfl)), ⟨ndI hA (by subst hA; exact (vset hp.2.1 rfl)), ⟨ndI hA (by subst hA; exact hp.2.2.1), (by subst hA; show EV 61 [(List.set R0 (0 + (Int.toNat tb3_1)) [(AV.bool true)]), (List.set R1 (0 + (Int.toNat tb3_1)) [(AV.int .i64 tb3_2)]), R2] [(Lf.r t0), (Lf.i t2), (Lf.i t3), (Lf.i t15), (Lf.r t45), (Lf.i t46), (Lf.i t47), (Lf.i tb3_0), (Lf.i tb3_1), (Lf.i tb3_2)]; simp only [rappS_end, Nat.zero_add, Int.toNat_natCast]; exact ((h.2 c13).2.2.2.2 c12).2.2.2.2.2)⟩⟩⟩⟩⟩⟩⟩, trivial⟩⟩, trivial⟩, trivial⟩, ⟨⟨⟨⟨ndI hA (And.intro (by subst hA; exact ((h.2 c13).2.2.2.2 c12).1) (And.intro (by subst hA; exact ((h.2 c13).2.2.2.2 c12).2.2.2.1) rfl)), ⟨⟨ndI hA (And.intro rfl (by subst hA; show R1[(0 + (Int.toNat tb3_1))]? = some [(AV.int .i64 (cIS R1 (0 + (Int.toNat tb3_1)) 0))]; simp only [rappS_end, Nat.zero_add, Int.toNat_natCast]; exact ((h.2 c13).2.2.2.2 c12).2.2.2.2.1)), ⟨ndI hA (And.intro (by subst hA; show (List.length R0) = (List.length (List.set R0 (0 + (Int.toNat tb3_1)) [(AV.bool true)])); (first | rfl | simp [rappS_end] | (simp only [rappS_end, List.length_append, List.length_set, List.length_cons, List.length_nil]; omega))) (And.intro rfl (by subst hA; show (List.length R0) = (List.length (List.set R0 (0 + (Int.toNat tb3_1)) [(AV.bool true)])); (first | rfl | simp [rappS_end] | (simp only [rappS_end, List.length_append, List.length_set, List.length_cons, List.length_nil]; omega))))), ⟨ndI hA (And.intro (by subst hA; show (List.length R1) = (List.length (List.set R1 (0 + (Int.toNat tb3_1)) [(AV.int .i64 tb3_2)])); (first | rfl | simp [rappS_end] | (simp only [rappS_end, List.length_append, List.length_set, List.length_cons, List.length_nil]; omega))) (And.intro rfl (by subst hA; show (List.length R1) = (List.length (List.set R1 (0 + (Int.toNat tb3_1)) [(AV.int .i64 tb3_2)])); (first | rfl | simp [rappS_end] | (simp only [rappS_end, List.length_append, List.length_set, List.length_cons, List.length_nil]; omega))))), ⟨ndI hA (And.intro rfl (And.intro rfl rfl)), ⟨ndI hA (by subst hA; exact (vset hp.1 rfl)), ⟨ndI hA (by subst hA; exact (vset hp.2.1 rfl)), ⟨ndI hA (by subst hA; exact hp.2.2.1), (by subst hA; show EV 61 [(List.set R0 (0 + (Int.toNat tb3_1)) [(AV.bool true)]), (List.set R1 (0 + (Int.toNat tb3_1)) [(AV.int .i64 tb3_2)]), R2] [(Lf.r t0), (Lf.i t2), (Lf.i t3), (Lf.i t15), (Lf.r t45), (Lf.i t46), (Lf.i t47), (Lf.i tb3_0), (Lf.i tb3_1), (Lf.i tb3_2)]; simp only [rappS_end, Nat.zero_add, Int.toNat_natCast]; exact ((h.2 c13).2.2.2.2 c12).2.2.2.2.2)⟩⟩⟩⟩⟩⟩⟩, trivial⟩⟩, trivial⟩, trivial⟩, trivial⟩⟩⟩, trivial⟩⟩⟩⟩, trivial⟩⟩⟩, ⟨⟨⟨⟨⟨ndI hA (And.intro (by subst hA; exact ((h.2 c13).2.2.2.2 c12).1) (And.intro (by subst hA; exact ((h.2 c13).2.2.2.2 c12).2.1) rfl)), ⟨⟨ndI hA (And.intro rfl (by subst hA; show R0[(0 + (Int.toNat tb3_1))]? = some [(AV.bool (cBS R0 (0 + (Int.toNat tb3_1)) 0))]; simp only [rappS_end, Nat.zero_add, Int.toNat_natCast]; exact ((h.2 c13).2.2.2.2 c12).2.2.1)), ⟨⟨ndI hA (And.intro (by subst hA; exact ((h.2 c13).2.2.2.2 c12).1) (And.intro (by subst hA; exact ((h.2 c13).2.2.2.2 c12).2.2.2.1) rfl)), ⟨⟨ndI hA (And.intro rfl (by subst hA; show R1[(0 + (Int.toNat tb3_1))]? = some [(AV.int .i64 (cIS R1 (0 + (Int.toNat tb3_1)) 0))]; simp only [rappS_end, Nat.zero_add, Int.toNat_natCast]; exact ((h.2 c13).2.2.2.2 c12).2.2.2.2.1)), ⟨ndI hA (And.intro (by subst hA; show (List.length R0) = (List.length (List.set R0 (0 + (Int.toNat tb3_1)) [(AV.bool true)])); (first | rfl | simp [rappS_end] | (simp only [rappS_end, List.length_append, List.length_set, List.length_cons, List.length_nil]; omega))) (And.intro rfl (by subst hA; show (List.length R0) = (List.length (List.set R0 (0 + (Int.toNat tb3_1)) [(AV.bool true)])); (first | rfl | simp [rappS_end] | (simp only [rappS_end, List.length_append, List.length_set, List.length_cons, List.length_nil]; omega))))), ⟨ndI hA (And.intro (by subst hA; show (List.length R1) = (List.length (List.set R1 (0 + (Int.toNat tb3_1)) [(AV.int .i64 tb3_2)])); (first | rfl | simp [rappS_end] | (simp only [rappS_end, List.length_append, List.length_set, List.length_cons, List.length_nil]; omega))) (And.intro rfl (by subst hA; show (List.length R1) = (List.length (List.set R1 (0 + (Int.toNat tb3_1)) [(AV.int .i64 tb3_2)])); (first | rfl | simp [rappS_end] | (simp only [rappS_end, List.length_append, List.length_set, List.length_cons, List.length_nil]; omega))))), ⟨ndI hA (And.intro rfl (And.intro rfl rfl)), ⟨ndI hA (by subst hA; exact (vset hp.1 rfl)), ⟨ndI hA (by subst hA; exact (vset hp.2.1 rfl)), ⟨ndI hA (by subst hA; exact hp.2.2.1), (by subst hA; show EV 61 [(List.set R0 (0 + (Int.toNat tb3_1)) [(AV.bool true)]), (List.set R1 (0 + (Int.toNat tb3_1)) [(AV.int .i64 tb3_2)]), R2] [(Lf.r t0), (Lf.i t2), (Lf.i t3), (Lf.i t15), (Lf.r t45), (Lf.i t46), (Lf.i t47), (Lf.i tb3_0), (Lf.i tb3_1), (Lf.i tb3_2)]; simp only [rappS_end, Nat.zero_add, Int.toNat_natCast]; exact ((h.2 c13).2.2.2.2 c12).2.2.2.2.2)⟩⟩⟩⟩⟩⟩⟩, trivial⟩⟩, trivial⟩⟩, trivial⟩⟩, trivial⟩, ⟨⟨ndI hA (And.intro (by subst hA; exact ((h.2 c13).2.2.2.2 c12).1) (And.intro (by subst hA; exact ((h.2 c13).2.2.2.2 c12).2.1) rfl)), ⟨⟨⟨ndI hA (And.intro rfl (by subst hA; show R0[(0 + (Int.toNat tb3_1))]? = some [(AV.bool (cBS R0 (0 + (Int.toNat tb3_1)) 0))]; simp only [rappS_end, Nat.zero_add, Int.toNat_natCast]; exact ((h.2 c13).2.2.2.2 c12).2.2.1)), ⟨⟨ndI hA (And.intro (by subst hA; exact ((h.2 c13).2.2.2.2 c12).1) (And.intro (by subst hA; exact ((h.2 c13).2.2.2.2 c12).2.2.2.1) rfl)), ⟨⟨ndI hA (And.intro rfl (by subst hA; show R1[(0 + (Int.toNat tb3_1))]? = some [(AV.int .i64 (cIS R1 (0 + (Int.toNat tb3_1)) 0))]; simp only [rappS_end, Nat.zero_add, Int.toNat_natCast]; exact ((h.2 c13).2.2.2.2 c12).2.2.2.2.1)), ⟨ndI hA (And.intro (by subst hA; show (List.length R0) = (List.length (List.set R0 (0 + (Int.toNat tb3_1)) [(AV.bool true)])); (first | rfl | simp [rappS_end] | (simp only [rappS_end, List.length_append, List.length_set, List.length_cons, List.length_nil]; omega))) (And.intro rfl (by subst hA; show (List.length R0) = (List.length (List.set R0 (0 + (Int.toNat tb3_1)) [(AV.bool true)])); (first | rfl | simp [rappS_end] | (simp only [rappS_end, List.length_append, List.length_set, List.length_cons, List.length_nil]; omega))))), ⟨ndI hA (And.intro (by subst hA; show (List.length R1) = (List.length (List.set R1 (0 + (Int.toNat tb3_1)) [(AV.int .i64 tb3_2)])); (first | rfl | simp [rappS_end] | (simp only [rappS_end, List.length_append, List.length_set, List.length_cons, List.length_nil]; omega))) (And.intro rfl (by subst hA; show (List.length R1) = (List.length (List.set R1 (0 + (Int.toNat tb3_1)) [(AV.int .i64 tb3_2)])); (first | rfl | simp [rappS_end] | (simp only [rappS_end, List.length_append, List.length_set, List.length_cons, List.length_nil]; omega))))), ⟨ndI hA (And.intro rfl (And.intro rfl rfl)), ⟨ndI hA (by subst hA; exact (vset hp.1 rfl)), ⟨ndI hA (by subst hA; exact (vset hp.2.1 rfl)), ⟨ndI hA (by subst hA; exact hp.2.2.1), (by subst hA; show EV 61 [(List.set R0 (0 + (Int.toNat tb3_1)) [(AV.bool true)]), (List.set R1 (0 + (Int.toNat tb3_1)) [(AV.int .i64 tb3_2)]), R2] [(Lf.r t0), (Lf.i t2), (Lf.i t3), (Lf.i t15), (Lf.r t45), (Lf.i t46), (Lf.i t47), (Lf.i tb3_0), (Lf.i tb3_1), (Lf.i tb3_2)]; simp only [rappS_end, Nat.zero_add, Int.toNat_natCast]; exact ((h.2 c13).2.2.2.2 c12).2.2.2.2.2)⟩⟩⟩⟩⟩⟩⟩, trivial⟩⟩, trivial⟩⟩, trivial⟩, ⟨⟨ndI hA (And.intro rfl (by subst hA; show R0[(0 + (Int.toNat tb3_1))]? = some [(AV.bool (cBS R0 (0 + (Int.toNat tb3_1)) 0))]; simp only [rappS_end, Nat.zero_add, Int.toNat_natCast]; exact ((h.2 c13).2.2.2.2 c12).2.2.1)), ⟨⟨⟨ndI hA (And.intro (by subst hA; exact ((h.2 c13).2.2.2.2 c12).1) (And.intro (by subst hA; exact ((h.2 c13).2.2.2.2 c12).2.2.2.1) rfl)), ⟨⟨ndI hA (And.intro rfl (by subst hA; show R1[(0 + (Int.toNat tb3_1))]? = some [(AV.int .i64 (cIS R1 (0 + (Int.toNat tb3_1)) 0))]; simp only [rappS_end, Nat.zero_add, Int.toNat_natCast]; exact ((h.2 c13).2.2.2.2 c12).2.2.2.2.1)), ⟨ndI hA (And.intro (by subst hA; show (List.length R0) = (List.length (List.set R0 (0 + (Int.toNat tb3_1)) [(AV.bool true)])); (first | rfl | simp [rappS_end] | (simp only [rappS_end, List.length_append, List.length_set, List.length_cons, List.length_nil]; omega))) (And.intro rfl (by subst hA; show (List.length R0) = (List.length (List.set R0 (0 + (Int.toNat tb3_1)) [(AV.bool true)])); (first | rfl | simp [rappS_end] | (simp only [rappS_end, List.length_append, List.length_set, List.length_cons, List.length_nil]; omega))))), ⟨ndI hA (And.intro (by subst hA; show (List.length R1) = (List.length (List.set R1 (0 + (Int.toNat tb3_1)) [(AV.int .i64 tb3_2)])); (first | rfl | simp [rappS_end] | (simp only [rappS_end, List.length_append, List.length_set, List.length_cons, List.length_nil]; omega))) (And.intro rfl (by subst hA; show (List.length R1) = (List.length (List.set R1 (0 + (Int.toNat tb3_1)) [(AV.int .i64 tb3_2)])); (first | rfl | simp [rappS_end] | (simp only [rappS_end, List.length_append, List.length_set, List.length_cons, List.length_nil]; omega))))), ⟨ndI hA (And.intro rfl (And.intro rfl rfl)), ⟨ndI hA (by subst hA; exact (vset hp.1 rfl)), ⟨ndI hA (by subst hA; exact (vset hp.2.1 rfl)), ⟨ndI hA (by subst hA; exact hp.2.2.1), (by subst hA; show EV 61 [(List.set R0 (0 + (Int.toNat tb3_1)) [(AV.bool true)]), (List.set R1 (0 + (Int.toNat tb3_1)) [(AV.int .i64 tb3_2)]), R2] [(Lf.r t0), (Lf.i t2), (Lf.i t3), (Lf.i t15), (Lf.r t45), (Lf.i t46), (Lf.i t47), (Lf.i tb3_0), (Lf.i tb3_1), (Lf.i tb3_2)]; simp only [rappS_end, Nat.zero_add, Int.toNat_natCast]; exact ((h.2 c13).2.2.2.2 c12).2.2.2.2.2)⟩⟩⟩⟩⟩⟩⟩, trivial⟩⟩, trivial⟩, trivial⟩⟩, trivial⟩⟩⟩, trivial⟩⟩, ⟨⟨⟨⟨ndI hA (And.intro (by subst hA; exact ((h.2 c13).2.2.2.2 c12).1) (And.intro (by subst hA; exact ((h.2 c13).2.2.2.2 c12).2.1) rfl)), ⟨⟨ndI hA (And.intro rfl (by subst hA; show R0[(0 + (Int.toNat tb3_1))]? = some [(AV.bool (cBS R0 (0 + (Int.toNat tb3_1)) 0))]; simp only [rappS_end, Nat.zero_add, Int.toNat_natCast]; exact ((h.2 c13).2.2.2.2 c12).2.2.1)), ⟨⟨ndI hA (And.intro (by subst hA; exact ((h.2 c13).2.2.2.2 c12).1) (And.intro (by subst hA; exact ((h.2 c13).2.2.2.2 c12).2.2.2.1) rfl)), ⟨⟨ndI hA (And.intro rfl (by subst hA; show R1[(0 + (Int.toNat tb3_1))]? = some [(AV.int .i64 (cIS R1 (0 + (Int.toNat tb3_1)) 0))]; simp only [rappS_end, Nat.zero_add, Int.toNat_natCast]; exact ((h.2 c13).2.2.2.2 c12).2.2.2.2.1)), ⟨ndI hA (And.intro (by subst hA; show (List.length R0) = (List.length (List.set R0 (0 + (Int.toNat tb3_1)) [(AV.bool true)])); (first | rfl | simp [rappS_end] | (simp only [rappS_end, List.length_append, List.length_set, List.length_cons, List.length_nil]; omega))) (And.intro rfl (by subst hA; show (List.length R0) = (List.length (List.set R0 (0 + (Int.toNat tb3_1)) [(AV.bool true)])); (first | rfl | simp [rappS_end] | (simp only [rappS_end, List.length_append, List.length_set, List.length_cons, List.length_nil]; omega))))), ⟨ndI hA (And.intro (by subst hA; show (List.length R1) = (List.length (List.set R1 (0 + (Int.toNat tb3_1)) [(AV.int .i64 tb3_2)])); (first | rfl | simp [rappS_end] | (simp only [rappS_end, List.length_append, List.length_set, List.length_cons, List.length_nil]; omega))) (And.intro rfl (by subst hA; show (List.length R1) = (List.length (List.set R1 (0 + (Int.toNat tb3_1)) [(AV.int .i64 tb3_2)])); (first | rfl | simp [rappS_end] | (simp only [rappS_end, List.length_append, List.length_set, List.length_cons, List.length_nil]; omega))))), ⟨ndI hA (And.intro rfl (And.intro rfl rfl)), ⟨ndI hA (by subst hA; exact (vset hp.1 rfl)), ⟨ndI hA (by subst hA; exact (vset hp.2.1 rfl)), ⟨ndI hA (by subst hA; exact hp.2.2.1), (by subst hA; show EV 61 [(List.set R0 (0 + (Int.toNat tb3_1)) [(AV.bool true)]), (List.set R1 (0 + (Int.toNat tb3_1)) [(AV.int .i64 tb3_2)]), R2] [(Lf.r t0), (Lf.i t2), (Lf.i t3), (Lf.i t15), (Lf.r t45), (Lf.i t46), (Lf.i t47), (Lf.i tb3_0), (Lf.i tb3_1), (Lf.i tb3_2)]; simp only [rappS_end, Nat.zero_add, Int.toNat_natCast]; exact ((h.2 c13).2.2.2.2 c12).2.2.2.2.2)⟩⟩⟩⟩⟩⟩⟩, trivial⟩⟩, trivial⟩⟩, trivial⟩⟩, trivial⟩, trivial⟩, trivial⟩⟩, ⟨⟨⟨⟨⟨ndI hA (And.intro (by subst hA; exact ((h.2 c13).2.2.2.2 c12).1) (And.intro (by subst hA; exact ((h.2 c13).2.2.2.2 c12).2.1) rfl)), ⟨⟨ndI hA (And.intro rfl (by subst hA; show R0[(0 + (Int.toNat tb3_1))]? = some [(AV.bool (cBS R0 (0 + (Int.toNat tb3_1)) 0))]; simp only [rappS_end, Nat.zero_add, Int.toNat_natCast]; exact ((h.2 c13).2.2.2.2 c12).2.2.1)), ⟨⟨ndI hA (And.intro (by subst hA; exact ((h.2 c13).2.2.2.2 c12).1) (And.intro (by subst hA; exact ((h.2 c13).2.2.2.2 c12).2.2.2.1) rfl)), ⟨⟨ndI hA (And.intro rfl (by subst hA; show R1[(0 + (Int.toNat tb3_1))]? = some [(AV.int .i64 (cIS R1 (0 + (Int.toNat tb3_1)) 0))]; simp only [rappS_end, Nat.zero_add, Int.toNat_natCast]; exact ((h.2 c13).2.2.2.2 c12).2.2.2.2.1)), ⟨ndI hA (And.intro (by subst hA; show (List.length R0) = (List.length (List.set R0 (0 + (Int.toNat tb3_1)) [(AV.bool true)])); (first | rfl | simp [rappS_end] | (simp only [rappS_end, List.length_append, List.length_set, List.length_cons, List.length_nil]; omega))) (And.intro rfl (by subst hA; show (List.length R0) = (List.length (List.set R0 (0 + (Int.toNat tb3_1)) [(AV.bool true)])); (first | rfl | simp [rappS_end] | (simp only [rappS_end, List.length_append, List.length_set, List.length_cons, List.length_nil]; omega))))), ⟨ndI hA (And.intro (by subst hA; show (List.length R1) = (List.length (List.set R1 (0 + (Int.toNat tb3_1)) [(AV.int .i64 tb3_2)])); (first | rfl | simp [rappS_end] | (simp only [rappS_end, List.length_append, List.length_set, List.length_cons, List.length_nil]; omega))) (And.intro rfl (by subst hA; show (List.length R1) = (List.length (List.set R1 (0 + (Int.toNat tb3_1)) [(AV.int .i64 tb3_2)])); (first | rfl | simp [rappS_end] | (simp only [rappS_end, List.length_append, List.length_set, List.length_cons, List.length_nil]; omega))))), ⟨ndI hA (And.intro rfl (And.intro rfl rfl)), ⟨ndI hA (by subst hA; exact (vset hp.1 rfl)), ⟨ndI hA (by subst hA; exact (vset hp.2.1 rfl)), ⟨ndI hA (by subst hA; exact hp.2.2.1), (by subst hA; show EV 61 [(List.set R0 (0 + (Int.toNat tb3_1)) [(AV.bool true)]), (List.set R1 (0 + (Int.toNat tb3_1)) [(AV.int .i64 tb3_2)]), R2] [(Lf.r t0), (Lf.i t2), (Lf.i t3), (Lf.i t15), (Lf.r t45), (Lf.i t46), (Lf.i t47), (Lf.i tb3_0), (Lf.i tb3_1), (Lf.i tb3_2)]; simp only [rappS_end, Nat.zero_add, Int.toNat_natCast]; exact ((h.2 c13).2.2.2.2 c12).2.2.2.2.2)⟩⟩⟩⟩⟩⟩⟩, trivial⟩⟩, trivial⟩⟩, trivial⟩⟩, trivial⟩, ⟨⟨ndI hA (And.intro (by subst hA; exact ((h.2 c13).2.2.2.2 c12).1) (And.intro (by subst hA; exact ((h.2 c13).2.2.2.2 c12).2.1) rfl)), ⟨⟨⟨ndI hA (And.intro rfl (by subst hA; show R0[(0 + (Int.toNat tb3_1))]? = some [(AV.bool (cBS R0 (0 + (Int.toNat tb3_1)) 0))]; simp only [rappS_end, Nat.zero_add, Int.toNat_natCast]; exact ((h.2 c13).2.2.2.2 c12).2.2.1)), ⟨⟨ndI hA (And.intro (by subst hA; exact ((h.2 c13).2.2.2.2 c12).1) (And.intro (by subst hA; exact ((h.2 c13).2.2.2.2 c12).2.2.2.1) rfl)), ⟨⟨ndI hA (And.intro rfl (by subst hA; show R1[(0 + (Int.toNat tb3_1))]? = some [(AV.int .i64 (cIS R1 (0 + (Int.toNat tb3_1)) 0))]; simp only [rappS_end, Nat.zero_add, Int.toNat_natCast]; exact ((h.2 c13).2.2.2.2 c12).2.2.2.2.1)), ⟨ndI hA (And.intro (by subst hA; show (List.length R0) = (List.length (List.set R0 (0 + (Int.toNat tb3_1)) [(AV.bool true)])); (first | rfl | simp [rappS_end] | (simp only [rappS_end, List.length_append, List.length_set, List.length_cons, List.length_nil]; omega))) (And.intro rfl (by subst hA; show (List.length R0) = (List.length (List.set R0 (0 + (Int.toNat tb3_1)) [(AV.bool true)])); (first | rfl | simp [rappS_end] | (simp only [rappS_end, List.length_append, List.length_set, List.length_cons, List.length_nil]; omega))))), ⟨ndI hA (And.intro (by subst hA; show (List.length R1) = (List.length (List.set R1 (0 + (Int.toNat tb3_1)) [(AV.int .i64 tb3_2)])); (first | rfl | simp [rappS_end] | (simp only [rappS_end, List.length_append, List.length_set, List.length_cons, List.length_nil]; omega))) (And.intro rfl (by subst hA; show (List.length R1) = (List.length (List.set R1 (0 + (Int.toNat tb3_1)) [(AV.int .i64 tb3_2)])); (first | rfl | simp [rappS_end] | (simp only [rappS_end, List.length_append, List.length_set, List.length_cons, List.length_nil]; omega))))), ⟨ndI hA (And.intro rfl (And.intro rfl rfl)), ⟨ndI hA (by subst hA; exact (vset hp.1 rfl)), ⟨ndI hA (by subst hA; exact (vset hp.2.1 rfl)), ⟨ndI hA (by subst hA; exact hp.2.2.1), (by subst hA; show EV 61 [(List.set R0 (0 + (Int.toNat tb3_1)) [(AV.bool true)]), (List.set R1 (0 + (Int.toNat tb3_1)) [(AV.int .i64 tb3_2)]), R2] [(Lf.r t0), (Lf.i t2), (Lf.i t3), (Lf.i t15), (Lf.r t45), (Lf.i t46), (Lf.i t47), (Lf.i tb3_0), (Lf.i tb3_1), (Lf.i tb3_2)]; simp only [rappS_end, Nat.zero_add, Int.toNat_natCast]; exact ((h.2 c13).2.2.2.2 c12).2.2.2.2.2)⟩⟩⟩⟩⟩⟩⟩, trivial⟩⟩, trivial⟩⟩, trivial⟩, ⟨⟨ndI hA (And.intro rfl (by subst hA; show R0[(0 + (Int.toNat tb3_1))]? = some [(AV.bool (cBS R0 (0 + (Int.toNat tb3_1)) 0))]; simp only [rappS_end, Nat.zero_add, Int.toNat_natCast]; exact ((h.2 c13).2.2.2.2 c12).2.2.1)), ⟨⟨⟨ndI hA (And.intro (by subst hA; exact ((h.2 c13).2.2.2.2 c12).1) (And.intro (by subst hA; exact ((h.2 c13).2.2.2.2 c12).2.2.2.1) rfl)), ⟨⟨ndI hA (And.intro rfl (by subst hA; show R1[(0 + (Int.toNat tb3_1))]? = some [(AV.int .i64 (cIS R1 (0 + (Int.toNat tb3_1)) 0))]; simp only [rappS_end, Nat.zero_add, Int.toNat_natCast]; exact ((h.2 c13).2.2.2.2 c12).2.2.2.2.1)), ⟨ndI hA (And.intro (by subst hA; show (List.length R0) = (List.length (List.set R0 (0 + (Int.toNat tb3_1)) [(AV.bool true)])); (first | rfl | simp [rappS_end] | (simp only [rappS_end, List.length_append, List.length_set, List.length_cons, List.length_nil]; omega))) (And.intro rfl (by subst hA; show (List.length R0) = (List.length (List.set R0 (0 + (Int.toNat tb3_1)) [(AV.bool true)])); (first | rfl | simp [rappS_end] | (simp only [rappS_end, List.length_append, List.length_set, List.length_cons, List.length_nil]; omega))))), ⟨ndI hA (And.intro (by subst hA; show (List.length R1) = (List.length (List.set R1 (0 + (Int.toNat tb3_1)) [(AV.int .i64 tb3_2)])); (first | rfl | simp [rappS_end] | (simp only [rappS_end, List.length_append, List.length_set, List.length_cons, List.length_nil]; omega))) (And.intro rfl (by subst hA; show (List.length R1) = (List.length (List.set R1 (0 + (Int.toNat tb3_1)) [(AV.int .i64 tb3_2)])); (first | rfl | simp [rappS_end] | (simp only [rappS_end, List.length_append, List.length_set, List.length_cons, List.length_nil]; omega))))), ⟨ndI hA (And.intro rfl (And.intro rfl rfl)), ⟨ndI hA (by subst hA; exact (vset hp.1 rfl)), ⟨ndI hA (by subst hA; exact (vset hp.2.1 rfl)), ⟨ndI hA (by subst hA; exact hp.2.2.1), (by subst hA; show EV 61 [(List.set R0 (0 + (Int.toNat tb3_1)) [(AV.bool true)]), (List.set R1 (0 + (Int.toNat tb3_1)) [(AV.int .i64 tb3_2)]), R2] [(Lf.r t0), (Lf.i t2), (Lf.i t3), (Lf.i t15), (Lf.r t45), (Lf.i t46), (Lf.i t47), (Lf.i tb3_0), (Lf.i tb3_1), (Lf.i tb3_2)]; simp only [rappS_end, Nat.zero_add, Int.toNat_natCast]; exact ((h.2 c13).2.2.2.2 c12).2.2.2.2.2)⟩⟩⟩⟩⟩⟩⟩, trivial⟩⟩, trivial⟩, trivial⟩⟩, trivial⟩⟩⟩, trivial⟩⟩, ⟨⟨⟨⟨ndI hA (And.intro (by subst hA; exact ((h.2 c13).2.2.2.2 c12).1) (And.intro (by subst hA; exact ((h.2 c13).2.2.2.2 c12).2.1) rfl)), ⟨⟨ndI hA (And.intro rfl (by subst hA; show R0[(0 + (Int.toNat tb3_1))]? = some [(AV.bool (cBS R0 (0 + (Int.toNat tb3_1)) 0))]; simp only [rappS_end, Nat.zero_add, Int.toNat_natCast]; exact ((h.2 c13).2.2.2.2 c12).2.2.1)), ⟨⟨ndI hA (And.intro (by subst hA; exact ((h.2 c13).2.2.2.2 c12).1) (And.intro (by subst hA; exact ((h.2 c13).2.2.2.2 c12).2.2.2.1) rfl)), ⟨⟨ndI hA (And.intro rfl (by subst hA; show R1[(0 + (Int.toNat tb3_1))]? = some [(AV.int .i64 (cIS R1 (0 + (Int.toNat tb3_1)) 0))]; simp only [rappS_end, Nat.zero_add, Int.toNat_natCast]; exact ((h.2 c13).2.2.2.2 c12).2.2.2.2.1)), ⟨ndI hA (And.intro (by subst hA; show (List.length R0) = (List.length (List.set R0 (0 + (Int.toNat tb3_1)) [(AV.bool true)])); (first | rfl | simp [rappS_end] | (simp only [rappS_end, List.length_append, List.length_set, List.length_cons, List.length_nil]; omega))) (And.intro rfl (by subst hA; show (List.length R0) = (List.length (List.set R0 (0 + (Int.toNat tb3_1)) [(AV.bool true)])); (first | rfl | simp [rappS_end] | (simp only [rappS_end, List.length_append, List.length_set, List.length_cons, List.length_nil]; omega))))), ⟨ndI hA (And.intro (by subst hA; show (List.length R1) = (List.length (List.set R1 (0 + (Int.toNat tb3_1)) [(AV.int .i64 tb3_2)])); (first | rfl | simp [rappS_end] | (simp only [rappS_end, List.length_append, List.length_set, List.length_cons, List.length_nil]; omega))) (And.intro rfl (by subst hA; show (List.length R1) = (List.length (List.set R1 (0 + (Int.toNat tb3_1)) [(AV.int .i64 tb3_2)])); (first | rfl | simp [rappS_end] | (simp only [rappS_end, List.length_append, List.length_set, List.length_cons, List.length_nil]; omega))))), ⟨ndI hA (And.intro rfl (And.intro rfl rfl)), ⟨ndI hA (by subst hA; exact (vset hp.1 rfl)), ⟨ndI hA (by subst hA; exact (vset hp.2.1 rfl)), ⟨ndI hA (by subst hA; exact hp.2.2.1), (by subst hA; show EV 61 [(List.set R0 (0 + (Int.toNat tb3_1)) [(AV.bool true)]), (List.set R1 (0 + (Int.toNat tb3_1)) [(AV.int .i64 tb3_2)]), R2] [(Lf.r t0), (Lf.i t2), (Lf.i t3), (Lf.i t15), (Lf.r t45), (Lf.i t46), (Lf.i t47), (Lf.i tb3_0), (Lf.i tb3_1), (Lf.i tb3_2)]; simp only [rappS_end, Nat.zero_add, Int.toNat_natCast]; exact ((h.2 c13).2.2.2.2 c12).2.2.2.2.2)⟩⟩⟩⟩⟩⟩⟩, trivial⟩⟩, trivial⟩⟩, trivial⟩⟩, trivial⟩, trivial⟩, trivial⟩⟩, trivial⟩⟩⟩⟩⟩⟩⟩

set_option maxHeartbeats 2000000 in
theorem V3_p61 (W : Wk Try.prog Try.f3 I3 L3 Q A sg CE CK Dn EV RR) {R0 : List (List AV)} {R1 : List (List AV)} {R2 : List (List AV)} {t0 : List (List AV)} {t2 : Int} {t3 : Int} {t15 : Int} {t45 : List (List AV)} {t46 : Int} {t47 : Int} {tb3_0 : Int} {tb3_1 : Int} {tb3_2 : Int} (h : pursS R0 = true → pursS R1 = true → pursS R2 = true → 
    EC Try.prog G11 [R2] [(Lf.i tb3_1), (Lf.i tb3_2)] (fun x rs vs => (x = 0 ∧ ∃ (Y14_0 : List (List AV)) (y14_0 : Int), rs = [Y14_0] ∧ vs = [.i y14_0] ∧
      ((y14_0 ≠ t15 →
          Q 0 [] [(Lf.b false)]) ∧
        (y14_0 = t15 →
          EV 125 [R0, R1, Y14_0] [(Lf.r t0), (Lf.i t2), (Lf.i t3), (Lf.r t45), (Lf.i t46), (Lf.i t47)]))))) :
    EV 61 [R0, R1, R2] [.r t0, .i t2, .i t3, .i t15, .r t45, .i t46, .i t47, .i tb3_0, .i tb3_1, .i tb3_2] := by
  have hA := W.hA
  refine W.step 80 fun hp => ?_
  have h := h hp.1 hp.2.1 hp.2.2.1
  cbv
  refine ⟨ndI hA (And.intro rfl (And.intro rfl rfl)), ⟨ndI hA (by subst hA; exact hp.2.2.1), ?_⟩⟩
  · refine W.call 80 (by rfl) h (by subst hA; rfl) (by subst hA; rfl) ?_
    rintro x rs vs hp14 hq14
    rcases hq14 with ⟨rfl, Y14_0, y14_0, rfl, rfl, k14⟩
    · cbv
      refine ⟨imI hA fun e15 => have c15 : y14_0 ≠ t15 := (by have q := (cmpE (op := .neq) hA e15); subst hA; exact q); (by rw [W.rr]; exact (by subst hA; exact (k14.1 c15))), imI hA fun e16 => have c16 : y14_0 = t15 := (by have q := (cmpE (op := .neq) hA e16); subst hA; exact q); ⟨ndI hA (And.intro rfl (And.intro rfl rfl)), ⟨ndI hA (And.intro rfl (And.intro rfl rfl)), ⟨ndI hA (And.intro rfl (And.intro rfl rfl)), ⟨ndI hA (by subst hA; exact hp.1), ⟨ndI hA (by subst hA; exact hp.2.1), ⟨ndI hA (by subst hA; exact hp14.1), (by subst hA; exact (k14.2 c16))⟩⟩⟩⟩⟩⟩⟩

set_option maxHeartbeats 2000000 in
theorem V3_p71 (W : Wk Try.prog Try.f3 I3 L3 Q A sg CE CK Dn EV RR) {R0 : List (List AV)} {R1 : List (List AV)} {R2 : List (List AV)} {t0 : List (List AV)} {t2 : Int} {t3 : Int} {t14 : Bool} {t15 : Int} {t45 : List (List AV)} {t46 : Int} {t47 : Int} {tb3_0 : Int} {tb3_1 : Int} {tb3_2 : Int} (h : pursS R0 = true → pursS R1 = true → pursS R2 = true → 
    (t14 = false →
      EV 82 [R0, R1, R2] [(Lf.r t0), (Lf.i t2), (Lf.i t3), (Lf.i (6 : Int)), (Lf.r t45), (Lf.i t46), (Lf.i t47), (Lf.i tb3_0), (Lf.i tb3_1), (Lf.i tb3_2)]) ∧
    (t14 = true →
      ((0 : Int) ≤ tb3_1) ∧
      (tb3_1 < (((List.length R0) : Nat) : Int)) ∧
      (R0[(Int.toNat tb3_1)]? = some [(AV.bool (cBS R0 (Int.toNat tb3_1) 0))]) ∧
      ((cBS R0 (Int.toNat tb3_1) 0) = false →
        EV 82 [R0, R1, R2] [(Lf.r t0), (Lf.i t2), (Lf.i t3), (Lf.i (8 : Int)), (Lf.r t45), (Lf.i t46), (Lf.i t47), (Lf.i tb3_0), (Lf.i tb3_1), (Lf.i tb3_2)]) ∧
      ((cBS R0 (Int.toNat tb3_1) 0) = true →
        ((0 : Int) ≤ tb3_1) ∧
        (tb3_1 < (((List.length R1) : Nat) : Int)) ∧
        (R1[(Int.toNat tb3_1)]? = some [(AV.int .i64 (cIS R1 (Int.toNat tb3_1) 0))]) ∧
        ((cIS R1 (Int.toNat tb3_1) 0) ≠ tb3_2 →
          EV 82 [R0, R1, R2] [(Lf.r t0), (Lf.i t2), (Lf.i t3), (Lf.i (8 : Int)), (Lf.r t45), (Lf.i t46), (Lf.i t47), (Lf.i tb3_0), (Lf.i tb3_1), (Lf.i tb3_2)]) ∧
        ((cIS R1 (Int.toNat tb3_1) 0) = tb3_2 →
          ((0 : Int) ≤ tb3_1) ∧
          (tb3_1 < (((List.length R0) : Nat) : Int)) ∧
          (R0[(Int.toNat tb3_1)]? = some [(AV.bool (cBS R0 (Int.toNat tb3_1) 0))]) ∧
          (EV 82 [(List.set R0 (Int.toNat tb3_1) [(AV.bool false)]), R1, R2] [(Lf.r t0), (Lf.i t2), (Lf.i t3), (Lf.i t15), (Lf.r t45), (Lf.i t46), (Lf.i t47), (Lf.i tb3_0), (Lf.i tb3_1), (Lf.i tb3_2)]))))) :
    EV 71 [R0, R1, R2] [.r t0, .i t2, .i t3, .b t14, .i t15, .r t45, .i t46, .i t47, .i tb3_0, .i tb3_1, .i tb3_2] := by
  have hA := W.hA
  refine W.step 80 fun hp => ?_
  have h := h hp.1 hp.2.1 hp.2.2.1
  cbv
  refine ⟨imI hA fun e17 => have c17 : t14 = false := (by have q := (notE hA e17); subst hA; exact q); ⟨ndI hA (And.intro rfl (And.intro rfl rfl)), ⟨ndI hA (And.intro rfl (And.intro rfl rfl)), ⟨ndI hA (And.intro rfl (And.intro rfl rfl)), ⟨ndI hA (by subst hA; exact hp.1), ⟨ndI hA (by subst hA; exact hp.2.1), ⟨ndI hA (by subst hA; exact hp.2.2.1), (by subst hA; exact (h.1 c17))⟩⟩⟩⟩⟩⟩, imI hA fun e22 => have c22 : t14 = true := (by have q := (notE hA e22); subst hA; exact q); ⟨ndI hA (And.intro (by subst hA; exact (h.2 c22).1) (And.intro (by subst hA; exact (h.2 c22).2.1) rfl)), ⟨ndI hA (And.intro rfl (by subst hA; show R0[(0 + (Int.toNat tb3_1))]? = some [(AV.bool (cBS R0 (0 + (Int.toNat tb3_1)) 0))]; simp only [rappS_end, Nat.zero_add, Int.toNat_natCast]; exact (h.2 c22).2.2.1)), ⟨fun e18 => have c18 : (cBS R0 (Int.toNat tb3_1) 0) = false := (by have q := (notE hA e18); subst hA; have q : (cBS R0 (0 + (Int.toNat tb3_1)) 0) = false := q; simpa only [rappS_end, Nat.zero_add, Int.toNat_natCast] using q); ?_, fun e21 => have c21 : (cBS R0 (Int.toNat tb3_1) 0) = true := (by have q := (notE hA e21); subst hA; have q : (cBS R0 (0 + (Int.toNat tb3_1)) 0) = true := q; simpa only [rappS_end, Nat.zero_add, Int.toNat_natCast] using q); ?_⟩⟩⟩⟩
  · refine W.draw 80 (by rfl) ?_
    cbv
    refine ⟨ndI hA (And.intro rfl (And.intro rfl rfl)), ⟨ndI hA (And.intro rfl (And.intro rfl rfl)), ⟨ndI hA (And.intro rfl (And.intro rfl rfl)), ⟨ndI hA (by subst hA; exact hp.1), ⟨ndI hA (by subst hA; exact hp.2.1), ⟨ndI hA (by subst hA; exact hp.2.2.1), (by subst hA; exact ((h.2 c22).2.2.2.1 c18))⟩⟩⟩⟩⟩⟩
  · refine W.draw 80 (by rfl) ?_
    cbv
    refine ⟨ndI hA (And.intro (by subst hA; exact ((h.2 c22).2.2.2.2 c21).1) (And.intro (by subst hA; exact ((h.2 c22).2.2.2.2 c21).2.1) rfl)), ⟨ndI hA (And.intro rfl (by subst hA; show R1[(0 + (Int.toNat tb3_1))]? = some [(AV.int .i64 (cIS R1 (0 + (Int.toNat tb3_1)) 0))]; simp only [rappS_end, Nat.zero_add, Int.toNat_natCast]; exact ((h.2 c22).2.2.2.2 c21).2.2.1)), ⟨imI hA fun e19 => have c19 : (cIS R1 (Int.toNat tb3_1) 0) ≠ tb3_2 := (by have q := (cmpE (op := .neq) hA e19); subst hA; have q : (cIS R1 (0 + (Int.toNat tb3_1)) 0) ≠ tb3_2 := q; simpa only [rappS_end, Nat.zero_add, Int.toNat_natCast] using q); ⟨ndI hA (And.intro rfl (And.intro rfl rfl)), ⟨ndI hA (And.intro rfl (And.intro rfl rfl)), ⟨ndI hA (And.intro rfl (And.intro rfl rfl)), ⟨ndI hA (by subst hA; exact hp.1), ⟨ndI hA (by subst hA; exact hp.2.1), ⟨ndI hA (by subst hA; exact hp.2.2.1), (by subst hA; exact (((h.2 c22).2.2.2.2 c21).2.2.2.1 c19))⟩⟩⟩⟩⟩⟩, imI hA fun e20 => have c20 : (cIS R1 (Int.toNat tb3_1) 0) = tb3_2 := (by have q := (cmpE (op := .neq) hA e20); subst hA; have q : (cIS R1 (0 + (Int.toNat tb3_1)) 0) = tb3_2 := q; simpa only [rappS_end, Nat.zero_add, Int.toNat_natCast] using q); ⟨ndI hA (And.intro (by subst hA; exact (((h.2 c22).2.2.2.2 c21).2.2.2.2 c20).1) (And.intro (by subst hA; exact (((h.2 c22).2.2.2.2 c21).2.2.2.2 c20).2.1) rfl)), ⟨ndI hA (And.intro rfl (by subst hA; show R0[(0 + (Int.toNat tb3_1))]? = some [(AV.bool (cBS R0 (0 + (Int.toNat tb3_1)) 0))]; simp only [rappS_end, Nat.zero_add, Int.toNat_natCast]; exact (((h.2 c22).2.2.2.2 c21).2.2.2.2 c20).2.2.1)), ⟨ndI hA (And.intro (by subst hA; show (List.length R0) = (List.length (List.set R0 (0 + (Int.toNat tb3_1)) [(AV.bool false)])); (first | rfl | simp [rappS_end] | (simp only [rappS_end, List.length_append, List.length_set, List.length_cons, List.length_nil]; omega))) (And.intro rfl (by subst hA; show (List.length R0) = (List.length (List.set R0 (0 + (Int.toNat tb3_1)) [(AV.bool false)])); (first | rfl | simp [rappS_end] | (simp only [rappS_end, List.length_append, List.length_set, List.length_cons, List.length_nil]; omega))))), ⟨ndI hA (And.intro rfl (And.intro rfl rfl)), ⟨ndI hA (And.intro rfl (And.intro rfl rfl)), ⟨ndI hA (by subst hA; exact (vset hp.1 rfl)), ⟨ndI hA (by subst hA; exact hp.2.1), ⟨ndI hA (by subst hA; exact hp.2.2.1), (by subst hA; show EV 82 [(List.set R0 (0 + (Int.toNat tb3_1)) [(AV.bool false)]), R1, R2] [(Lf.r t0), (Lf.i t2), (Lf.i t3), (Lf.i t15), (Lf.r t45), (Lf.i t46), (Lf.i t47), (Lf.i tb3_0), (Lf.i tb3_1), (Lf.i tb3_2)]; simp only [rappS_end, Nat.zero_add, Int.toNat_natCast]; exact (((h.2 c22).2.2.2.2 c21).2.2.2.2 c20).2.2.2)⟩⟩⟩⟩⟩⟩⟩⟩⟩⟩⟩

set_option maxHeartbeats 2000000 in
theorem V3_p82 (W : Wk Try.prog Try.f3 I3 L3 Q A sg CE CK Dn EV RR) {R0 : List (List AV)} {R1 : List (List AV)} {R2 : List (List AV)} {t0 : List (List AV)} {t2 : Int} {t3 : Int} {t15 : Int} {t45 : List (List AV)} {t46 : Int} {t47 : Int} {tb3_0 : Int} {tb3_1 : Int} {tb3_2 : Int} (h : pursS R0 = true → pursS R1 = true → pursS R2 = true → 
    EC Try.prog G12 [R2] [(Lf.i tb3_1), (Lf.i tb3_2)] (fun x rs vs => (x = 0 ∧ ∃ (Y23_0 : List (List AV)) (y23_0 : Int), rs = [Y23_0] ∧ vs = [.i y23_0] ∧
      ((y23_0 ≠ t15 →
          Q 0 [] [(Lf.b false)]) ∧
        (y23_0 = t15 →
          EV 125 [R0, R1, Y23_0] [(Lf.r t0), (Lf.i t2), (Lf.i t3), (Lf.r t45), (Lf.i t46), (Lf.i t47)]))))) :
    EV 82 [R0, R1, R2] [.r t0, .i t2, .i t3, .i t15, .r t45, .i t46, .i t47, .i tb3_0, .i tb3_1, .i tb3_2] := by
  have hA := W.hA
  refine W.step 80 fun hp => ?_
  have h := h hp.1 hp.2.1 hp.2.2.1
  cbv
  refine ⟨ndI hA (And.intro rfl (And.intro rfl rfl)), ⟨ndI hA (by subst hA; exact hp.2.2.1), ?_⟩⟩
  · refine W.call 80 (by rfl) h (by subst hA; rfl) (by subst hA; rfl) ?_
    rintro x rs vs hp23 hq23
    rcases hq23 with ⟨rfl, Y23_0, y23_0, rfl, rfl, k23⟩
    · cbv
      refine ⟨imI hA fun e24 => have c24 : y23_0 ≠ t15 := (by have q := (cmpE (op := .neq) hA e24); subst hA; exact q); (by rw [W.rr]; exact (by subst hA; exact (k23.1 c24))), imI hA fun e25 => have c25 : y23_0 = t15 := (by have q := (cmpE (op := .neq) hA e25); subst hA; exact q); ⟨ndI hA (And.intro rfl (And.intro rfl rfl)), ⟨ndI hA (And.intro rfl (And.intro rfl rfl)), ⟨ndI hA (And.intro rfl (And.intro rfl rfl)), ⟨ndI hA (by subst hA; exact hp.1), ⟨ndI hA (by subst hA; exact hp.2.1), ⟨ndI hA (by subst hA; exact hp23.1), (by subst hA; exact (k23.2 c25))⟩⟩⟩⟩⟩⟩⟩

set_option maxHeartbeats 2000000 in
theorem V3_p92 (W : Wk Try.prog Try.f3 I3 L3 Q A sg CE CK Dn EV RR) {R0 : List (List AV)} {R1 : List (List AV)} {R2 : List (List AV)} {t0 : List (List AV)} {t2 : Int} {t3 : Int} {t45 : List (List AV)} {t46 : Int} {t47 : Int} {tb3_0 : Int} {tb3_1 : Int} {tb3_2 : Int} (h : pursS R0 = true → pursS R1 = true → pursS R2 = true → 
    EV 99 [R0, R1, R2] [(Lf.r t0), (Lf.i t2), (Lf.i t3), (Lf.i (0 : Int)), (Lf.r t45), (Lf.i t46), (Lf.i t47), (Lf.i (((List.length R0) : Nat) : Int)), (Lf.i (0 : Int)), (Lf.i tb3_0), (Lf.i tb3_1), (Lf.i tb3_2)]) :
    EV 92 [R0, R1, R2] [.r t0, .i t2, .i t3, .r t45, .i t46, .i t47, .i tb3_0, .i tb3_1, .i tb3_2] := by
  have hA := W.hA
  refine W.step 80 fun hp => ?_
  have h := h hp.1 hp.2.1 hp.2.2.1
  cbv
  refine ⟨ndI hA rfl, ⟨ndI hA (And.intro rfl (And.intro rfl rfl)), ⟨ndI hA (And.intro rfl (And.intro rfl rfl)), ⟨ndI hA (And.intro rfl (And.intro rfl rfl)), ⟨ndI hA (by subst hA; exact hp.1), ⟨ndI hA (by subst hA; exact hp.2.1), ⟨ndI hA (by subst hA; exact hp.2.2.1), (by subst hA; exact h)⟩⟩⟩⟩⟩⟩⟩

set_option maxHeartbeats 2000000 in
theorem V3_p99 (W : Wk Try.prog Try.f3 I3 L3 Q A sg CE CK Dn EV RR) {R0 : List (List AV)} {R1 : List (List AV)} {R2 : List (List AV)} {t0 : List (List AV)} {t2 : Int} {t3 : Int} {t16 : Int} {t45 : List (List AV)} {t46 : Int} {t47 : Int} {t130 : Int} {t131 : Int} {tb3_0 : Int} {tb3_1 : Int} {tb3_2 : Int} (h : pursS R0 = true → pursS R1 = true → pursS R2 = true → 
    (t131 < t130 →
      ((0 : Int) ≤ t131) ∧
      (t131 < (((List.length R0) : Nat) : Int)) ∧
      (R0[(Int.toNat t131)]? = some [(AV.bool (cBS R0 (Int.toNat t131) 0))]) ∧
      ((cBS R0 (Int.toNat t131) 0) = true →
        ((0 : Int) ≤ t131) ∧
        (t131 < (((List.length R1) : Nat) : Int)) ∧
        (R1[(Int.toNat t131)]? = some [(AV.int .i64 (cIS R1 (Int.toNat t131) 0))]) ∧
        ((cIS R1 (Int.toNat t131) 0) = tb3_2 →
          ((0 : Int) ≤ t131) ∧
          (t131 < (((List.length R0) : Nat) : Int)) ∧
          (R0[(Int.toNat t131)]? = some [(AV.bool (cBS R0 (Int.toNat t131) 0))]) ∧
          (EV 99 [(List.set R0 (Int.toNat t131) [(AV.bool false)]), R1, R2] [(Lf.r t0), (Lf.i t2), (Lf.i t3), (Lf.i (IntKind.wrap .i64 (t16 + (1 : Int)))), (Lf.r t45), (Lf.i t46), (Lf.i t47), (Lf.i t130), (Lf.i (IntKind.wrap .i64 (t131 + (1 : Int)))), (Lf.i tb3_0), (Lf.i tb3_1), (Lf.i tb3_2)])) ∧
        ((cIS R1 (Int.toNat t131) 0) ≠ tb3_2 →
          EV 99 [R0, R1, R2] [(Lf.r t0), (Lf.i t2), (Lf.i t3), (Lf.i t16), (Lf.r t45), (Lf.i t46), (Lf.i t47), (Lf.i t130), (Lf.i (IntKind.wrap .i64 (t131 + (1 : Int)))), (Lf.i tb3_0), (Lf.i tb3_1), (Lf.i tb3_2)])) ∧
      ((cBS R0 (Int.toNat t131) 0) = false →
        EV 99 [R0, R1, R2] [(Lf.r t0), (Lf.i t2), (Lf.i t3), (Lf.i t16), (Lf.r t45), (Lf.i t46), (Lf.i t47), (Lf.i t130), (Lf.i (IntKind.wrap .i64 (t131 + (1 : Int)))), (Lf.i tb3_0), (Lf.i tb3_1), (Lf.i tb3_2)])) ∧
    (t131 ≥ t130 →
      EC Try.prog G13 [R2] [(Lf.i tb3_2)] (fun x rs vs => (x = 0 ∧ ∃ (Y31_0 : List (List AV)) (y31_0 : Int), rs = [Y31_0] ∧ vs = [.i y31_0] ∧
        ((y31_0 ≠ t16 →
            Q 0 [] [(Lf.b false)]) ∧
          (y31_0 = t16 →
            EV 125 [R0, R1, Y31_0] [(Lf.r t0), (Lf.i t2), (Lf.i t3), (Lf.r t45), (Lf.i t46), (Lf.i t47)])))))) :
    EV 99 [R0, R1, R2] [.r t0, .i t2, .i t3, .i t16, .r t45, .i t46, .i t47, .i t130, .i t131, .i tb3_0, .i tb3_1, .i tb3_2] := by
  have hA := W.hA
  refine W.step 80 fun hp => ?_
  have h := h hp.1 hp.2.1 hp.2.2.1
  cbv
  refine ⟨imI hA fun e30 => have c30 : t131 < t130 := (by have q := (cmpE (op := .lss) hA e30); subst hA; exact q); ⟨ndI hA (And.intro (by subst hA; exact (h.1 c30).1) (And.intro (by subst hA; exact (h.1 c30).2.1) rfl)), ⟨ndI hA (And.intro rfl (by subst hA; show R0[(0 + (Int.toNat t131))]? = some [(AV.bool (cBS R0 (0 + (Int.toNat t131)) 0))]; simp only [rappS_end, Nat.zero_add, Int.toNat_natCast]; exact (h.1 c30).2.2.1)), ⟨fun e28 => have c28 : (cBS R0 (Int.toNat t131) 0) = true := (by have q := e28; subst hA; have q : (cBS R0 (0 + (Int.toNat t131)) 0) = true := q; simpa only [rappS_end, Nat.zero_add, Int.toNat_natCast] using q); ?_, fun e29 => have c29 : (cBS R0 (Int.toNat t131) 0) = false := (by have q := e29; subst hA; have q : (cBS R0 (0 + (Int.toNat t131)) 0) = false := q; simpa only [rappS_end, Nat.zero_add, Int.toNat_natCast] using q); ?_⟩⟩⟩, imI hA fun e34 => have c34 : t131 ≥ t130 := (by have q := (cmpE (op := .lss) hA e34); subst hA; exact q); ⟨ndI hA (And.intro rfl (And.intro rfl rfl)), ⟨ndI hA (by subst hA; exact hp.2.2.1), ?_⟩⟩⟩
  · refine W.draw 80 (by rfl) ?_
    cbv
    refine ⟨ndI hA (And.intro (by subst hA; exact ((h.1 c30).2.2.2.1 c28).1) (And.intro (by subst hA; exact ((h.1 c30).2.2.2.1 c28).2.1) rfl)), ⟨ndI hA (And.intro rfl (by subst hA; show R1[(0 + (Int.toNat t131))]? = some [(AV.int .i64 (cIS R1 (0 + (Int.toNat t131)) 0))]; simp only [rappS_end, Nat.zero_add, Int.toNat_natCast]; exact ((h.1 c30).2.2.2.1 c28).2.2.1)), ⟨imI hA fun e26 => have c26 : (cIS R1 (Int.toNat t131) 0) = tb3_2 := (by have q := (cmpE (op := .eql) hA e26); subst hA; have q : (cIS R1 (0 + (Int.toNat t131)) 0) = tb3_2 := q; simpa only [rappS_end, Nat.zero_add, Int.toNat_natCast] using q); ⟨ndI hA (And.intro (by subst hA; exact (((h.1 c30).2.2.2.1 c28).2.2.2.1 c26).1) (And.intro (by subst hA; exact (((h.1 c30).2.2.2.1 c28).2.2.2.1 c26).2.1) rfl)), ⟨ndI hA (And.intro rfl (by subst hA; show R0[(0 + (Int.toNat t131))]? = some [(AV.bool (cBS R0 (0 + (Int.toNat t131)) 0))]; simp only [rappS_end, Nat.zero_add, Int.toNat_natCast]; exact (((h.1 c30).2.2.2.1 c28).2.2.2.1 c26).2.2.1)), ⟨ndI hA (And.intro (by subst hA; show (List.length R0) = (List.length (List.set R0 (0 + (Int.toNat t131)) [(AV.bool false)])); (first | rfl | simp [rappS_end] | (simp only [rappS_end, List.length_append, List.length_set, List.length_cons, List.length_nil]; omega))) (And.intro rfl (by subst hA; show (List.length R0) = (List.length (List.set R0 (0 + (Int.toNat t131)) [(AV.bool false)])); (first | rfl | simp [rappS_end] | (simp only [rappS_end, List.length_append, List.length_set, List.length_cons, List.length_nil]; omega))))), ⟨ndI hA (And.intro rfl (And.intro rfl rfl)), ⟨ndI hA (And.intro rfl (And.intro rfl rfl)), ⟨ndI hA (by subst hA; exact (vset hp.1 rfl)), ⟨ndI hA (by subst hA; exact hp.2.1), ⟨ndI hA (by subst hA; exact hp.2.2.1), (by subst hA; show EV 99 [(List.set R0 (0 + (Int.toNat t131)) [(AV.bool false)]), R1, R2] [(Lf.r t0), (Lf.i t2), (Lf.i t3), (Lf.i (IntKind.wrap .i64 (t16 + (1 : Int)))), (Lf.r t45), (Lf.i t46), (Lf.i t47), (Lf.i t130), (Lf.i (IntKind.wrap .i64 (t131 + (1 : Int)))), (Lf.i tb3_0), (Lf.i tb3_1), (Lf.i tb3_2)]; simp only [rappS_end, Nat.zero_add, Int.toNat_natCast]; exact (((h.1 c30).2.2.2.1 c28).2.2.2.1 c26).2.2.2)⟩⟩⟩⟩⟩⟩⟩⟩, imI hA fun e27 => have c27 : (cIS R1 (Int.toNat t131) 0) ≠ tb3_2 := (by have q := (cmpE (op := .eql) hA e27); subst hA; have q : (cIS R1 (0 + (Int.toNat t131)) 0) ≠ tb3_2 := q; simpa only [rappS_end, Nat.zero_add, Int.toNat_natCast] using q); ⟨ndI hA (And.intro rfl (And.intro rfl rfl)), ⟨ndI hA (And.intro rfl (And.intro rfl rfl)), ⟨ndI hA (And.intro rfl (And.intro rfl rfl)), ⟨ndI hA (by subst hA; exact hp.1), ⟨ndI hA (by subst hA; exact hp.2.1), ⟨ndI hA (by subst hA; exact hp.2.2.1), (by subst hA; exact (((h.1 c30).2.2.2.1 c28).2.2.2.2 c27))⟩⟩⟩⟩⟩⟩⟩⟩⟩
  · refine W.draw 80 (by rfl) ?_
    cbv
    refine ⟨ndI hA (And.intro rfl (And.intro rfl rfl)), ⟨ndI hA (And.intro rfl (And.intro rfl rfl)), ⟨ndI hA (And.intro rfl (And.intro rfl rfl)), ⟨ndI hA (by subst hA; exact hp.1), ⟨ndI hA (by subst hA; exact hp.2.1), ⟨ndI hA (by subst hA; exact hp.2.2.1), (by subst hA; exact ((h.1 c30).2.2.2.2 c29))⟩⟩⟩⟩⟩⟩
  · refine W.call 80 (by rfl) (h.2 c34) (by subst hA; rfl) (by subst hA; rfl) ?_
    rintro x rs vs hp31 hq31
    rcases hq31 with ⟨rfl, Y31_0, y31_0, rfl, rfl, k31⟩
    · cbv
      refine ⟨imI hA fun e32 => have c32 : y31_0 ≠ t16 := (by have q := (cmpE (op := .neq) hA e32); subst hA; exact q); (by rw [W.rr]; exact (by subst hA; exact (k31.1 c32))), imI hA fun e33 => have c33 : y31_0 = t16 := (by have q := (cmpE (op := .neq) hA e33); subst hA; exact q); ⟨ndI hA (And.intro rfl (And.intro rfl rfl)), ⟨ndI hA (And.intro rfl (And.intro rfl rfl)), ⟨ndI hA (And.intro rfl (And.intro rfl rfl)), ⟨ndI hA (by subst hA; exact hp.1), ⟨ndI hA (by subst hA; exact hp.2.1), ⟨ndI hA (by subst hA; exact hp31.1), (by subst hA; exact (k31.2 c33))⟩⟩⟩⟩⟩⟩⟩

set_option maxHeartbeats 2000000 in
theorem V3_p125 (W : Wk Try.prog Try.f3 I3 L3 Q A sg CE CK Dn EV RR) {R0 : List (List AV)} {R1 : List (List AV)} {R2 : List (List AV)} {t0 : List (List AV)} {t2 : Int} {t3 : Int} {t45 : List (List AV)} {t46 : Int} {t47 : Int} (h : pursS R0 = true → pursS R1 = true → pursS R2 = true → 
    EC Try.prog G14 [R2] [(Lf.i t2)] (fun x rs vs => (x = 0 ∧ ∃ (Y35_0 : List (List AV)) (Y35_1 : List (List AV)), rs = [Y35_0, Y35_1] ∧ vs = [] ∧
      (EV 134 [R0, R1, Y35_1, Y35_0] [(Lf.r t0), (Lf.i t2), (Lf.i t3), (Lf.i t3), (Lf.i (0 : Int)), (Lf.r t45), (Lf.i t46), (Lf.i t47), (Lf.i (((List.length R0) : Nat) : Int)), (Lf.i (0 : Int))])))) :
    EV 125 [R0, R1, R2] [.r t0, .i t2, .i t3, .r t45, .i t46, .i t47] := by
  have hA := W.hA
  refine W.step 80 fun hp => ?_
  have h := h hp.1 hp.2.1 hp.2.2.1
  cbv
  refine ⟨ndI hA (And.intro rfl (And.intro rfl rfl)), ⟨ndI hA (by subst hA; exact hp.2.2.1), ?_⟩⟩
  · refine W.call 80 (by rfl) h (by subst hA; rfl) (by subst hA; rfl) ?_
    rintro x rs vs hp35 hq35
    rcases hq35 with ⟨rfl, Y35_0, Y35_1, rfl, rfl, k35⟩
    · cbv
      refine ⟨ndI hA rfl, ⟨ndI hA (And.intro rfl (And.intro rfl rfl)), ⟨ndI hA (And.intro rfl (And.intro rfl rfl)), ⟨ndI hA (And.intro rfl (And.intro rfl rfl)), ⟨ndI hA (And.intro rfl (And.intro rfl rfl)), ⟨ndI hA (by subst hA; exact hp.1), ⟨ndI hA (by subst hA; exact hp.2.1), ⟨ndI hA (by subst hA; exact hp35.2.1), ⟨ndI hA (by subst hA; exact hp35.1), (by subst hA; exact k35)⟩⟩⟩⟩⟩⟩⟩⟩⟩

set_option maxHeartbeats 2000000 in
theorem V3_p134 (W : Wk Try.prog Try.f3 I3 L3 Q A sg CE CK Dn EV RR) {R0 : List (List AV)} {R1 : List (List AV)} {R2 : List (List AV)} {R3 : List (List AV)} {t0 : List (List AV)} {t2 : Int} {t3 : Int} {t18 : Int} {t19 : Int} {t45 : List (List AV)} {t46 : Int} {t47 : Int} {t164 : Int} {t165 : Int} (h : pursS R0 = true → pursS R1 = true → pursS R2 = true → pursS R3 = true → 
    (t165 < t164 →
      EC Try.prog G15 [R3] [(Lf.i t165)] (fun x rs vs => (x = 0 ∧ ∃ (Y36_0 : List (List AV)) (y36_0 : Int) (y36_1 : Bool), rs = [Y36_0] ∧ vs = [.i y36_0, .b y36_1] ∧
        (((0 : Int) ≤ t165) ∧
          (t165 < (((List.length R0) : Nat) : Int)) ∧
          (R0[(Int.toNat t165)]? = some [(AV.bool (cBS R0 (Int.toNat t165) 0))]) ∧
          ((y36_1 == (cBS R0 (Int.toNat t165) 0)) = true →
            (y36_1 = true →
              ((0 : Int) ≤ t165) ∧
              (t165 < (((List.length R1) : Nat) : Int)) ∧
              (R1[(Int.toNat t165)]? = some [(AV.int .i64 (cIS R1 (Int.toNat t165) 0))]) ∧
              (y36_0 ≠ (cIS R1 (Int.toNat t165) 0) →
                Q 0 [] [(Lf.b false)]) ∧
              (y36_0 = (cIS R1 (Int.toNat t165) 0) →
                EV 154 [R0, R1, R2, Y36_0] [(Lf.r t0), (Lf.i t2), (Lf.i t3), (Lf.i t18), (Lf.i t19), (Lf.i t165), (Lf.r t45), (Lf.i t46), (Lf.i t47), (Lf.i t164), (Lf.i t165)])) ∧
            (y36_1 = false →
              EV 154 [R0, R1, R2, Y36_0] [(Lf.r t0), (Lf.i t2), (Lf.i t3), (Lf.i t18), (Lf.i t19), (Lf.i t165), (Lf.r t45), (Lf.i t46), (Lf.i t47), (Lf.i t164), (Lf.i t165)])) ∧
          ((y36_1 == (cBS R0 (Int.toNat t165) 0)) = false →
            Q 0 [] [(Lf.b false)]))))) ∧
    (t165 ≥ t164 →
      EV 170 [R0, R1, R2, R3] [(Lf.r t0), (Lf.i t2), (Lf.i t3), (Lf.i t18), (Lf.i t19), (Lf.r t45), (Lf.i t46), (Lf.i t47)])) :
    EV 134 [R0, R1, R2, R3] [.r t0, .i t2, .i t3, .i t18, .i t19, .r t45, .i t46, .i t47, .i t164, .i t165] := by
  have hA := W.hA
  refine W.step 80 fun hp => ?_
  have h := h hp.1 hp.2.1 hp.2.2.1 hp.2.2.2.1
  cbv
  refine ⟨imI hA fun e43 => have c43 : t165 < t164 := (by have q := (cmpE (op := .lss) hA e43); subst hA; exact q); ⟨ndI hA (And.intro rfl (And.intro rfl rfl)), ⟨ndI hA (by subst hA; exact hp.2.2.2.1), ?_⟩⟩, imI hA fun e44 => have c44 : t165 ≥ t164 := (by have q := (cmpE (op := .lss) hA e44); subst hA; exact q); ⟨ndI hA (And.intro rfl (And.intro rfl rfl)), ⟨ndI hA (And.intro rfl (And.intro rfl rfl)), ⟨ndI hA (And.intro rfl (And.intro rfl rfl)), ⟨ndI hA (And.intro rfl (And.intro rfl rfl)), ⟨ndI hA (by subst hA; exact hp.1), ⟨ndI hA (by subst hA; exact hp.2.1), ⟨ndI hA (by subst hA; exact hp.2.2.1), ⟨ndI hA (by subst hA; exact hp.2.2.2.1), (by subst hA; exact (h.2 c44))⟩⟩⟩⟩⟩⟩⟩⟩⟩
  · refine W.call 80 (by rfl) (h.1 c43) (by subst hA; rfl) (by subst hA; rfl) ?_
    rintro x rs vs hp36 hq36
    rcases hq36 with ⟨rfl, Y36_0, y36_0, y36_1, rfl, rfl, k36⟩
    · cbv
      refine ⟨ndI hA (And.intro (by subst hA; exact k36.1) (And.intro (by subst hA; exact k36.2.1) rfl)), ⟨ndI hA (And.intro rfl (by subst hA; show R0[(0 + (Int.toNat t165))]? = some [(AV.bool (cBS R0 (0 + (Int.toNat t165)) 0))]; simp only [rappS_end, Nat.zero_add, Int.toNat_natCast]; exact k36.2.2.1)), ⟨imI hA fun e41 => have c41 : (y36_1 == (cBS R0 (Int.toNat t165) 0)) = true := (by have q := (notE hA e41); subst hA; have q : (y36_1 == (cBS R0 (0 + (Int.toNat t165)) 0)) = true := q; simpa only [rappS_end, Nat.zero_add, Int.toNat_natCast] using q); ⟨imI hA fun e39 => have c39 : y36_1 = true := (by have q := e39; subst hA; exact q); ⟨ndI hA (And.intro (by subst hA; exact ((k36.2.2.2.1 c41).1 c39).1) (And.intro (by subst hA; exact ((k36.2.2.2.1 c41).1 c39).2.1) rfl)), ⟨ndI hA (And.intro rfl (by subst hA; show R1[(0 + (Int.toNat t165))]? = some [(AV.int .i64 (cIS R1 (0 + (Int.toNat t165)) 0))]; simp only [rappS_end, Nat.zero_add, Int.toNat_natCast]; exact ((k36.2.2.2.1 c41).1 c39).2.2.1)), ⟨imI hA fun e37 => have c37 : y36_0 ≠ (cIS R1 (Int.toNat t165) 0) := (by have q := (cmpE (op := .neq) hA e37); subst hA; have q : y36_0 ≠ (cIS R1 (0 + (Int.toNat t165)) 0) := q; simpa only [rappS_end, Nat.zero_add, Int.toNat_natCast] using q); (by rw [W.rr]; exact (by subst hA; exact (((k36.2.2.2.1 c41).1 c39).2.2.2.1 c37))), imI hA fun e38 => have c38 : y36_0 = (cIS R1 (Int.toNat t165) 0) := (by have q := (cmpE (op := .neq) hA e38); subst hA; have q : y36_0 = (cIS R1 (0 + (Int.toNat t165)) 0) := q; simpa only [rappS_end, Nat.zero_add, Int.toNat_natCast] using q); ⟨ndI hA (And.intro rfl (And.intro rfl rfl)), ⟨ndI hA (And.intro rfl (And.intro rfl rfl)), ⟨ndI hA (And.intro rfl (And.intro rfl rfl)), ⟨ndI hA (And.intro rfl (And.intro rfl rfl)), ⟨ndI hA (by subst hA; exact hp.1), ⟨ndI hA (by subst hA; exact hp.2.1), ⟨ndI hA (by subst hA; exact hp.2.2.1), ⟨ndI hA (by subst hA; exact hp36.1), (by subst hA; exact (((k36.2.2.2.1 c41).1 c39).2.2.2.2 c38))⟩⟩⟩⟩⟩⟩⟩⟩⟩⟩⟩, imI hA fun e40 => have c40 : y36_1 = false := (by have q := e40; subst hA; exact q); ⟨ndI hA (And.intro rfl (And.intro rfl rfl)), ⟨ndI hA (And.intro rfl (And.intro rfl rfl)), ⟨ndI hA (And.intro rfl (And.intro rfl rfl)), ⟨ndI hA (And.intro rfl (And.intro rfl rfl)), ⟨ndI hA (by subst hA; exact hp.1), ⟨ndI hA (by subst hA; exact hp.2.1), ⟨ndI hA (by subst hA; exact hp.2.2.1), ⟨ndI hA (by subst hA; exact hp36.1), (by subst hA; exact ((k36.2.2.2.1 c41).2 c40))⟩⟩⟩⟩⟩⟩⟩⟩⟩, imI hA fun e42 => have c42 : (y36_1 == (cBS R0 (Int.toNat t165) 0)) = false := (by have q := (notE hA e42); subst hA; have q : (y36_1 == (cBS R0 (0 + (Int.toNat t165)) 0)) = false := q; simpa only [rappS_end, Nat.zero_add, Int.toNat_natCast] using q); (by rw [W.rr]; exact (by subst hA; exact (k36.2.2.2.2 c42)))⟩⟩⟩

set_option maxHeartbeats 2000000 in
theorem V3_p154 (W : Wk Try.prog Try.f3 I3 L3 Q A sg CE CK Dn EV RR) {R0 : List (List AV)} {R1 : List (List AV)} {R2 : List (List AV)} {R3 : List (List AV)} {t0 : List (List AV)} {t2 : Int} {t3 : Int} {t18 : Int} {t19 : Int} {t21 : Int} {t45 : List (List AV)} {t46 : Int} {t47 : Int} {t164 : Int} {t165 : Int} (h : pursS R0 = true → pursS R1 = true → pursS R2 = true → pursS R3 = true → 
    ((0 : Int) ≤ t21) ∧
    (t21 < (((List.length R0) : Nat) : Int)) ∧
    (R0[(Int.toNat t21)]? = some [(AV.bool (cBS R0 (Int.toNat t21) 0))]) ∧
    ((cBS R0 (Int.toNat t21) 0) = true →
      ((0 : Int) ≤ t21) ∧
      (t21 < (((List.length R1) : Nat) : Int)) ∧
      (R1[(Int.toNat t21)]? = some [(AV.int .i64 (cIS R1 (Int.toNat t21) 0))]) ∧
      ((cIS R1 (Int.toNat t21) 0) = t2 →
        ((0 : Int) ≤ t21) ∧
        (t0[(Int.toNat t21)]? = some [(AV.int .i64 (cIS t0 (Int.toNat t21) 0))]) ∧
        (t19 < (((List.length R2) : Nat) : Int) →
          ((0 : Int) ≤ t19) ∧
          (t19 < (((List.length R2) : Nat) : Int)) ∧
          (R2[(Int.toNat t19)]? = some [(AV.int .i64 (cIS R2 (Int.toNat t19) 0))]) ∧
          ((cIS R2 (Int.toNat t19) 0) ≠ t21 →
            Q 0 [] [(Lf.b false)]) ∧
          ((cIS R2 (Int.toNat t19) 0) = t21 →
            EV 134 [R0, R1, R2, R3] [(Lf.r t0), (Lf.i t2), (Lf.i t3), (Lf.i (arS.mx t18 (cIS t0 (Int.toNat t21) 0))), (Lf.i (IntKind.wrap .i64 (t19 + (1 : Int)))), (Lf.r t45), (Lf.i t46), (Lf.i t47), (Lf.i t164), (Lf.i (IntKind.wrap .i64 (t165 + (1 : Int))))])) ∧
        (t19 ≥ (((List.length R2) : Nat) : Int) →
          Q 0 [] [(Lf.b false)])) ∧
      ((cIS R1 (Int.toNat t21) 0) ≠ t2 →
        EV 134 [R0, R1, R2, R3] [(Lf.r t0), (Lf.i t2), (Lf.i t3), (Lf.i t18), (Lf.i t19), (Lf.r t45), (Lf.i t46), (Lf.i t47), (Lf.i t164), (Lf.i (IntKind.wrap .i64 (t165 + (1 : Int))))])) ∧
    ((cBS R0 (Int.toNat t21) 0) = false →
      EV 134 [R0, R1, R2, R3] [(Lf.r t0), (Lf.i t2), (Lf.i t3), (Lf.i t18), (Lf.i t19), (Lf.r t45), (Lf.i t46), (Lf.i t47), (Lf.i t164), (Lf.i (IntKind.wrap .i64 (t165 + (1 : Int))))])) :
    EV 154 [R0, R1, R2, R3] [.r t0, .i t2, .i t3, .i t18, .i t19, .i t21, .r t45, .i t46, .i t47, .i t164, .i t165] := by
  have hA := W.hA
  refine W.step 80 fun hp => ?_
  have h := h hp.1 hp.2.1 hp.2.2.1 hp.2.2.2.1
  cbv
  refine ⟨ndI hA (And.intro (by subst hA; exact h.1) (And.intro (by subst hA; exact h.2.1) rfl)), ⟨ndI hA (And.intro rfl (by subst hA; show R0[(0 + (Int.toNat t21))]? = some [(AV.bool (cBS R0 (0 + (Int.toNat t21)) 0))]; simp only [rappS_end, Nat.zero_add, Int.toNat_natCast]; exact h.2.2.1)), ⟨imI hA fun e51 => have c51 : (cBS R0 (Int.toNat t21) 0) = true := (by have q := e51; subst hA; have q : (cBS R0 (0 + (Int.toNat t21)) 0) = true := q; simpa only [rappS_end, Nat.zero_add, Int.toNat_natCast] using q); ⟨ndI hA (And.intro (by subst hA; exact (h.2.2.2.1 c51).1) (And.intro (by subst hA; exact (h.2.2.2.1 c51).2.1) rfl)), ⟨ndI hA (And.intro rfl (by subst hA; show R1[(0 + (Int.toNat t21))]? = some [(AV.int .i64 (cIS R1 (0 + (Int.toNat t21)) 0))]; simp only [rappS_end, Nat.zero_add, Int.toNat_natCast]; exact (h.2.2.2.1 c51).2.2.1)), ⟨imI hA fun e49 => have c49 : (cIS R1 (Int.toNat t21) 0) = t2 := (by have q := (cmpE (op := .eql) hA e49); subst hA; have q : (cIS R1 (0 + (Int.toNat t21)) 0) = t2 := q; simpa only [rappS_end, Nat.zero_add, Int.toNat_natCast] using q); ⟨ndI hA (And.intro (by subst hA; exact ((h.2.2.2.1 c51).2.2.2.1 c49).1) (by subst hA; exact ((h.2.2.2.1 c51).2.2.2.1 c49).2.1)), ⟨ndI hA rfl, ⟨imI hA fun e47 => have c47 : t19 < (((List.length R2) : Nat) : Int) := (by have q := (cmpE (op := .geq) hA e47); subst hA; exact q); ⟨ndI hA (And.intro (by subst hA; exact (((h.2.2.2.1 c51).2.2.2.1 c49).2.2.1 c47).1) (And.intro (by subst hA; exact (((h.2.2.2.1 c51).2.2.2.1 c49).2.2.1 c47).2.1) rfl)), ⟨ndI hA (And.intro rfl (by subst hA; show R2[(0 + (Int.toNat t19))]? = some [(AV.int .i64 (cIS R2 (0 + (Int.toNat t19)) 0))]; simp only [rappS_end, Nat.zero_add, Int.toNat_natCast]; exact (((h.2.2.2.1 c51).2.2.2.1 c49).2.2.1 c47).2.2.1)), ⟨imI hA fun e45 => have c45 : (cIS R2 (Int.toNat t19) 0) ≠ t21 := (by have q := (cmpE (op := .neq) hA e45); subst hA; have q : (cIS R2 (0 + (Int.toNat t19)) 0) ≠ t21 := q; simpa only [rappS_end, Nat.zero_add, Int.toNat_natCast] using q); (by rw [W.rr]; exact (by subst hA; exact ((((h.2.2.2.1 c51).2.2.2.1 c49).2.2.1 c47).2.2.2.1 c45))), imI hA fun e46 => have c46 : (cIS R2 (Int.toNat t19) 0) = t21 := (by have q := (cmpE (op := .neq) hA e46); subst hA; have q : (cIS R2 (0 + (Int.toNat t19)) 0) = t21 := q; simpa only [rappS_end, Nat.zero_add, Int.toNat_natCast] using q); ⟨ndI hA (And.intro rfl (And.intro rfl rfl)), ⟨ndI hA (And.intro rfl (And.intro rfl rfl)), ⟨ndI hA (And.intro rfl (And.intro rfl rfl)), ⟨ndI hA (And.intro rfl (And.intro rfl rfl)), ⟨ndI hA (by subst hA; exact hp.1), ⟨ndI hA (by subst hA; exact hp.2.1), ⟨ndI hA (by subst hA; exact hp.2.2.1), ⟨ndI hA (by subst hA; exact hp.2.2.2.1), (by subst hA; exact ((((h.2.2.2.1 c51).2.2.2.1 c49).2.2.1 c47).2.2.2.2 c46))⟩⟩⟩⟩⟩⟩⟩⟩⟩⟩⟩, imI hA fun e48 => have c48 : t19 ≥ (((List.length R2) : Nat) : Int) := (by have q := (cmpE (op := .geq) hA e48); subst hA; exact q); (by rw [W.rr]; exact (by subst hA; exact (((h.2.2.2.1 c51).2.2.2.1 c49).2.2.2 c48)))⟩⟩⟩, imI hA fun e50 => have c50 : (cIS R1 (Int.toNat t21) 0) ≠ t2 := (by have q := (cmpE (op := .eql) hA e50); subst hA; have q : (cIS R1 (0 + (Int.toNat t21)) 0) ≠ t2 := q; simpa only [rappS_end, Nat.zero_add, Int.toNat_natCast] using q); ⟨ndI hA (And.intro rfl (And.intro rfl rfl)), ⟨ndI hA (And.intro rfl (And.intro rfl rfl)), ⟨ndI hA (And.intro rfl (And.intro rfl rfl)), ⟨ndI hA (And.intro rfl (And.intro rfl rfl)), ⟨ndI hA (by subst hA; exact hp.1), ⟨ndI hA (by subst hA; exact hp.2.1), ⟨ndI hA (by subst hA; exact hp.2.2.1), ⟨ndI hA (by subst hA; exact hp.2.2.2.1), (by subst hA; exact ((h.2.2.2.1 c51).2.2.2.2 c50))⟩⟩⟩⟩⟩⟩⟩⟩⟩⟩⟩, imI hA fun e52 => have c52 : (cBS R0 (Int.toNat t21) 0) = false := (by have q := e52; subst hA; have q : (cBS R0 (0 + (Int.toNat t21)) 0) = false := q; simpa only [rappS_end, Nat.zero_add, Int.toNat_natCast] using q); ⟨ndI hA (And.intro rfl (And.intro rfl rfl)), ⟨ndI hA (And.intro rfl (And.intro rfl rfl)), ⟨ndI hA (And.intro rfl (And.intro rfl rfl)), ⟨ndI hA (And.intro rfl (And.intro rfl rfl)), ⟨ndI hA (by subst hA; exact hp.1), ⟨ndI hA (by subst hA; exact hp.2.1), ⟨ndI hA (by subst hA; exact hp.2.2.1), ⟨ndI hA (by subst hA; exact hp.2.2.2.1), (by subst hA; exact (h.2.2.2.2 c52))⟩⟩⟩⟩⟩⟩⟩⟩⟩⟩⟩

set_option maxHeartbeats 2000000 in
theorem V3_p170 (W : Wk Try.prog Try.f3 I3 L3 Q A sg CE CK Dn EV RR) {R0 : List (List AV)} {R1 : List (List AV)} {R2 : List (List AV)} {R3 : List (List AV)} {t0 : List (List AV)} {t2 : Int} {t3 : Int} {t18 : Int} {t19 : Int} {t45 : List (List AV)} {t46 : Int} {t47 : Int} (h : pursS R0 = true → pursS R1 = true → pursS R2 = true → pursS R3 = true → 
    (t19 = (((List.length R2) : Nat) : Int) →
      EC Try.prog G16 [R3] [(Lf.i t2), (Lf.i t3)] (fun x rs vs => (x = 0 ∧ ∃ (Y53_0 : List (List AV)) (y53_0 : Int), rs = [Y53_0] ∧ vs = [.i y53_0] ∧
        ((y53_0 ≠ t18 →
            Q 0 [] [(Lf.b false)]) ∧
          (y53_0 = t18 →
            EV 29 [R0, R1, Y53_0] [(Lf.r t0), (Lf.i t2), (Lf.i t3), (Lf.r t45), (Lf.i t46), (Lf.i (IntKind.wrap .i64 (t47 + (1 : Int))))]))))) ∧
    (t19 ≠ (((List.length R2) : Nat) : Int) →
      Q 0 [] [(Lf.b false)])) :
    EV 170 [R0, R1, R2, R3] [.r t0, .i t2, .i t3, .i t18, .i t19, .r t45, .i t46, .i t47] := by
  have hA := W.hA
  refine W.step 80 fun hp => ?_
  have h := h hp.1 hp.2.1 hp.2.2.1 hp.2.2.2.1
  cbv
  refine ⟨ndI hA rfl, ⟨imI hA fun e56 => have c56 : t19 = (((List.length R2) : Nat) : Int) := (by have q := (cmpE (op := .neq) hA e56); subst hA; exact q); ⟨ndI hA (And.intro rfl (And.intro rfl rfl)), ⟨ndI hA (by subst hA; exact hp.2.2.2.1), ?_⟩⟩, imI hA fun e57 => have c57 : t19 ≠ (((List.length R2) : Nat) : Int) := (by have q := (cmpE (op := .neq) hA e57); subst hA; exact q); (by rw [W.rr]; exact (by subst hA; exact (h.2 c57)))⟩⟩
  · refine W.call 80 (by rfl) (h.1 c56) (by subst hA; rfl) (by subst hA; rfl) ?_
    rintro x rs vs hp53 hq53
    rcases hq53 with ⟨rfl, Y53_0, y53_0, rfl, rfl, k53⟩
    · cbv
      refine ⟨imI hA fun e54 => have c54 : y53_0 ≠ t18 := (by have q := (cmpE (op := .neq) hA e54); subst hA; exact q); (by rw [W.rr]; exact (by subst hA; exact (k53.1 c54))), imI hA fun e55 => have c55 : y53_0 = t18 := (by have q := (cmpE (op := .neq) hA e55); subst hA; exact q); ⟨ndI hA (And.intro rfl (And.intro rfl rfl)), ⟨ndI hA (And.intro rfl (And.intro rfl rfl)), ⟨ndI hA (And.intro rfl (And.intro rfl rfl)), ⟨ndI hA (by subst hA; exact hp.1), ⟨ndI hA (by subst hA; exact hp.2.1), ⟨ndI hA (by subst hA; exact hp53.1), (by subst hA; exact (k53.2 c55))⟩⟩⟩⟩⟩⟩⟩

set_option maxHeartbeats 2000000 in
theorem V3_p178 (W : Wk Try.prog Try.f3 I3 L3 Q A sg CE CK Dn EV RR) {R0 : List (List AV)} {t0 : List (List AV)} {t2 : Int} {t3 : Int} (h : pursS R0 = true → 
    EC Try.prog G15a [] [(Lf.i (0 : Int))] (fun x rs vs => (x = 0 ∧ ∃ (y58_0 : Int) (y58_1 : Bool), rs = [] ∧ vs = [.i y58_0, .b y58_1] ∧
      (EV 182 [R0] [(Lf.r t0), (Lf.i t2), (Lf.i t3), (Lf.b y58_1)])))) :
    EV 178 [R0] [.r t0, .i t2, .i t3] := by
  have hA := W.hA
  refine W.step 80 fun hp => ?_
  have h := h hp.1
  cbv
  refine ?_
  · refine W.call 80 (by rfl) h (by subst hA; rfl) (by subst hA; rfl) ?_
    rintro x rs vs hp58 hq58
    rcases hq58 with ⟨rfl, y58_0, y58_1, rfl, rfl, k58⟩
    · cbv
      refine ⟨ndI hA (And.intro rfl (And.intro rfl rfl)), ⟨ndI hA (by subst hA; exact hp.1), (by subst hA; exact k58)⟩⟩

set_option maxHeartbeats 2000000 in
theorem V3_p182 (W : Wk Try.prog Try.f3 I3 L3 Q A sg CE CK Dn EV RR) {R0 : List (List AV)} {t0 : List (List AV)} {t2 : Int} {t3 : Int} {t26 : Bool} (h : pursS R0 = true → 
    EC Try.prog G17 [R0] [] (fun x rs vs => (x = 0 ∧ ∃ (Y59_0 : List (List AV)) (y59_0 : Int), rs = [Y59_0] ∧ vs = [.i y59_0] ∧
      ((y59_0 = (((List.length t0) : Nat) : Int) →
          EC Try.prog G17a [] [] (fun x rs vs => (x = 0 ∧ ∃ (y60_0 : Int), rs = [] ∧ vs = [.i y60_0] ∧
            (EC Try.prog G13a [] [(Lf.i t2)] (fun x rs vs => (x = 0 ∧ ∃ (y61_0 : Int), rs = [] ∧ vs = [.i y61_0] ∧
                (EC Try.prog G14a [] [(Lf.i t2)] (fun x rs vs => (x = 0 ∧ rs = [] ∧ vs = [] ∧
                    (((IntKind.wrap .i64 ((IntKind.wrap .i64 (y60_0 + y61_0)) + (0 : Int))) = (0 : Int) →
                        EC Try.prog G11a [] [(Lf.i (0 : Int)), (Lf.i (1 : Int))] (fun x rs vs => (x = 0 ∧ ∃ (y63_0 : Int), rs = [] ∧ vs = [.i y63_0] ∧
                          ((y63_0 = (6 : Int) →
                              EC Try.prog G16a [] [(Lf.i t2), (Lf.i t3)] (fun x rs vs => (x = 0 ∧ ∃ (y64_0 : Int), rs = [] ∧ vs = [.i y64_0] ∧
                                ((y64_0 = t3 →
                                    Q 0 [] [(Lf.b (!t26))]) ∧
                                  (y64_0 ≠ t3 →
                                    Q 0 [] [(Lf.b false)]))))) ∧
                            (y63_0 ≠ (6 : Int) →
                              Q 0 [] [(Lf.b false)]))))) ∧
                      ((IntKind.wrap .i64 ((IntKind.wrap .i64 (y60_0 + y61_0)) + (0 : Int))) ≠ (0 : Int) →
                        Q 0 [] [(Lf.b false)]))))))))))) ∧
        (y59_0 ≠ (((List.length t0) : Nat) : Int) →
          Q 0 [] [(Lf.b false)]))))) :
    EV 182 [R0] [.r t0, .i t2, .i t3, .b t26] := by
  have hA := W.hA
  refine W.step 80 fun hp => ?_
  have h := h hp.1
  cbv
  refine ⟨ndI hA (And.intro rfl (And.intro rfl rfl)), ⟨ndI hA (by subst hA; exact hp.1), ?_⟩⟩
  · refine W.call 80 (by rfl) h (by subst hA; rfl) (by subst hA; rfl) ?_
    rintro x rs vs hp59 hq59
    rcases hq59 with ⟨rfl, Y59_0, y59_0, rfl, rfl, k59⟩
    · cbv
      refine ⟨imI hA fun e71 => have c71 : y59_0 = (((List.length t0) : Nat) : Int) := (by have q := (cmpE (op := .eql) hA e71); subst hA; exact q); ?_, imI hA fun e72 => have c72 : y59_0 ≠ (((List.length t0) : Nat) : Int) := (by have q := (cmpE (op := .eql) hA e72); subst hA; exact q); (by rw [W.rr]; exact (by subst hA; exact (k59.2 c72)))⟩
      · refine W.call 80 (by rfl) (k59.1 c71) (by subst hA; rfl) (by subst hA; rfl) ?_
        rintro x rs vs hp60 hq60
        rcases hq60 with ⟨rfl, y60_0, rfl, rfl, k60⟩
        · cbv
          refine ?_
          · refine W.call 80 (by rfl) k60 (by subst hA; rfl) (by subst hA; rfl) ?_
            rintro x rs vs hp61 hq61
            rcases hq61 with ⟨rfl, y61_0, rfl, rfl, k61⟩
            · cbv
              refine ?_
              · refine W.call 80 (by rfl) k61 (by subst hA; rfl) (by subst hA; rfl) ?_
                rintro x rs vs hp62 hq62
                rcases hq62 with ⟨rfl, rfl, rfl, k62⟩
                · cbv
                  refine ⟨imI hA fun e69 => have c69 : (IntKind.wrap .i64 ((IntKind.wrap .i64 (y60_0 + y61_0)) + (0 : Int))) = (0 : Int) := (by have q := (cmpE (op := .eql) hA e69); subst hA; exact q); ?_, imI hA fun e70 => have c70 : (IntKind.wrap .i64 ((IntKind.wrap .i64 (y60_0 + y61_0)) + (0 : Int))) ≠ (0 : Int) := (by have q := (cmpE (op := .eql) hA e70); subst hA; exact q); (by rw [W.rr]; exact (by subst hA; exact (k62.2 c70)))⟩
                  · refine W.call 80 (by rfl) (k62.1 c69) (by subst hA; rfl) (by subst hA; rfl) ?_
                    rintro x rs vs hp63 hq63
                    rcases hq63 with ⟨rfl, y63_0, rfl, rfl, k63⟩
                    · cbv
                      refine ⟨imI hA fun e67 => have c67 : y63_0 = (6 : Int) := (by have q := (cmpE (op := .eql) hA e67); subst hA; exact q); ?_, imI hA fun e68 => have c68 : y63_0 ≠ (6 : Int) := (by have q := (cmpE (op := .eql) hA e68); subst hA; exact q); (by rw [W.rr]; exact (by subst hA; exact (k63.2 c68)))⟩
                      · refine W.call 80 (by rfl) (k63.1 c67) (by subst hA; rfl) (by subst hA; rfl) ?_
                        rintro x rs vs hp64 hq64
                        rcases hq64 with ⟨rfl, y64_0, rfl, rfl, k64⟩
                        · cbv
                          refine ⟨imI hA fun e65 => have c65 : y64_0 = t3 := (by have q := (cmpE (op := .eql) hA e65); subst hA; exact q); (by rw [W.rr]; exact (by subst hA; exact (k64.1 c65))), imI hA fun e66 => have c66 : y64_0 ≠ t3 := (by have q := (cmpE (op := .eql) hA e66); subst hA; exact q); (by rw [W.rr]; exact (by subst hA; exact (k64.2 c66)))⟩

end
structure V3 (EV Q : Nat → Rs → List Lf → Prop) : Prop where
  p29 : ∀ {R0 : List (List AV)} {R1 : List (List AV)} {R2 : List (List AV)} {t0 : List (List AV)} {t2 : Int} {t3 : Int} {t45 : List (List AV)} {t46 : Int} {t47 : Int}, (pursS R0 = true → pursS R1 = true → pursS R2 = true → 
    (t47 < t46 →
      ((0 : Int) ≤ t47) ∧
      (t45[(Int.toNat t47)]? = some [(AV.int .u8 (cIS t45 (Int.toNat t47) 0)), (AV.int .i64 (cIS t45 (Int.toNat t47) 1)), (AV.int .i64 (cIS t45 (Int.toNat t47) 2))]) ∧
      ((cIS t45 (Int.toNat t47) 1) ≥ (0 : Int) →
        EV 43 [R0, R1, R2] [(Lf.r t0), (Lf.i t2), (Lf.i t3), (Lf.b (decide ((cIS t45 (Int.toNat t47) 1) < (((List.length t0) : Nat) : Int)))), (Lf.i (0 : Int)), (Lf.r t45), (Lf.i t46), (Lf.i t47), (Lf.i (cIS t45 (Int.toNat t47) 0)), (Lf.i (cIS t45 (Int.toNat t47) 1)), (Lf.i (cIS t45 (Int.toNat t47) 2))]) ∧
      ((cIS t45 (Int.toNat t47) 1) < (0 : Int) →
        EV 43 [R0, R1, R2] [(Lf.r t0), (Lf.i t2), (Lf.i t3), (Lf.b false), (Lf.i (0 : Int)), (Lf.r t45), (Lf.i t46), (Lf.i t47), (Lf.i (cIS t45 (Int.toNat t47) 0)), (Lf.i (cIS t45 (Int.toNat t47) 1)), (Lf.i (cIS t45 (Int.toNat t47) 2))])) ∧
    (t47 ≥ t46 →
      EV 178 [R2] [(Lf.r t0), (Lf.i t2), (Lf.i t3)])) →
    EV 29 [R0, R1, R2] [.r t0, .i t2, .i t3, .r t45, .i t46, .i t47]
  p43 : ∀ {R0 : List (List AV)} {R1 : List (List AV)} {R2 : List (List AV)} {t0 : List (List AV)} {t2 : Int} {t3 : Int} {t14 : Bool} {t15 : Int} {t45 : List (List AV)} {t46 : Int} {t47 : Int} {tb3_0 : Int} {tb3_1 : Int} {tb3_2 : Int}, (pursS R0 = true → pursS R1 = true → pursS R2 = true → 
    ((Int.tmod tb3_0 (3 : Int)) = (0 : Int) →
      EV 50 [R0, R1, R2] [(Lf.r t0), (Lf.i t2), (Lf.i t3), (Lf.b t14), (Lf.i t15), (Lf.r t45), (Lf.i t46), (Lf.i t47), (Lf.i tb3_0), (Lf.i tb3_1), (Lf.i tb3_2)]) ∧
    ((Int.tmod tb3_0 (3 : Int)) ≠ (0 : Int) →
      ((Int.tmod tb3_0 (3 : Int)) = (1 : Int) →
        EV 71 [R0, R1, R2] [(Lf.r t0), (Lf.i t2), (Lf.i t3), (Lf.b t14), (Lf.i t15), (Lf.r t45), (Lf.i t46), (Lf.i t47), (Lf.i tb3_0), (Lf.i tb3_1), (Lf.i tb3_2)]) ∧
      ((Int.tmod tb3_0 (3 : Int)) ≠ (1 : Int) →
        ((Int.tmod tb3_0 (3 : Int)) = (2 : Int) →
          EV 92 [R0, R1, R2] [(Lf.r t0), (Lf.i t2), (Lf.i t3), (Lf.r t45), (Lf.i t46), (Lf.i t47), (Lf.i tb3_0), (Lf.i tb3_1), (Lf.i tb3_2)]) ∧
        ((Int.tmod tb3_0 (3 : Int)) ≠ (2 : Int) →
          EV 125 [R0, R1, R2] [(Lf.r t0), (Lf.i t2), (Lf.i t3), (Lf.r t45), (Lf.i t46), (Lf.i t47)])))) →
    EV 43 [R0, R1, R2] [.r t0, .i t2, .i t3, .b t14, .i t15, .r t45, .i t46, .i t47, .i tb3_0, .i tb3_1, .i tb3_2]
  p50 : ∀ {R0 : List (List AV)} {R1 : List (List AV)} {R2 : List (List AV)} {t0 : List (List AV)} {t2 : Int} {t3 : Int} {t14 : Bool} {t15 : Int} {t45 : List (List AV)} {t46 : Int} {t47 : Int} {tb3_0 : Int} {tb3_1 : Int} {tb3_2 : Int}, (pursS R0 = true → pursS R1 = true → pursS R2 = true → 
    (t14 = false →
      EV 61 [R0, R1, R2] [(Lf.r t0), (Lf.i t2), (Lf.i t3), (Lf.i (6 : Int)), (Lf.r t45), (Lf.i t46), (Lf.i t47), (Lf.i tb3_0), (Lf.i tb3_1), (Lf.i tb3_2)]) ∧
    (t14 = true →
      ((0 : Int) ≤ tb3_1) ∧
      (tb3_1 < (((List.length R0) : Nat) : Int)) ∧
      (R0[(Int.toNat tb3_1)]? = some [(AV.bool (cBS R0 (Int.toNat tb3_1) 0))]) ∧
      ((cBS R0 (Int.toNat tb3_1) 0) = true →
        EV 61 [R0, R1, R2] [(Lf.r t0), (Lf.i t2), (Lf.i t3), (Lf.i (10 : Int)), (Lf.r t45), (Lf.i t46), (Lf.i t47), (Lf.i tb3_0), (Lf.i tb3_1), (Lf.i tb3_2)]) ∧
      ((cBS R0 (Int.toNat tb3_1) 0) = false →
        ((0 : Int) ≤ tb3_1) ∧
        (tb3_1 < (((List.length R0) : Nat) : Int)) ∧
        (R0[(Int.toNat tb3_1)]? = some [(AV.bool (cBS R0 (Int.toNat tb3_1) 0))]) ∧
        (tb3_1 < (((List.length R1) : Nat) : Int)) ∧
        (R1[(Int.toNat tb3_1)]? = some [(AV.int .i64 (cIS R1 (Int.toNat tb3_1) 0))]) ∧
        (EV 61 [(List.set R0 (Int.toNat tb3_1) [(AV.bool true)]), (List.set R1 (Int.toNat tb3_1) [(AV.int .i64 tb3_2)]), R2] [(Lf.r t0), (Lf.i t2), (Lf.i t3), (Lf.i t15), (Lf.r t45), (Lf.i t46), (Lf.i t47), (Lf.i tb3_0), (Lf.i tb3_1), (Lf.i tb3_2)])))) →
    EV 50 [R0, R1, R2] [.r t0, .i t2, .i t3, .b t14, .i t15, .r t45, .i t46, .i t47, .i tb3_0, .i tb3_1, .i tb3_2]
  p61 : ∀ {R0 : List (List AV)} {R1 : List (List AV)} {R2 : List (List AV)} {t0 : List (List AV)} {t2 : Int} {t3 : Int} {t15 : Int} {t45 : List (List AV)} {t46 : Int} {t47 : Int} {tb3_0 : Int} {tb3_1 : Int} {tb3_2 : Int}, (pursS R0 = true → pursS R1 = true → pursS R2 = true → 
    EC Try.prog G11 [R2] [(Lf.i tb3_1), (Lf.i tb3_2)] (fun x rs vs => (x = 0 ∧ ∃ (Y14_0 : List (List AV)) (y14_0 : Int), rs = [Y14_0] ∧ vs = [.i y14_0] ∧
      ((y14_0 ≠ t15 →
          Q 0 [] [(Lf.b false)]) ∧
        (y14_0 = t15 →
          EV 125 [R0, R1, Y14_0] [(Lf.r t0), (Lf.i t2), (Lf.i t3), (Lf.r t45), (Lf.i t46), (Lf.i t47)]))))) →
    EV 61 [R0, R1, R2] [.r t0, .i t2, .i t3, .i t15, .r t45, .i t46, .i t47, .i tb3_0, .i tb3_1, .i tb3_2]
  p71 : ∀ {R0 : List (List AV)} {R1 : List (List AV)} {R2 : List (List AV)} {t0 : List (List AV)} {t2 : Int} {t3 : Int} {t14 : Bool} {t15 : Int} {t45 : List (List AV)} {t46 : Int} {t47 : Int} {tb3_0 : Int} {tb3_1 : Int} {tb3_2 : Int}, (pursS R0 = true → pursS R1 = true → pursS R2 = true → 
    (t14 = false →
      EV 82 [R0, R1, R2] [(Lf.r t0), (Lf.i t2), (Lf.i t3), (Lf.i (6 : Int)), (Lf.r t45), (Lf.i t46), (Lf.i t47), (Lf.i tb3_0), (Lf.i tb3_1), (Lf.i tb3_2)]) ∧
    (t14 = true →
      ((0 : Int) ≤ tb3_1) ∧
      (tb3_1 < (((List.length R0) : Nat) : Int)) ∧
      (R0[(Int.toNat tb3_1)]? = some [(AV.bool (cBS R0 (Int.toNat tb3_1) 0))]) ∧
      ((cBS R0 (Int.toNat tb3_1) 0) = false →
        EV 82 [R0, R1, R2] [(Lf.r t0), (Lf.i t2), (Lf.i t3), (Lf.i (8 : Int)), (Lf.r t45), (Lf.i t46), (Lf.i t47), (Lf.i tb3_0), (Lf.i tb3_1), (Lf.i tb3_2)]) ∧
      ((cBS R0 (Int.toNat tb3_1) 0) = true →
        ((0 : Int) ≤ tb3_1) ∧
        (tb3_1 < (((List.length R1) : Nat) : Int)) ∧
        (R1[(Int.toNat tb3_1)]? = some [(AV.int .i64 (cIS R1 (Int.toNat tb3_1) 0))]) ∧
        ((cIS R1 (Int.toNat tb3_1) 0) ≠ tb3_2 →
          EV 82 [R0, R1, R2] [(Lf.r t0), (Lf.i t2), (Lf.i t3), (Lf.i (8 : Int)), (Lf.r t45), (Lf.i t46), (Lf.i t47), (Lf.i tb3_0), (Lf.i tb3_1), (Lf.i tb3_2)]) ∧
        ((cIS R1 (Int.toNat tb3_1) 0) = tb3_2 →
          ((0 : Int) ≤ tb3_1) ∧
          (tb3_1 < (((List.length R0) : Nat) : Int)) ∧
          (R0[(Int.toNat tb3_1)]? = some [(AV.bool (cBS R0 (Int.toNat tb3_1) 0))]) ∧
          (EV 82 [(List.set R0 (Int.toNat tb3_1) [(AV.bool false)]), R1, R2] [(Lf.r t0), (Lf.i t2), (Lf.i t3), (Lf.i t15), (Lf.r t45), (Lf.i t46), (Lf.i t47), (Lf.i tb3_0), (Lf.i tb3_1), (Lf.i tb3_2)]))))) →
    EV 71 [R0, R1, R2] [.r t0, .i t2, .i t3, .b t14, .i t15, .r t45, .i t46, .i t47, .i tb3_0, .i tb3_1, .i tb3_2]
  p82 : ∀ {R0 : List (List AV)} {R1 : List (List AV)} {R2 : List (List AV)} {t0 : List (List AV)} {t2 : Int} {t3 : Int} {t15 : Int} {t45 : List (List AV)} {t46 : Int} {t47 : Int} {tb3_0 : Int} {tb3_1 : Int} {tb3_2 : Int}, (pursS R0 = true → pursS R1 = true → pursS R2 = true → 
    EC Try.prog G12 [R2] [(Lf.i tb3_1), (Lf.i tb3_2)] (fun x rs vs => (x = 0 ∧ ∃ (Y23_0 : List (List AV)) (y23_0 : Int), rs = [Y23_0] ∧ vs = [.i y23_0] ∧
      ((y23_0 ≠ t15 →
          Q 0 [] [(Lf.b false)]) ∧
        (y23_0 = t15 →
          EV 125 [R0, R1, Y23_0] [(Lf.r t0), (Lf.i t2), (Lf.i t3), (Lf.r t45), (Lf.i t46), (Lf.i t47)]))))) →
    EV 82 [R0, R1, R2] [.r t0, .i t2, .i t3, .i t15, .r t45, .i t46, .i t47, .i tb3_0, .i tb3_1, .i tb3_2]
  p92 : ∀ {R0 : List (List AV)} {R1 : List (List AV)} {R2 : List (List AV)} {t0 : List (List AV)} {t2 : Int} {t3 : Int} {t45 : List (List AV)} {t46 : Int} {t47 : Int} {tb3_0 : Int} {tb3_1 : Int} {tb3_2 : Int}, (pursS R0 = true → pursS R1 = true → pursS R2 = true → 
    EV 99 [R0, R1, R2] [(Lf.r t0), (Lf.i t2), (Lf.i t3), (Lf.i (0 : Int)), (Lf.r t45), (Lf.i t46), (Lf.i t47), (Lf.i (((List.length R0) : Nat) : Int)), (Lf.i (0 : Int)), (Lf.i tb3_0), (Lf.i tb3_1), (Lf.i tb3_2)]) →
    EV 92 [R0, R1, R2] [.r t0, .i t2, .i t3, .r t45, .i t46, .i t47, .i tb3_0, .i tb3_1, .i tb3_2]
  p99 : ∀ {R0 : List (List AV)} {R1 : List (List AV)} {R2 : List (List AV)} {t0 : List (List AV)} {t2 : Int} {t3 : Int} {t16 : Int} {t45 : List (List AV)} {t46 : Int} {t47 : Int} {t130 : Int} {t131 : Int} {tb3_0 : Int} {tb3_1 : Int} {tb3_2 : Int}, (pursS R0 = true → pursS R1 = true → pursS R2 = true → 
    (t131 < t130 →
      ((0 : Int) ≤ t131) ∧
      (t131 < (((List.length R0) : Nat) : Int)) ∧
      (R0[(Int.toNat t131)]? = some [(AV.bool (cBS R0 (Int.toNat t131) 0))]) ∧
      ((cBS R0 (Int.toNat t131) 0) = true →
        ((0 : Int) ≤ t131) ∧
        (t131 < (((List.length R1) : Nat) : Int)) ∧
        (R1[(Int.toNat t131)]? = some [(AV.int .i64 (cIS R1 (Int.toNat t131) 0))]) ∧
        ((cIS R1 (Int.toNat t131) 0) = tb3_2 →
          ((0 : Int) ≤ t131) ∧
          (t131 < (((List.length R0) : Nat) : Int)) ∧
          (R0[(Int.toNat t131)]? = some [(AV.bool (cBS R0 (Int.toNat t131) 0))]) ∧
          (EV 99 [(List.set R0 (Int.toNat t131) [(AV.bool false)]), R1, R2] [(Lf.r t0), (Lf.i t2), (Lf.i t3), (Lf.i (IntKind.wrap .i64 (t16 + (1 : Int)))), (Lf.r t45), (Lf.i t46), (Lf.i t47), (Lf.i t130), (Lf.i (IntKind.wrap .i64 (t131 + (1 : Int)))), (Lf.i tb3_0), (Lf.i tb3_1), (Lf.i tb3_2)])) ∧
        ((cIS R1 (Int.toNat t131) 0) ≠ tb3_2 →
          EV 99 [R0, R1, R2] [(Lf.r t0), (Lf.i t2), (Lf.i t3), (Lf.i t16), (Lf.r t45), (Lf.i t46), (Lf.i t47), (Lf.i t130), (Lf.i (IntKind.wrap .i64 (t131 + (1 : Int)))), (Lf.i tb3_0), (Lf.i tb3_1), (Lf.i tb3_2)])) ∧
      ((cBS R0 (Int.toNat t131) 0) = false →
        EV 99 [R0, R1, R2] [(Lf.r t0), (Lf.i t2), (Lf.i t3), (Lf.i t16), (Lf.r t45), (Lf.i t46), (Lf.i t47), (Lf.i t130), (Lf.i (IntKind.wrap .i64 (t131 + (1 : Int)))), (Lf.i tb3_0), (Lf.i tb3_1), (Lf.i tb3_2)])) ∧
    (t131 ≥ t130 →
      EC Try.prog G13 [R2] [(Lf.i tb3_2)] (fun x rs vs => (x = 0 ∧ ∃ (Y31_0 : List (List AV)) (y31_0 : Int), rs = [Y31_0] ∧ vs = [.i y31_0] ∧
        ((y31_0 ≠ t16 →
            Q 0 [] [(Lf.b false)]) ∧
          (y31_0 = t16 →
            EV 125 [R0, R1, Y31_0] [(Lf.r t0), (Lf.i t2), (Lf.i t3), (Lf.r t45), (Lf.i t46), (Lf.i t47)])))))) →
    EV 99 [R0, R1, R2] [.r t0, .i t2, .i t3, .i t16, .r t45, .i t46, .i t47, .i t130, .i t131, .i tb3_0, .i tb3_1, .i tb3_2]
  p125 : ∀ {R0 : List (List AV)} {R1 : List (List AV)} {R2 : List (List AV)} {t0 : List (List AV)} {t2 : Int} {t3 : Int} {t45 : List (List AV)} {t46 : Int} {t47 : Int}, (pursS R0 = true → pursS R1 = true → pursS R2 = true → 
    EC Try.prog G14 [R2] [(Lf.i t2)] (fun x rs vs => (x = 0 ∧ ∃ (Y35_0 : List (List AV)) (Y35_1 : List (List AV)), rs = [Y35_0, Y35_1] ∧ vs = [] ∧
      (EV 134 [R0, R1, Y35_1, Y35_0] [(Lf.r t0), (Lf.i t2), (Lf.i t3), (Lf.i t3), (Lf.i (0 : Int)), (Lf.r t45), (Lf.i t46), (Lf.i t47), (Lf.i (((List.length R0) : Nat) : Int)), (Lf.i (0 : Int))])))) →
    EV 125 [R0, R1, R2] [.r t0, .i t2, .i t3, .r t45, .i t46, .i t47]
  p134 : ∀ {R0 : List (List AV)} {R1 : List (List AV)} {R2 : List (List AV)} {R3 : List (List AV)} {t0 : List (List AV)} {t2 : Int} {t3 : Int} {t18 : Int} {t19 : Int} {t45 : List (List AV)} {t46 : Int} {t47 : Int} {t164 : Int} {t165 : Int}, (pursS R0 = true → pursS R1 = true → pursS R2 = true → pursS R3 = true → 
    (t165 < t164 →
      EC Try.prog G15 [R3] [(Lf.i t165)] (fun x rs vs => (x = 0 ∧ ∃ (Y36_0 : List (List AV)) (y36_0 : Int) (y36_1 : Bool), rs = [Y36_0] ∧ vs = [.i y36_0, .b y36_1] ∧
        (((0 : Int) ≤ t165) ∧
          (t165 < (((List.length R0) : Nat) : Int)) ∧
          (R0[(Int.toNat t165)]? = some [(AV.bool (cBS R0 (Int.toNat t165) 0))]) ∧
          ((y36_1 == (cBS R0 (Int.toNat t165) 0)) = true →
            (y36_1 = true →
              ((0 : Int) ≤ t165) ∧
              (t165 < (((List.length R1) : Nat) : Int)) ∧
              (R1[(Int.toNat t165)]? = some [(AV.int .i64 (cIS R1 (Int.toNat t165) 0))]) ∧
              (y36_0 ≠ (cIS R1 (Int.toNat t165) 0) →
                Q 0 [] [(Lf.b false)]) ∧
              (y36_0 = (cIS R1 (Int.toNat t165) 0) →
                EV 154 [R0, R1, R2, Y36_0] [(Lf.r t0), (Lf.i t2), (Lf.i t3), (Lf.i t18), (Lf.i t19), (Lf.i t165), (Lf.r t45), (Lf.i t46), (Lf.i t47), (Lf.i t164), (Lf.i t165)])) ∧
            (y36_1 = false →
              EV 154 [R0, R1, R2, Y36_0] [(Lf.r t0), (Lf.i t2), (Lf.i t3), (Lf.i t18), (Lf.i t19), (Lf.i t165), (Lf.r t45), (Lf.i t46), (Lf.i t47), (Lf.i t164), (Lf.i t165)])) ∧
          ((y36_1 == (cBS R0 (Int.toNat t165) 0)) = false →
            Q 0 [] [(Lf.b false)]))))) ∧
    (t165 ≥ t164 →
      EV 170 [R0, R1, R2, R3] [(Lf.r t0), (Lf.i t2), (Lf.i t3), (Lf.i t18), (Lf.i t19), (Lf.r t45), (Lf.i t46), (Lf.i t47)])) →
    EV 134 [R0, R1, R2, R3] [.r t0, .i t2, .i t3, .i t18, .i t19, .r t45, .i t46, .i t47, .i t164, .i t165]
  p154 : ∀ {R0 : List (List AV)} {R1 : List (List AV)} {R2 : List (List AV)} {R3 : List (List AV)} {t0 : List (List AV)} {t2 : Int} {t3 : Int} {t18 : Int} {t19 : Int} {t21 : Int} {t45 : List (List AV)} {t46 : Int} {t47 : Int} {t164 : Int} {t165 : Int}, (pursS R0 = true → pursS R1 = true → pursS R2 = true → pursS R3 = true → 
    ((0 : Int) ≤ t21) ∧
    (t21 < (((List.length R0) : Nat) : Int)) ∧
    (R0[(Int.toNat t21)]? = some [(AV.bool (cBS R0 (Int.toNat t21) 0))]) ∧
    ((cBS R0 (Int.toNat t21) 0) = true →
      ((0 : Int) ≤ t21) ∧
      (t21 < (((List.length R1) : Nat) : Int)) ∧
      (R1[(Int.toNat t21)]? = some [(AV.int .i64 (cIS R1 (Int.toNat t21) 0))]) ∧
      ((cIS R1 (Int.toNat t21) 0) = t2 →
        ((0 : Int) ≤ t21) ∧
        (t0[(Int.toNat t21)]? = some [(AV.int .i64 (cIS t0 (Int.toNat t21) 0))]) ∧
        (t19 < (((List.length R2) : Nat) : Int) →
          ((0 : Int) ≤ t19) ∧
          (t19 < (((List.length R2) : Nat) : Int)) ∧
          (R2[(Int.toNat t19)]? = some [(AV.int .i64 (cIS R2 (Int.toNat t19) 0))]) ∧
          ((cIS R2 (Int.toNat t19) 0) ≠ t21 →
            Q 0 [] [(Lf.b false)]) ∧
          ((cIS R2 (Int.toNat t19) 0) = t21 →
            EV 134 [R0, R1, R2, R3] [(Lf.r t0), (Lf.i t2), (Lf.i t3), (Lf.i (arS.mx t18 (cIS t0 (Int.toNat t21) 0))), (Lf.i (IntKind.wrap .i64 (t19 + (1 : Int)))), (Lf.r t45), (Lf.i t46), (Lf.i t47), (Lf.i t164), (Lf.i (IntKind.wrap .i64 (t165 + (1 : Int))))])) ∧
        (t19 ≥ (((List.length R2) : Nat) : Int) →
          Q 0 [] [(Lf.b false)])) ∧
      ((cIS R1 (Int.toNat t21) 0) ≠ t2 →
        EV 134 [R0, R1, R2, R3] [(Lf.r t0), (Lf.i t2), (Lf.i t3), (Lf.i t18), (Lf.i t19), (Lf.r t45), (Lf.i t46), (Lf.i t47), (Lf.i t164), (Lf.i (IntKind.wrap .i64 (t165 + (1 : Int))))])) ∧
    ((cBS R0 (Int.toNat t21) 0) = false →
      EV 134 [R0, R1, R2, R3] [(Lf.r t0), (Lf.i t2), (Lf.i t3), (Lf.i t18), (Lf.i t19), (Lf.r t45), (Lf.i t46), (Lf.i t47), (Lf.i t164), (Lf.i (IntKind.wrap .i64 (t165 + (1 : Int))))])) →
    EV 154 [R0, R1, R2, R3] [.r t0, .i t2, .i t3, .i t18, .i t19, .i t21, .r t45, .i t46, .i t47, .i t164, .i t165]
  p170 : ∀ {R0 : List (List AV)} {R1 : List (List AV)} {R2 : List (List AV)} {R3 : List (List AV)} {t0 : List (List AV)} {t2 : Int} {t3 : Int} {t18 : Int} {t19 : Int} {t45 : List (List AV)} {t46 : Int} {t47 : Int}, (pursS R0 = true → pursS R1 = true → pursS R2 = true → pursS R3 = true → 
    (t19 = (((List.length R2) : Nat) : Int) →
      EC Try.prog G16 [R3] [(Lf.i t2), (Lf.i t3)] (fun x rs vs => (x = 0 ∧ ∃ (Y53_0 : List (List AV)) (y53_0 : Int), rs = [Y53_0] ∧ vs = [.i y53_0] ∧
        ((y53_0 ≠ t18 →
            Q 0 [] [(Lf.b false)]) ∧
          (y53_0 = t18 →
            EV 29 [R0, R1, Y53_0] [(Lf.r t0), (Lf.i t2), (Lf.i t3), (Lf.r t45), (Lf.i t46), (Lf.i (IntKind.wrap .i64 (t47 + (1 : Int))))]))))) ∧
    (t19 ≠ (((List.length R2) : Nat) : Int) →
      Q 0 [] [(Lf.b false)])) →
    EV 170 [R0, R1, R2, R3] [.r t0, .i t2, .i t3, .i t18, .i t19, .r t45, .i t46, .i t47]
  p178 : ∀ {R0 : List (List AV)} {t0 : List (List AV)} {t2 : Int} {t3 : Int}, (pursS R0 = true → 
    EC Try.prog G15a [] [(Lf.i (0 : Int))] (fun x rs vs => (x = 0 ∧ ∃ (y58_0 : Int) (y58_1 : Bool), rs = [] ∧ vs = [.i y58_0, .b y58_1] ∧
      (EV 182 [R0] [(Lf.r t0), (Lf.i t2), (Lf.i t3), (Lf.b y58_1)])))) →
    EV 178 [R0] [.r t0, .i t2, .i t3]
  p182 : ∀ {R0 : List (List AV)} {t0 : List (List AV)} {t2 : Int} {t3 : Int} {t26 : Bool}, (pursS R0 = true → 
    EC Try.prog G17 [R0] [] (fun x rs vs => (x = 0 ∧ ∃ (Y59_0 : List (List AV)) (y59_0 : Int), rs = [Y59_0] ∧ vs = [.i y59_0] ∧
      ((y59_0 = (((List.length t0) : Nat) : Int) →
          EC Try.prog G17a [] [] (fun x rs vs => (x = 0 ∧ ∃ (y60_0 : Int), rs = [] ∧ vs = [.i y60_0] ∧
            (EC Try.prog G13a [] [(Lf.i t2)] (fun x rs vs => (x = 0 ∧ ∃ (y61_0 : Int), rs = [] ∧ vs = [.i y61_0] ∧
                (EC Try.prog G14a [] [(Lf.i t2)] (fun x rs vs => (x = 0 ∧ rs = [] ∧ vs = [] ∧
                    (((IntKind.wrap .i64 ((IntKind.wrap .i64 (y60_0 + y61_0)) + (0 : Int))) = (0 : Int) →
                        EC Try.prog G11a [] [(Lf.i (0 : Int)), (Lf.i (1 : Int))] (fun x rs vs => (x = 0 ∧ ∃ (y63_0 : Int), rs = [] ∧ vs = [.i y63_0] ∧
                          ((y63_0 = (6 : Int) →
                              EC Try.prog G16a [] [(Lf.i t2), (Lf.i t3)] (fun x rs vs => (x = 0 ∧ ∃ (y64_0 : Int), rs = [] ∧ vs = [.i y64_0] ∧
                                ((y64_0 = t3 →
                                    Q 0 [] [(Lf.b (!t26))]) ∧
                                  (y64_0 ≠ t3 →
                                    Q 0 [] [(Lf.b false)]))))) ∧
                            (y63_0 ≠ (6 : Int) →
                              Q 0 [] [(Lf.b false)]))))) ∧
                      ((IntKind.wrap .i64 ((IntKind.wrap .i64 (y60_0 + y61_0)) + (0 : Int))) ≠ (0 : Int) →
                        Q 0 [] [(Lf.b false)]))))))))))) ∧
        (y59_0 ≠ (((List.length t0) : Nat) : Int) →
          Q 0 [] [(Lf.b false)]))))) →
    EV 182 [R0] [.r t0, .i t2, .i t3, .b t26]

set_option maxHeartbeats 2000000 in
/-- To enter. -/
theorem E3 {Q : Nat → Rs → List Lf → Prop} {a0 : List (List AV)} {a1 : List (List AV)} {a2 : Int} {a3 : Int} (h : ∀ EV : Nat → Rs → List Lf → Prop, V3 EV Q →
    EC Try.prog G9 [] [] (fun x rs vs => (x = 0 ∧ ∃ (y73_0 : Bool), rs = [] ∧ vs = [.b y73_0] ∧
      ((y73_0 = false →
          Q 0 [] [(Lf.b false)]) ∧
        (y73_0 = true →
          ((((List.length a0) : Nat) : Int) ≤ (20 : Int) →
            ((((List.length a1) : Nat) : Int) > (150 : Int) →
              Q 0 [] [(Lf.b true)]) ∧
            ((((List.length a1) : Nat) : Int) ≤ (150 : Int) →
              EC Try.prog G10 [] [(Lf.r a0)] (fun x rs vs => (x = 0 ∧ ∃ (Y76_0 : List (List AV)), rs = [Y76_0] ∧ vs = [] ∧
                (((((List.length a0) : Nat) : Int) ≤ (140737488355328 : Int)) ∧
                  (((((List.length a0) : Nat) : Int) * ((1 : Nat) : Int)) ≤ (140737488355328 : Int)) ∧
                  (((((List.length a0) : Nat) : Int) * ((8 : Nat) : Int)) ≤ (140737488355328 : Int)) ∧
                  (EV 29 [(List.replicate (List.length a0) [(AV.bool false)]), (List.replicate (List.length a0) [(AV.int .i64 (0 : Int))]), Y76_0] [(Lf.r a0), (Lf.i a2), (Lf.i a3), (Lf.r a1), (Lf.i (((List.length a1) : Nat) : Int)), (Lf.i (0 : Int))])))))) ∧
          ((((List.length a0) : Nat) : Int) > (20 : Int) →
            Q 0 [] [(Lf.b true)])))))) :
    EC Try.prog G3 [] [.r a0, .r a1, .i a2, .i a3] Q := by
  obtain ⟨A, hA⟩ : ∃ A, A = arS := ⟨_, rfl⟩
  refine Inst.enter (I := I3) hA mixed F3_at sg L3 80 rfl fun CE CK Dn EV RR W hp => ?_
  have h := h  EV ⟨V3_p29 W, V3_p43 W, V3_p50 W, V3_p61 W, V3_p71 W, V3_p82 W, V3_p92 W, V3_p99 W, V3_p125 W, V3_p134 W, V3_p154 W, V3_p170 W, V3_p178 W, V3_p182 W⟩
  cbv
  refine ?_
  · refine W.call 80 (by rfl) h (by subst hA; rfl) (by subst hA; rfl) ?_
    rintro x rs vs hp73 hq73
    rcases hq73 with ⟨rfl, y73_0, rfl, rfl, k73⟩
    · cbv
      refine ⟨imI hA fun e74 => have c74 : y73_0 = false := (by have q := (notE hA e74); subst hA; exact q); (by rw [W.rr]; exact (by subst hA; exact (k73.1 c74))), imI hA fun e80 => have c80 : y73_0 = true := (by have q := (notE hA e80); subst hA; exact q); ⟨imI hA fun e78 => have c78 : (((List.length a0) : Nat) : Int) ≤ (20 : Int) := (by have q := (cmpE (op := .gtr) hA e78); subst hA; exact q); ⟨imI hA fun e75 => have c75 : (((List.length a1) : Nat) : Int) > (150 : Int) := (by have q := (cmpE (op := .gtr) hA e75); subst hA; exact q); (by rw [W.rr]; exact (by subst hA; exact (((k73.2 c80).1 c78).1 c75))), imI hA fun e77 => have c77 : (((List.length a1) : Nat) : Int) ≤ (150 : Int) := (by have q := (cmpE (op := .gtr) hA e77); subst hA; exact q); ?_⟩, imI hA fun e79 => have c79 : (((List.length a0) : Nat) : Int) > (20 : Int) := (by have q := (cmpE (op := .gtr) hA e79); subst hA; exact q); (by rw [W.rr]; exact (by subst hA; exact ((k73.2 c80).2 c79)))⟩⟩
      · refine W.call 80 (by rfl) (((k73.2 c80).1 c78).2 c77) (by subst hA; rfl) (by subst hA; rfl) ?_
        rintro x rs vs hp76 hq76
        rcases hq76 with ⟨rfl, Y76_0, rfl, rfl, k76⟩
        · cbv
          refine ⟨ndI hA (And.intro (by subst hA; exact Int.natCast_nonneg _) (And.intro (by subst hA; exact Int.le_refl _) (And.intro (by subst hA; exact k76.1) (by subst hA; exact k76.2.1)))), ⟨ndI hA (And.intro (by subst hA; exact Int.natCast_nonneg _) (And.intro (by subst hA; exact Int.le_refl _) (And.intro (by subst hA; exact k76.1) (by subst hA; exact k76.2.2.1)))), ⟨ndI hA (And.intro (by subst hA; show (Int.toNat (((List.length a0) : Nat) : Int)) = (List.length (List.replicate (Int.toNat (((List.length a0) : Nat) : Int)) [(AV.bool false)])); (first | rfl | simp [rappS_end] | (simp only [rappS_end, List.length_append, List.length_set, List.length_cons, List.length_nil]; omega))) (And.intro rfl (by subst hA; show (Int.toNat (((List.length a0) : Nat) : Int)) = (List.length (List.replicate (Int.toNat (((List.length a0) : Nat) : Int)) [(AV.bool false)])); (first | rfl | simp [rappS_end] | (simp only [rappS_end, List.length_append, List.length_set, List.length_cons, List.length_nil]; omega))))), ⟨ndI hA (And.intro (by subst hA; show (Int.toNat (((List.length a0) : Nat) : Int)) = (List.length (List.replicate (Int.toNat (((List.length a0) : Nat) : Int)) [(AV.int .i64 (0 : Int))])); (first | rfl | simp [rappS_end] | (simp only [rappS_end, List.length_append, List.length_set, List.length_cons, List.length_nil]; omega))) (And.intro rfl (by subst hA; show (Int.toNat (((List.length a0) : Nat) : Int)) = (List.length (List.replicate (Int.toNat (((List.length a0) : Nat) : Int)) [(AV.int .i64 (0 : Int))])); (first | rfl | simp [rappS_end] | (simp only [rappS_end, List.length_append, List.length_set, List.length_cons, List.length_nil]; omega))))), ⟨ndI hA (And.intro rfl (And.intro rfl rfl)), ⟨ndI hA (by subst hA; exact (vrep rfl)), ⟨ndI hA (by subst hA; exact (vrep rfl)), ⟨ndI hA (by subst hA; exact hp76.1), (by subst hA; show EV 29 [(List.replicate (Int.toNat (((List.length a0) : Nat) : Int)) [(AV.bool false)]), (List.replicate (Int.toNat (((List.length a0) : Nat) : Int)) [(AV.int .i64 (0 : Int))]), Y76_0] [(Lf.r a0), (Lf.i a2), (Lf.i a3), (Lf.r a1), (Lf.i (((List.length a1) : Nat) : Int)), (Lf.i (0 : Int))]; simp only [rappS_end, Nat.zero_add, Int.toNat_natCast]; exact k76.2.2.2)⟩⟩⟩⟩⟩⟩⟩⟩

end Go.Ab
