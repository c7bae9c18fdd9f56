/- PRINTED BY A PROGRAM (wip/tools/vc.py, AbVc.lean): what is to be shown of each function, from place to place, and that it is enough. -/
import Derived.Test.YtnbaldclpeoopaaTellsS
import Derived.Test.YtnbaldclpeoopaaAbV0
namespace Go.Ab
open Go Go.Proofs
set_option linter.unusedVariables false
set_option linter.unusedSimpArgs false
set_option maxRecDepth 100000

-- 34: signalbox/signalboxlaw24.one
section
structure V34 (EV Q : Nat → Rs → List Lf → Prop) : Prop where
  none : True

end
set_option maxHeartbeats 0 in
/-- To enter. -/
theorem E34 {Q : Nat → Rs → List Lf → Prop}  (h : ∀ EV : Nat → Rs → List Lf → Prop, V34 EV Q →
    Q 0 [] [(Lf.i (1 : Int)), (Lf.i (1 : Int)), (Lf.i (1 : Int)), (Lf.i (5 : Int)), (Lf.i (0 : Int)), (Lf.r [[(AV.int .i64 (7 : Int))]]), (Lf.r [[(AV.int .i64 (1 : Int)), (AV.int .i64 (2 : Int)), (AV.int .i64 (0 : Int)), (AV.int .i64 (0 : Int)), (AV.int .i64 (0 : Int)), (AV.int .i64 (0 : Int)), (AV.inl 3 [[(AV.int .i64 (1 : Int)), (AV.int .i64 (5 : Int)), (AV.int .i64 (0 : Int))], [(AV.int .i64 (3 : Int)), (AV.int .i64 (0 : Int)), (AV.int .i64 (0 : Int))], [(AV.int .i64 (1 : Int)), (AV.int .i64 (2 : Int)), (AV.int .i64 (0 : Int))], [(AV.int .i64 (4 : Int)), (AV.int .i64 (0 : Int)), (AV.int .i64 (0 : Int))], [(AV.int .i64 (5 : Int)), (AV.int .i64 (0 : Int)), (AV.int .i64 (0 : Int))], [(AV.int .i64 (6 : Int)), (AV.int .i64 (0 : Int)), (AV.int .i64 (0 : Int))]])]])]) :
    EC Try.prog G34 [] [] Q := by
  obtain ⟨A, hA⟩ : ∃ A, A = arS := ⟨_, rfl⟩
  refine Inst.enter (I := I34) hA mixed F34_at sg L34 80 rfl fun CE CK Dn EV RR W hp => ?_
  have h := h  EV ⟨trivial⟩
  cbv
  refine (by rw [W.rr]; exact (by subst hA; exact h))

-- 35: signalbox/section.is
section
structure V35 (EV Q : Nat → Rs → List Lf → Prop) : Prop where
  none : True

end
set_option maxHeartbeats 0 in
/-- To enter. -/
theorem E35 {Q : Nat → Rs → List Lf → Prop} {a0_0 : Int} {a0_1 : Int} {a0_2 : Int} {a0_3 : Int} {a0_4 : List (List AV)} {a0_5 : Int} {a0_6 : List (List AV)} {a0_7 : List (List AV)} {a0_8 : List (List AV)} {a0_9 : List (List AV)} {a1 : Int} (h : ∀ EV : Nat → Rs → List Lf → Prop, V35 EV Q →
    (a1 ≥ (0 : Int) →
      Q 0 [] [(Lf.b (decide (a1 < (((List.length a0_8) : Nat) : Int))))]) ∧
    (a1 < (0 : Int) →
      Q 0 [] [(Lf.b false)])) :
    EC Try.prog G35 [] [.i a0_0, .i a0_1, .i a0_2, .i a0_3, .r a0_4, .i a0_5, .r a0_6, .r a0_7, .r a0_8, .r a0_9, .i a1] Q := by
  obtain ⟨A, hA⟩ : ∃ A, A = arS := ⟨_, rfl⟩
  refine Inst.enter (I := I35) hA mixed F35_at sg L35 80 rfl fun CE CK Dn EV RR W hp => ?_
  have h := h  EV ⟨trivial⟩
  cbv
  refine ⟨imI hA fun e0 => have c0 : a1 ≥ (0 : Int) := (by have q := (cmpE (op := .geq) hA e0); subst hA; exact q); (by rw [W.rr]; exact (by subst hA; exact (h.1 c0))), imI hA fun e0 => have c0 : a1 < (0 : Int) := (by have q := (cmpE (op := .geq) hA e0); subst hA; exact q); (by rw [W.rr]; exact (by subst hA; exact (h.2 c0)))⟩

-- 36: signalbox/ceiling.New
section
structure V36 (EV Q : Nat → Rs → List Lf → Prop) : Prop where
  p9 : ∀ {R0 : List (List AV)} {t8 : List (List AV)} {t9 : Int} {t10 : Int}, (pursS R0 = true → 
    (t10 < t9 →
      ((0 : Int) ≤ t10) ∧
      (t8[(Int.toNat t10)]? = some [(AV.int .i64 (cIS t8 (Int.toNat t10) 0))]) ∧
      (((List.length R0) + 1) ≤ 140737488355328) ∧
      ((((List.length R0) + 1) * 24) ≤ 140737488355328) ∧
      (EV 9 [(R0 ++ [[(AV.int .i64 (cIS t8 (Int.toNat t10) 0)), (AV.int .i64 (0 : Int)), (AV.bool false)]])] [(Lf.r t8), (Lf.i t9), (Lf.i (IntKind.wrap .i64 (t10 + (1 : Int))))])) ∧
    (t10 ≥ t9 →
      Q 0 [R0] [])) →
    EV 9 [R0] [.r t8, .i t9, .i t10]

set_option maxHeartbeats 0 in
theorem V36.of {Q : Nat → Rs → List Lf → Prop} {A : Ar} {CE : Nat → Rs → List Lf → (Nat → Rs → List Lf → Prop) → Prop} {CK : Nat → Rs → List Lf → Cont → Prop} {Dn : Nat → List Bool → List AItem → Nat → List Bool → List AV → List ABlk → Prop} {EV RR : Nat → Rs → List Lf → Prop} (W : Wk Try.prog Try.f36 I36 L36 Q A sg CE CK Dn EV RR) : V36 EV Q := by
  have hA := W.hA
  refine ⟨?_⟩
  · intro R0 t8 t9 t10 h
    refine W.step 80 fun hp => ?_
    have h := h hp.1
    cbv
    refine ⟨imI hA fun e0 => have c0 : t10 < t9 := (by have q := (cmpE (op := .lss) hA e0); subst hA; exact q); ⟨ndI hA (And.intro (by subst hA; exact (h.1 c0).1) (by subst hA; exact (h.1 c0).2.1)), ⟨ndI hA (And.intro rfl (And.intro (Nat.le_refl _) (And.intro (by subst hA; exact (h.1 c0).2.2.1) (by subst hA; exact (h.1 c0).2.2.2.1)))), ⟨ndI hA (And.intro rfl (And.intro rfl (by subst hA; show ((List.length R0) + 1) = (List.length (rappS R0 (List.length R0) [[(AV.int .i64 (cIS t8 (Int.toNat t10) 0)), (AV.int .i64 (0 : Int)), (AV.bool false)]])); (first | rfl | simp [rappS_end] | (simp only [rappS_end, List.length_append, List.length_set, List.length_cons, List.length_nil]; omega))))), ⟨ndI hA (by subst hA; exact (vapp hp.1 vpur)), (by subst hA; show EV 9 [(rappS R0 (List.length R0) [[(AV.int .i64 (cIS t8 (Int.toNat t10) 0)), (AV.int .i64 (0 : Int)), (AV.bool false)]])] [(Lf.r t8), (Lf.i t9), (Lf.i (IntKind.wrap .i64 (t10 + (1 : Int))))]; simp only [rappS_end, Nat.zero_add, Int.toNat_natCast]; exact (h.1 c0).2.2.2.2)⟩⟩⟩⟩, imI hA fun e0 => have c0 : t10 ≥ t9 := (by have q := (cmpE (op := .lss) hA e0); subst hA; exact q); ⟨ndI hA (And.intro rfl (And.intro rfl rfl)), ⟨ndI hA (by subst hA; exact hp.1), (by rw [W.rr]; exact (by subst hA; exact (h.2 c0)))⟩⟩⟩

end
set_option maxHeartbeats 0 in
/-- To enter. -/
theorem E36 {Q : Nat → Rs → List Lf → Prop} {a0 : List (List AV)} (h : ∀ EV : Nat → Rs → List Lf → Prop, V36 EV Q →
    EV 9 [[]] [(Lf.r a0), (Lf.i (((List.length a0) : Nat) : Int)), (Lf.i (0 : Int))]) :
    EC Try.prog G36 [] [.r a0] Q := by
  obtain ⟨A, hA⟩ : ∃ A, A = arS := ⟨_, rfl⟩
  refine Inst.enter (I := I36) hA mixed F36_at sg L36 80 rfl fun CE CK Dn EV RR W hp => ?_
  have h := h  EV (V36.of W)
  cbv
  refine ⟨ndI hA (And.intro (by subst hA; show 0 = 0; (first | rfl | simp [rappS_end] | (simp only [rappS_end, List.length_append, List.length_set, List.length_cons, List.length_nil]; omega))) (And.intro rfl (by subst hA; show 0 = 0; (first | rfl | simp [rappS_end] | (simp only [rappS_end, List.length_append, List.length_set, List.length_cons, List.length_nil]; omega))))), ⟨ndI hA (by subst hA; exact vpur), (by subst hA; exact h)⟩⟩

-- 72: (*signalbox/ceiling.Locks).Len
section
structure V72 (EV Q : Nat → Rs → List Lf → Prop) : Prop where
  none : True

end
set_option maxHeartbeats 0 in
/-- To enter. -/
theorem E72 {Q : Nat → Rs → List Lf → Prop} {R0 : List (List AV)} (h : pursS R0 = true → ∀ EV : Nat → Rs → List Lf → Prop, V72 EV Q →
    Q 0 [R0] [(Lf.i (((List.length R0) : Nat) : Int))]) :
    EC Try.prog G72 [R0] [] Q := by
  obtain ⟨A, hA⟩ : ∃ A, A = arS := ⟨_, rfl⟩
  refine Inst.enter (I := I72) hA mixed F72_at sg L72 80 rfl fun CE CK Dn EV RR W hp => ?_
  have h := h hp.1 EV ⟨trivial⟩
  cbv
  refine ⟨ndI hA rfl, ⟨ndI hA (And.intro rfl (And.intro rfl rfl)), ⟨ndI hA (by subst hA; exact hp.1), (by rw [W.rr]; exact (by subst hA; exact h))⟩⟩⟩

-- 57: (*signalbox/ceiling.Locks).at
section
structure V57 (EV Q : Nat → Rs → List Lf → Prop) : Prop where
  none : True

end
set_option maxHeartbeats 0 in
/-- To enter. -/
theorem E57 {Q : Nat → Rs → List Lf → Prop} {R0 : List (List AV)} {a1 : Int} (h : pursS R0 = true → ∀ EV : Nat → Rs → List Lf → Prop, V57 EV Q →
    (a1 ≥ (0 : Int) →
      EC Try.prog G72 [R0] [] (fun x rs vs => (x = 0 ∧ ∃ (Y1_0 : List (List AV)) (y1_0 : Int), rs = [Y1_0] ∧ vs = [.i y1_0] ∧
        ((a1 ≥ y1_0 →
            Q 0 [Y1_0] []) ∧
          (a1 < y1_0 →
            ((0 : Int) ≤ a1) ∧
            (a1 < (((List.length Y1_0) : Nat) : Int)) ∧
            (Q 1 [Y1_0] [(Lf.n (Int.toNat a1))])))))) ∧
    (a1 < (0 : Int) →
      Q 0 [R0] [])) :
    EC Try.prog G57 [R0] [.i a1] Q := by
  obtain ⟨A, hA⟩ : ∃ A, A = arS := ⟨_, rfl⟩
  refine Inst.enter (I := I57) hA mixed F57_at sg L57 80 rfl fun CE CK Dn EV RR W hp => ?_
  have h := h hp.1 EV ⟨trivial⟩
  cbv
  refine ⟨imI hA fun e0 => have c0 : a1 ≥ (0 : Int) := (by have q := (cmpE (op := .lss) hA e0); subst hA; exact q); ⟨ndI hA (And.intro rfl (And.intro rfl rfl)), ⟨ndI hA (by subst hA; exact hp.1), ?_⟩⟩, imI hA fun e0 => have c0 : a1 < (0 : Int) := (by have q := (cmpE (op := .lss) hA e0); subst hA; exact q); ⟨ndI hA (And.intro rfl (And.intro rfl rfl)), ⟨ndI hA (by subst hA; exact hp.1), (by rw [W.rr]; exact (by subst hA; exact (h.2 c0)))⟩⟩⟩
  · refine W.call 80 (by rfl) (h.1 c0) (by subst hA; rfl) (by subst hA; rfl) ?_
    rintro x rs vs hp1 hq1
    rcases hq1 with ⟨rfl, Y1_0, y1_0, rfl, rfl, k1⟩
    · cbv
      refine ⟨imI hA fun e2 => have c2 : a1 ≥ y1_0 := (by have q := (cmpE (op := .geq) hA e2); subst hA; exact q); ⟨ndI hA (And.intro rfl (And.intro rfl rfl)), ⟨ndI hA (by subst hA; exact hp1.1), (by rw [W.rr]; exact (by subst hA; exact (k1.1 c2)))⟩⟩, imI hA fun e2 => have c2 : a1 < y1_0 := (by have q := (cmpE (op := .geq) hA e2); subst hA; exact q); ⟨ndI hA (And.intro (by subst hA; exact (k1.2 c2).1) (And.intro (by subst hA; exact (k1.2 c2).2.1) rfl)), ⟨ndI hA rfl, ⟨ndI hA (And.intro rfl (And.intro rfl rfl)), ⟨ndI hA (by subst hA; exact hp1.1), (by rw [W.rr]; exact (by subst hA; show Q 1 [Y1_0] [(Lf.n (0 + (Int.toNat a1)))]; simp only [rappS_end, Nat.zero_add, Int.toNat_natCast]; exact (k1.2 c2).2.2))⟩⟩⟩⟩⟩

-- 71: (*signalbox/ceiling.Locks).Held
section
structure V71 (EV Q : Nat → Rs → List Lf → Prop) : Prop where
  p9 : ∀ {R0 : List (List AV)} {R1 : List (List AV)} {t1 : Int} {t9 : Int} {t10 : Int}, (pursS R0 = true → pursS R1 = true → 
    (t10 < t9 →
      EC Try.prog G57 [R0] [(Lf.i t10)] (fun x rs vs => (x = 0 ∧ ∃ (Y1_0 : List (List AV)), rs = [Y1_0] ∧ vs = [] ∧
        (False)) ∨ (x = 1 ∧ ∃ (Y1_0 : List (List AV)) (y1_0 : Nat), rs = [Y1_0] ∧ vs = [.n y1_0] ∧
        ((Y1_0[y1_0]? = some [(AV.int .i64 (cIS Y1_0 y1_0 0)), (AV.int .i64 (cIS Y1_0 y1_0 1)), (AV.bool (cBS Y1_0 y1_0 2))]) ∧
          ((cBS Y1_0 y1_0 2) = true →
            (Y1_0[y1_0]? = some [(AV.int .i64 (cIS Y1_0 y1_0 0)), (AV.int .i64 (cIS Y1_0 y1_0 1)), (AV.bool (cBS Y1_0 y1_0 2))]) ∧
            ((cIS Y1_0 y1_0 1) = t1 →
              (((List.length R1) + 1) ≤ 140737488355328) ∧
              ((((List.length R1) + 1) * 8) ≤ 140737488355328) ∧
              (EV 9 [Y1_0, (R1 ++ [[(AV.int .i64 t10)]])] [(Lf.i t1), (Lf.i t9), (Lf.i (IntKind.wrap .i64 (t10 + (1 : Int))))])) ∧
            ((cIS Y1_0 y1_0 1) ≠ t1 →
              EV 9 [Y1_0, R1] [(Lf.i t1), (Lf.i t9), (Lf.i (IntKind.wrap .i64 (t10 + (1 : Int))))])) ∧
          ((cBS Y1_0 y1_0 2) = false →
            EV 9 [Y1_0, R1] [(Lf.i t1), (Lf.i t9), (Lf.i (IntKind.wrap .i64 (t10 + (1 : Int))))]))))) ∧
    (t10 ≥ t9 →
      Q 0 [R0, R1] [])) →
    EV 9 [R0, R1] [.i t1, .i t9, .i t10]

set_option maxHeartbeats 0 in
theorem V71.of {Q : Nat → Rs → List Lf → Prop} {A : Ar} {CE : Nat → Rs → List Lf → (Nat → Rs → List Lf → Prop) → Prop} {CK : Nat → Rs → List Lf → Cont → Prop} {Dn : Nat → List Bool → List AItem → Nat → List Bool → List AV → List ABlk → Prop} {EV RR : Nat → Rs → List Lf → Prop} (W : Wk Try.prog Try.f71 I71 L71 Q A sg CE CK Dn EV RR) : V71 EV Q := by
  have hA := W.hA
  refine ⟨?_⟩
  · intro R0 R1 t1 t9 t10 h
    refine W.step 80 fun hp => ?_
    have h := h hp.1 hp.2.1
    cbv
    refine ⟨imI hA fun e0 => have c0 : t10 < t9 := (by have q := (cmpE (op := .lss) hA e0); subst hA; exact q); ⟨ndI hA (And.intro rfl (And.intro rfl rfl)), ⟨ndI hA (by subst hA; exact hp.1), ?_⟩⟩, imI hA fun e0 => have c0 : t10 ≥ t9 := (by have q := (cmpE (op := .lss) hA e0); subst hA; exact q); ⟨ndI hA (And.intro rfl (And.intro rfl rfl)), ⟨ndI hA (And.intro rfl (And.intro rfl rfl)), ⟨ndI hA (by subst hA; exact hp.1), ⟨ndI hA (by subst hA; exact hp.2.1), (by rw [W.rr]; exact (by subst hA; exact (h.2 c0)))⟩⟩⟩⟩⟩
    · refine W.call 80 (by rfl) (h.1 c0) (by subst hA; rfl) (by subst hA; rfl) ?_
      rintro x rs vs hp1 hq1
      rcases hq1 with ⟨rfl, Y1_0, rfl, rfl, k1⟩ | ⟨rfl, Y1_0, y1_0, rfl, rfl, k1⟩
      · cbv
        refine k1
      · cbv
        refine ⟨ndI hA (And.intro rfl (by subst hA; exact k1.1)), ⟨imI hA fun e2 => have c2 : (cBS Y1_0 y1_0 2) = true := (by have q := e2; subst hA; exact q); ⟨ndI hA (And.intro rfl (by subst hA; exact (k1.2.1 c2).1)), ⟨imI hA fun e3 => have c3 : (cIS Y1_0 y1_0 1) = t1 := (by have q := (cmpE (op := .eql) hA e3); subst hA; exact q); ⟨ndI hA (And.intro rfl (And.intro (Nat.le_refl _) (And.intro (by subst hA; exact ((k1.2.1 c2).2.1 c3).1) (by subst hA; exact ((k1.2.1 c2).2.1 c3).2.1)))), ⟨ndI hA (And.intro rfl (And.intro rfl (by subst hA; show ((List.length R1) + 1) = (List.length (rappS R1 (List.length R1) [[(AV.int .i64 t10)]])); (first | rfl | simp [rappS_end] | (simp only [rappS_end, List.length_append, List.length_set, List.length_cons, List.length_nil]; omega))))), ⟨ndI hA (And.intro rfl (And.intro rfl rfl)), ⟨ndI hA (by subst hA; exact hp1.1), ⟨ndI hA (by subst hA; exact (vapp hp.2.1 vpur)), (by subst hA; show EV 9 [Y1_0, (rappS R1 (List.length R1) [[(AV.int .i64 t10)]])] [(Lf.i t1), (Lf.i t9), (Lf.i (IntKind.wrap .i64 (t10 + (1 : Int))))]; simp only [rappS_end, Nat.zero_add, Int.toNat_natCast]; exact ((k1.2.1 c2).2.1 c3).2.2)⟩⟩⟩⟩⟩, imI hA fun e3 => have c3 : (cIS Y1_0 y1_0 1) ≠ t1 := (by have q := (cmpE (op := .eql) hA e3); subst hA; exact q); ⟨ndI hA (And.intro rfl (And.intro rfl rfl)), ⟨ndI hA (And.intro rfl (And.intro rfl rfl)), ⟨ndI hA (by subst hA; exact hp1.1), ⟨ndI hA (by subst hA; exact hp.2.1), (by subst hA; exact ((k1.2.1 c2).2.2 c3))⟩⟩⟩⟩⟩⟩, imI hA fun e2 => have c2 : (cBS Y1_0 y1_0 2) = false := (by have q := e2; subst hA; exact q); ⟨ndI hA (And.intro rfl (And.intro rfl rfl)), ⟨ndI hA (And.intro rfl (And.intro rfl rfl)), ⟨ndI hA (by subst hA; exact hp1.1), ⟨ndI hA (by subst hA; exact hp.2.1), (by subst hA; exact (k1.2.2 c2))⟩⟩⟩⟩⟩⟩

end
set_option maxHeartbeats 0 in
/-- To enter. -/
theorem E71 {Q : Nat → Rs → List Lf → Prop} {R0 : List (List AV)} {a1 : Int} (h : pursS R0 = true → ∀ EV : Nat → Rs → List Lf → Prop, V71 EV Q →
    EC Try.prog G72 [R0] [] (fun x rs vs => (x = 0 ∧ ∃ (Y0_0 : List (List AV)) (y0_0 : Int), rs = [Y0_0] ∧ vs = [.i y0_0] ∧
      (EV 9 [Y0_0, []] [(Lf.i a1), (Lf.i y0_0), (Lf.i (0 : Int))])))) :
    EC Try.prog G71 [R0] [.i a1] Q := by
  obtain ⟨A, hA⟩ : ∃ A, A = arS := ⟨_, rfl⟩
  refine Inst.enter (I := I71) hA mixed F71_at sg L71 80 rfl fun CE CK Dn EV RR W hp => ?_
  have h := h hp.1 EV (V71.of W)
  cbv
  refine ⟨ndI hA (And.intro rfl (And.intro rfl rfl)), ⟨ndI hA (by subst hA; exact hp.1), ?_⟩⟩
  · refine W.call 80 (by rfl) h (by subst hA; rfl) (by subst hA; rfl) ?_
    rintro x rs vs hp0 hq0
    rcases hq0 with ⟨rfl, Y0_0, y0_0, rfl, rfl, k0⟩
    · cbv
      refine ⟨ndI hA (And.intro (by subst hA; show 0 = 0; (first | rfl | simp [rappS_end] | (simp only [rappS_end, List.length_append, List.length_set, List.length_cons, List.length_nil]; omega))) (And.intro rfl (by subst hA; show 0 = 0; (first | rfl | simp [rappS_end] | (simp only [rappS_end, List.length_append, List.length_set, List.length_cons, List.length_nil]; omega))))), ⟨ndI hA (And.intro rfl (And.intro rfl rfl)), ⟨ndI hA (by subst hA; exact hp0.1), ⟨ndI hA (by subst hA; exact vpur), (by subst hA; exact k0)⟩⟩⟩⟩

-- 56: (*signalbox/ceiling.Locks).Level
section
structure V56 (EV Q : Nat → Rs → List Lf → Prop) : Prop where
  p7 : ∀ {R0 : List (List AV)} {R1 : List (List AV)} {t2 : Int} {t12 : Int} {t13 : Int}, (pursS R0 = true → pursS R1 = true → 
    (t13 < t12 →
      ((0 : Int) ≤ t13) ∧
      (t13 < (((List.length R1) : Nat) : Int)) ∧
      (R1[(Int.toNat t13)]? = some [(AV.int .i64 (cIS R1 (Int.toNat t13) 0))]) ∧
      (EC Try.prog G57 [R0] [(Lf.i (cIS R1 (Int.toNat t13) 0))] (fun x rs vs => (x = 0 ∧ ∃ (Y1_0 : List (List AV)), rs = [Y1_0] ∧ vs = [] ∧
        (False)) ∨ (x = 1 ∧ ∃ (Y1_0 : List (List AV)) (y1_0 : Nat), rs = [Y1_0] ∧ vs = [.n y1_0] ∧
        ((Y1_0[y1_0]? = some [(AV.int .i64 (cIS Y1_0 y1_0 0)), (AV.int .i64 (cIS Y1_0 y1_0 1)), (AV.bool (cBS Y1_0 y1_0 2))]) ∧
          (EV 7 [Y1_0, R1] [(Lf.i (arS.mx t2 (cIS Y1_0 y1_0 0))), (Lf.i t12), (Lf.i (IntKind.wrap .i64 (t13 + (1 : Int))))])))))) ∧
    (t13 ≥ t12 →
      Q 0 [R0] [(Lf.i t2)])) →
    EV 7 [R0, R1] [.i t2, .i t12, .i t13]

set_option maxHeartbeats 0 in
theorem V56.of {Q : Nat → Rs → List Lf → Prop} {A : Ar} {CE : Nat → Rs → List Lf → (Nat → Rs → List Lf → Prop) → Prop} {CK : Nat → Rs → List Lf → Cont → Prop} {Dn : Nat → List Bool → List AItem → Nat → List Bool → List AV → List ABlk → Prop} {EV RR : Nat → Rs → List Lf → Prop} (W : Wk Try.prog Try.f56 I56 L56 Q A sg CE CK Dn EV RR) : V56 EV Q := by
  have hA := W.hA
  refine ⟨?_⟩
  · intro R0 R1 t2 t12 t13 h
    refine W.step 80 fun hp => ?_
    have h := h hp.1 hp.2.1
    cbv
    refine ⟨imI hA fun e0 => have c0 : t13 < t12 := (by have q := (cmpE (op := .lss) hA e0); subst hA; exact q); ⟨ndI hA (And.intro (by subst hA; exact (h.1 c0).1) (And.intro (by subst hA; exact (h.1 c0).2.1) rfl)), ⟨ndI hA (And.intro rfl (by subst hA; show R1[(0 + (Int.toNat t13))]? = some [(AV.int .i64 (cIS R1 (0 + (Int.toNat t13)) 0))]; simp only [rappS_end, Nat.zero_add, Int.toNat_natCast]; exact (h.1 c0).2.2.1)), ⟨ndI hA (And.intro rfl (And.intro rfl rfl)), ⟨ndI hA (by subst hA; exact hp.1), ?_⟩⟩⟩⟩, imI hA fun e0 => have c0 : t13 ≥ t12 := (by have q := (cmpE (op := .lss) hA e0); subst hA; exact q); ⟨ndI hA (And.intro rfl (And.intro rfl rfl)), ⟨ndI hA (by subst hA; exact hp.1), (by rw [W.rr]; exact (by subst hA; exact (h.2 c0)))⟩⟩⟩
    · refine W.call 80 (by rfl) (h.1 c0).2.2.2 (by subst hA; show [R0] = [R0]; simp only [rappS_end, Nat.zero_add, Int.toNat_natCast]) (by subst hA; show [(Lf.i (cIS R1 (0 + (Int.toNat t13)) 0))] = [(Lf.i (cIS R1 (Int.toNat t13) 0))]; simp only [rappS_end, Nat.zero_add, Int.toNat_natCast]) ?_
      rintro x rs vs hp1 hq1
      rcases hq1 with ⟨rfl, Y1_0, rfl, rfl, k1⟩ | ⟨rfl, Y1_0, y1_0, rfl, rfl, k1⟩
      · cbv
        refine k1
      · cbv
        refine ⟨ndI hA (And.intro rfl (by subst hA; exact k1.1)), ⟨ndI hA (And.intro rfl (And.intro rfl rfl)), ⟨ndI hA (And.intro rfl (And.intro rfl rfl)), ⟨ndI hA (by subst hA; exact hp1.1), ⟨ndI hA (by subst hA; exact hp.2.1), (by subst hA; exact k1.2)⟩⟩⟩⟩⟩

end
set_option maxHeartbeats 0 in
/-- To enter. -/
theorem E56 {Q : Nat → Rs → List Lf → Prop} {R0 : List (List AV)} {a1 : Int} {a2 : Int} (h : pursS R0 = true → ∀ EV : Nat → Rs → List Lf → Prop, V56 EV Q →
    EC Try.prog G71 [R0] [(Lf.i a1)] (fun x rs vs => (x = 0 ∧ ∃ (Y0_0 : List (List AV)) (Y0_1 : List (List AV)), rs = [Y0_0, Y0_1] ∧ vs = [] ∧
      (EV 7 [Y0_0, Y0_1] [(Lf.i a2), (Lf.i (((List.length Y0_1) : Nat) : Int)), (Lf.i (0 : Int))])))) :
    EC Try.prog G56 [R0] [.i a1, .i a2] Q := by
  obtain ⟨A, hA⟩ : ∃ A, A = arS := ⟨_, rfl⟩
  refine Inst.enter (I := I56) hA mixed F56_at sg L56 80 rfl fun CE CK Dn EV RR W hp => ?_
  have h := h hp.1 EV (V56.of W)
  cbv
  refine ⟨ndI hA (And.intro rfl (And.intro rfl rfl)), ⟨ndI hA (by subst hA; exact hp.1), ?_⟩⟩
  · refine W.call 80 (by rfl) h (by subst hA; rfl) (by subst hA; rfl) ?_
    rintro x rs vs hp0 hq0
    rcases hq0 with ⟨rfl, Y0_0, Y0_1, rfl, rfl, k0⟩
    · cbv
      refine ⟨ndI hA rfl, ⟨ndI hA (And.intro rfl (And.intro rfl rfl)), ⟨ndI hA (And.intro rfl (And.intro rfl rfl)), ⟨ndI hA (by subst hA; exact hp0.1), ⟨ndI hA (by subst hA; exact hp0.2.1), (by subst hA; exact k0)⟩⟩⟩⟩⟩

-- 46: (*signalbox/section.walker).level DRAWN
section
structure V46 (EV Q : Nat → Rs → List Lf → Prop) : Prop where
  none : True

end
set_option maxHeartbeats 0 in
/-- To enter. -/
theorem E46 {Q : Nat → Rs → List Lf → Prop} {R0 : List (List AV)} {ab0_0 : Int} {ab0_1 : Int} (h : pursS R0 = true → ∀ EV : Nat → Rs → List Lf → Prop, V46 EV Q →
    (ab0_1 > (0 : Int) →
      Q 0 [R0] [(Lf.i (64 : Int)), (Lf.i ab0_0), (Lf.i ab0_1)]) ∧
    (ab0_1 ≤ (0 : Int) →
      EC Try.prog G56 [R0] [(Lf.i (0 : Int)), (Lf.i ab0_0)] (fun x rs vs => (x = 0 ∧ ∃ (Y1_0 : List (List AV)) (y1_0 : Int), rs = [Y1_0] ∧ vs = [.i y1_0] ∧
        (Q 0 [Y1_0] [(Lf.i y1_0), (Lf.i ab0_0), (Lf.i ab0_1)]))))) :
    EC Try.prog G46 [R0] [.i ab0_0, .i ab0_1] Q := by
  obtain ⟨A, hA⟩ : ∃ A, A = arS := ⟨_, rfl⟩
  refine Inst.enter (I := I46) hA mixed F46_at sg L46 80 rfl fun CE CK Dn EV RR W hp => ?_
  have h := h hp.1 EV ⟨trivial⟩
  cbv
  refine ⟨imI hA fun e0 => have c0 : ab0_1 > (0 : Int) := (by have q := (cmpE (op := .gtr) hA e0); subst hA; exact q); ⟨ndI hA (And.intro rfl (And.intro rfl rfl)), ⟨ndI hA (by subst hA; exact hp.1), (by rw [W.rr]; exact (by subst hA; exact (h.1 c0)))⟩⟩, imI hA fun e0 => have c0 : ab0_1 ≤ (0 : Int) := (by have q := (cmpE (op := .gtr) hA e0); subst hA; exact q); ⟨⟨ndI hA (And.intro rfl (And.intro rfl rfl)), ⟨ndI hA (by subst hA; exact hp.1), ?_⟩⟩, trivial⟩⟩
  · refine W.callD (by rfl) (h.2 c0) (by subst hA; rfl) (by subst hA; rfl) ?_
    rintro x rs vs hp1 hq1
    rcases hq1 with ⟨rfl, Y1_0, y1_0, rfl, rfl, k1⟩
    · cbv
      refine ?_
      · refine W.draw 80 (by rfl) ?_
        cbv
        refine ⟨ndI hA (And.intro rfl (And.intro rfl rfl)), ⟨ndI hA (by subst hA; exact hp1.1), (by rw [W.rr]; exact (by subst hA; exact k1))⟩⟩

-- 47: (*signalbox/ceiling.Locks).Lock
section
structure V47 (EV Q : Nat → Rs → List Lf → Prop) : Prop where
  none : True

end
set_option maxHeartbeats 0 in
/-- To enter. -/
theorem E47 {Q : Nat → Rs → List Lf → Prop} {R0 : List (List AV)} {a1 : Int} {a2 : Int} (h : pursS R0 = true → ∀ EV : Nat → Rs → List Lf → Prop, V47 EV Q →
    EC Try.prog G57 [R0] [(Lf.i a1)] (fun x rs vs => (x = 0 ∧ ∃ (Y0_0 : List (List AV)), rs = [Y0_0] ∧ vs = [] ∧
      (Q 0 [Y0_0] [(Lf.i (6 : Int))])) ∨ (x = 1 ∧ ∃ (Y0_0 : List (List AV)) (y0_0 : Nat), rs = [Y0_0] ∧ vs = [.n y0_0] ∧
      ((Y0_0[y0_0]? = some [(AV.int .i64 (cIS Y0_0 y0_0 0)), (AV.int .i64 (cIS Y0_0 y0_0 1)), (AV.bool (cBS Y0_0 y0_0 2))]) ∧
        ((cBS Y0_0 y0_0 2) = true →
          Q 0 [Y0_0] [(Lf.i (10 : Int))]) ∧
        ((cBS Y0_0 y0_0 2) = false →
          (Y0_0[y0_0]? = some [(AV.int .i64 (cIS Y0_0 y0_0 0)), (AV.int .i64 (cIS Y0_0 y0_0 1)), (AV.bool (cBS Y0_0 y0_0 2))]) ∧
          ((List.set Y0_0 y0_0 [(AV.int .i64 (cIS Y0_0 y0_0 0)), (AV.int .i64 a2), (AV.bool (cBS Y0_0 y0_0 2))])[y0_0]? = some [(AV.int .i64 (cIS (List.set Y0_0 y0_0 [(AV.int .i64 (cIS Y0_0 y0_0 0)), (AV.int .i64 a2), (AV.bool (cBS Y0_0 y0_0 2))]) y0_0 0)), (AV.int .i64 (cIS (List.set Y0_0 y0_0 [(AV.int .i64 (cIS Y0_0 y0_0 0)), (AV.int .i64 a2), (AV.bool (cBS Y0_0 y0_0 2))]) y0_0 1)), (AV.bool (cBS (List.set Y0_0 y0_0 [(AV.int .i64 (cIS Y0_0 y0_0 0)), (AV.int .i64 a2), (AV.bool (cBS Y0_0 y0_0 2))]) y0_0 2))]) ∧
          (Q 0 [(List.set (List.set Y0_0 y0_0 [(AV.int .i64 (cIS Y0_0 y0_0 0)), (AV.int .i64 a2), (AV.bool (cBS Y0_0 y0_0 2))]) y0_0 [(AV.int .i64 (cIS (List.set Y0_0 y0_0 [(AV.int .i64 (cIS Y0_0 y0_0 0)), (AV.int .i64 a2), (AV.bool (cBS Y0_0 y0_0 2))]) y0_0 0)), (AV.int .i64 (cIS (List.set Y0_0 y0_0 [(AV.int .i64 (cIS Y0_0 y0_0 0)), (AV.int .i64 a2), (AV.bool (cBS Y0_0 y0_0 2))]) y0_0 1)), (AV.bool true)])] [(Lf.i (0 : Int))])))))) :
    EC Try.prog G47 [R0] [.i a1, .i a2] Q := by
  obtain ⟨A, hA⟩ : ∃ A, A = arS := ⟨_, rfl⟩
  refine Inst.enter (I := I47) hA mixed F47_at sg L47 80 rfl fun CE CK Dn EV RR W hp => ?_
  have h := h hp.1 EV ⟨trivial⟩
  cbv
  refine ⟨ndI hA (And.intro rfl (And.intro rfl rfl)), ⟨ndI hA (by subst hA; exact hp.1), ?_⟩⟩
  · refine W.call 80 (by rfl) h (by subst hA; rfl) (by subst hA; rfl) ?_
    rintro x rs vs hp0 hq0
    rcases hq0 with ⟨rfl, Y0_0, rfl, rfl, k0⟩ | ⟨rfl, Y0_0, y0_0, rfl, rfl, k0⟩
    · cbv
      refine ⟨ndI hA (And.intro rfl (And.intro rfl rfl)), ⟨ndI hA (by subst hA; exact hp0.1), (by rw [W.rr]; exact (by subst hA; exact k0))⟩⟩
    · cbv
      refine ⟨ndI hA (And.intro rfl (by subst hA; exact k0.1)), ⟨imI hA fun e1 => have c1 : (cBS Y0_0 y0_0 2) = true := (by have q := e1; subst hA; exact q); ⟨ndI hA (And.intro rfl (And.intro rfl rfl)), ⟨ndI hA (by subst hA; exact hp0.1), (by rw [W.rr]; exact (by subst hA; exact (k0.2.1 c1)))⟩⟩, imI hA fun e1 => have c1 : (cBS Y0_0 y0_0 2) = false := (by have q := e1; subst hA; exact q); ⟨ndI hA (And.intro rfl (by subst hA; exact (k0.2.2 c1).1)), ⟨ndI hA (And.intro (by subst hA; show (List.length Y0_0) = (List.length (List.set Y0_0 y0_0 [(AV.int .i64 (cIS Y0_0 y0_0 0)), (AV.int .i64 a2), (AV.bool (cBS Y0_0 y0_0 2))])); (first | rfl | simp [rappS_end] | (simp only [rappS_end, List.length_append, List.length_set, List.length_cons, List.length_nil]; omega))) (by subst hA; exact (k0.2.2 c1).2.1)), ⟨ndI hA (And.intro (by subst hA; show (List.length Y0_0) = (List.length (List.set (List.set Y0_0 y0_0 [(AV.int .i64 (cIS Y0_0 y0_0 0)), (AV.int .i64 a2), (AV.bool (cBS Y0_0 y0_0 2))]) y0_0 [(AV.int .i64 (cIS (List.set Y0_0 y0_0 [(AV.int .i64 (cIS Y0_0 y0_0 0)), (AV.int .i64 a2), (AV.bool (cBS Y0_0 y0_0 2))]) y0_0 0)), (AV.int .i64 (cIS (List.set Y0_0 y0_0 [(AV.int .i64 (cIS Y0_0 y0_0 0)), (AV.int .i64 a2), (AV.bool (cBS Y0_0 y0_0 2))]) y0_0 1)), (AV.bool true)])); (first | rfl | simp [rappS_end] | (simp only [rappS_end, List.length_append, List.length_set, List.length_cons, List.length_nil]; omega))) (And.intro rfl (by subst hA; show (List.length Y0_0) = (List.length (List.set (List.set Y0_0 y0_0 [(AV.int .i64 (cIS Y0_0 y0_0 0)), (AV.int .i64 a2), (AV.bool (cBS Y0_0 y0_0 2))]) y0_0 [(AV.int .i64 (cIS (List.set Y0_0 y0_0 [(AV.int .i64 (cIS Y0_0 y0_0 0)), (AV.int .i64 a2), (AV.bool (cBS Y0_0 y0_0 2))]) y0_0 0)), (AV.int .i64 (cIS (List.set Y0_0 y0_0 [(AV.int .i64 (cIS Y0_0 y0_0 0)), (AV.int .i64 a2), (AV.bool (cBS Y0_0 y0_0 2))]) y0_0 1)), (AV.bool true)])); (first | rfl | simp [rappS_end] | (simp only [rappS_end, List.length_append, List.length_set, List.length_cons, List.length_nil]; omega))))), ⟨ndI hA (by subst hA; exact (vset (vset hp0.1 rfl) rfl)), (by rw [W.rr]; exact (by subst hA; exact (k0.2.2 c1).2.2))⟩⟩⟩⟩⟩⟩

-- 48: (*signalbox/ceiling.Locks).Unlock
section
structure V48 (EV Q : Nat → Rs → List Lf → Prop) : Prop where
  none : True

end
set_option maxHeartbeats 0 in
/-- To enter. -/
theorem E48 {Q : Nat → Rs → List Lf → Prop} {R0 : List (List AV)} {a1 : Int} {a2 : Int} (h : pursS R0 = true → ∀ EV : Nat → Rs → List Lf → Prop, V48 EV Q →
    EC Try.prog G57 [R0] [(Lf.i a1)] (fun x rs vs => (x = 0 ∧ ∃ (Y0_0 : List (List AV)), rs = [Y0_0] ∧ vs = [] ∧
      (Q 0 [Y0_0] [(Lf.i (6 : Int))])) ∨ (x = 1 ∧ ∃ (Y0_0 : List (List AV)) (y0_0 : Nat), rs = [Y0_0] ∧ vs = [.n y0_0] ∧
      ((Y0_0[y0_0]? = some [(AV.int .i64 (cIS Y0_0 y0_0 0)), (AV.int .i64 (cIS Y0_0 y0_0 1)), (AV.bool (cBS Y0_0 y0_0 2))]) ∧
        ((cBS Y0_0 y0_0 2) = true →
          (Y0_0[y0_0]? = some [(AV.int .i64 (cIS Y0_0 y0_0 0)), (AV.int .i64 (cIS Y0_0 y0_0 1)), (AV.bool (cBS Y0_0 y0_0 2))]) ∧
          ((cIS Y0_0 y0_0 1) ≠ a2 →
            Q 0 [Y0_0] [(Lf.i (8 : Int))]) ∧
          ((cIS Y0_0 y0_0 1) = a2 →
            (Y0_0[y0_0]? = some [(AV.int .i64 (cIS Y0_0 y0_0 0)), (AV.int .i64 (cIS Y0_0 y0_0 1)), (AV.bool (cBS Y0_0 y0_0 2))]) ∧
            ((List.set Y0_0 y0_0 [(AV.int .i64 (cIS Y0_0 y0_0 0)), (AV.int .i64 (0 : Int)), (AV.bool (cBS Y0_0 y0_0 2))])[y0_0]? = some [(AV.int .i64 (cIS (List.set Y0_0 y0_0 [(AV.int .i64 (cIS Y0_0 y0_0 0)), (AV.int .i64 (0 : Int)), (AV.bool (cBS Y0_0 y0_0 2))]) y0_0 0)), (AV.int .i64 (cIS (List.set Y0_0 y0_0 [(AV.int .i64 (cIS Y0_0 y0_0 0)), (AV.int .i64 (0 : Int)), (AV.bool (cBS Y0_0 y0_0 2))]) y0_0 1)), (AV.bool (cBS (List.set Y0_0 y0_0 [(AV.int .i64 (cIS Y0_0 y0_0 0)), (AV.int .i64 (0 : Int)), (AV.bool (cBS Y0_0 y0_0 2))]) y0_0 2))]) ∧
            (Q 0 [(List.set (List.set Y0_0 y0_0 [(AV.int .i64 (cIS Y0_0 y0_0 0)), (AV.int .i64 (0 : Int)), (AV.bool (cBS Y0_0 y0_0 2))]) y0_0 [(AV.int .i64 (cIS (List.set Y0_0 y0_0 [(AV.int .i64 (cIS Y0_0 y0_0 0)), (AV.int .i64 (0 : Int)), (AV.bool (cBS Y0_0 y0_0 2))]) y0_0 0)), (AV.int .i64 (cIS (List.set Y0_0 y0_0 [(AV.int .i64 (cIS Y0_0 y0_0 0)), (AV.int .i64 (0 : Int)), (AV.bool (cBS Y0_0 y0_0 2))]) y0_0 1)), (AV.bool false)])] [(Lf.i (0 : Int))]))) ∧
        ((cBS Y0_0 y0_0 2) = false →
          Q 0 [Y0_0] [(Lf.i (8 : Int))]))))) :
    EC Try.prog G48 [R0] [.i a1, .i a2] Q := by
  obtain ⟨A, hA⟩ : ∃ A, A = arS := ⟨_, rfl⟩
  refine Inst.enter (I := I48) hA mixed F48_at sg L48 80 rfl fun CE CK Dn EV RR W hp => ?_
  have h := h hp.1 EV ⟨trivial⟩
  cbv
  refine ⟨ndI hA (And.intro rfl (And.intro rfl rfl)), ⟨ndI hA (by subst hA; exact hp.1), ?_⟩⟩
  · refine W.call 80 (by rfl) h (by subst hA; rfl) (by subst hA; rfl) ?_
    rintro x rs vs hp0 hq0
    rcases hq0 with ⟨rfl, Y0_0, rfl, rfl, k0⟩ | ⟨rfl, Y0_0, y0_0, rfl, rfl, k0⟩
    · cbv
      refine ⟨ndI hA (And.intro rfl (And.intro rfl rfl)), ⟨ndI hA (by subst hA; exact hp0.1), (by rw [W.rr]; exact (by subst hA; exact k0))⟩⟩
    · cbv
      refine ⟨ndI hA (And.intro rfl (by subst hA; exact k0.1)), ⟨imI hA fun e1 => have c1 : (cBS Y0_0 y0_0 2) = true := (by have q := (notE hA e1); subst hA; exact q); ⟨ndI hA (And.intro rfl (by subst hA; exact (k0.2.1 c1).1)), ⟨imI hA fun e2 => have c2 : (cIS Y0_0 y0_0 1) ≠ a2 := (by have q := (cmpE (op := .neq) hA e2); subst hA; exact q); ⟨ndI hA (And.intro rfl (And.intro rfl rfl)), ⟨ndI hA (by subst hA; exact hp0.1), (by rw [W.rr]; exact (by subst hA; exact ((k0.2.1 c1).2.1 c2)))⟩⟩, imI hA fun e2 => have c2 : (cIS Y0_0 y0_0 1) = a2 := (by have q := (cmpE (op := .neq) hA e2); subst hA; exact q); ⟨ndI hA (And.intro rfl (by subst hA; exact ((k0.2.1 c1).2.2 c2).1)), ⟨ndI hA (And.intro (by subst hA; show (List.length Y0_0) = (List.length (List.set Y0_0 y0_0 [(AV.int .i64 (cIS Y0_0 y0_0 0)), (AV.int .i64 (0 : Int)), (AV.bool (cBS Y0_0 y0_0 2))])); (first | rfl | simp [rappS_end] | (simp only [rappS_end, List.length_append, List.length_set, List.length_cons, List.length_nil]; omega))) (by subst hA; exact ((k0.2.1 c1).2.2 c2).2.1)), ⟨ndI hA (And.intro (by subst hA; show (List.length Y0_0) = (List.length (List.set (List.set Y0_0 y0_0 [(AV.int .i64 (cIS Y0_0 y0_0 0)), (AV.int .i64 (0 : Int)), (AV.bool (cBS Y0_0 y0_0 2))]) y0_0 [(AV.int .i64 (cIS (List.set Y0_0 y0_0 [(AV.int .i64 (cIS Y0_0 y0_0 0)), (AV.int .i64 (0 : Int)), (AV.bool (cBS Y0_0 y0_0 2))]) y0_0 0)), (AV.int .i64 (cIS (List.set Y0_0 y0_0 [(AV.int .i64 (cIS Y0_0 y0_0 0)), (AV.int .i64 (0 : Int)), (AV.bool (cBS Y0_0 y0_0 2))]) y0_0 1)), (AV.bool false)])); (first | rfl | simp [rappS_end] | (simp only [rappS_end, List.length_append, List.length_set, List.length_cons, List.length_nil]; omega))) (And.intro rfl (by subst hA; show (List.length Y0_0) = (List.length (List.set (List.set Y0_0 y0_0 [(AV.int .i64 (cIS Y0_0 y0_0 0)), (AV.int .i64 (0 : Int)), (AV.bool (cBS Y0_0 y0_0 2))]) y0_0 [(AV.int .i64 (cIS (List.set Y0_0 y0_0 [(AV.int .i64 (cIS Y0_0 y0_0 0)), (AV.int .i64 (0 : Int)), (AV.bool (cBS Y0_0 y0_0 2))]) y0_0 0)), (AV.int .i64 (cIS (List.set Y0_0 y0_0 [(AV.int .i64 (cIS Y0_0 y0_0 0)), (AV.int .i64 (0 : Int)), (AV.bool (cBS Y0_0 y0_0 2))]) y0_0 1)), (AV.bool false)])); (first | rfl | simp [rappS_end] | (simp only [rappS_end, List.length_append, List.length_set, List.length_cons, List.length_nil]; omega))))), ⟨ndI hA (by subst hA; exact (vset (vset hp0.1 rfl) rfl)), (by rw [W.rr]; exact (by subst hA; exact ((k0.2.1 c1).2.2 c2).2.2))⟩⟩⟩⟩⟩⟩, imI hA fun e1 => have c1 : (cBS Y0_0 y0_0 2) = false := (by have q := (notE hA e1); subst hA; exact q); ⟨ndI hA (And.intro rfl (And.intro rfl rfl)), ⟨ndI hA (by subst hA; exact hp0.1), (by rw [W.rr]; exact (by subst hA; exact (k0.2.2 c1)))⟩⟩⟩⟩

-- 37: (*signalbox/section.walker).step DRAWN
section
structure V37 (EV Q : Nat → Rs → List Lf → Prop) : Prop where
  p25 : ∀ {R0 : List (List AV)} {tb0_0 : Int} {tb0_1 : Int} {tb3_0 : Int} {tb3_1 : Int} {tb4_0 : Int} {tb4_1 : Int}, (pursS R0 = true → 
    EC Try.prog G46 [R0] [(Lf.i tb0_0), (Lf.i tb0_1)] (fun x rs vs => (x = 0 ∧ ∃ (Y0_0 : List (List AV)) (y0_0 : Int) (y0_b0_0 : Int) (y0_b0_1 : Int), rs = [Y0_0] ∧ vs = [.i y0_0, .i y0_b0_0, .i y0_b0_1] ∧
      (Q 0 [Y0_0] [(Lf.i tb4_0), (Lf.i y0_0), (Lf.i y0_b0_0), (Lf.i y0_b0_1)])))) →
    EV 25 [R0] [.i tb0_0, .i tb0_1, .i tb3_0, .i tb3_1, .i tb4_0, .i tb4_1]

set_option maxHeartbeats 0 in
theorem V37.of {Q : Nat → Rs → List Lf → Prop} {A : Ar} {CE : Nat → Rs → List Lf → (Nat → Rs → List Lf → Prop) → Prop} {CK : Nat → Rs → List Lf → Cont → Prop} {Dn : Nat → List Bool → List AItem → Nat → List Bool → List AV → List ABlk → Prop} {EV RR : Nat → Rs → List Lf → Prop} (W : Wk Try.prog Try.f37 I37 L37 Q A sg CE CK Dn EV RR) : V37 EV Q := by
  have hA := W.hA
  refine ⟨?_⟩
  · intro R0 tb0_0 tb0_1 tb3_0 tb3_1 tb4_0 tb4_1 h
    refine W.step 80 fun hp => ?_
    have h := h hp.1
    cbv
    refine ⟨ndI hA (And.intro rfl (And.intro rfl rfl)), ⟨ndI hA (by subst hA; exact hp.1), ?_⟩⟩
    · refine W.call 80 (by rfl) h (by subst hA; rfl) (by subst hA; rfl) ?_
      rintro x rs vs hp0 hq0
      rcases hq0 with ⟨rfl, Y0_0, y0_0, y0_b0_0, y0_b0_1, rfl, rfl, k0⟩
      · cbv
        refine ⟨ndI hA (And.intro rfl (And.intro rfl rfl)), ⟨ndI hA (by subst hA; exact hp0.1), (by rw [W.rr]; exact (by subst hA; exact k0))⟩⟩

end
set_option maxHeartbeats 0 in
/-- To enter. -/
theorem E37 {Q : Nat → Rs → List Lf → Prop} {R0 : List (List AV)} {a1_0 : Int} {a1_1 : Int} {a1_2 : Int} {ab0_0 : Int} {ab0_1 : Int} (h : pursS R0 = true → ∀ EV : Nat → Rs → List Lf → Prop, V37 EV Q →
    EC Try.prog G46 [R0] [(Lf.i ab0_0), (Lf.i ab0_1)] (fun x rs vs => (x = 0 ∧ ∃ (Y0_0 : List (List AV)) (y0_0 : Int) (y0_b0_0 : Int) (y0_b0_1 : Int), rs = [Y0_0] ∧ vs = [.i y0_0, .i y0_b0_0, .i y0_b0_1] ∧
      ((a1_0 = (3 : Int) →
          EV 25 [Y0_0] [(Lf.i y0_b0_0), (Lf.i (IntKind.wrap .i64 (y0_b0_1 + (1 : Int)))), (Lf.i (0 : Int)), (Lf.i (0 : Int)), (Lf.i y0_0), (Lf.i (0 : Int))]) ∧
        (a1_0 ≠ (3 : Int) →
          (a1_0 = (4 : Int) →
            EV 25 [Y0_0] [(Lf.i y0_b0_0), (Lf.i (arS.mx (IntKind.wrap .i64 (y0_b0_1 - (1 : Int))) (0 : Int))), (Lf.i (0 : Int)), (Lf.i (0 : Int)), (Lf.i y0_0), (Lf.i (0 : Int))]) ∧
          (a1_0 ≠ (4 : Int) →
            (a1_0 = (5 : Int) →
              EC Try.prog G47 [Y0_0] [(Lf.i a1_1), (Lf.i (0 : Int))] (fun x rs vs => (x = 0 ∧ ∃ (Y4_0 : List (List AV)) (y4_0 : Int), rs = [Y4_0] ∧ vs = [.i y4_0] ∧
                (EV 25 [Y4_0] [(Lf.i y0_b0_0), (Lf.i y0_b0_1), (Lf.i (0 : Int)), (Lf.i (0 : Int)), (Lf.i y0_0), (Lf.i (0 : Int))])))) ∧
            (a1_0 ≠ (5 : Int) →
              (a1_0 = (6 : Int) →
                EC Try.prog G48 [Y0_0] [(Lf.i a1_1), (Lf.i (0 : Int))] (fun x rs vs => (x = 0 ∧ ∃ (Y5_0 : List (List AV)) (y5_0 : Int), rs = [Y5_0] ∧ vs = [.i y5_0] ∧
                  (EV 25 [Y5_0] [(Lf.i y0_b0_0), (Lf.i y0_b0_1), (Lf.i (0 : Int)), (Lf.i (0 : Int)), (Lf.i y0_0), (Lf.i (0 : Int))])))) ∧
              (a1_0 ≠ (6 : Int) →
                EV 25 [Y0_0] [(Lf.i y0_b0_0), (Lf.i y0_b0_1), (Lf.i (0 : Int)), (Lf.i (0 : Int)), (Lf.i y0_0), (Lf.i (0 : Int))])))))))) :
    EC Try.prog G37 [R0] [.i a1_0, .i a1_1, .i a1_2, .i ab0_0, .i ab0_1] Q := by
  obtain ⟨A, hA⟩ : ∃ A, A = arS := ⟨_, rfl⟩
  refine Inst.enter (I := I37) hA mixed F37_at sg L37 80 rfl fun CE CK Dn EV RR W hp => ?_
  have h := h hp.1 EV (V37.of W)
  cbv
  refine ⟨ndI hA (And.intro rfl (And.intro rfl rfl)), ⟨ndI hA (by subst hA; exact hp.1), ?_⟩⟩
  · refine W.call 80 (by rfl) h (by subst hA; rfl) (by subst hA; rfl) ?_
    rintro x rs vs hp0 hq0
    rcases hq0 with ⟨rfl, Y0_0, y0_0, y0_b0_0, y0_b0_1, rfl, rfl, k0⟩
    · cbv
      refine ⟨imI hA fun e1 => have c1 : a1_0 = (3 : Int) := (by have q := (cmpE (op := .eql) hA e1); subst hA; exact q); ⟨ndI hA (And.intro rfl (And.intro rfl rfl)), ⟨ndI hA (by subst hA; exact hp0.1), (by subst hA; exact (k0.1 c1))⟩⟩, imI hA fun e1 => have c1 : a1_0 ≠ (3 : Int) := (by have q := (cmpE (op := .eql) hA e1); subst hA; exact q); ⟨imI hA fun e2 => have c2 : a1_0 = (4 : Int) := (by have q := (cmpE (op := .eql) hA e2); subst hA; exact q); ⟨ndI hA (And.intro rfl (And.intro rfl rfl)), ⟨ndI hA (by subst hA; exact hp0.1), (by subst hA; exact ((k0.2 c1).1 c2))⟩⟩, imI hA fun e2 => have c2 : a1_0 ≠ (4 : Int) := (by have q := (cmpE (op := .eql) hA e2); subst hA; exact q); ⟨imI hA fun e3 => have c3 : a1_0 = (5 : Int) := (by have q := (cmpE (op := .eql) hA e3); subst hA; exact q); ⟨⟨⟨ndI hA (And.intro rfl (And.intro rfl rfl)), ⟨ndI hA (by subst hA; exact hp0.1), ?_⟩⟩, trivial⟩, trivial⟩, imI hA fun e3 => have c3 : a1_0 ≠ (5 : Int) := (by have q := (cmpE (op := .eql) hA e3); subst hA; exact q); ⟨imI hA fun e4 => have c4 : a1_0 = (6 : Int) := (by have q := (cmpE (op := .eql) hA e4); subst hA; exact q); ⟨⟨⟨ndI hA (And.intro rfl (And.intro rfl rfl)), ⟨ndI hA (by subst hA; exact hp0.1), ?_⟩⟩, trivial⟩, trivial⟩, imI hA fun e4 => have c4 : a1_0 ≠ (6 : Int) := (by have q := (cmpE (op := .eql) hA e4); subst hA; exact q); ⟨ndI hA (And.intro rfl (And.intro rfl rfl)), ⟨ndI hA (by subst hA; exact hp0.1), (by subst hA; exact ((((k0.2 c1).2 c2).2 c3).2 c4))⟩⟩⟩⟩⟩⟩
      · refine W.callD (by rfl) (((k0.2 c1).2 c2).1 c3) (by subst hA; rfl) (by subst hA; rfl) ?_
        rintro x rs vs hp4 hq4
        rcases hq4 with ⟨rfl, Y4_0, y4_0, rfl, rfl, k4⟩
        · cbv
          refine ?_
          · refine W.draw 80 (by rfl) ?_
            cbv
            refine ⟨ndI hA (And.intro rfl (And.intro rfl rfl)), ⟨ndI hA (by subst hA; exact hp4.1), (by subst hA; exact k4)⟩⟩
      · refine W.callD (by rfl) ((((k0.2 c1).2 c2).2 c3).1 c4) (by subst hA; rfl) (by subst hA; rfl) ?_
        rintro x rs vs hp5 hq5
        rcases hq5 with ⟨rfl, Y5_0, y5_0, rfl, rfl, k5⟩
        · cbv
          refine ?_
          · refine W.draw 80 (by rfl) ?_
            cbv
            refine ⟨ndI hA (And.intro rfl (And.intro rfl rfl)), ⟨ndI hA (by subst hA; exact hp5.1), (by subst hA; exact k5)⟩⟩

-- 17: signalbox/section.Levels DRAWN
section
structure V17 (EV Q : Nat → Rs → List Lf → Prop) : Prop where
  p12 : ∀ {R0 : List (List AV)} {t1 : Int} {tb0_0 : Int} {tb0_1 : Int} {tb0_2 : Int} {tb0_3 : Int} {tb0_4 : List (List AV)} {tb0_5 : Int} {tb0_6 : List (List AV)} {tb0_7 : List (List AV)} {tb0_8 : List (List AV)} {tb0_9 : List (List AV)} {tb1_0 : Int} {tb1_1 : Int}, (pursS R0 = true → 
    ((0 : Int) ≤ t1) ∧
    (tb0_8[(Int.toNat t1)]? = some [(AV.int .i64 (cIS tb0_8 (Int.toNat t1) 0)), (AV.int .i64 (cIS tb0_8 (Int.toNat t1) 1)), (AV.int .i64 (cIS tb0_8 (Int.toNat t1) 2)), (AV.int .i64 (cIS tb0_8 (Int.toNat t1) 3)), (AV.int .i64 (cIS tb0_8 (Int.toNat t1) 4)), (AV.int .i64 (cIS tb0_8 (Int.toNat t1) 5)), (AV.inl 3 (cRS tb0_8 (Int.toNat t1) 6))]) ∧
    (EV 19 [[], R0] [(Lf.r (cRS tb0_8 (Int.toNat t1) 6)), (Lf.i (((List.length (cRS tb0_8 (Int.toNat t1) 6)) : Nat) : Int)), (Lf.i (0 : Int)), (Lf.i tb1_0), (Lf.i tb1_1)])) →
    EV 12 [R0] [.i t1, .i tb0_0, .i tb0_1, .i tb0_2, .i tb0_3, .r tb0_4, .i tb0_5, .r tb0_6, .r tb0_7, .r tb0_8, .r tb0_9, .i tb1_0, .i tb1_1]
  p19 : ∀ {R0 : List (List AV)} {R1 : List (List AV)} {t29 : List (List AV)} {t30 : Int} {t31 : Int} {tb0_0 : Int} {tb0_1 : Int}, (pursS R0 = true → pursS R1 = true → 
    (t31 < t30 →
      ((0 : Int) ≤ t31) ∧
      (t29[(Int.toNat t31)]? = some [(AV.int .i64 (cIS t29 (Int.toNat t31) 0)), (AV.int .i64 (cIS t29 (Int.toNat t31) 1)), (AV.int .i64 (cIS t29 (Int.toNat t31) 2))]) ∧
      (EC Try.prog G37 [R1] [(Lf.i (cIS t29 (Int.toNat t31) 0)), (Lf.i (cIS t29 (Int.toNat t31) 1)), (Lf.i (cIS t29 (Int.toNat t31) 2)), (Lf.i tb0_0), (Lf.i tb0_1)] (fun x rs vs => (x = 0 ∧ ∃ (Y1_0 : List (List AV)) (y1_0_0 : Int) (y1_0_1 : Int) (y1_b0_0 : Int) (y1_b0_1 : Int), rs = [Y1_0] ∧ vs = [.i y1_0_0, .i y1_0_1, .i y1_b0_0, .i y1_b0_1] ∧
        ((((List.length R0) + 1) ≤ 140737488355328) ∧
          ((((List.length R0) + 1) * 16) ≤ 140737488355328) ∧
          (EV 19 [(R0 ++ [[(AV.int .i64 y1_0_0), (AV.int .i64 y1_0_1)]]), Y1_0] [(Lf.r t29), (Lf.i t30), (Lf.i (IntKind.wrap .i64 (t31 + (1 : Int)))), (Lf.i y1_b0_0), (Lf.i y1_b0_1)])))))) ∧
    (t31 ≥ t30 →
      Q 0 [R0] [])) →
    EV 19 [R0, R1] [.r t29, .i t30, .i t31, .i tb0_0, .i tb0_1]

set_option maxHeartbeats 0 in
theorem V17.of {Q : Nat → Rs → List Lf → Prop} {A : Ar} {CE : Nat → Rs → List Lf → (Nat → Rs → List Lf → Prop) → Prop} {CK : Nat → Rs → List Lf → Cont → Prop} {Dn : Nat → List Bool → List AItem → Nat → List Bool → List AV → List ABlk → Prop} {EV RR : Nat → Rs → List Lf → Prop} (W : Wk Try.prog Try.f17 I17 L17 Q A sg CE CK Dn EV RR) : V17 EV Q := by
  have hA := W.hA
  refine ⟨?_, ?_⟩
  · intro R0 t1 tb0_0 tb0_1 tb0_2 tb0_3 tb0_4 tb0_5 tb0_6 tb0_7 tb0_8 tb0_9 tb1_0 tb1_1 h
    refine W.step 80 fun hp => ?_
    have h := h hp.1
    cbv
    refine ⟨ndI hA (And.intro (by subst hA; exact h.1) (by subst hA; exact h.2.1)), ⟨ndI hA (And.intro (by subst hA; show 0 = 0; (first | rfl | simp [rappS_end] | (simp only [rappS_end, List.length_append, List.length_set, List.length_cons, List.length_nil]; omega))) (And.intro rfl (by subst hA; show 0 = 0; (first | rfl | simp [rappS_end] | (simp only [rappS_end, List.length_append, List.length_set, List.length_cons, List.length_nil]; omega))))), ⟨ndI hA (by subst hA; exact vpur), ⟨ndI hA (And.intro rfl (And.intro rfl rfl)), ⟨ndI hA (by subst hA; exact hp.1), (by subst hA; exact h.2.2)⟩⟩⟩⟩⟩
  · intro R0 R1 t29 t30 t31 tb0_0 tb0_1 h
    refine W.step 80 fun hp => ?_
    have h := h hp.1 hp.2.1
    cbv
    refine ⟨imI hA fun e0 => have c0 : t31 < t30 := (by have q := (cmpE (op := .lss) hA e0); subst hA; exact q); ⟨ndI hA (And.intro (by subst hA; exact (h.1 c0).1) (by subst hA; exact (h.1 c0).2.1)), ⟨ndI hA (And.intro rfl (And.intro rfl rfl)), ⟨ndI hA (by subst hA; exact hp.2.1), ?_⟩⟩⟩, imI hA fun e0 => have c0 : t31 ≥ t30 := (by have q := (cmpE (op := .lss) hA e0); subst hA; exact q); ⟨ndI hA (And.intro rfl (And.intro rfl rfl)), ⟨ndI hA (by subst hA; exact hp.1), (by rw [W.rr]; exact (by subst hA; exact (h.2 c0)))⟩⟩⟩
    · refine W.call 80 (by rfl) (h.1 c0).2.2 (by subst hA; rfl) (by subst hA; rfl) ?_
      rintro x rs vs hp1 hq1
      rcases hq1 with ⟨rfl, Y1_0, y1_0_0, y1_0_1, y1_b0_0, y1_b0_1, rfl, rfl, k1⟩
      · cbv
        refine ⟨ndI hA (And.intro rfl (And.intro (Nat.le_refl _) (And.intro (by subst hA; exact k1.1) (by subst hA; exact k1.2.1)))), ⟨ndI hA (And.intro rfl (And.intro rfl (by subst hA; show ((List.length R0) + 1) = (List.length (rappS R0 (List.length R0) [[(AV.int .i64 y1_0_0), (AV.int .i64 y1_0_1)]])); (first | rfl | simp [rappS_end] | (simp only [rappS_end, List.length_append, List.length_set, List.length_cons, List.length_nil]; omega))))), ⟨ndI hA (by subst hA; exact (vapp hp.1 vpur)), ⟨ndI hA (And.intro rfl (And.intro rfl rfl)), ⟨ndI hA (by subst hA; exact hp1.1), (by subst hA; show EV 19 [(rappS R0 (List.length R0) [[(AV.int .i64 y1_0_0), (AV.int .i64 y1_0_1)]]), Y1_0] [(Lf.r t29), (Lf.i t30), (Lf.i (IntKind.wrap .i64 (t31 + (1 : Int)))), (Lf.i y1_b0_0), (Lf.i y1_b0_1)]; simp only [rappS_end, Nat.zero_add, Int.toNat_natCast]; exact k1.2.2)⟩⟩⟩⟩⟩

end
set_option maxHeartbeats 0 in
/-- To enter. -/
theorem E17 {Q : Nat → Rs → List Lf → Prop} {a0_0 : Int} {a0_1 : Int} {a0_2 : Int} {a0_3 : Int} {a0_4 : List (List AV)} {a0_5 : Int} {a0_6 : List (List AV)} {a0_7 : List (List AV)} {a0_8 : List (List AV)} {a0_9 : List (List AV)} {a1 : Int} (h : ∀ EV : Nat → Rs → List Lf → Prop, V17 EV Q →
    EC Try.prog G35 [] [(Lf.i a0_0), (Lf.i a0_1), (Lf.i a0_2), (Lf.i a0_3), (Lf.r a0_4), (Lf.i a0_5), (Lf.r a0_6), (Lf.r a0_7), (Lf.r a0_8), (Lf.r a0_9), (Lf.i a1)] (fun x rs vs => (x = 0 ∧ ∃ (y0_0 : Bool), rs = [] ∧ vs = [.b y0_0] ∧
      ((y0_0 = false →
          Q 0 [[]] []) ∧
        (y0_0 = true →
          ((0 : Int) ≤ a1) ∧
          (a0_8[(Int.toNat a1)]? = some [(AV.int .i64 (cIS a0_8 (Int.toNat a1) 0)), (AV.int .i64 (cIS a0_8 (Int.toNat a1) 1)), (AV.int .i64 (cIS a0_8 (Int.toNat a1) 2)), (AV.int .i64 (cIS a0_8 (Int.toNat a1) 3)), (AV.int .i64 (cIS a0_8 (Int.toNat a1) 4)), (AV.int .i64 (cIS a0_8 (Int.toNat a1) 5)), (AV.inl 3 (cRS a0_8 (Int.toNat a1) 6))]) ∧
          (EC Try.prog G36 [] [(Lf.r a0_7)] (fun x rs vs => (x = 0 ∧ ∃ (Y2_0 : List (List AV)), rs = [Y2_0] ∧ vs = [] ∧
            (EV 12 [Y2_0] [(Lf.i a1), (Lf.i a0_0), (Lf.i a0_1), (Lf.i a0_2), (Lf.i a0_3), (Lf.r a0_4), (Lf.i a0_5), (Lf.r a0_6), (Lf.r a0_7), (Lf.r a0_8), (Lf.r a0_9), (Lf.i (cIS a0_8 (Int.toNat a1) 1)), (Lf.i (0 : Int))]))))))))) :
    EC Try.prog G17 [] [.i a0_0, .i a0_1, .i a0_2, .i a0_3, .r a0_4, .i a0_5, .r a0_6, .r a0_7, .r a0_8, .r a0_9, .i a1] Q := by
  obtain ⟨A, hA⟩ : ∃ A, A = arS := ⟨_, rfl⟩
  refine Inst.enter (I := I17) hA mixed F17_at sg L17 80 rfl fun CE CK Dn EV RR W hp => ?_
  have h := h  EV (V17.of W)
  cbv
  refine ?_
  · refine W.call 80 (by rfl) h (by subst hA; rfl) (by subst hA; rfl) ?_
    rintro x rs vs hp0 hq0
    rcases hq0 with ⟨rfl, y0_0, rfl, rfl, k0⟩
    · cbv
      refine ⟨imI hA fun e1 => have c1 : y0_0 = false := (by have q := (notE hA e1); subst hA; exact q); ⟨ndI hA (And.intro (by subst hA; show 0 = 0; (first | rfl | simp [rappS_end] | (simp only [rappS_end, List.length_append, List.length_set, List.length_cons, List.length_nil]; omega))) (And.intro rfl (by subst hA; show 0 = 0; (first | rfl | simp [rappS_end] | (simp only [rappS_end, List.length_append, List.length_set, List.length_cons, List.length_nil]; omega))))), ⟨ndI hA (by subst hA; exact vpur), (by rw [W.rr]; exact (by subst hA; exact (k0.1 c1)))⟩⟩, imI hA fun e1 => have c1 : y0_0 = true := (by have q := (notE hA e1); subst hA; exact q); ⟨ndI hA (And.intro (by subst hA; exact (k0.2 c1).1) (by subst hA; exact (k0.2 c1).2.1)), ⟨?_, trivial⟩⟩⟩
      · refine W.callD (by rfl) (k0.2 c1).2.2 (by subst hA; rfl) (by subst hA; rfl) ?_
        rintro x rs vs hp2 hq2
        rcases hq2 with ⟨rfl, Y2_0, rfl, rfl, k2⟩
        · cbv
          refine ?_
          · refine W.draw 80 (by rfl) ?_
            cbv
            refine ⟨⟨ndI hA (And.intro rfl (And.intro rfl rfl)), ⟨ndI hA (by subst hA; exact hp2.1), (by subst hA; exact k2)⟩⟩, trivial⟩

-- 39: slices.Compact[[]int,int] DRAWN
section
structure V39 (EV Q : Nat → Rs → List Lf → Prop) : Prop where
  p15 : ∀ {t3 : Int}, (
    (t3 < (0 : Int) →
      False) ∧
    (t3 ≥ (0 : Int) →
      Q 0 [] [])) →
    EV 15 [] [.i t3]

set_option maxHeartbeats 0 in
theorem V39.of {Q : Nat → Rs → List Lf → Prop} {A : Ar} {CE : Nat → Rs → List Lf → (Nat → Rs → List Lf → Prop) → Prop} {CK : Nat → Rs → List Lf → Cont → Prop} {Dn : Nat → List Bool → List AItem → Nat → List Bool → List AV → List ABlk → Prop} {EV RR : Nat → Rs → List Lf → Prop} (W : Wk Try.prog Try.f39 I39 L39 Q A sg CE CK Dn EV RR) : V39 EV Q := by
  have hA := W.hA
  refine ⟨?_⟩
  · intro t3 h
    refine W.step 80 fun hp => ?_
    cbv
    refine ⟨imI hA fun e0 => have c0 : t3 < (0 : Int) := (by have q := (cmpE (op := .lss) hA e0); subst hA; exact q); (h.1 c0), imI hA fun e0 => have c0 : t3 ≥ (0 : Int) := (by have q := (cmpE (op := .lss) hA e0); subst hA; exact q); (by rw [W.rr]; exact (by subst hA; exact (h.2 c0)))⟩

end
set_option maxHeartbeats 0 in
/-- To enter. -/
theorem E39 {Q : Nat → Rs → List Lf → Prop}  (h : ∀ EV : Nat → Rs → List Lf → Prop, V39 EV Q →
    ((0 : Int) < (2 : Int) →
      Q 0 [] []) ∧
    ((0 : Int) ≥ (2 : Int) →
      EV 15 [] [(Lf.i (1 : Int))])) :
    EC Try.prog G39 [] [] Q := by
  obtain ⟨A, hA⟩ : ∃ A, A = arS := ⟨_, rfl⟩
  refine Inst.enter (I := I39) hA mixed F39_at sg L39 80 rfl fun CE CK Dn EV RR W hp => ?_
  have h := h  EV (V39.of W)
  cbv
  refine ⟨imI hA fun e0 => have c0 : (0 : Int) < (2 : Int) := (by have q := (cmpE (op := .lss) hA e0); subst hA; exact q); (by rw [W.rr]; exact (by subst hA; exact (h.1 c0))), imI hA fun e0 => have c0 : (0 : Int) ≥ (2 : Int) := (by have q := (cmpE (op := .lss) hA e0); subst hA; exact q); (by subst hA; exact (h.2 c0))⟩

-- 39a: slices.Compact[[]int,int] DRAWN
section
structure V39a (EV Q : Nat → Rs → List Lf → Prop) : Prop where
  p15 : ∀ {R0 : List (List AV)} {t3 : Int}, (pursS R0 = true → 
    (t3 < (((List.length R0) : Nat) : Int) →
      ((0 : Int) ≤ t3) ∧
      (t3 < (((List.length R0) : Nat) : Int)) ∧
      (R0[(Int.toNat t3)]? = some [(AV.int .i64 (cIS R0 (Int.toNat t3) 0))]) ∧
      ((0 : Int) ≤ (IntKind.wrap .i64 (t3 - (1 : Int)))) ∧
      ((IntKind.wrap .i64 (t3 - (1 : Int))) < (((List.length R0) : Nat) : Int)) ∧
      (R0[(Int.toNat (IntKind.wrap .i64 (t3 - (1 : Int))))]? = some [(AV.int .i64 (cIS R0 (Int.toNat (IntKind.wrap .i64 (t3 - (1 : Int)))) 0))]) ∧
      ((cIS R0 (Int.toNat t3) 0) = (cIS R0 (Int.toNat (IntKind.wrap .i64 (t3 - (1 : Int)))) 0) →
        ((0 : Int) ≤ t3) ∧
        (t3 ≤ (((List.length R0) : Nat) : Int)) ∧
        (EV 33 [R0] [(Lf.i t3), (Lf.n (Int.toNat t3)), (Lf.n ((List.length R0) - (Int.toNat t3))), (Lf.i (1 : Int))])) ∧
      ((cIS R0 (Int.toNat t3) 0) ≠ (cIS R0 (Int.toNat (IntKind.wrap .i64 (t3 - (1 : Int)))) 0) →
        EV 15 [R0] [(Lf.i (IntKind.wrap .i64 (t3 + (1 : Int))))])) ∧
    (t3 ≥ (((List.length R0) : Nat) : Int) →
      Q 0 [R0] [(Lf.n (List.length R0))])) →
    EV 15 [R0] [.i t3]
  p33 : ∀ {R0 : List (List AV)} {t3 : Int} {t4_0 : Nat} {t4_1 : Nat} {t5 : Int}, (pursS R0 = true → 
    (t5 < ((t4_1 : Nat) : Int) →
      ((0 : Int) ≤ t5) ∧
      (t5 < ((t4_1 : Nat) : Int)) ∧
      (R0[(t4_0 + (Int.toNat t5))]? = some [(AV.int .i64 (cIS R0 (t4_0 + (Int.toNat t5)) 0))]) ∧
      ((0 : Int) ≤ (IntKind.wrap .i64 (t5 - (1 : Int)))) ∧
      ((IntKind.wrap .i64 (t5 - (1 : Int))) < ((t4_1 : Nat) : Int)) ∧
      (R0[(t4_0 + (Int.toNat (IntKind.wrap .i64 (t5 - (1 : Int)))))]? = some [(AV.int .i64 (cIS R0 (t4_0 + (Int.toNat (IntKind.wrap .i64 (t5 - (1 : Int))))) 0))]) ∧
      ((cIS R0 (t4_0 + (Int.toNat t5)) 0) ≠ (cIS R0 (t4_0 + (Int.toNat (IntKind.wrap .i64 (t5 - (1 : Int))))) 0) →
        ((0 : Int) ≤ t5) ∧
        (t5 < ((t4_1 : Nat) : Int)) ∧
        (R0[(t4_0 + (Int.toNat t5))]? = some [(AV.int .i64 (cIS R0 (t4_0 + (Int.toNat t5)) 0))]) ∧
        ((0 : Int) ≤ t3) ∧
        (t3 < (((List.length R0) : Nat) : Int)) ∧
        (R0[(Int.toNat t3)]? = some [(AV.int .i64 (cIS R0 (Int.toNat t3) 0))]) ∧
        (EV 33 [(List.set R0 (Int.toNat t3) [(AV.int .i64 (cIS R0 (t4_0 + (Int.toNat t5)) 0))])] [(Lf.i (IntKind.wrap .i64 (t3 + (1 : Int)))), (Lf.n t4_0), (Lf.n t4_1), (Lf.i (IntKind.wrap .i64 (t5 + (1 : Int))))])) ∧
      ((cIS R0 (t4_0 + (Int.toNat t5)) 0) = (cIS R0 (t4_0 + (Int.toNat (IntKind.wrap .i64 (t5 - (1 : Int))))) 0) →
        EV 33 [R0] [(Lf.i t3), (Lf.n t4_0), (Lf.n t4_1), (Lf.i (IntKind.wrap .i64 (t5 + (1 : Int))))])) ∧
    (t5 ≥ ((t4_1 : Nat) : Int) →
      ((0 : Int) ≤ t3) ∧
      (t3 ≤ (((List.length R0) : Nat) : Int)) ∧
      (((Int.toNat t3) + ((List.length R0) - (Int.toNat t3))) ≤ (List.length R0)) ∧
      ((List.length R0) = (List.length (rappS R0 (Int.toNat t3) (List.replicate ((List.length R0) - (Int.toNat t3)) [(AV.int .i64 (0 : Int))])))) ∧
      (Q 0 [(rappS R0 (Int.toNat t3) (List.replicate ((List.length R0) - (Int.toNat t3)) [(AV.int .i64 (0 : Int))]))] [(Lf.n (Int.toNat t3))]))) →
    EV 33 [R0] [.i t3, .n t4_0, .n t4_1, .i t5]

set_option maxHeartbeats 0 in
theorem V39a.of {Q : Nat → Rs → List Lf → Prop} {A : Ar} {CE : Nat → Rs → List Lf → (Nat → Rs → List Lf → Prop) → Prop} {CK : Nat → Rs → List Lf → Cont → Prop} {Dn : Nat → List Bool → List AItem → Nat → List Bool → List AV → List ABlk → Prop} {EV RR : Nat → Rs → List Lf → Prop} (W : Wk Try.prog Try.f39 I39a L39a Q A sg CE CK Dn EV RR) : V39a EV Q := by
  have hA := W.hA
  refine ⟨?_, ?_⟩
  · intro R0 t3 h
    refine W.step 80 fun hp => ?_
    have h := h hp.1
    cbv
    refine ⟨ndI hA rfl, ⟨imI hA fun e0 => have c0 : t3 < (((List.length R0) : Nat) : Int) := (by have q := (cmpE (op := .lss) hA e0); subst hA; exact q); ⟨ndI hA (And.intro (by subst hA; exact (h.1 c0).1) (And.intro (by subst hA; exact (h.1 c0).2.1) rfl)), ⟨ndI hA (And.intro rfl (by subst hA; show R0[(0 + (Int.toNat t3))]? = some [(AV.int .i64 (cIS R0 (0 + (Int.toNat t3)) 0))]; simp only [rappS_end, Nat.zero_add, Int.toNat_natCast]; exact (h.1 c0).2.2.1)), ⟨ndI hA (And.intro (by subst hA; exact (h.1 c0).2.2.2.1) (And.intro (by subst hA; exact (h.1 c0).2.2.2.2.1) rfl)), ⟨ndI hA (And.intro rfl (by subst hA; show R0[(0 + (Int.toNat (IntKind.wrap .i64 (t3 - (1 : Int)))))]? = some [(AV.int .i64 (cIS R0 (0 + (Int.toNat (IntKind.wrap .i64 (t3 - (1 : Int))))) 0))]; simp only [rappS_end, Nat.zero_add, Int.toNat_natCast]; exact (h.1 c0).2.2.2.2.2.1)), ⟨imI hA fun e1 => have c1 : (cIS R0 (Int.toNat t3) 0) = (cIS R0 (Int.toNat (IntKind.wrap .i64 (t3 - (1 : Int)))) 0) := (by have q := (cmpE (op := .eql) hA e1); subst hA; have q : (cIS R0 (0 + (Int.toNat t3)) 0) = (cIS R0 (0 + (Int.toNat (IntKind.wrap .i64 (t3 - (1 : Int))))) 0) := q; simpa only [rappS_end, Nat.zero_add, Int.toNat_natCast] using q); ⟨ndI hA (And.intro (by subst hA; exact ((h.1 c0).2.2.2.2.2.2.1 c1).1) (And.intro (by subst hA; exact ((h.1 c0).2.2.2.2.2.2.1 c1).2.1) rfl)), ⟨ndI hA (And.intro rfl (And.intro rfl rfl)), ⟨ndI hA rfl, ⟨ndI hA (by subst hA; exact hp.1), (by subst hA; show EV 33 [R0] [(Lf.i t3), (Lf.n (0 + (Int.toNat t3))), (Lf.n ((List.length R0) - (Int.toNat t3))), (Lf.i (1 : Int))]; simp only [rappS_end, Nat.zero_add, Int.toNat_natCast]; exact ((h.1 c0).2.2.2.2.2.2.1 c1).2.2)⟩⟩⟩⟩, imI hA fun e1 => have c1 : (cIS R0 (Int.toNat t3) 0) ≠ (cIS R0 (Int.toNat (IntKind.wrap .i64 (t3 - (1 : Int)))) 0) := (by have q := (cmpE (op := .eql) hA e1); subst hA; have q : (cIS R0 (0 + (Int.toNat t3)) 0) ≠ (cIS R0 (0 + (Int.toNat (IntKind.wrap .i64 (t3 - (1 : Int))))) 0) := q; simpa only [rappS_end, Nat.zero_add, Int.toNat_natCast] using q); ⟨ndI hA (And.intro rfl (And.intro rfl rfl)), ⟨ndI hA (by subst hA; exact hp.1), (by subst hA; exact ((h.1 c0).2.2.2.2.2.2.2 c1))⟩⟩⟩⟩⟩⟩⟩, imI hA fun e0 => have c0 : t3 ≥ (((List.length R0) : Nat) : Int) := (by have q := (cmpE (op := .lss) hA e0); subst hA; exact q); ⟨ndI hA (And.intro rfl rfl), ⟨ndI hA (by subst hA; exact hp.1), (by rw [W.rr]; exact (by subst hA; exact (h.2 c0)))⟩⟩⟩⟩
  · intro R0 t3 t4_0 t4_1 t5 h
    refine W.step 80 fun hp => ?_
    have h := h hp.1
    cbv
    refine ⟨ndI hA rfl, ⟨imI hA fun e0 => have c0 : t5 < ((t4_1 : Nat) : Int) := (by have q := (cmpE (op := .lss) hA e0); subst hA; exact q); ⟨ndI hA (And.intro (by subst hA; exact (h.1 c0).1) (And.intro (by subst hA; exact (h.1 c0).2.1) rfl)), ⟨ndI hA (And.intro rfl (by subst hA; exact (h.1 c0).2.2.1)), ⟨ndI hA (And.intro (by subst hA; exact (h.1 c0).2.2.2.1) (And.intro (by subst hA; exact (h.1 c0).2.2.2.2.1) rfl)), ⟨ndI hA (And.intro rfl (by subst hA; exact (h.1 c0).2.2.2.2.2.1)), ⟨imI hA fun e1 => have c1 : (cIS R0 (t4_0 + (Int.toNat t5)) 0) ≠ (cIS R0 (t4_0 + (Int.toNat (IntKind.wrap .i64 (t5 - (1 : Int))))) 0) := (by have q := (cmpE (op := .neq) hA e1); subst hA; exact q); ⟨ndI hA (And.intro (by subst hA; exact ((h.1 c0).2.2.2.2.2.2.1 c1).1) (And.intro (by subst hA; exact ((h.1 c0).2.2.2.2.2.2.1 c1).2.1) rfl)), ⟨ndI hA (And.intro rfl (by subst hA; exact ((h.1 c0).2.2.2.2.2.2.1 c1).2.2.1)), ⟨ndI hA (And.intro (by subst hA; exact ((h.1 c0).2.2.2.2.2.2.1 c1).2.2.2.1) (And.intro (by subst hA; exact ((h.1 c0).2.2.2.2.2.2.1 c1).2.2.2.2.1) rfl)), ⟨ndI hA (And.intro rfl (by subst hA; show R0[(0 + (Int.toNat t3))]? = some [(AV.int .i64 (cIS R0 (0 + (Int.toNat t3)) 0))]; simp only [rappS_end, Nat.zero_add, Int.toNat_natCast]; exact ((h.1 c0).2.2.2.2.2.2.1 c1).2.2.2.2.2.1)), ⟨ndI hA (And.intro (by subst hA; show (List.length R0) = (List.length (List.set R0 (0 + (Int.toNat t3)) [(AV.int .i64 (cIS R0 (t4_0 + (Int.toNat t5)) 0))])); (first | rfl | simp [rappS_end] | (simp only [rappS_end, List.length_append, List.length_set, List.length_cons, List.length_nil]; omega))) (And.intro rfl (by subst hA; show (List.length R0) = (List.length (List.set R0 (0 + (Int.toNat t3)) [(AV.int .i64 (cIS R0 (t4_0 + (Int.toNat t5)) 0))])); (first | rfl | simp [rappS_end] | (simp only [rappS_end, List.length_append, List.length_set, List.length_cons, List.length_nil]; omega))))), ⟨ndI hA (by subst hA; show (List.length R0) = (List.length (List.set R0 (0 + (Int.toNat t3)) [(AV.int .i64 (cIS R0 (t4_0 + (Int.toNat t5)) 0))])); (first | rfl | simp [rappS_end] | (simp only [rappS_end, List.length_append, List.length_set, List.length_cons, List.length_nil]; omega))), ⟨ndI hA (by subst hA; exact (vset hp.1 rfl)), (by subst hA; show EV 33 [(List.set R0 (0 + (Int.toNat t3)) [(AV.int .i64 (cIS R0 (t4_0 + (Int.toNat t5)) 0))])] [(Lf.i (IntKind.wrap .i64 (t3 + (1 : Int)))), (Lf.n t4_0), (Lf.n t4_1), (Lf.i (IntKind.wrap .i64 (t5 + (1 : Int))))]; simp only [rappS_end, Nat.zero_add, Int.toNat_natCast]; exact ((h.1 c0).2.2.2.2.2.2.1 c1).2.2.2.2.2.2)⟩⟩⟩⟩⟩⟩⟩, imI hA fun e1 => have c1 : (cIS R0 (t4_0 + (Int.toNat t5)) 0) = (cIS R0 (t4_0 + (Int.toNat (IntKind.wrap .i64 (t5 - (1 : Int))))) 0) := (by have q := (cmpE (op := .neq) hA e1); subst hA; exact q); ⟨ndI hA (And.intro rfl (And.intro rfl rfl)), ⟨ndI hA rfl, ⟨ndI hA (by subst hA; exact hp.1), (by subst hA; exact ((h.1 c0).2.2.2.2.2.2.2 c1))⟩⟩⟩⟩⟩⟩⟩⟩, imI hA fun e0 => have c0 : t5 ≥ ((t4_1 : Nat) : Int) := (by have q := (cmpE (op := .lss) hA e0); subst hA; exact q); ⟨ndI hA (And.intro (by subst hA; exact (h.2 c0).1) (And.intro (by subst hA; exact (h.2 c0).2.1) rfl)), ⟨ndI hA (And.intro rfl (by subst hA; show ((0 + (Int.toNat t3)) + ((List.length R0) - (Int.toNat t3))) ≤ (List.length R0); simp only [rappS_end, Nat.zero_add, Int.toNat_natCast]; exact (h.2 c0).2.2.1)), ⟨ndI hA (And.intro (by subst hA; exact (h.2 c0).1) (And.intro (by subst hA; exact (h.2 c0).2.1) (by subst hA; show (List.length R0) = (List.length (rappS R0 (0 + (Int.toNat t3)) (List.replicate ((List.length R0) - (Int.toNat t3)) [(AV.int .i64 (0 : Int))]))); simp only [rappS_end, Nat.zero_add, Int.toNat_natCast]; exact (h.2 c0).2.2.2.1))), ⟨ndI hA (And.intro (by subst hA; show (List.length R0) = (List.length (rappS R0 (0 + (Int.toNat t3)) (List.replicate ((List.length R0) - (Int.toNat t3)) [(AV.int .i64 (0 : Int))]))); simp only [rappS_end, Nat.zero_add, Int.toNat_natCast]; exact (h.2 c0).2.2.2.1) rfl), ⟨ndI hA (by subst hA; exact (vapp hp.1 (vrep rfl))), (by rw [W.rr]; exact (by subst hA; show Q 0 [(rappS R0 (0 + (Int.toNat t3)) (List.replicate ((List.length R0) - (Int.toNat t3)) [(AV.int .i64 (0 : Int))]))] [(Lf.n (Int.toNat t3))]; simp only [rappS_end, Nat.zero_add, Int.toNat_natCast]; exact (h.2 c0).2.2.2.2))⟩⟩⟩⟩⟩⟩⟩

end
set_option maxHeartbeats 0 in
/-- To enter. -/
theorem E39a {Q : Nat → Rs → List Lf → Prop} {R0 : List (List AV)} (h : pursS R0 = true → ∀ EV : Nat → Rs → List Lf → Prop, V39a EV Q →
    ((((List.length R0) : Nat) : Int) < (2 : Int) →
      Q 0 [R0] [(Lf.n (List.length R0))]) ∧
    ((((List.length R0) : Nat) : Int) ≥ (2 : Int) →
      EV 15 [R0] [(Lf.i (1 : Int))])) :
    EC Try.prog G39a [R0] [] Q := by
  obtain ⟨A, hA⟩ : ∃ A, A = arS := ⟨_, rfl⟩
  refine Inst.enter (I := I39a) hA mixed F39_at sg L39a 80 rfl fun CE CK Dn EV RR W hp => ?_
  have h := h hp.1 EV (V39a.of W)
  cbv
  refine ⟨ndI hA rfl, ⟨imI hA fun e0 => have c0 : (((List.length R0) : Nat) : Int) < (2 : Int) := (by have q := (cmpE (op := .lss) hA e0); subst hA; exact q); ⟨ndI hA (And.intro rfl rfl), ⟨ndI hA (by subst hA; exact hp.1), (by rw [W.rr]; exact (by subst hA; exact (h.1 c0)))⟩⟩, imI hA fun e0 => have c0 : (((List.length R0) : Nat) : Int) ≥ (2 : Int) := (by have q := (cmpE (op := .lss) hA e0); subst hA; exact q); ⟨ndI hA (And.intro rfl (And.intro rfl rfl)), ⟨ndI hA (by subst hA; exact hp.1), (by subst hA; exact (h.2 c0))⟩⟩⟩⟩

-- 18: signalbox/section.Reach
section
structure V18 (EV Q : Nat → Rs → List Lf → Prop) : Prop where
  p9 : ∀ {R0 : List (List AV)} {R1 : List (List AV)} {t1 : Int} {t13 : Int} {t14 : Int} {tb0_0 : Int} {tb0_1 : Int} {tb0_2 : Int} {tb0_3 : Int} {tb0_4 : List (List AV)} {tb0_5 : Int} {tb0_6 : List (List AV)} {tb0_7 : List (List AV)} {tb0_8 : List (List AV)} {tb0_9 : List (List AV)}, (pursS R0 = true → pursS R1 = true → 
    (t14 < t13 →
      ((0 : Int) ≤ t14) ∧
      (t14 < (((List.length R1) : Nat) : Int)) ∧
      (R1[(Int.toNat t14)]? = some [(AV.int .i64 (cIS R1 (Int.toNat t14) 0)), (AV.int .i64 (cIS R1 (Int.toNat t14) 1))]) ∧
      (EV 23 [R0, R1] [(Lf.i t1), (Lf.i t13), (Lf.i t14), (Lf.r [[(AV.int .i64 (cIS R1 (Int.toNat t14) 0))], [(AV.int .i64 (cIS R1 (Int.toNat t14) 1))]]), (Lf.i ((2 : Nat) : Int)), (Lf.i (0 : Int)), (Lf.i tb0_0), (Lf.i tb0_1), (Lf.i tb0_2), (Lf.i tb0_3), (Lf.r tb0_4), (Lf.i tb0_5), (Lf.r tb0_6), (Lf.r tb0_7), (Lf.r tb0_8), (Lf.r tb0_9)])) ∧
    (t14 ≥ t13 →
      EC Try.prog G38a [R0] [] (fun x rs vs => (x = 0 ∧ ∃ (Y1_0 : List (List AV)), rs = [Y1_0] ∧ vs = [] ∧
        (((List.length R0) = (List.length Y1_0)) ∧
          (EC Try.prog G39a [Y1_0] [] (fun x rs vs => (x = 0 ∧ ∃ (Y2_0 : List (List AV)) (y2_0 : Nat), rs = [Y2_0] ∧ vs = [.n y2_0] ∧
            (Q 0 [Y2_0] [(Lf.n y2_0)]))))))))) →
    EV 9 [R0, R1] [.i t1, .i t13, .i t14, .i tb0_0, .i tb0_1, .i tb0_2, .i tb0_3, .r tb0_4, .i tb0_5, .r tb0_6, .r tb0_7, .r tb0_8, .r tb0_9]
  p23 : ∀ {R0 : List (List AV)} {R1 : List (List AV)} {t1 : Int} {t13 : Int} {t14 : Int} {t22 : List (List AV)} {t23 : Int} {t24 : Int} {tb0_0 : Int} {tb0_1 : Int} {tb0_2 : Int} {tb0_3 : Int} {tb0_4 : List (List AV)} {tb0_5 : Int} {tb0_6 : List (List AV)} {tb0_7 : List (List AV)} {tb0_8 : List (List AV)} {tb0_9 : List (List AV)}, (pursS R0 = true → pursS R1 = true → 
    (t24 < t23 →
      ((0 : Int) ≤ t24) ∧
      (t22[(Int.toNat t24)]? = some [(AV.int .i64 (cIS t22 (Int.toNat t24) 0))]) ∧
      ((0 : Int) ≤ t1) ∧
      (tb0_8[(Int.toNat t1)]? = some [(AV.int .i64 (cIS tb0_8 (Int.toNat t1) 0)), (AV.int .i64 (cIS tb0_8 (Int.toNat t1) 1)), (AV.int .i64 (cIS tb0_8 (Int.toNat t1) 2)), (AV.int .i64 (cIS tb0_8 (Int.toNat t1) 3)), (AV.int .i64 (cIS tb0_8 (Int.toNat t1) 4)), (AV.int .i64 (cIS tb0_8 (Int.toNat t1) 5)), (AV.inl 3 (cRS tb0_8 (Int.toNat t1) 6))]) ∧
      ((cIS t22 (Int.toNat t24) 0) > (cIS tb0_8 (Int.toNat t1) 1) →
        (((List.length R0) + 1) ≤ 140737488355328) ∧
        ((((List.length R0) + 1) * 8) ≤ 140737488355328) ∧
        (EV 23 [(R0 ++ [[(AV.int .i64 (cIS t22 (Int.toNat t24) 0))]]), R1] [(Lf.i t1), (Lf.i t13), (Lf.i t14), (Lf.r t22), (Lf.i t23), (Lf.i (IntKind.wrap .i64 (t24 + (1 : Int)))), (Lf.i tb0_0), (Lf.i tb0_1), (Lf.i tb0_2), (Lf.i tb0_3), (Lf.r tb0_4), (Lf.i tb0_5), (Lf.r tb0_6), (Lf.r tb0_7), (Lf.r tb0_8), (Lf.r tb0_9)])) ∧
      ((cIS t22 (Int.toNat t24) 0) ≤ (cIS tb0_8 (Int.toNat t1) 1) →
        EV 23 [R0, R1] [(Lf.i t1), (Lf.i t13), (Lf.i t14), (Lf.r t22), (Lf.i t23), (Lf.i (IntKind.wrap .i64 (t24 + (1 : Int)))), (Lf.i tb0_0), (Lf.i tb0_1), (Lf.i tb0_2), (Lf.i tb0_3), (Lf.r tb0_4), (Lf.i tb0_5), (Lf.r tb0_6), (Lf.r tb0_7), (Lf.r tb0_8), (Lf.r tb0_9)])) ∧
    (t24 ≥ t23 →
      EV 9 [R0, R1] [(Lf.i t1), (Lf.i t13), (Lf.i (IntKind.wrap .i64 (t14 + (1 : Int)))), (Lf.i tb0_0), (Lf.i tb0_1), (Lf.i tb0_2), (Lf.i tb0_3), (Lf.r tb0_4), (Lf.i tb0_5), (Lf.r tb0_6), (Lf.r tb0_7), (Lf.r tb0_8), (Lf.r tb0_9)])) →
    EV 23 [R0, R1] [.i t1, .i t13, .i t14, .r t22, .i t23, .i t24, .i tb0_0, .i tb0_1, .i tb0_2, .i tb0_3, .r tb0_4, .i tb0_5, .r tb0_6, .r tb0_7, .r tb0_8, .r tb0_9]

set_option maxHeartbeats 0 in
theorem V18.of {Q : Nat → Rs → List Lf → Prop} {A : Ar} {CE : Nat → Rs → List Lf → (Nat → Rs → List Lf → Prop) → Prop} {CK : Nat → Rs → List Lf → Cont → Prop} {Dn : Nat → List Bool → List AItem → Nat → List Bool → List AV → List ABlk → Prop} {EV RR : Nat → Rs → List Lf → Prop} (W : Wk Try.prog Try.f18 I18 L18 Q A sg CE CK Dn EV RR) : V18 EV Q := by
  have hA := W.hA
  refine ⟨?_, ?_⟩
  · intro R0 R1 t1 t13 t14 tb0_0 tb0_1 tb0_2 tb0_3 tb0_4 tb0_5 tb0_6 tb0_7 tb0_8 tb0_9 h
    refine W.step 80 fun hp => ?_
    have h := h hp.1 hp.2.1
    cbv
    refine ⟨imI hA fun e0 => have c0 : t14 < t13 := (by have q := (cmpE (op := .lss) hA e0); subst hA; exact q); ⟨ndI hA (And.intro (by subst hA; exact (h.1 c0).1) (And.intro (by subst hA; exact (h.1 c0).2.1) rfl)), ⟨ndI hA (And.intro rfl (by subst hA; show R1[(0 + (Int.toNat t14))]? = some [(AV.int .i64 (cIS R1 (0 + (Int.toNat t14)) 0)), (AV.int .i64 (cIS R1 (0 + (Int.toNat t14)) 1))]; simp only [rappS_end, Nat.zero_add, Int.toNat_natCast]; exact (h.1 c0).2.2.1)), ⟨ndI hA (And.intro rfl (And.intro rfl rfl)), ⟨ndI hA (And.intro rfl (And.intro rfl rfl)), ⟨ndI hA (by subst hA; exact hp.1), ⟨ndI hA (by subst hA; exact hp.2.1), (by subst hA; show EV 23 [R0, R1] [(Lf.i t1), (Lf.i t13), (Lf.i t14), (Lf.r [[(AV.int .i64 (cIS R1 (0 + (Int.toNat t14)) 0))], [(AV.int .i64 (cIS R1 (0 + (Int.toNat t14)) 1))]]), (Lf.i ((2 : Nat) : Int)), (Lf.i (0 : Int)), (Lf.i tb0_0), (Lf.i tb0_1), (Lf.i tb0_2), (Lf.i tb0_3), (Lf.r tb0_4), (Lf.i tb0_5), (Lf.r tb0_6), (Lf.r tb0_7), (Lf.r tb0_8), (Lf.r tb0_9)]; simp only [rappS_end, Nat.zero_add, Int.toNat_natCast]; exact (h.1 c0).2.2.2)⟩⟩⟩⟩⟩⟩, imI hA fun e0 => have c0 : t14 ≥ t13 := (by have q := (cmpE (op := .lss) hA e0); subst hA; exact q); ⟨ndI hA (And.intro rfl (And.intro rfl rfl)), ⟨ndI hA (by subst hA; exact hp.1), ?_⟩⟩⟩
    · refine W.call 80 (by rfl) (h.2 c0) (by subst hA; rfl) (by subst hA; rfl) ?_
      rintro x rs vs hp1 hq1
      rcases hq1 with ⟨rfl, Y1_0, rfl, rfl, k1⟩
      · cbv
        refine ⟨ndI hA (And.intro (by subst hA; exact k1.1) (And.intro rfl (by subst hA; exact k1.1))), ⟨ndI hA (by subst hA; exact hp1.1), ?_⟩⟩
        · refine W.call 80 (by rfl) k1.2 (by subst hA; rfl) (by subst hA; rfl) ?_
          rintro x rs vs hp2 hq2
          rcases hq2 with ⟨rfl, Y2_0, y2_0, rfl, rfl, k2⟩
          · cbv
            refine ⟨ndI hA (And.intro rfl rfl), ⟨ndI hA (by subst hA; exact hp2.1), (by rw [W.rr]; exact (by subst hA; exact k2))⟩⟩
  · intro R0 R1 t1 t13 t14 t22 t23 t24 tb0_0 tb0_1 tb0_2 tb0_3 tb0_4 tb0_5 tb0_6 tb0_7 tb0_8 tb0_9 h
    refine W.step 80 fun hp => ?_
    have h := h hp.1 hp.2.1
    cbv
    refine ⟨imI hA fun e0 => have c0 : t24 < t23 := (by have q := (cmpE (op := .lss) hA e0); subst hA; exact q); ⟨ndI hA (And.intro (by subst hA; exact (h.1 c0).1) (by subst hA; exact (h.1 c0).2.1)), ⟨ndI hA (And.intro (by subst hA; exact (h.1 c0).2.2.1) (by subst hA; exact (h.1 c0).2.2.2.1)), ⟨imI hA fun e1 => have c1 : (cIS t22 (Int.toNat t24) 0) > (cIS tb0_8 (Int.toNat t1) 1) := (by have q := (cmpE (op := .gtr) hA e1); subst hA; exact q); ⟨ndI hA (And.intro rfl (And.intro (Nat.le_refl _) (And.intro (by subst hA; exact ((h.1 c0).2.2.2.2.1 c1).1) (by subst hA; exact ((h.1 c0).2.2.2.2.1 c1).2.1)))), ⟨ndI hA (And.intro rfl (And.intro rfl (by subst hA; show ((List.length R0) + 1) = (List.length (rappS R0 (List.length R0) [[(AV.int .i64 (cIS t22 (Int.toNat t24) 0))]])); (first | rfl | simp [rappS_end] | (simp only [rappS_end, List.length_append, List.length_set, List.length_cons, List.length_nil]; omega))))), ⟨ndI hA (And.intro rfl (And.intro rfl rfl)), ⟨ndI hA (by subst hA; exact (vapp hp.1 vpur)), ⟨ndI hA (by subst hA; exact hp.2.1), (by subst hA; show EV 23 [(rappS R0 (List.length R0) [[(AV.int .i64 (cIS t22 (Int.toNat t24) 0))]]), R1] [(Lf.i t1), (Lf.i t13), (Lf.i t14), (Lf.r t22), (Lf.i t23), (Lf.i (IntKind.wrap .i64 (t24 + (1 : Int)))), (Lf.i tb0_0), (Lf.i tb0_1), (Lf.i tb0_2), (Lf.i tb0_3), (Lf.r tb0_4), (Lf.i tb0_5), (Lf.r tb0_6), (Lf.r tb0_7), (Lf.r tb0_8), (Lf.r tb0_9)]; simp only [rappS_end, Nat.zero_add, Int.toNat_natCast]; exact ((h.1 c0).2.2.2.2.1 c1).2.2)⟩⟩⟩⟩⟩, imI hA fun e1 => have c1 : (cIS t22 (Int.toNat t24) 0) ≤ (cIS tb0_8 (Int.toNat t1) 1) := (by have q := (cmpE (op := .gtr) hA e1); subst hA; exact q); ⟨ndI hA (And.intro rfl (And.intro rfl rfl)), ⟨ndI hA (And.intro rfl (And.intro rfl rfl)), ⟨ndI hA (by subst hA; exact hp.1), ⟨ndI hA (by subst hA; exact hp.2.1), (by subst hA; exact ((h.1 c0).2.2.2.2.2 c1))⟩⟩⟩⟩⟩⟩⟩, imI hA fun e0 => have c0 : t24 ≥ t23 := (by have q := (cmpE (op := .lss) hA e0); subst hA; exact q); ⟨ndI hA (And.intro rfl (And.intro rfl rfl)), ⟨ndI hA (And.intro rfl (And.intro rfl rfl)), ⟨ndI hA (by subst hA; exact hp.1), ⟨ndI hA (by subst hA; exact hp.2.1), (by subst hA; exact (h.2 c0))⟩⟩⟩⟩⟩

end
set_option maxHeartbeats 0 in
/-- To enter. -/
theorem E18 {Q : Nat → Rs → List Lf → Prop} {a0_0 : Int} {a0_1 : Int} {a0_2 : Int} {a0_3 : Int} {a0_4 : List (List AV)} {a0_5 : Int} {a0_6 : List (List AV)} {a0_7 : List (List AV)} {a0_8 : List (List AV)} {a0_9 : List (List AV)} {a1 : Int} (h : ∀ EV : Nat → Rs → List Lf → Prop, V18 EV Q →
    EC Try.prog G17 [] [(Lf.i a0_0), (Lf.i a0_1), (Lf.i a0_2), (Lf.i a0_3), (Lf.r a0_4), (Lf.i a0_5), (Lf.r a0_6), (Lf.r a0_7), (Lf.r a0_8), (Lf.r a0_9), (Lf.i a1)] (fun x rs vs => (x = 0 ∧ ∃ (Y0_0 : List (List AV)), rs = [Y0_0] ∧ vs = [] ∧
      (EV 9 [[], Y0_0] [(Lf.i a1), (Lf.i (((List.length Y0_0) : Nat) : Int)), (Lf.i (0 : Int)), (Lf.i a0_0), (Lf.i a0_1), (Lf.i a0_2), (Lf.i a0_3), (Lf.r a0_4), (Lf.i a0_5), (Lf.r a0_6), (Lf.r a0_7), (Lf.r a0_8), (Lf.r a0_9)])))) :
    EC Try.prog G18 [] [.i a0_0, .i a0_1, .i a0_2, .i a0_3, .r a0_4, .i a0_5, .r a0_6, .r a0_7, .r a0_8, .r a0_9, .i a1] Q := by
  obtain ⟨A, hA⟩ : ∃ A, A = arS := ⟨_, rfl⟩
  refine Inst.enter (I := I18) hA mixed F18_at sg L18 80 rfl fun CE CK Dn EV RR W hp => ?_
  have h := h  EV (V18.of W)
  cbv
  refine ?_
  · refine W.call 80 (by rfl) h (by subst hA; rfl) (by subst hA; rfl) ?_
    rintro x rs vs hp0 hq0
    rcases hq0 with ⟨rfl, Y0_0, rfl, rfl, k0⟩
    · cbv
      refine ⟨ndI hA rfl, ⟨ndI hA (And.intro (by subst hA; show 0 = 0; (first | rfl | simp [rappS_end] | (simp only [rappS_end, List.length_append, List.length_set, List.length_cons, List.length_nil]; omega))) (And.intro rfl (by subst hA; show 0 = 0; (first | rfl | simp [rappS_end] | (simp only [rappS_end, List.length_append, List.length_set, List.length_cons, List.length_nil]; omega))))), ⟨ndI hA (And.intro rfl (And.intro rfl rfl)), ⟨ndI hA (by subst hA; exact vpur), ⟨ndI hA (by subst hA; exact hp0.1), (by subst hA; exact k0)⟩⟩⟩⟩⟩

-- 51: signalbox/cost.clamp
section
structure V51 (EV Q : Nat → Rs → List Lf → Prop) : Prop where
  none : True

end
set_option maxHeartbeats 0 in
/-- To enter. -/
theorem E51 {Q : Nat → Rs → List Lf → Prop} {a0 : Int} (h : ∀ EV : Nat → Rs → List Lf → Prop, V51 EV Q →
    Q 0 [] [(Lf.i (arS.mn (arS.mx a0 (0 : Int)) (1073741824 : Int)))]) :
    EC Try.prog G51 [] [.i a0] Q := by
  obtain ⟨A, hA⟩ : ∃ A, A = arS := ⟨_, rfl⟩
  refine Inst.enter (I := I51) hA mixed F51_at sg L51 80 rfl fun CE CK Dn EV RR W hp => ?_
  have h := h  EV ⟨trivial⟩
  cbv
  refine (by rw [W.rr]; exact (by subst hA; exact h))

-- 40: signalbox/cost.Of
section
structure V40 (EV Q : Nat → Rs → List Lf → Prop) : Prop where
  none : True

end
set_option maxHeartbeats 0 in
/-- To enter. -/
theorem E40 {Q : Nat → Rs → List Lf → Prop} {a0_0 : Int} {a0_1 : Int} {a0_2 : Int} {a1_0 : Int} {a1_1 : Int} {a1_2 : Int} {a1_3 : Int} {a2 : Bool} (h : ∀ EV : Nat → Rs → List Lf → Prop, V40 EV Q →
    (a0_0 = (1 : Int) →
      EC Try.prog G51 [] [(Lf.i a0_1)] (fun x rs vs => (x = 0 ∧ ∃ (y1_0 : Int), rs = [] ∧ vs = [.i y1_0] ∧
        (Q 0 [] [(Lf.i y1_0)])))) ∧
    (a0_0 ≠ (1 : Int) →
      (a0_0 ≠ (2 : Int) →
        Q 0 [] [(Lf.i (1 : Int))]) ∧
      (a0_0 = (2 : Int) →
        (a2 = true →
          EC Try.prog G51 [] [(Lf.i a1_2)] (fun x rs vs => (x = 0 ∧ ∃ (y3_0 : Int), rs = [] ∧ vs = [.i y3_0] ∧
            (Q 0 [] [(Lf.i y3_0)])))) ∧
        (a2 = false →
          EC Try.prog G51 [] [(Lf.i a1_3)] (fun x rs vs => (x = 0 ∧ ∃ (y3_0 : Int), rs = [] ∧ vs = [.i y3_0] ∧
            (Q 0 [] [(Lf.i y3_0)]))))))) :
    EC Try.prog G40 [] [.i a0_0, .i a0_1, .i a0_2, .i a1_0, .i a1_1, .i a1_2, .i a1_3, .b a2] Q := by
  obtain ⟨A, hA⟩ : ∃ A, A = arS := ⟨_, rfl⟩
  refine Inst.enter (I := I40) hA mixed F40_at sg L40 80 rfl fun CE CK Dn EV RR W hp => ?_
  have h := h  EV ⟨trivial⟩
  cbv
  refine ⟨imI hA fun e0 => have c0 : a0_0 = (1 : Int) := (by have q := (cmpE (op := .eql) hA e0); subst hA; exact q); ?_, imI hA fun e0 => have c0 : a0_0 ≠ (1 : Int) := (by have q := (cmpE (op := .eql) hA e0); subst hA; exact q); ⟨imI hA fun e1 => have c1 : a0_0 ≠ (2 : Int) := (by have q := (cmpE (op := .neq) hA e1); subst hA; exact q); (by rw [W.rr]; exact (by subst hA; exact ((h.2 c0).1 c1))), imI hA fun e1 => have c1 : a0_0 = (2 : Int) := (by have q := (cmpE (op := .neq) hA e1); subst hA; exact q); ⟨imI hA fun e2 => have c2 : a2 = true := (by have q := e2; subst hA; exact q); ?_, imI hA fun e2 => have c2 : a2 = false := (by have q := e2; subst hA; exact q); ?_⟩⟩⟩
  · refine W.call 80 (by rfl) (h.1 c0) (by subst hA; rfl) (by subst hA; rfl) ?_
    rintro x rs vs hp1 hq1
    rcases hq1 with ⟨rfl, y1_0, rfl, rfl, k1⟩
    · cbv
      refine (by rw [W.rr]; exact (by subst hA; exact k1))
  · refine W.call 80 (by rfl) (((h.2 c0).2 c1).1 c2) (by subst hA; rfl) (by subst hA; rfl) ?_
    rintro x rs vs hp3 hq3
    rcases hq3 with ⟨rfl, y3_0, rfl, rfl, k3⟩
    · cbv
      refine (by rw [W.rr]; exact (by subst hA; exact k3))
  · refine W.call 80 (by rfl) (((h.2 c0).2 c1).2 c2) (by subst hA; rfl) (by subst hA; rfl) ?_
    rintro x rs vs hp3 hq3
    rcases hq3 with ⟨rfl, y3_0, rfl, rfl, k3⟩
    · cbv
      refine (by rw [W.rr]; exact (by subst hA; exact k3))

-- 19: signalbox/section.Longest DRAWN
section
structure V19 (EV Q : Nat → Rs → List Lf → Prop) : Prop where
  p9 : ∀ {R0 : List (List AV)} {t1 : Int} {t2 : Int} {t7 : Int} {t8 : Int} {t14 : Int} {t15 : Int} {tb0_0 : Int} {tb0_1 : Int} {tb0_2 : Int} {tb0_3 : Int} {tb0_4 : List (List AV)} {tb0_5 : Int} {tb0_6 : List (List AV)} {tb0_7 : List (List AV)} {tb0_8 : List (List AV)} {tb0_9 : List (List AV)}, (pursS R0 = true → 
    (t15 < t14 →
      ((0 : Int) ≤ t15) ∧
      (t15 < (((List.length R0) : Nat) : Int)) ∧
      (R0[(Int.toNat t15)]? = some [(AV.int .i64 (cIS R0 (Int.toNat t15) 0)), (AV.int .i64 (cIS R0 (Int.toNat t15) 1))]) ∧
      ((arS.mx (cIS R0 (Int.toNat t15) 0) (cIS R0 (Int.toNat t15) 1)) < t2 →
        EV 9 [R0] [(Lf.i t1), (Lf.i t2), (Lf.i t7), (Lf.i (0 : Int)), (Lf.i t14), (Lf.i (IntKind.wrap .i64 (t15 + (1 : Int)))), (Lf.i tb0_0), (Lf.i tb0_1), (Lf.i tb0_2), (Lf.i tb0_3), (Lf.r tb0_4), (Lf.i tb0_5), (Lf.r tb0_6), (Lf.r tb0_7), (Lf.r tb0_8), (Lf.r tb0_9)]) ∧
      ((arS.mx (cIS R0 (Int.toNat t15) 0) (cIS R0 (Int.toNat t15) 1)) ≥ t2 →
        ((0 : Int) ≤ t1) ∧
        (tb0_8[(Int.toNat t1)]? = some [(AV.int .i64 (cIS tb0_8 (Int.toNat t1) 0)), (AV.int .i64 (cIS tb0_8 (Int.toNat t1) 1)), (AV.int .i64 (cIS tb0_8 (Int.toNat t1) 2)), (AV.int .i64 (cIS tb0_8 (Int.toNat t1) 3)), (AV.int .i64 (cIS tb0_8 (Int.toNat t1) 4)), (AV.int .i64 (cIS tb0_8 (Int.toNat t1) 5)), (AV.inl 3 (cRS tb0_8 (Int.toNat t1) 6))]) ∧
        ((0 : Int) ≤ t15) ∧
        ((cRS tb0_8 (Int.toNat t1) 6)[(Int.toNat t15)]? = some [(AV.int .i64 (cIS (cRS tb0_8 (Int.toNat t1) 6) (Int.toNat t15) 0)), (AV.int .i64 (cIS (cRS tb0_8 (Int.toNat t1) 6) (Int.toNat t15) 1)), (AV.int .i64 (cIS (cRS tb0_8 (Int.toNat t1) 6) (Int.toNat t15) 2))]) ∧
        (EC Try.prog G40 [] [(Lf.i (cIS (cRS tb0_8 (Int.toNat t1) 6) (Int.toNat t15) 0)), (Lf.i (cIS (cRS tb0_8 (Int.toNat t1) 6) (Int.toNat t15) 1)), (Lf.i (cIS (cRS tb0_8 (Int.toNat t1) 6) (Int.toNat t15) 2)), (Lf.i tb0_0), (Lf.i tb0_1), (Lf.i tb0_2), (Lf.i tb0_3), (Lf.b false)] (fun x rs vs => (x = 0 ∧ ∃ (y2_0 : Int), rs = [] ∧ vs = [.i y2_0] ∧
          (EV 9 [R0] [(Lf.i t1), (Lf.i t2), (Lf.i (arS.mx t7 (IntKind.wrap .i64 (t8 + y2_0)))), (Lf.i (IntKind.wrap .i64 (t8 + y2_0))), (Lf.i t14), (Lf.i (IntKind.wrap .i64 (t15 + (1 : Int)))), (Lf.i tb0_0), (Lf.i tb0_1), (Lf.i tb0_2), (Lf.i tb0_3), (Lf.r tb0_4), (Lf.i tb0_5), (Lf.r tb0_6), (Lf.r tb0_7), (Lf.r tb0_8), (Lf.r tb0_9)])))))) ∧
    (t15 ≥ t14 →
      Q 0 [] [(Lf.i t7)])) →
    EV 9 [R0] [.i t1, .i t2, .i t7, .i t8, .i t14, .i t15, .i tb0_0, .i tb0_1, .i tb0_2, .i tb0_3, .r tb0_4, .i tb0_5, .r tb0_6, .r tb0_7, .r tb0_8, .r tb0_9]

set_option maxHeartbeats 0 in
theorem V19.of {Q : Nat → Rs → List Lf → Prop} {A : Ar} {CE : Nat → Rs → List Lf → (Nat → Rs → List Lf → Prop) → Prop} {CK : Nat → Rs → List Lf → Cont → Prop} {Dn : Nat → List Bool → List AItem → Nat → List Bool → List AV → List ABlk → Prop} {EV RR : Nat → Rs → List Lf → Prop} (W : Wk Try.prog Try.f19 I19 L19 Q A sg CE CK Dn EV RR) : V19 EV Q := by
  have hA := W.hA
  refine ⟨?_⟩
  · intro R0 t1 t2 t7 t8 t14 t15 tb0_0 tb0_1 tb0_2 tb0_3 tb0_4 tb0_5 tb0_6 tb0_7 tb0_8 tb0_9 h
    refine W.step 80 fun hp => ?_
    have h := h hp.1
    cbv
    refine ⟨imI hA fun e0 => have c0 : t15 < t14 := (by have q := (cmpE (op := .lss) hA e0); subst hA; exact q); ⟨ndI hA (And.intro (by subst hA; exact (h.1 c0).1) (And.intro (by subst hA; exact (h.1 c0).2.1) rfl)), ⟨ndI hA (And.intro rfl (by subst hA; show R0[(0 + (Int.toNat t15))]? = some [(AV.int .i64 (cIS R0 (0 + (Int.toNat t15)) 0)), (AV.int .i64 (cIS R0 (0 + (Int.toNat t15)) 1))]; simp only [rappS_end, Nat.zero_add, Int.toNat_natCast]; exact (h.1 c0).2.2.1)), ⟨imI hA fun e1 => have c1 : (arS.mx (cIS R0 (Int.toNat t15) 0) (cIS R0 (Int.toNat t15) 1)) < t2 := (by have q := (cmpE (op := .lss) hA e1); subst hA; have q : (arS.mx (cIS R0 (0 + (Int.toNat t15)) 0) (cIS R0 (0 + (Int.toNat t15)) 1)) < t2 := q; simpa only [rappS_end, Nat.zero_add, Int.toNat_natCast] using q); ⟨ndI hA (And.intro rfl (And.intro rfl rfl)), ⟨ndI hA (by subst hA; exact hp.1), (by subst hA; exact ((h.1 c0).2.2.2.1 c1))⟩⟩, imI hA fun e1 => have c1 : (arS.mx (cIS R0 (Int.toNat t15) 0) (cIS R0 (Int.toNat t15) 1)) ≥ t2 := (by have q := (cmpE (op := .lss) hA e1); subst hA; have q : (arS.mx (cIS R0 (0 + (Int.toNat t15)) 0) (cIS R0 (0 + (Int.toNat t15)) 1)) ≥ t2 := q; simpa only [rappS_end, Nat.zero_add, Int.toNat_natCast] using q); ⟨ndI hA (And.intro (by subst hA; exact ((h.1 c0).2.2.2.2 c1).1) (by subst hA; exact ((h.1 c0).2.2.2.2 c1).2.1)), ⟨ndI hA (And.intro (by subst hA; exact ((h.1 c0).2.2.2.2 c1).2.2.1) (by subst hA; exact ((h.1 c0).2.2.2.2 c1).2.2.2.1)), ⟨?_, trivial⟩⟩⟩⟩⟩⟩, imI hA fun e0 => have c0 : t15 ≥ t14 := (by have q := (cmpE (op := .lss) hA e0); subst hA; exact q); (by rw [W.rr]; exact (by subst hA; exact (h.2 c0)))⟩
    · refine W.callD (by rfl) ((h.1 c0).2.2.2.2 c1).2.2.2.2 (by subst hA; rfl) (by subst hA; rfl) ?_
      rintro x rs vs hp2 hq2
      rcases hq2 with ⟨rfl, y2_0, rfl, rfl, k2⟩
      · cbv
        refine ?_
        · refine W.draw 80 (by rfl) ?_
          cbv
          refine ⟨ndI hA (And.intro rfl (And.intro rfl rfl)), ⟨ndI hA (by subst hA; exact hp.1), (by subst hA; exact k2)⟩⟩

end
set_option maxHeartbeats 0 in
/-- To enter. -/
theorem E19 {Q : Nat → Rs → List Lf → Prop} {a0_0 : Int} {a0_1 : Int} {a0_2 : Int} {a0_3 : Int} {a0_4 : List (List AV)} {a0_5 : Int} {a0_6 : List (List AV)} {a0_7 : List (List AV)} {a0_8 : List (List AV)} {a0_9 : List (List AV)} {a1 : Int} {a2 : Int} (h : ∀ EV : Nat → Rs → List Lf → Prop, V19 EV Q →
    EC Try.prog G17 [] [(Lf.i a0_0), (Lf.i a0_1), (Lf.i a0_2), (Lf.i a0_3), (Lf.r a0_4), (Lf.i a0_5), (Lf.r a0_6), (Lf.r a0_7), (Lf.r a0_8), (Lf.r a0_9), (Lf.i a1)] (fun x rs vs => (x = 0 ∧ ∃ (Y0_0 : List (List AV)), rs = [Y0_0] ∧ vs = [] ∧
      (EV 9 [Y0_0] [(Lf.i a1), (Lf.i a2), (Lf.i (0 : Int)), (Lf.i (0 : Int)), (Lf.i (((List.length Y0_0) : Nat) : Int)), (Lf.i (0 : Int)), (Lf.i a0_0), (Lf.i a0_1), (Lf.i a0_2), (Lf.i a0_3), (Lf.r a0_4), (Lf.i a0_5), (Lf.r a0_6), (Lf.r a0_7), (Lf.r a0_8), (Lf.r a0_9)])))) :
    EC Try.prog G19 [] [.i a0_0, .i a0_1, .i a0_2, .i a0_3, .r a0_4, .i a0_5, .r a0_6, .r a0_7, .r a0_8, .r a0_9, .i a1, .i a2] Q := by
  obtain ⟨A, hA⟩ : ∃ A, A = arS := ⟨_, rfl⟩
  refine Inst.enter (I := I19) hA mixed F19_at sg L19 80 rfl fun CE CK Dn EV RR W hp => ?_
  have h := h  EV (V19.of W)
  cbv
  refine ?_
  · refine W.call 80 (by rfl) h (by subst hA; rfl) (by subst hA; rfl) ?_
    rintro x rs vs hp0 hq0
    rcases hq0 with ⟨rfl, Y0_0, rfl, rfl, k0⟩
    · cbv
      refine ⟨ndI hA rfl, ⟨ndI hA (And.intro rfl (And.intro rfl rfl)), ⟨ndI hA (by subst hA; exact hp0.1), (by subst hA; exact k0)⟩⟩⟩

-- 14: signalbox/signalboxlaw24.fixed
section
structure V14 (EV Q : Nat → Rs → List Lf → Prop) : Prop where
  none : True

end
set_option maxHeartbeats 0 in
/-- To enter. -/
theorem E14 {Q : Nat → Rs → List Lf → Prop}  (h : ∀ EV : Nat → Rs → List Lf → Prop, V14 EV Q →
    EC Try.prog G34 [] [] (fun x rs vs => (x = 0 ∧ ∃ (y0_0_0 : Int) (y0_0_1 : Int) (y0_0_2 : Int) (y0_0_3 : Int) (y0_0_4 : Int) (y0_0_5 : List (List AV)) (y0_0_6 : List (List AV)), rs = [] ∧ vs = [.i y0_0_0, .i y0_0_1, .i y0_0_2, .i y0_0_3, .i y0_0_4, .r y0_0_5, .r y0_0_6] ∧
      (EC Try.prog G17 [] [(Lf.i y0_0_0), (Lf.i y0_0_1), (Lf.i y0_0_2), (Lf.i y0_0_3), (Lf.r []), (Lf.i y0_0_4), (Lf.r []), (Lf.r y0_0_5), (Lf.r y0_0_6), (Lf.r []), (Lf.i (0 : Int))] (fun x rs vs => (x = 0 ∧ ∃ (Y1_0 : List (List AV)), rs = [Y1_0] ∧ vs = [] ∧
          (EC Try.prog G34 [] [] (fun x rs vs => (x = 0 ∧ ∃ (y2_0_0 : Int) (y2_0_1 : Int) (y2_0_2 : Int) (y2_0_3 : Int) (y2_0_4 : Int) (y2_0_5 : List (List AV)) (y2_0_6 : List (List AV)), rs = [] ∧ vs = [.i y2_0_0, .i y2_0_1, .i y2_0_2, .i y2_0_3, .i y2_0_4, .r y2_0_5, .r y2_0_6] ∧
              (EC Try.prog G18 [] [(Lf.i y2_0_0), (Lf.i y2_0_1), (Lf.i y2_0_2), (Lf.i y2_0_3), (Lf.r []), (Lf.i y2_0_4), (Lf.r []), (Lf.r y2_0_5), (Lf.r y2_0_6), (Lf.r []), (Lf.i (0 : Int))] (fun x rs vs => (x = 0 ∧ ∃ (Y3_0 : List (List AV)) (y3_0 : Nat), rs = [Y3_0] ∧ vs = [.n y3_0] ∧
                  (((((List.length Y1_0) : Nat) : Int) = (6 : Int) →
                      ((0 : Int) ≤ (1 : Int)) ∧
                      ((1 : Int) < (((List.length Y1_0) : Nat) : Int)) ∧
                      (Y1_0[(Int.toNat (1 : Int))]? = some [(AV.int .i64 (cIS Y1_0 (Int.toNat (1 : Int)) 0)), (AV.int .i64 (cIS Y1_0 (Int.toNat (1 : Int)) 1))]) ∧
                      ((((cIS Y1_0 (Int.toNat (1 : Int)) 0) == (2 : Int)) && (((cIS Y1_0 (Int.toNat (1 : Int)) 1) == (64 : Int)) && true)) = true →
                        EC Try.prog G34 [] [] (fun x rs vs => (x = 0 ∧ ∃ (y6_0_0 : Int) (y6_0_1 : Int) (y6_0_2 : Int) (y6_0_3 : Int) (y6_0_4 : Int) (y6_0_5 : List (List AV)) (y6_0_6 : List (List AV)), rs = [] ∧ vs = [.i y6_0_0, .i y6_0_1, .i y6_0_2, .i y6_0_3, .i y6_0_4, .r y6_0_5, .r y6_0_6] ∧
                          (EC Try.prog G19 [] [(Lf.i y6_0_0), (Lf.i y6_0_1), (Lf.i y6_0_2), (Lf.i y6_0_3), (Lf.r []), (Lf.i y6_0_4), (Lf.r []), (Lf.r y6_0_5), (Lf.r y6_0_6), (Lf.r []), (Lf.i (0 : Int)), (Lf.i (64 : Int))] (fun x rs vs => (x = 0 ∧ ∃ (y7_0 : Int), rs = [] ∧ vs = [.i y7_0] ∧
                              ((y7_0 = (4 : Int) →
                                  EC Try.prog G34 [] [] (fun x rs vs => (x = 0 ∧ ∃ (y9_0_0 : Int) (y9_0_1 : Int) (y9_0_2 : Int) (y9_0_3 : Int) (y9_0_4 : Int) (y9_0_5 : List (List AV)) (y9_0_6 : List (List AV)), rs = [] ∧ vs = [.i y9_0_0, .i y9_0_1, .i y9_0_2, .i y9_0_3, .i y9_0_4, .r y9_0_5, .r y9_0_6] ∧
                                    (EC Try.prog G19 [] [(Lf.i y9_0_0), (Lf.i y9_0_1), (Lf.i y9_0_2), (Lf.i y9_0_3), (Lf.r []), (Lf.i y9_0_4), (Lf.r []), (Lf.r y9_0_5), (Lf.r y9_0_6), (Lf.r []), (Lf.i (0 : Int)), (Lf.i (7 : Int))] (fun x rs vs => (x = 0 ∧ ∃ (y10_0 : Int), rs = [] ∧ vs = [.i y10_0] ∧
                                        ((y10_0 = (6 : Int) →
                                            EC Try.prog G34 [] [] (fun x rs vs => (x = 0 ∧ ∃ (y12_0_0 : Int) (y12_0_1 : Int) (y12_0_2 : Int) (y12_0_3 : Int) (y12_0_4 : Int) (y12_0_5 : List (List AV)) (y12_0_6 : List (List AV)), rs = [] ∧ vs = [.i y12_0_0, .i y12_0_1, .i y12_0_2, .i y12_0_3, .i y12_0_4, .r y12_0_5, .r y12_0_6] ∧
                                              (EC Try.prog G19 [] [(Lf.i y12_0_0), (Lf.i y12_0_1), (Lf.i y12_0_2), (Lf.i y12_0_3), (Lf.r []), (Lf.i y12_0_4), (Lf.r []), (Lf.r y12_0_5), (Lf.r y12_0_6), (Lf.r []), (Lf.i (0 : Int)), (Lf.i (2 : Int))] (fun x rs vs => (x = 0 ∧ ∃ (y13_0 : Int), rs = [] ∧ vs = [.i y13_0] ∧
                                                  ((y13_0 = (11 : Int) →
                                                      (((y3_0 : Nat) : Int) = (2 : Int) →
                                                        ((0 : Int) < ((y3_0 : Nat) : Int)) ∧
                                                        (Y3_0[(Int.toNat (0 : Int))]? = some [(AV.int .i64 (cIS Y3_0 (Int.toNat (0 : Int)) 0))]) ∧
                                                        ((cIS Y3_0 (Int.toNat (0 : Int)) 0) = (7 : Int) →
                                                          ((0 : Int) ≤ (1 : Int)) ∧
                                                          ((1 : Int) < ((y3_0 : Nat) : Int)) ∧
                                                          (Y3_0[(Int.toNat (1 : Int))]? = some [(AV.int .i64 (cIS Y3_0 (Int.toNat (1 : Int)) 0))]) ∧
                                                          (Q 0 [] [(Lf.b ((cIS Y3_0 (Int.toNat (1 : Int)) 0) == (64 : Int)))])) ∧
                                                        ((cIS Y3_0 (Int.toNat (0 : Int)) 0) ≠ (7 : Int) →
                                                          Q 0 [] [(Lf.b false)])) ∧
                                                      (((y3_0 : Nat) : Int) ≠ (2 : Int) →
                                                        Q 0 [] [(Lf.b false)])) ∧
                                                    (y13_0 ≠ (11 : Int) →
                                                      Q 0 [] [(Lf.b false)])))))))) ∧
                                          (y10_0 ≠ (6 : Int) →
                                            Q 0 [] [(Lf.b false)])))))))) ∧
                                (y7_0 ≠ (4 : Int) →
                                  Q 0 [] [(Lf.b false)])))))))) ∧
                      ((((cIS Y1_0 (Int.toNat (1 : Int)) 0) == (2 : Int)) && (((cIS Y1_0 (Int.toNat (1 : Int)) 1) == (64 : Int)) && true)) = false →
                        Q 0 [] [(Lf.b false)])) ∧
                    ((((List.length Y1_0) : Nat) : Int) ≠ (6 : Int) →
                      Q 0 [] [(Lf.b false)])))))))))))))) :
    EC Try.prog G14 [] [] Q := by
  obtain ⟨A, hA⟩ : ∃ A, A = arS := ⟨_, rfl⟩
  refine Inst.enter (I := I14) hA mixed F14_at sg L14 80 rfl fun CE CK Dn EV RR W hp => ?_
  have h := h  EV ⟨trivial⟩
  cbv
  refine ?_
  · refine W.call 80 (by rfl) h (by subst hA; rfl) (by subst hA; rfl) ?_
    rintro x rs vs hp0 hq0
    rcases hq0 with ⟨rfl, y0_0_0, y0_0_1, y0_0_2, y0_0_3, y0_0_4, y0_0_5, y0_0_6, rfl, rfl, k0⟩
    · cbv
      refine ?_
      · refine W.call 80 (by rfl) k0 (by subst hA; rfl) (by subst hA; rfl) ?_
        rintro x rs vs hp1 hq1
        rcases hq1 with ⟨rfl, Y1_0, rfl, rfl, k1⟩
        · cbv
          refine ?_
          · refine W.call 80 (by rfl) k1 (by subst hA; rfl) (by subst hA; rfl) ?_
            rintro x rs vs hp2 hq2
            rcases hq2 with ⟨rfl, y2_0_0, y2_0_1, y2_0_2, y2_0_3, y2_0_4, y2_0_5, y2_0_6, rfl, rfl, k2⟩
            · cbv
              refine ?_
              · refine W.call 80 (by rfl) k2 (by subst hA; rfl) (by subst hA; rfl) ?_
                rintro x rs vs hp3 hq3
                rcases hq3 with ⟨rfl, Y3_0, y3_0, rfl, rfl, k3⟩
                · cbv
                  refine ⟨ndI hA rfl, ⟨imI hA fun e4 => have c4 : (((List.length Y1_0) : Nat) : Int) = (6 : Int) := (by have q := (cmpE (op := .eql) hA e4); subst hA; exact q); ⟨ndI hA (And.intro (by subst hA; exact (k3.1 c4).1) (And.intro (by subst hA; exact (k3.1 c4).2.1) rfl)), ⟨ndI hA (And.intro rfl (by subst hA; show Y1_0[(0 + (Int.toNat (1 : Int)))]? = some [(AV.int .i64 (cIS Y1_0 (0 + (Int.toNat (1 : Int))) 0)), (AV.int .i64 (cIS Y1_0 (0 + (Int.toNat (1 : Int))) 1))]; simp only [rappS_end, Nat.zero_add, Int.toNat_natCast]; exact (k3.1 c4).2.2.1)), ⟨imI hA fun e5 => have c5 : (((cIS Y1_0 (Int.toNat (1 : Int)) 0) == (2 : Int)) && (((cIS Y1_0 (Int.toNat (1 : Int)) 1) == (64 : Int)) && true)) = true := (by have q := e5; subst hA; have q : (((cIS Y1_0 (0 + (Int.toNat (1 : Int))) 0) == (2 : Int)) && (((cIS Y1_0 (0 + (Int.toNat (1 : Int))) 1) == (64 : Int)) && true)) = true := q; simpa only [rappS_end, Nat.zero_add, Int.toNat_natCast] using q); ?_, imI hA fun e5 => have c5 : (((cIS Y1_0 (Int.toNat (1 : Int)) 0) == (2 : Int)) && (((cIS Y1_0 (Int.toNat (1 : Int)) 1) == (64 : Int)) && true)) = false := (by have q := e5; subst hA; have q : (((cIS Y1_0 (0 + (Int.toNat (1 : Int))) 0) == (2 : Int)) && (((cIS Y1_0 (0 + (Int.toNat (1 : Int))) 1) == (64 : Int)) && true)) = false := q; simpa only [rappS_end, Nat.zero_add, Int.toNat_natCast] using q); (by rw [W.rr]; exact (by subst hA; exact ((k3.1 c4).2.2.2.2 c5)))⟩⟩⟩, imI hA fun e4 => have c4 : (((List.length Y1_0) : Nat) : Int) ≠ (6 : Int) := (by have q := (cmpE (op := .eql) hA e4); subst hA; exact q); (by rw [W.rr]; exact (by subst hA; exact (k3.2 c4)))⟩⟩
                  · refine W.call 80 (by rfl) ((k3.1 c4).2.2.2.1 c5) (by subst hA; rfl) (by subst hA; rfl) ?_
                    rintro x rs vs hp6 hq6
                    rcases hq6 with ⟨rfl, y6_0_0, y6_0_1, y6_0_2, y6_0_3, y6_0_4, y6_0_5, y6_0_6, rfl, rfl, k6⟩
                    · cbv
                      refine ?_
                      · refine W.call 80 (by rfl) k6 (by subst hA; rfl) (by subst hA; rfl) ?_
                        rintro x rs vs hp7 hq7
                        rcases hq7 with ⟨rfl, y7_0, rfl, rfl, k7⟩
                        · cbv
                          refine ⟨imI hA fun e8 => have c8 : y7_0 = (4 : Int) := (by have q := (cmpE (op := .eql) hA e8); subst hA; exact q); ?_, imI hA fun e8 => have c8 : y7_0 ≠ (4 : Int) := (by have q := (cmpE (op := .eql) hA e8); subst hA; exact q); (by rw [W.rr]; exact (by subst hA; exact (k7.2 c8)))⟩
                          · refine W.call 80 (by rfl) (k7.1 c8) (by subst hA; rfl) (by subst hA; rfl) ?_
                            rintro x rs vs hp9 hq9
                            rcases hq9 with ⟨rfl, y9_0_0, y9_0_1, y9_0_2, y9_0_3, y9_0_4, y9_0_5, y9_0_6, rfl, rfl, k9⟩
                            · cbv
                              refine ?_
                              · refine W.call 80 (by rfl) k9 (by subst hA; rfl) (by subst hA; rfl) ?_
                                rintro x rs vs hp10 hq10
                                rcases hq10 with ⟨rfl, y10_0, rfl, rfl, k10⟩
                                · cbv
                                  refine ⟨imI hA fun e11 => have c11 : y10_0 = (6 : Int) := (by have q := (cmpE (op := .eql) hA e11); subst hA; exact q); ?_, imI hA fun e11 => have c11 : y10_0 ≠ (6 : Int) := (by have q := (cmpE (op := .eql) hA e11); subst hA; exact q); (by rw [W.rr]; exact (by subst hA; exact (k10.2 c11)))⟩
                                  · refine W.call 80 (by rfl) (k10.1 c11) (by subst hA; rfl) (by subst hA; rfl) ?_
                                    rintro x rs vs hp12 hq12
                                    rcases hq12 with ⟨rfl, y12_0_0, y12_0_1, y12_0_2, y12_0_3, y12_0_4, y12_0_5, y12_0_6, rfl, rfl, k12⟩
                                    · cbv
                                      refine ?_
                                      · refine W.call 80 (by rfl) k12 (by subst hA; rfl) (by subst hA; rfl) ?_
                                        rintro x rs vs hp13 hq13
                                        rcases hq13 with ⟨rfl, y13_0, rfl, rfl, k13⟩
                                        · cbv
                                          refine ⟨imI hA fun e14 => have c14 : y13_0 = (11 : Int) := (by have q := (cmpE (op := .eql) hA e14); subst hA; exact q); ⟨ndI hA rfl, ⟨imI hA fun e15 => have c15 : ((y3_0 : Nat) : Int) = (2 : Int) := (by have q := (cmpE (op := .eql) hA e15); subst hA; exact q); ⟨ndI hA (And.intro (by subst hA; exact Int.le_refl _) (And.intro (by subst hA; exact ((k13.1 c14).1 c15).1) rfl)), ⟨ndI hA (And.intro rfl (by subst hA; show Y3_0[(0 + (Int.toNat (0 : Int)))]? = some [(AV.int .i64 (cIS Y3_0 (0 + (Int.toNat (0 : Int))) 0))]; simp only [rappS_end, Nat.zero_add, Int.toNat_natCast]; exact ((k13.1 c14).1 c15).2.1)), ⟨imI hA fun e16 => have c16 : (cIS Y3_0 (Int.toNat (0 : Int)) 0) = (7 : Int) := (by have q := (cmpE (op := .eql) hA e16); subst hA; have q : (cIS Y3_0 (0 + (Int.toNat (0 : Int))) 0) = (7 : Int) := q; simpa only [rappS_end, Nat.zero_add, Int.toNat_natCast] using q); ⟨ndI hA (And.intro (by subst hA; exact (((k13.1 c14).1 c15).2.2.1 c16).1) (And.intro (by subst hA; exact (((k13.1 c14).1 c15).2.2.1 c16).2.1) rfl)), ⟨ndI hA (And.intro rfl (by subst hA; show Y3_0[(0 + (Int.toNat (1 : Int)))]? = some [(AV.int .i64 (cIS Y3_0 (0 + (Int.toNat (1 : Int))) 0))]; simp only [rappS_end, Nat.zero_add, Int.toNat_natCast]; exact (((k13.1 c14).1 c15).2.2.1 c16).2.2.1)), (by rw [W.rr]; exact (by subst hA; show Q 0 [] [(Lf.b ((cIS Y3_0 (0 + (Int.toNat (1 : Int))) 0) == (64 : Int)))]; simp only [rappS_end, Nat.zero_add, Int.toNat_natCast]; exact (((k13.1 c14).1 c15).2.2.1 c16).2.2.2))⟩⟩, imI hA fun e16 => have c16 : (cIS Y3_0 (Int.toNat (0 : Int)) 0) ≠ (7 : Int) := (by have q := (cmpE (op := .eql) hA e16); subst hA; have q : (cIS Y3_0 (0 + (Int.toNat (0 : Int))) 0) ≠ (7 : Int) := q; simpa only [rappS_end, Nat.zero_add, Int.toNat_natCast] using q); (by rw [W.rr]; exact (by subst hA; exact (((k13.1 c14).1 c15).2.2.2 c16)))⟩⟩⟩, imI hA fun e15 => have c15 : ((y3_0 : Nat) : Int) ≠ (2 : Int) := (by have q := (cmpE (op := .eql) hA e15); subst hA; exact q); (by rw [W.rr]; exact (by subst hA; exact ((k13.1 c14).2 c15)))⟩⟩, imI hA fun e14 => have c14 : y13_0 ≠ (11 : Int) := (by have q := (cmpE (op := .eql) hA e14); subst hA; exact q); (by rw [W.rr]; exact (by subst hA; exact (k13.2 c14)))⟩

-- 7: signalbox/signalboxref07.Few
section
structure V7 (EV Q : Nat → Rs → List Lf → Prop) : Prop where
  p7 : ∀ {t6 : List (List AV)} {t7 : Int} {t8 : Int} {tb0_0 : Int} {tb0_1 : Int} {tb0_2 : Int} {tb0_3 : Int} {tb0_4 : List (List AV)} {tb0_5 : Int} {tb0_6 : List (List AV)} {tb0_7 : List (List AV)} {tb0_8 : List (List AV)} {tb0_9 : List (List AV)}, (
    (t8 < t7 →
      ((0 : Int) ≤ t8) ∧
      (t6[(Int.toNat t8)]? = some [(AV.int .i64 (cIS t6 (Int.toNat t8) 0)), (AV.int .i64 (cIS t6 (Int.toNat t8) 1)), (AV.int .i64 (cIS t6 (Int.toNat t8) 2)), (AV.int .i64 (cIS t6 (Int.toNat t8) 3)), (AV.int .i64 (cIS t6 (Int.toNat t8) 4)), (AV.int .i64 (cIS t6 (Int.toNat t8) 5)), (AV.inl 3 (cRS t6 (Int.toNat t8) 6))]) ∧
      ((((List.length (cRS t6 (Int.toNat t8) 6)) : Nat) : Int) > (80 : Int) →
        Q 0 [] [(Lf.b false)]) ∧
      ((((List.length (cRS t6 (Int.toNat t8) 6)) : Nat) : Int) ≤ (80 : Int) →
        EV 7 [] [(Lf.r t6), (Lf.i t7), (Lf.i (IntKind.wrap .i64 (t8 + (1 : Int)))), (Lf.i tb0_0), (Lf.i tb0_1), (Lf.i tb0_2), (Lf.i tb0_3), (Lf.r tb0_4), (Lf.i tb0_5), (Lf.r tb0_6), (Lf.r tb0_7), (Lf.r tb0_8), (Lf.r tb0_9)])) ∧
    (t8 ≥ t7 →
      ((((List.length tb0_4) : Nat) : Int) ≤ (20 : Int) →
        ((((List.length tb0_6) : Nat) : Int) ≤ (20 : Int) →
          ((((List.length tb0_7) : Nat) : Int) ≤ (20 : Int) →
            ((((List.length tb0_8) : Nat) : Int) ≤ (20 : Int) →
              Q 0 [] [(Lf.b (decide ((((List.length tb0_9) : Nat) : Int) ≤ (20 : Int))))]) ∧
            ((((List.length tb0_8) : Nat) : Int) > (20 : Int) →
              Q 0 [] [(Lf.b false)])) ∧
          ((((List.length tb0_7) : Nat) : Int) > (20 : Int) →
            Q 0 [] [(Lf.b false)])) ∧
        ((((List.length tb0_6) : Nat) : Int) > (20 : Int) →
          Q 0 [] [(Lf.b false)])) ∧
      ((((List.length tb0_4) : Nat) : Int) > (20 : Int) →
        Q 0 [] [(Lf.b false)]))) →
    EV 7 [] [.r t6, .i t7, .i t8, .i tb0_0, .i tb0_1, .i tb0_2, .i tb0_3, .r tb0_4, .i tb0_5, .r tb0_6, .r tb0_7, .r tb0_8, .r tb0_9]

set_option maxHeartbeats 0 in
theorem V7.of {Q : Nat → Rs → List Lf → Prop} {A : Ar} {CE : Nat → Rs → List Lf → (Nat → Rs → List Lf → Prop) → Prop} {CK : Nat → Rs → List Lf → Cont → Prop} {Dn : Nat → List Bool → List AItem → Nat → List Bool → List AV → List ABlk → Prop} {EV RR : Nat → Rs → List Lf → Prop} (W : Wk Try.prog Try.f7 I7 L7 Q A sg CE CK Dn EV RR) : V7 EV Q := by
  have hA := W.hA
  refine ⟨?_⟩
  · intro t6 t7 t8 tb0_0 tb0_1 tb0_2 tb0_3 tb0_4 tb0_5 tb0_6 tb0_7 tb0_8 tb0_9 h
    refine W.step 80 fun hp => ?_
    cbv
    refine ⟨imI hA fun e0 => have c0 : t8 < t7 := (by have q := (cmpE (op := .lss) hA e0); subst hA; exact q); ⟨ndI hA (And.intro (by subst hA; exact (h.1 c0).1) (by subst hA; exact (h.1 c0).2.1)), ⟨imI hA fun e1 => have c1 : (((List.length (cRS t6 (Int.toNat t8) 6)) : Nat) : Int) > (80 : Int) := (by have q := (cmpE (op := .gtr) hA e1); subst hA; exact q); (by rw [W.rr]; exact (by subst hA; exact ((h.1 c0).2.2.1 c1))), imI hA fun e1 => have c1 : (((List.length (cRS t6 (Int.toNat t8) 6)) : Nat) : Int) ≤ (80 : Int) := (by have q := (cmpE (op := .gtr) hA e1); subst hA; exact q); (by subst hA; exact ((h.1 c0).2.2.2 c1))⟩⟩, imI hA fun e0 => have c0 : t8 ≥ t7 := (by have q := (cmpE (op := .lss) hA e0); subst hA; exact q); ⟨imI hA fun e1 => have c1 : (((List.length tb0_4) : Nat) : Int) ≤ (20 : Int) := (by have q := (cmpE (op := .leq) hA e1); subst hA; exact q); ⟨imI hA fun e2 => have c2 : (((List.length tb0_6) : Nat) : Int) ≤ (20 : Int) := (by have q := (cmpE (op := .leq) hA e2); subst hA; exact q); ⟨imI hA fun e3 => have c3 : (((List.length tb0_7) : Nat) : Int) ≤ (20 : Int) := (by have q := (cmpE (op := .leq) hA e3); subst hA; exact q); ⟨imI hA fun e4 => have c4 : (((List.length tb0_8) : Nat) : Int) ≤ (20 : Int) := (by have q := (cmpE (op := .leq) hA e4); subst hA; exact q); (by rw [W.rr]; exact (by subst hA; exact (((((h.2 c0).1 c1).1 c2).1 c3).1 c4))), imI hA fun e4 => have c4 : (((List.length tb0_8) : Nat) : Int) > (20 : Int) := (by have q := (cmpE (op := .leq) hA e4); subst hA; exact q); (by rw [W.rr]; exact (by subst hA; exact (((((h.2 c0).1 c1).1 c2).1 c3).2 c4)))⟩, imI hA fun e3 => have c3 : (((List.length tb0_7) : Nat) : Int) > (20 : Int) := (by have q := (cmpE (op := .leq) hA e3); subst hA; exact q); (by rw [W.rr]; exact (by subst hA; exact ((((h.2 c0).1 c1).1 c2).2 c3)))⟩, imI hA fun e2 => have c2 : (((List.length tb0_6) : Nat) : Int) > (20 : Int) := (by have q := (cmpE (op := .leq) hA e2); subst hA; exact q); (by rw [W.rr]; exact (by subst hA; exact (((h.2 c0).1 c1).2 c2)))⟩, imI hA fun e1 => have c1 : (((List.length tb0_4) : Nat) : Int) > (20 : Int) := (by have q := (cmpE (op := .leq) hA e1); subst hA; exact q); (by rw [W.rr]; exact (by subst hA; exact ((h.2 c0).2 c1)))⟩⟩

end
set_option maxHeartbeats 0 in
/-- To enter. -/
theorem E7 {Q : Nat → Rs → List Lf → Prop} {a0_0 : Int} {a0_1 : Int} {a0_2 : Int} {a0_3 : Int} {a0_4 : List (List AV)} {a0_5 : Int} {a0_6 : List (List AV)} {a0_7 : List (List AV)} {a0_8 : List (List AV)} {a0_9 : List (List AV)} (h : ∀ EV : Nat → Rs → List Lf → Prop, V7 EV Q →
    EV 7 [] [(Lf.r a0_8), (Lf.i (((List.length a0_8) : Nat) : Int)), (Lf.i (0 : Int)), (Lf.i a0_0), (Lf.i a0_1), (Lf.i a0_2), (Lf.i a0_3), (Lf.r a0_4), (Lf.i a0_5), (Lf.r a0_6), (Lf.r a0_7), (Lf.r a0_8), (Lf.r a0_9)]) :
    EC Try.prog G7 [] [.i a0_0, .i a0_1, .i a0_2, .i a0_3, .r a0_4, .i a0_5, .r a0_6, .r a0_7, .r a0_8, .r a0_9] Q := by
  obtain ⟨A, hA⟩ : ∃ A, A = arS := ⟨_, rfl⟩
  refine Inst.enter (I := I7) hA mixed F7_at sg L7 80 rfl fun CE CK Dn EV RR W hp => ?_
  have h := h  EV (V7.of W)
  cbv
  refine (by subst hA; exact h)

-- 15: signalbox/signalboxlaw24.few
section
structure V15 (EV Q : Nat → Rs → List Lf → Prop) : Prop where
  p7 : ∀ {t8 : List (List AV)} {t9 : Int} {t10 : Int} {tb0_0 : Int} {tb0_1 : Int} {tb0_2 : Int} {tb0_3 : Int} {tb0_4 : List (List AV)} {tb0_5 : Int} {tb0_6 : List (List AV)} {tb0_7 : List (List AV)} {tb0_8 : List (List AV)} {tb0_9 : List (List AV)}, (
    (t10 < t9 →
      ((0 : Int) ≤ t10) ∧
      (t8[(Int.toNat t10)]? = some [(AV.int .i64 (cIS t8 (Int.toNat t10) 0))]) ∧
      ((cIS t8 (Int.toNat t10) 0) ≤ (64 : Int) →
        ((cIS t8 (Int.toNat t10) 0) < (-64) →
          Q 0 [] [(Lf.b false)]) ∧
        ((cIS t8 (Int.toNat t10) 0) ≥ (-64) →
          EV 7 [] [(Lf.r t8), (Lf.i t9), (Lf.i (IntKind.wrap .i64 (t10 + (1 : Int)))), (Lf.i tb0_0), (Lf.i tb0_1), (Lf.i tb0_2), (Lf.i tb0_3), (Lf.r tb0_4), (Lf.i tb0_5), (Lf.r tb0_6), (Lf.r tb0_7), (Lf.r tb0_8), (Lf.r tb0_9)])) ∧
      ((cIS t8 (Int.toNat t10) 0) > (64 : Int) →
        Q 0 [] [(Lf.b false)])) ∧
    (t10 ≥ t9 →
      EV 30 [] [(Lf.r tb0_8), (Lf.i (((List.length tb0_8) : Nat) : Int)), (Lf.i (0 : Int)), (Lf.i tb0_0), (Lf.i tb0_1), (Lf.i tb0_2), (Lf.i tb0_3), (Lf.r tb0_4), (Lf.i tb0_5), (Lf.r tb0_6), (Lf.r tb0_7), (Lf.r tb0_8), (Lf.r tb0_9)])) →
    EV 7 [] [.r t8, .i t9, .i t10, .i tb0_0, .i tb0_1, .i tb0_2, .i tb0_3, .r tb0_4, .i tb0_5, .r tb0_6, .r tb0_7, .r tb0_8, .r tb0_9]
  p30 : ∀ {t22 : List (List AV)} {t23 : Int} {t24 : Int} {tb0_0 : Int} {tb0_1 : Int} {tb0_2 : Int} {tb0_3 : Int} {tb0_4 : List (List AV)} {tb0_5 : Int} {tb0_6 : List (List AV)} {tb0_7 : List (List AV)} {tb0_8 : List (List AV)} {tb0_9 : List (List AV)}, (
    (t24 < t23 →
      ((0 : Int) ≤ t24) ∧
      (t22[(Int.toNat t24)]? = some [(AV.int .i64 (cIS t22 (Int.toNat t24) 0)), (AV.int .i64 (cIS t22 (Int.toNat t24) 1)), (AV.int .i64 (cIS t22 (Int.toNat t24) 2)), (AV.int .i64 (cIS t22 (Int.toNat t24) 3)), (AV.int .i64 (cIS t22 (Int.toNat t24) 4)), (AV.int .i64 (cIS t22 (Int.toNat t24) 5)), (AV.inl 3 (cRS t22 (Int.toNat t24) 6))]) ∧
      ((cIS t22 (Int.toNat t24) 1) ≤ (64 : Int) →
        ((cIS t22 (Int.toNat t24) 1) ≥ (-64) →
          ((((List.length (cRS t22 (Int.toNat t24) 6)) : Nat) : Int) > (40 : Int) →
            Q 0 [] [(Lf.b false)]) ∧
          ((((List.length (cRS t22 (Int.toNat t24) 6)) : Nat) : Int) ≤ (40 : Int) →
            EV 30 [] [(Lf.r t22), (Lf.i t23), (Lf.i (IntKind.wrap .i64 (t24 + (1 : Int)))), (Lf.i tb0_0), (Lf.i tb0_1), (Lf.i tb0_2), (Lf.i tb0_3), (Lf.r tb0_4), (Lf.i tb0_5), (Lf.r tb0_6), (Lf.r tb0_7), (Lf.r tb0_8), (Lf.r tb0_9)])) ∧
        ((cIS t22 (Int.toNat t24) 1) < (-64) →
          Q 0 [] [(Lf.b false)])) ∧
      ((cIS t22 (Int.toNat t24) 1) > (64 : Int) →
        Q 0 [] [(Lf.b false)])) ∧
    (t24 ≥ t23 →
      EC Try.prog G7 [] [(Lf.i tb0_0), (Lf.i tb0_1), (Lf.i tb0_2), (Lf.i tb0_3), (Lf.r tb0_4), (Lf.i tb0_5), (Lf.r tb0_6), (Lf.r tb0_7), (Lf.r tb0_8), (Lf.r tb0_9)] (fun x rs vs => (x = 0 ∧ ∃ (y1_0 : Bool), rs = [] ∧ vs = [.b y1_0] ∧
        (Q 0 [] [(Lf.b y1_0)]))))) →
    EV 30 [] [.r t22, .i t23, .i t24, .i tb0_0, .i tb0_1, .i tb0_2, .i tb0_3, .r tb0_4, .i tb0_5, .r tb0_6, .r tb0_7, .r tb0_8, .r tb0_9]

set_option maxHeartbeats 0 in
theorem V15.of {Q : Nat → Rs → List Lf → Prop} {A : Ar} {CE : Nat → Rs → List Lf → (Nat → Rs → List Lf → Prop) → Prop} {CK : Nat → Rs → List Lf → Cont → Prop} {Dn : Nat → List Bool → List AItem → Nat → List Bool → List AV → List ABlk → Prop} {EV RR : Nat → Rs → List Lf → Prop} (W : Wk Try.prog Try.f15 I15 L15 Q A sg CE CK Dn EV RR) : V15 EV Q := by
  have hA := W.hA
  refine ⟨?_, ?_⟩
  · intro t8 t9 t10 tb0_0 tb0_1 tb0_2 tb0_3 tb0_4 tb0_5 tb0_6 tb0_7 tb0_8 tb0_9 h
    refine W.step 80 fun hp => ?_
    cbv
    refine ⟨imI hA fun e0 => have c0 : t10 < t9 := (by have q := (cmpE (op := .lss) hA e0); subst hA; exact q); ⟨ndI hA (And.intro (by subst hA; exact (h.1 c0).1) (by subst hA; exact (h.1 c0).2.1)), ⟨imI hA fun e1 => have c1 : (cIS t8 (Int.toNat t10) 0) ≤ (64 : Int) := (by have q := (cmpE (op := .gtr) hA e1); subst hA; exact q); ⟨imI hA fun e2 => have c2 : (cIS t8 (Int.toNat t10) 0) < (-64) := (by have q := (cmpE (op := .lss) hA e2); subst hA; exact q); (by rw [W.rr]; exact (by subst hA; exact (((h.1 c0).2.2.1 c1).1 c2))), imI hA fun e2 => have c2 : (cIS t8 (Int.toNat t10) 0) ≥ (-64) := (by have q := (cmpE (op := .lss) hA e2); subst hA; exact q); (by subst hA; exact (((h.1 c0).2.2.1 c1).2 c2))⟩, imI hA fun e1 => have c1 : (cIS t8 (Int.toNat t10) 0) > (64 : Int) := (by have q := (cmpE (op := .gtr) hA e1); subst hA; exact q); (by rw [W.rr]; exact (by subst hA; exact ((h.1 c0).2.2.2 c1)))⟩⟩, imI hA fun e0 => have c0 : t10 ≥ t9 := (by have q := (cmpE (op := .lss) hA e0); subst hA; exact q); (by subst hA; exact (h.2 c0))⟩
  · intro t22 t23 t24 tb0_0 tb0_1 tb0_2 tb0_3 tb0_4 tb0_5 tb0_6 tb0_7 tb0_8 tb0_9 h
    refine W.step 80 fun hp => ?_
    cbv
    refine ⟨imI hA fun e0 => have c0 : t24 < t23 := (by have q := (cmpE (op := .lss) hA e0); subst hA; exact q); ⟨ndI hA (And.intro (by subst hA; exact (h.1 c0).1) (by subst hA; exact (h.1 c0).2.1)), ⟨imI hA fun e1 => have c1 : (cIS t22 (Int.toNat t24) 1) ≤ (64 : Int) := (by have q := (cmpE (op := .gtr) hA e1); subst hA; exact q); ⟨imI hA fun e2 => have c2 : (cIS t22 (Int.toNat t24) 1) ≥ (-64) := (by have q := (cmpE (op := .lss) hA e2); subst hA; exact q); ⟨imI hA fun e3 => have c3 : (((List.length (cRS t22 (Int.toNat t24) 6)) : Nat) : Int) > (40 : Int) := (by have q := (cmpE (op := .gtr) hA e3); subst hA; exact q); (by rw [W.rr]; exact (by subst hA; exact ((((h.1 c0).2.2.1 c1).1 c2).1 c3))), imI hA fun e3 => have c3 : (((List.length (cRS t22 (Int.toNat t24) 6)) : Nat) : Int) ≤ (40 : Int) := (by have q := (cmpE (op := .gtr) hA e3); subst hA; exact q); (by subst hA; exact ((((h.1 c0).2.2.1 c1).1 c2).2 c3))⟩, imI hA fun e2 => have c2 : (cIS t22 (Int.toNat t24) 1) < (-64) := (by have q := (cmpE (op := .lss) hA e2); subst hA; exact q); (by rw [W.rr]; exact (by subst hA; exact (((h.1 c0).2.2.1 c1).2 c2)))⟩, imI hA fun e1 => have c1 : (cIS t22 (Int.toNat t24) 1) > (64 : Int) := (by have q := (cmpE (op := .gtr) hA e1); subst hA; exact q); (by rw [W.rr]; exact (by subst hA; exact ((h.1 c0).2.2.2 c1)))⟩⟩, imI hA fun e0 => have c0 : t24 ≥ t23 := (by have q := (cmpE (op := .lss) hA e0); subst hA; exact q); ?_⟩
    · refine W.call 80 (by rfl) (h.2 c0) (by subst hA; rfl) (by subst hA; rfl) ?_
      rintro x rs vs hp1 hq1
      rcases hq1 with ⟨rfl, y1_0, rfl, rfl, k1⟩
      · cbv
        refine (by rw [W.rr]; exact (by subst hA; exact k1))

end
set_option maxHeartbeats 0 in
/-- To enter. -/
theorem E15 {Q : Nat → Rs → List Lf → Prop} {a0_0 : Int} {a0_1 : Int} {a0_2 : Int} {a0_3 : Int} {a0_4 : List (List AV)} {a0_5 : Int} {a0_6 : List (List AV)} {a0_7 : List (List AV)} {a0_8 : List (List AV)} {a0_9 : List (List AV)} (h : ∀ EV : Nat → Rs → List Lf → Prop, V15 EV Q →
    EV 7 [] [(Lf.r a0_7), (Lf.i (((List.length a0_7) : Nat) : Int)), (Lf.i (0 : Int)), (Lf.i a0_0), (Lf.i a0_1), (Lf.i a0_2), (Lf.i a0_3), (Lf.r a0_4), (Lf.i a0_5), (Lf.r a0_6), (Lf.r a0_7), (Lf.r a0_8), (Lf.r a0_9)]) :
    EC Try.prog G15 [] [.i a0_0, .i a0_1, .i a0_2, .i a0_3, .r a0_4, .i a0_5, .r a0_6, .r a0_7, .r a0_8, .r a0_9] Q := by
  obtain ⟨A, hA⟩ : ∃ A, A = arS := ⟨_, rfl⟩
  refine Inst.enter (I := I15) hA mixed F15_at sg L15 80 rfl fun CE CK Dn EV RR W hp => ?_
  have h := h  EV (V15.of W)
  cbv
  refine (by subst hA; exact h)

-- 16: signalbox/signalboxlaw24.nested
section
structure V16 (EV Q : Nat → Rs → List Lf → Prop) : Prop where
  p7 : ∀ {t9 : List (List AV)} {t10 : Int} {t11 : Int}, (
    (t11 < t10 →
      ((0 : Int) ≤ t11) ∧
      (t9[(Int.toNat t11)]? = some [(AV.int .i64 (cIS t9 (Int.toNat t11) 0)), (AV.int .i64 (cIS t9 (Int.toNat t11) 1)), (AV.int .i64 (cIS t9 (Int.toNat t11) 2)), (AV.int .i64 (cIS t9 (Int.toNat t11) 3)), (AV.int .i64 (cIS t9 (Int.toNat t11) 4)), (AV.int .i64 (cIS t9 (Int.toNat t11) 5)), (AV.inl 3 (cRS t9 (Int.toNat t11) 6))]) ∧
      (EV 23 [[]] [(Lf.r t9), (Lf.i t10), (Lf.i t11), (Lf.r (cRS t9 (Int.toNat t11) 6)), (Lf.i (((List.length (cRS t9 (Int.toNat t11) 6)) : Nat) : Int)), (Lf.i (0 : Int))])) ∧
    (t11 ≥ t10 →
      Q 0 [] [(Lf.b true)])) →
    EV 7 [] [.r t9, .i t10, .i t11]
  p23 : ∀ {R0 : List (List AV)} {t9 : List (List AV)} {t10 : Int} {t11 : Int} {t17 : List (List AV)} {t18 : Int} {t19 : Int}, (pursS R0 = true → 
    (t19 < t18 →
      ((0 : Int) ≤ t19) ∧
      (t17[(Int.toNat t19)]? = some [(AV.int .i64 (cIS t17 (Int.toNat t19) 0)), (AV.int .i64 (cIS t17 (Int.toNat t19) 1)), (AV.int .i64 (cIS t17 (Int.toNat t19) 2))]) ∧
      ((cIS t17 (Int.toNat t19) 0) = (5 : Int) →
        (mgetS .i64 (cIS t17 (Int.toNat t19) 1) (AV.bool false) R0 = some (AV.bool (mBS R0 .i64 (cIS t17 (Int.toNat t19) 1)))) ∧
        ((mBS R0 .i64 (cIS t17 (Int.toNat t19) 1)) = true →
          Q 0 [] [(Lf.b false)]) ∧
        ((mBS R0 .i64 (cIS t17 (Int.toNat t19) 1)) = false →
          ((cIS t17 (Int.toNat t19) 0) ≠ (5 : Int) →
            ((cIS t17 (Int.toNat t19) 0) = (6 : Int) →
              (msetS .i64 (cIS t17 (Int.toNat t19) 1) (AV.bool ((cIS t17 (Int.toNat t19) 0) == (5 : Int))) R0 = some (mSS R0 .i64 (cIS t17 (Int.toNat t19) 1) (AV.bool ((cIS t17 (Int.toNat t19) 0) == (5 : Int))))) ∧
              (EV 23 [(mSS R0 .i64 (cIS t17 (Int.toNat t19) 1) (AV.bool ((cIS t17 (Int.toNat t19) 0) == (5 : Int))))] [(Lf.r t9), (Lf.i t10), (Lf.i t11), (Lf.r t17), (Lf.i t18), (Lf.i (IntKind.wrap .i64 (t19 + (1 : Int))))])) ∧
            ((cIS t17 (Int.toNat t19) 0) ≠ (6 : Int) →
              EV 23 [R0] [(Lf.r t9), (Lf.i t10), (Lf.i t11), (Lf.r t17), (Lf.i t18), (Lf.i (IntKind.wrap .i64 (t19 + (1 : Int))))])) ∧
          ((cIS t17 (Int.toNat t19) 0) = (5 : Int) →
            (msetS .i64 (cIS t17 (Int.toNat t19) 1) (AV.bool ((cIS t17 (Int.toNat t19) 0) == (5 : Int))) R0 = some (mSS R0 .i64 (cIS t17 (Int.toNat t19) 1) (AV.bool ((cIS t17 (Int.toNat t19) 0) == (5 : Int))))) ∧
            (EV 23 [(mSS R0 .i64 (cIS t17 (Int.toNat t19) 1) (AV.bool ((cIS t17 (Int.toNat t19) 0) == (5 : Int))))] [(Lf.r t9), (Lf.i t10), (Lf.i t11), (Lf.r t17), (Lf.i t18), (Lf.i (IntKind.wrap .i64 (t19 + (1 : Int))))])))) ∧
      ((cIS t17 (Int.toNat t19) 0) ≠ (5 : Int) →
        ((cIS t17 (Int.toNat t19) 0) ≠ (5 : Int) →
          ((cIS t17 (Int.toNat t19) 0) = (6 : Int) →
            (msetS .i64 (cIS t17 (Int.toNat t19) 1) (AV.bool ((cIS t17 (Int.toNat t19) 0) == (5 : Int))) R0 = some (mSS R0 .i64 (cIS t17 (Int.toNat t19) 1) (AV.bool ((cIS t17 (Int.toNat t19) 0) == (5 : Int))))) ∧
            (EV 23 [(mSS R0 .i64 (cIS t17 (Int.toNat t19) 1) (AV.bool ((cIS t17 (Int.toNat t19) 0) == (5 : Int))))] [(Lf.r t9), (Lf.i t10), (Lf.i t11), (Lf.r t17), (Lf.i t18), (Lf.i (IntKind.wrap .i64 (t19 + (1 : Int))))])) ∧
          ((cIS t17 (Int.toNat t19) 0) ≠ (6 : Int) →
            EV 23 [R0] [(Lf.r t9), (Lf.i t10), (Lf.i t11), (Lf.r t17), (Lf.i t18), (Lf.i (IntKind.wrap .i64 (t19 + (1 : Int))))])) ∧
        ((cIS t17 (Int.toNat t19) 0) = (5 : Int) →
          (msetS .i64 (cIS t17 (Int.toNat t19) 1) (AV.bool ((cIS t17 (Int.toNat t19) 0) == (5 : Int))) R0 = some (mSS R0 .i64 (cIS t17 (Int.toNat t19) 1) (AV.bool ((cIS t17 (Int.toNat t19) 0) == (5 : Int))))) ∧
          (EV 23 [(mSS R0 .i64 (cIS t17 (Int.toNat t19) 1) (AV.bool ((cIS t17 (Int.toNat t19) 0) == (5 : Int))))] [(Lf.r t9), (Lf.i t10), (Lf.i t11), (Lf.r t17), (Lf.i t18), (Lf.i (IntKind.wrap .i64 (t19 + (1 : Int))))])))) ∧
    (t19 ≥ t18 →
      EV 7 [] [(Lf.r t9), (Lf.i t10), (Lf.i (IntKind.wrap .i64 (t11 + (1 : Int))))])) →
    EV 23 [R0] [.r t9, .i t10, .i t11, .r t17, .i t18, .i t19]

set_option maxHeartbeats 0 in
theorem V16.of {Q : Nat → Rs → List Lf → Prop} {A : Ar} {CE : Nat → Rs → List Lf → (Nat → Rs → List Lf → Prop) → Prop} {CK : Nat → Rs → List Lf → Cont → Prop} {Dn : Nat → List Bool → List AItem → Nat → List Bool → List AV → List ABlk → Prop} {EV RR : Nat → Rs → List Lf → Prop} (W : Wk Try.prog Try.f16 I16 L16 Q A sg CE CK Dn EV RR) : V16 EV Q := by
  have hA := W.hA
  refine ⟨?_, ?_⟩
  · intro t9 t10 t11 h
    refine W.step 80 fun hp => ?_
    cbv
    refine ⟨imI hA fun e0 => have c0 : t11 < t10 := (by have q := (cmpE (op := .lss) hA e0); subst hA; exact q); ⟨ndI hA (And.intro (by subst hA; exact (h.1 c0).1) (by subst hA; exact (h.1 c0).2.1)), ⟨ndI hA (by subst hA; exact vpur), (by subst hA; exact (h.1 c0).2.2)⟩⟩, imI hA fun e0 => have c0 : t11 ≥ t10 := (by have q := (cmpE (op := .lss) hA e0); subst hA; exact q); (by rw [W.rr]; exact (by subst hA; exact (h.2 c0)))⟩
  · intro R0 t9 t10 t11 t17 t18 t19 h
    refine W.step 80 fun hp => ?_
    have h := h hp.1
    cbv
    refine ⟨imI hA fun e0 => have c0 : t19 < t18 := (by have q := (cmpE (op := .lss) hA e0); subst hA; exact q); ⟨ndI hA (And.intro (by subst hA; exact (h.1 c0).1) (by subst hA; exact (h.1 c0).2.1)), ⟨imI hA fun e1 => have c1 : (cIS t17 (Int.toNat t19) 0) = (5 : Int) := (by have q := (cmpE (op := .eql) hA e1); subst hA; exact q); ⟨ndI hA (by subst hA; exact ((h.1 c0).2.2.1 c1).1), ⟨imI hA fun e2 => have c2 : (mBS R0 .i64 (cIS t17 (Int.toNat t19) 1)) = true := (by have q := e2; subst hA; exact q); (by rw [W.rr]; exact (by subst hA; exact (((h.1 c0).2.2.1 c1).2.1 c2))), imI hA fun e2 => have c2 : (mBS R0 .i64 (cIS t17 (Int.toNat t19) 1)) = false := (by have q := e2; subst hA; exact q); ⟨imI hA fun e3 => have c3 : (cIS t17 (Int.toNat t19) 0) ≠ (5 : Int) := (by have q := (cmpE (op := .eql) hA e3); subst hA; exact q); ⟨imI hA fun e4 => have c4 : (cIS t17 (Int.toNat t19) 0) = (6 : Int) := (by have q := (cmpE (op := .eql) hA e4); subst hA; exact q); ⟨ndI hA (by subst hA; exact (((((h.1 c0).2.2.1 c1).2.2 c2).1 c3).1 c4).1), ⟨ndI hA (by subst hA; exact (vmset hp.1 rfl)), (by subst hA; exact (((((h.1 c0).2.2.1 c1).2.2 c2).1 c3).1 c4).2)⟩⟩, imI hA fun e4 => have c4 : (cIS t17 (Int.toNat t19) 0) ≠ (6 : Int) := (by have q := (cmpE (op := .eql) hA e4); subst hA; exact q); ⟨ndI hA (by subst hA; exact hp.1), (by subst hA; exact (((((h.1 c0).2.2.1 c1).2.2 c2).1 c3).2 c4))⟩⟩, imI hA fun e3 => have c3 : (cIS t17 (Int.toNat t19) 0) = (5 : Int) := (by have q := (cmpE (op := .eql) hA e3); subst hA; exact q); ⟨ndI hA (by subst hA; exact ((((h.1 c0).2.2.1 c1).2.2 c2).2 c3).1), ⟨ndI hA (by subst hA; exact (vmset hp.1 rfl)), (by subst hA; exact ((((h.1 c0).2.2.1 c1).2.2 c2).2 c3).2)⟩⟩⟩⟩⟩, imI hA fun e1 => have c1 : (cIS t17 (Int.toNat t19) 0) ≠ (5 : Int) := (by have q := (cmpE (op := .eql) hA e1); subst hA; exact q); ⟨imI hA fun e2 => have c2 : (cIS t17 (Int.toNat t19) 0) ≠ (5 : Int) := (by have q := (cmpE (op := .eql) hA e2); subst hA; exact q); ⟨imI hA fun e3 => have c3 : (cIS t17 (Int.toNat t19) 0) = (6 : Int) := (by have q := (cmpE (op := .eql) hA e3); subst hA; exact q); ⟨ndI hA (by subst hA; exact ((((h.1 c0).2.2.2 c1).1 c2).1 c3).1), ⟨ndI hA (by subst hA; exact (vmset hp.1 rfl)), (by subst hA; exact ((((h.1 c0).2.2.2 c1).1 c2).1 c3).2)⟩⟩, imI hA fun e3 => have c3 : (cIS t17 (Int.toNat t19) 0) ≠ (6 : Int) := (by have q := (cmpE (op := .eql) hA e3); subst hA; exact q); ⟨ndI hA (by subst hA; exact hp.1), (by subst hA; exact ((((h.1 c0).2.2.2 c1).1 c2).2 c3))⟩⟩, imI hA fun e2 => have c2 : (cIS t17 (Int.toNat t19) 0) = (5 : Int) := (by have q := (cmpE (op := .eql) hA e2); subst hA; exact q); ⟨ndI hA (by subst hA; exact (((h.1 c0).2.2.2 c1).2 c2).1), ⟨ndI hA (by subst hA; exact (vmset hp.1 rfl)), (by subst hA; exact (((h.1 c0).2.2.2 c1).2 c2).2)⟩⟩⟩⟩⟩, imI hA fun e0 => have c0 : t19 ≥ t18 := (by have q := (cmpE (op := .lss) hA e0); subst hA; exact q); (by subst hA; exact (h.2 c0))⟩

end
set_option maxHeartbeats 0 in
/-- To enter. -/
theorem E16 {Q : Nat → Rs → List Lf → Prop} {a0_0 : Int} {a0_1 : Int} {a0_2 : Int} {a0_3 : Int} {a0_4 : List (List AV)} {a0_5 : Int} {a0_6 : List (List AV)} {a0_7 : List (List AV)} {a0_8 : List (List AV)} {a0_9 : List (List AV)} (h : ∀ EV : Nat → Rs → List Lf → Prop, V16 EV Q →
    EV 7 [] [(Lf.r a0_8), (Lf.i (((List.length a0_8) : Nat) : Int)), (Lf.i (0 : Int))]) :
    EC Try.prog G16 [] [.i a0_0, .i a0_1, .i a0_2, .i a0_3, .r a0_4, .i a0_5, .r a0_6, .r a0_7, .r a0_8, .r a0_9] Q := by
  obtain ⟨A, hA⟩ : ∃ A, A = arS := ⟨_, rfl⟩
  refine Inst.enter (I := I16) hA mixed F16_at sg L16 80 rfl fun CE CK Dn EV RR W hp => ?_
  have h := h  EV (V16.of W)
  cbv
  refine (by subst hA; exact h)

-- 20: signalbox/signalboxref24.Level
section
structure V20 (EV Q : Nat → Rs → List Lf → Prop) : Prop where
  p13 : ∀ {R0 : List (List AV)} {t7 : Int} {t8 : Int} {t20 : List (List AV)} {t21 : Int} {t22 : Int} {tb0_0 : Int} {tb0_1 : Int} {tb0_2 : Int} {tb0_3 : Int} {tb0_4 : List (List AV)} {tb0_5 : Int} {tb0_6 : List (List AV)} {tb0_7 : List (List AV)} {tb0_8 : List (List AV)} {tb0_9 : List (List AV)}, (pursS R0 = true → 
    (t22 < t21 →
      ((0 : Int) ≤ t22) ∧
      (t20[(Int.toNat t22)]? = some [(AV.int .i64 (cIS t20 (Int.toNat t22) 0)), (AV.int .i64 (cIS t20 (Int.toNat t22) 1)), (AV.int .i64 (cIS t20 (Int.toNat t22) 2))]) ∧
      ((cIS t20 (Int.toNat t22) 0) = (3 : Int) →
        EV 13 [R0] [(Lf.i (IntKind.wrap .i64 (t7 + (1 : Int)))), (Lf.i t8), (Lf.r t20), (Lf.i t21), (Lf.i (IntKind.wrap .i64 (t22 + (1 : Int)))), (Lf.i tb0_0), (Lf.i tb0_1), (Lf.i tb0_2), (Lf.i tb0_3), (Lf.r tb0_4), (Lf.i tb0_5), (Lf.r tb0_6), (Lf.r tb0_7), (Lf.r tb0_8), (Lf.r tb0_9)]) ∧
      ((cIS t20 (Int.toNat t22) 0) ≠ (3 : Int) →
        ((cIS t20 (Int.toNat t22) 0) = (4 : Int) →
          EV 13 [R0] [(Lf.i (arS.mx (IntKind.wrap .i64 (t7 - (1 : Int))) (0 : Int))), (Lf.i t8), (Lf.r t20), (Lf.i t21), (Lf.i (IntKind.wrap .i64 (t22 + (1 : Int)))), (Lf.i tb0_0), (Lf.i tb0_1), (Lf.i tb0_2), (Lf.i tb0_3), (Lf.r tb0_4), (Lf.i tb0_5), (Lf.r tb0_6), (Lf.r tb0_7), (Lf.r tb0_8), (Lf.r tb0_9)]) ∧
        ((cIS t20 (Int.toNat t22) 0) ≠ (4 : Int) →
          ((cIS t20 (Int.toNat t22) 0) = (5 : Int) →
            EV 40 [R0] [(Lf.i t7), (Lf.i t8), (Lf.r t20), (Lf.i t21), (Lf.i t22), (Lf.b true), (Lf.i tb0_0), (Lf.i tb0_1), (Lf.i tb0_2), (Lf.i tb0_3), (Lf.r tb0_4), (Lf.i tb0_5), (Lf.r tb0_6), (Lf.r tb0_7), (Lf.r tb0_8), (Lf.r tb0_9), (Lf.i (cIS t20 (Int.toNat t22) 0)), (Lf.i (cIS t20 (Int.toNat t22) 1)), (Lf.i (cIS t20 (Int.toNat t22) 2))]) ∧
          ((cIS t20 (Int.toNat t22) 0) ≠ (5 : Int) →
            EV 40 [R0] [(Lf.i t7), (Lf.i t8), (Lf.r t20), (Lf.i t21), (Lf.i t22), (Lf.b ((cIS t20 (Int.toNat t22) 0) == (6 : Int))), (Lf.i tb0_0), (Lf.i tb0_1), (Lf.i tb0_2), (Lf.i tb0_3), (Lf.r tb0_4), (Lf.i tb0_5), (Lf.r tb0_6), (Lf.r tb0_7), (Lf.r tb0_8), (Lf.r tb0_9), (Lf.i (cIS t20 (Int.toNat t22) 0)), (Lf.i (cIS t20 (Int.toNat t22) 1)), (Lf.i (cIS t20 (Int.toNat t22) 2))])))) ∧
    (t22 ≥ t21 →
      EV 59 [R0] [(Lf.i t7), (Lf.i t8), (Lf.i (((List.length R0) : Nat) : Int)), (Lf.i (0 : Int)), (Lf.i tb0_0), (Lf.i tb0_1), (Lf.i tb0_2), (Lf.i tb0_3), (Lf.r tb0_4), (Lf.i tb0_5), (Lf.r tb0_6), (Lf.r tb0_7), (Lf.r tb0_8), (Lf.r tb0_9)])) →
    EV 13 [R0] [.i t7, .i t8, .r t20, .i t21, .i t22, .i tb0_0, .i tb0_1, .i tb0_2, .i tb0_3, .r tb0_4, .i tb0_5, .r tb0_6, .r tb0_7, .r tb0_8, .r tb0_9]
  p40 : ∀ {R0 : List (List AV)} {t7 : Int} {t8 : Int} {t20 : List (List AV)} {t21 : Int} {t22 : Int} {t37 : Bool} {tb0_0 : Int} {tb0_1 : Int} {tb0_2 : Int} {tb0_3 : Int} {tb0_4 : List (List AV)} {tb0_5 : Int} {tb0_6 : List (List AV)} {tb0_7 : List (List AV)} {tb0_8 : List (List AV)} {tb0_9 : List (List AV)} {tb2_0 : Int} {tb2_1 : Int} {tb2_2 : Int}, (pursS R0 = true → 
    (t37 = true →
      (tb2_1 ≥ (0 : Int) →
        (tb2_1 ≥ (((List.length R0) : Nat) : Int) →
          EV 13 [R0] [(Lf.i t7), (Lf.i t8), (Lf.r t20), (Lf.i t21), (Lf.i (IntKind.wrap .i64 (t22 + (1 : Int)))), (Lf.i tb0_0), (Lf.i tb0_1), (Lf.i tb0_2), (Lf.i tb0_3), (Lf.r tb0_4), (Lf.i tb0_5), (Lf.r tb0_6), (Lf.r tb0_7), (Lf.r tb0_8), (Lf.r tb0_9)]) ∧
        (tb2_1 < (((List.length R0) : Nat) : Int) →
          (tb2_0 = (5 : Int) →
            ((0 : Int) ≤ tb2_1) ∧
            (tb2_1 < (((List.length R0) : Nat) : Int)) ∧
            (R0[(Int.toNat tb2_1)]? = some [(AV.int .i64 (cIS R0 (Int.toNat tb2_1) 0))]) ∧
            (EV 13 [(List.set R0 (Int.toNat tb2_1) [(AV.int .i64 (1 : Int))])] [(Lf.i t7), (Lf.i t8), (Lf.r t20), (Lf.i t21), (Lf.i (IntKind.wrap .i64 (t22 + (1 : Int)))), (Lf.i tb0_0), (Lf.i tb0_1), (Lf.i tb0_2), (Lf.i tb0_3), (Lf.r tb0_4), (Lf.i tb0_5), (Lf.r tb0_6), (Lf.r tb0_7), (Lf.r tb0_8), (Lf.r tb0_9)])) ∧
          (tb2_0 ≠ (5 : Int) →
            ((0 : Int) ≤ tb2_1) ∧
            (tb2_1 < (((List.length R0) : Nat) : Int)) ∧
            (R0[(Int.toNat tb2_1)]? = some [(AV.int .i64 (cIS R0 (Int.toNat tb2_1) 0))]) ∧
            (EV 13 [(List.set R0 (Int.toNat tb2_1) [(AV.int .i64 (0 : Int))])] [(Lf.i t7), (Lf.i t8), (Lf.r t20), (Lf.i t21), (Lf.i (IntKind.wrap .i64 (t22 + (1 : Int)))), (Lf.i tb0_0), (Lf.i tb0_1), (Lf.i tb0_2), (Lf.i tb0_3), (Lf.r tb0_4), (Lf.i tb0_5), (Lf.r tb0_6), (Lf.r tb0_7), (Lf.r tb0_8), (Lf.r tb0_9)])))) ∧
      (tb2_1 < (0 : Int) →
        EV 13 [R0] [(Lf.i t7), (Lf.i t8), (Lf.r t20), (Lf.i t21), (Lf.i (IntKind.wrap .i64 (t22 + (1 : Int)))), (Lf.i tb0_0), (Lf.i tb0_1), (Lf.i tb0_2), (Lf.i tb0_3), (Lf.r tb0_4), (Lf.i tb0_5), (Lf.r tb0_6), (Lf.r tb0_7), (Lf.r tb0_8), (Lf.r tb0_9)])) ∧
    (t37 = false →
      EV 13 [R0] [(Lf.i t7), (Lf.i t8), (Lf.r t20), (Lf.i t21), (Lf.i (IntKind.wrap .i64 (t22 + (1 : Int)))), (Lf.i tb0_0), (Lf.i tb0_1), (Lf.i tb0_2), (Lf.i tb0_3), (Lf.r tb0_4), (Lf.i tb0_5), (Lf.r tb0_6), (Lf.r tb0_7), (Lf.r tb0_8), (Lf.r tb0_9)])) →
    EV 40 [R0] [.i t7, .i t8, .r t20, .i t21, .i t22, .b t37, .i tb0_0, .i tb0_1, .i tb0_2, .i tb0_3, .r tb0_4, .i tb0_5, .r tb0_6, .r tb0_7, .r tb0_8, .r tb0_9, .i tb2_0, .i tb2_1, .i tb2_2]
  p59 : ∀ {R0 : List (List AV)} {t7 : Int} {t8 : Int} {t63 : Int} {t64 : Int} {tb0_0 : Int} {tb0_1 : Int} {tb0_2 : Int} {tb0_3 : Int} {tb0_4 : List (List AV)} {tb0_5 : Int} {tb0_6 : List (List AV)} {tb0_7 : List (List AV)} {tb0_8 : List (List AV)} {tb0_9 : List (List AV)}, (pursS R0 = true → 
    (t64 < t63 →
      ((0 : Int) ≤ t64) ∧
      (t64 < (((List.length R0) : Nat) : Int)) ∧
      (R0[(Int.toNat t64)]? = some [(AV.int .i64 (cIS R0 (Int.toNat t64) 0))]) ∧
      ((cIS R0 (Int.toNat t64) 0) > (0 : Int) →
        ((0 : Int) ≤ t64) ∧
        (tb0_7[(Int.toNat t64)]? = some [(AV.int .i64 (cIS tb0_7 (Int.toNat t64) 0))]) ∧
        ((cIS tb0_7 (Int.toNat t64) 0) > t8 →
          ((0 : Int) ≤ t64) ∧
          (tb0_7[(Int.toNat t64)]? = some [(AV.int .i64 (cIS tb0_7 (Int.toNat t64) 0))]) ∧
          (EV 59 [R0] [(Lf.i t7), (Lf.i (cIS tb0_7 (Int.toNat t64) 0)), (Lf.i t63), (Lf.i (IntKind.wrap .i64 (t64 + (1 : Int)))), (Lf.i tb0_0), (Lf.i tb0_1), (Lf.i tb0_2), (Lf.i tb0_3), (Lf.r tb0_4), (Lf.i tb0_5), (Lf.r tb0_6), (Lf.r tb0_7), (Lf.r tb0_8), (Lf.r tb0_9)])) ∧
        ((cIS tb0_7 (Int.toNat t64) 0) ≤ t8 →
          EV 59 [R0] [(Lf.i t7), (Lf.i t8), (Lf.i t63), (Lf.i (IntKind.wrap .i64 (t64 + (1 : Int)))), (Lf.i tb0_0), (Lf.i tb0_1), (Lf.i tb0_2), (Lf.i tb0_3), (Lf.r tb0_4), (Lf.i tb0_5), (Lf.r tb0_6), (Lf.r tb0_7), (Lf.r tb0_8), (Lf.r tb0_9)])) ∧
      ((cIS R0 (Int.toNat t64) 0) ≤ (0 : Int) →
        EV 59 [R0] [(Lf.i t7), (Lf.i t8), (Lf.i t63), (Lf.i (IntKind.wrap .i64 (t64 + (1 : Int)))), (Lf.i tb0_0), (Lf.i tb0_1), (Lf.i tb0_2), (Lf.i tb0_3), (Lf.r tb0_4), (Lf.i tb0_5), (Lf.r tb0_6), (Lf.r tb0_7), (Lf.r tb0_8), (Lf.r tb0_9)])) ∧
    (t64 ≥ t63 →
      (t7 > (0 : Int) →
        Q 0 [] [(Lf.i (64 : Int))]) ∧
      (t7 ≤ (0 : Int) →
        Q 0 [] [(Lf.i t8)]))) →
    EV 59 [R0] [.i t7, .i t8, .i t63, .i t64, .i tb0_0, .i tb0_1, .i tb0_2, .i tb0_3, .r tb0_4, .i tb0_5, .r tb0_6, .r tb0_7, .r tb0_8, .r tb0_9]

set_option maxHeartbeats 0 in
theorem V20.of {Q : Nat → Rs → List Lf → Prop} {A : Ar} {CE : Nat → Rs → List Lf → (Nat → Rs → List Lf → Prop) → Prop} {CK : Nat → Rs → List Lf → Cont → Prop} {Dn : Nat → List Bool → List AItem → Nat → List Bool → List AV → List ABlk → Prop} {EV RR : Nat → Rs → List Lf → Prop} (W : Wk Try.prog Try.f20 I20 L20 Q A sg CE CK Dn EV RR) : V20 EV Q := by
  have hA := W.hA
  refine ⟨?_, ?_, ?_⟩
  · intro R0 t7 t8 t20 t21 t22 tb0_0 tb0_1 tb0_2 tb0_3 tb0_4 tb0_5 tb0_6 tb0_7 tb0_8 tb0_9 h
    refine W.step 80 fun hp => ?_
    have h := h hp.1
    cbv
    refine ⟨imI hA fun e0 => have c0 : t22 < t21 := (by have q := (cmpE (op := .lss) hA e0); subst hA; exact q); ⟨ndI hA (And.intro (by subst hA; exact (h.1 c0).1) (by subst hA; exact (h.1 c0).2.1)), ⟨imI hA fun e1 => have c1 : (cIS t20 (Int.toNat t22) 0) = (3 : Int) := (by have q := (cmpE (op := .eql) hA e1); subst hA; exact q); ⟨ndI hA (And.intro rfl (And.intro rfl rfl)), ⟨ndI hA (by subst hA; exact hp.1), (by subst hA; exact ((h.1 c0).2.2.1 c1))⟩⟩, imI hA fun e1 => have c1 : (cIS t20 (Int.toNat t22) 0) ≠ (3 : Int) := (by have q := (cmpE (op := .eql) hA e1); subst hA; exact q); ⟨imI hA fun e2 => have c2 : (cIS t20 (Int.toNat t22) 0) = (4 : Int) := (by have q := (cmpE (op := .eql) hA e2); subst hA; exact q); ⟨ndI hA (And.intro rfl (And.intro rfl rfl)), ⟨ndI hA (by subst hA; exact hp.1), (by subst hA; exact (((h.1 c0).2.2.2 c1).1 c2))⟩⟩, imI hA fun e2 => have c2 : (cIS t20 (Int.toNat t22) 0) ≠ (4 : Int) := (by have q := (cmpE (op := .eql) hA e2); subst hA; exact q); ⟨imI hA fun e3 => have c3 : (cIS t20 (Int.toNat t22) 0) = (5 : Int) := (by have q := (cmpE (op := .eql) hA e3); subst hA; exact q); ⟨ndI hA (And.intro rfl (And.intro rfl rfl)), ⟨ndI hA (by subst hA; exact hp.1), (by subst hA; exact ((((h.1 c0).2.2.2 c1).2 c2).1 c3))⟩⟩, imI hA fun e3 => have c3 : (cIS t20 (Int.toNat t22) 0) ≠ (5 : Int) := (by have q := (cmpE (op := .eql) hA e3); subst hA; exact q); ⟨ndI hA (And.intro rfl (And.intro rfl rfl)), ⟨ndI hA (by subst hA; exact hp.1), (by subst hA; exact ((((h.1 c0).2.2.2 c1).2 c2).2 c3))⟩⟩⟩⟩⟩⟩, imI hA fun e0 => have c0 : t22 ≥ t21 := (by have q := (cmpE (op := .lss) hA e0); subst hA; exact q); ⟨ndI hA rfl, ⟨ndI hA (And.intro rfl (And.intro rfl rfl)), ⟨ndI hA (by subst hA; exact hp.1), (by subst hA; exact (h.2 c0))⟩⟩⟩⟩
  · intro R0 t7 t8 t20 t21 t22 t37 tb0_0 tb0_1 tb0_2 tb0_3 tb0_4 tb0_5 tb0_6 tb0_7 tb0_8 tb0_9 tb2_0 tb2_1 tb2_2 h
    refine W.step 80 fun hp => ?_
    have h := h hp.1
    cbv
    refine ⟨imI hA fun e0 => have c0 : t37 = true := (by have q := e0; subst hA; exact q); ⟨imI hA fun e1 => have c1 : tb2_1 ≥ (0 : Int) := (by have q := (cmpE (op := .lss) hA e1); subst hA; exact q); ⟨ndI hA rfl, ⟨imI hA fun e2 => have c2 : tb2_1 ≥ (((List.length R0) : Nat) : Int) := (by have q := (cmpE (op := .geq) hA e2); subst hA; exact q); ⟨ndI hA (And.intro rfl (And.intro rfl rfl)), ⟨ndI hA (by subst hA; exact hp.1), (by subst hA; exact (((h.1 c0).1 c1).1 c2))⟩⟩, imI hA fun e2 => have c2 : tb2_1 < (((List.length R0) : Nat) : Int) := (by have q := (cmpE (op := .geq) hA e2); subst hA; exact q); ⟨imI hA fun e3 => have c3 : tb2_0 = (5 : Int) := (by have q := (cmpE (op := .eql) hA e3); subst hA; exact q); ⟨ndI hA (And.intro (by subst hA; exact ((((h.1 c0).1 c1).2 c2).1 c3).1) (And.intro (by subst hA; exact ((((h.1 c0).1 c1).2 c2).1 c3).2.1) rfl)), ⟨ndI hA (And.intro rfl (by subst hA; show R0[(0 + (Int.toNat tb2_1))]? = some [(AV.int .i64 (cIS R0 (0 + (Int.toNat tb2_1)) 0))]; simp only [rappS_end, Nat.zero_add, Int.toNat_natCast]; exact ((((h.1 c0).1 c1).2 c2).1 c3).2.2.1)), ⟨ndI hA (And.intro (by subst hA; show (List.length R0) = (List.length (List.set R0 (0 + (Int.toNat tb2_1)) [(AV.int .i64 (1 : Int))])); (first | rfl | simp [rappS_end] | (simp only [rappS_end, List.length_append, List.length_set, List.length_cons, List.length_nil]; omega))) (And.intro rfl (by subst hA; show (List.length R0) = (List.length (List.set R0 (0 + (Int.toNat tb2_1)) [(AV.int .i64 (1 : Int))])); (first | rfl | simp [rappS_end] | (simp only [rappS_end, List.length_append, List.length_set, List.length_cons, List.length_nil]; omega))))), ⟨ndI hA (by subst hA; exact (vset hp.1 rfl)), (by subst hA; show EV 13 [(List.set R0 (0 + (Int.toNat tb2_1)) [(AV.int .i64 (1 : Int))])] [(Lf.i t7), (Lf.i t8), (Lf.r t20), (Lf.i t21), (Lf.i (IntKind.wrap .i64 (t22 + (1 : Int)))), (Lf.i tb0_0), (Lf.i tb0_1), (Lf.i tb0_2), (Lf.i tb0_3), (Lf.r tb0_4), (Lf.i tb0_5), (Lf.r tb0_6), (Lf.r tb0_7), (Lf.r tb0_8), (Lf.r tb0_9)]; simp only [rappS_end, Nat.zero_add, Int.toNat_natCast]; exact ((((h.1 c0).1 c1).2 c2).1 c3).2.2.2)⟩⟩⟩⟩, imI hA fun e3 => have c3 : tb2_0 ≠ (5 : Int) := (by have q := (cmpE (op := .eql) hA e3); subst hA; exact q); ⟨ndI hA (And.intro (by subst hA; exact ((((h.1 c0).1 c1).2 c2).2 c3).1) (And.intro (by subst hA; exact ((((h.1 c0).1 c1).2 c2).2 c3).2.1) rfl)), ⟨ndI hA (And.intro rfl (by subst hA; show R0[(0 + (Int.toNat tb2_1))]? = some [(AV.int .i64 (cIS R0 (0 + (Int.toNat tb2_1)) 0))]; simp only [rappS_end, Nat.zero_add, Int.toNat_natCast]; exact ((((h.1 c0).1 c1).2 c2).2 c3).2.2.1)), ⟨ndI hA (And.intro (by subst hA; show (List.length R0) = (List.length (List.set R0 (0 + (Int.toNat tb2_1)) [(AV.int .i64 (0 : Int))])); (first | rfl | simp [rappS_end] | (simp only [rappS_end, List.length_append, List.length_set, List.length_cons, List.length_nil]; omega))) (And.intro rfl (by subst hA; show (List.length R0) = (List.length (List.set R0 (0 + (Int.toNat tb2_1)) [(AV.int .i64 (0 : Int))])); (first | rfl | simp [rappS_end] | (simp only [rappS_end, List.length_append, List.length_set, List.length_cons, List.length_nil]; omega))))), ⟨ndI hA (by subst hA; exact (vset hp.1 rfl)), (by subst hA; show EV 13 [(List.set R0 (0 + (Int.toNat tb2_1)) [(AV.int .i64 (0 : Int))])] [(Lf.i t7), (Lf.i t8), (Lf.r t20), (Lf.i t21), (Lf.i (IntKind.wrap .i64 (t22 + (1 : Int)))), (Lf.i tb0_0), (Lf.i tb0_1), (Lf.i tb0_2), (Lf.i tb0_3), (Lf.r tb0_4), (Lf.i tb0_5), (Lf.r tb0_6), (Lf.r tb0_7), (Lf.r tb0_8), (Lf.r tb0_9)]; simp only [rappS_end, Nat.zero_add, Int.toNat_natCast]; exact ((((h.1 c0).1 c1).2 c2).2 c3).2.2.2)⟩⟩⟩⟩⟩⟩⟩, imI hA fun e1 => have c1 : tb2_1 < (0 : Int) := (by have q := (cmpE (op := .lss) hA e1); subst hA; exact q); ⟨ndI hA (And.intro rfl (And.intro rfl rfl)), ⟨ndI hA (by subst hA; exact hp.1), (by subst hA; exact ((h.1 c0).2 c1))⟩⟩⟩, imI hA fun e0 => have c0 : t37 = false := (by have q := e0; subst hA; exact q); ⟨ndI hA (And.intro rfl (And.intro rfl rfl)), ⟨ndI hA (by subst hA; exact hp.1), (by subst hA; exact (h.2 c0))⟩⟩⟩
  · intro R0 t7 t8 t63 t64 tb0_0 tb0_1 tb0_2 tb0_3 tb0_4 tb0_5 tb0_6 tb0_7 tb0_8 tb0_9 h
    refine W.step 80 fun hp => ?_
    have h := h hp.1
    cbv
    refine ⟨imI hA fun e0 => have c0 : t64 < t63 := (by have q := (cmpE (op := .lss) hA e0); subst hA; exact q); ⟨ndI hA (And.intro (by subst hA; exact (h.1 c0).1) (And.intro (by subst hA; exact (h.1 c0).2.1) rfl)), ⟨ndI hA (And.intro rfl (by subst hA; show R0[(0 + (Int.toNat t64))]? = some [(AV.int .i64 (cIS R0 (0 + (Int.toNat t64)) 0))]; simp only [rappS_end, Nat.zero_add, Int.toNat_natCast]; exact (h.1 c0).2.2.1)), ⟨imI hA fun e1 => have c1 : (cIS R0 (Int.toNat t64) 0) > (0 : Int) := (by have q := (cmpE (op := .gtr) hA e1); subst hA; have q : (cIS R0 (0 + (Int.toNat t64)) 0) > (0 : Int) := q; simpa only [rappS_end, Nat.zero_add, Int.toNat_natCast] using q); ⟨ndI hA (And.intro (by subst hA; exact ((h.1 c0).2.2.2.1 c1).1) (by subst hA; exact ((h.1 c0).2.2.2.1 c1).2.1)), ⟨imI hA fun e2 => have c2 : (cIS tb0_7 (Int.toNat t64) 0) > t8 := (by have q := (cmpE (op := .gtr) hA e2); subst hA; exact q); ⟨ndI hA (And.intro (by subst hA; exact (((h.1 c0).2.2.2.1 c1).2.2.1 c2).1) (by subst hA; exact (((h.1 c0).2.2.2.1 c1).2.2.1 c2).2.1)), ⟨ndI hA (And.intro rfl (And.intro rfl rfl)), ⟨ndI hA (by subst hA; exact hp.1), (by subst hA; exact (((h.1 c0).2.2.2.1 c1).2.2.1 c2).2.2)⟩⟩⟩, imI hA fun e2 => have c2 : (cIS tb0_7 (Int.toNat t64) 0) ≤ t8 := (by have q := (cmpE (op := .gtr) hA e2); subst hA; exact q); ⟨ndI hA (And.intro rfl (And.intro rfl rfl)), ⟨ndI hA (by subst hA; exact hp.1), (by subst hA; exact (((h.1 c0).2.2.2.1 c1).2.2.2 c2))⟩⟩⟩⟩, imI hA fun e1 => have c1 : (cIS R0 (Int.toNat t64) 0) ≤ (0 : Int) := (by have q := (cmpE (op := .gtr) hA e1); subst hA; have q : (cIS R0 (0 + (Int.toNat t64)) 0) ≤ (0 : Int) := q; simpa only [rappS_end, Nat.zero_add, Int.toNat_natCast] using q); ⟨ndI hA (And.intro rfl (And.intro rfl rfl)), ⟨ndI hA (by subst hA; exact hp.1), (by subst hA; exact ((h.1 c0).2.2.2.2 c1))⟩⟩⟩⟩⟩, imI hA fun e0 => have c0 : t64 ≥ t63 := (by have q := (cmpE (op := .lss) hA e0); subst hA; exact q); ⟨imI hA fun e1 => have c1 : t7 > (0 : Int) := (by have q := (cmpE (op := .gtr) hA e1); subst hA; exact q); (by rw [W.rr]; exact (by subst hA; exact ((h.2 c0).1 c1))), imI hA fun e1 => have c1 : t7 ≤ (0 : Int) := (by have q := (cmpE (op := .gtr) hA e1); subst hA; exact q); (by rw [W.rr]; exact (by subst hA; exact ((h.2 c0).2 c1)))⟩⟩

end
set_option maxHeartbeats 0 in
/-- To enter. -/
theorem E20 {Q : Nat → Rs → List Lf → Prop} {a0_0 : Int} {a0_1 : Int} {a0_2 : Int} {a0_3 : Int} {a0_4 : List (List AV)} {a0_5 : Int} {a0_6 : List (List AV)} {a0_7 : List (List AV)} {a0_8 : List (List AV)} {a0_9 : List (List AV)} {a1_0 : Int} {a1_1 : Int} {a1_2 : Int} {a1_3 : Int} {a1_4 : Int} {a1_5 : Int} {a1_6 : List (List AV)} {a2 : List (List AV)} (h : ∀ EV : Nat → Rs → List Lf → Prop, V20 EV Q →
    ((((List.length a0_7) : Nat) : Int) ≤ (140737488355328 : Int)) ∧
    (((((List.length a0_7) : Nat) : Int) * ((8 : Nat) : Int)) ≤ (140737488355328 : Int)) ∧
    (EV 13 [(List.replicate (List.length a0_7) [(AV.int .i64 (0 : Int))])] [(Lf.i (0 : Int)), (Lf.i a1_1), (Lf.r a2), (Lf.i (((List.length a2) : Nat) : Int)), (Lf.i (0 : Int)), (Lf.i a0_0), (Lf.i a0_1), (Lf.i a0_2), (Lf.i a0_3), (Lf.r a0_4), (Lf.i a0_5), (Lf.r a0_6), (Lf.r a0_7), (Lf.r a0_8), (Lf.r a0_9)])) :
    EC Try.prog G20 [] [.i a0_0, .i a0_1, .i a0_2, .i a0_3, .r a0_4, .i a0_5, .r a0_6, .r a0_7, .r a0_8, .r a0_9, .i a1_0, .i a1_1, .i a1_2, .i a1_3, .i a1_4, .i a1_5, .r a1_6, .r a2] Q := by
  obtain ⟨A, hA⟩ : ∃ A, A = arS := ⟨_, rfl⟩
  refine Inst.enter (I := I20) hA mixed F20_at sg L20 80 rfl fun CE CK Dn EV RR W hp => ?_
  have h := h  EV (V20.of W)
  cbv
  refine ⟨ndI hA (And.intro (by subst hA; exact Int.natCast_nonneg _) (And.intro (by subst hA; exact Int.le_refl _) (And.intro (by subst hA; exact h.1) (by subst hA; exact h.2.1)))), ⟨ndI hA (And.intro (by subst hA; show (Int.toNat (((List.length a0_7) : Nat) : Int)) = (List.length (List.replicate (Int.toNat (((List.length a0_7) : Nat) : Int)) [(AV.int .i64 (0 : Int))])); (first | rfl | simp [rappS_end] | (simp only [rappS_end, List.length_append, List.length_set, List.length_cons, List.length_nil]; omega))) (And.intro rfl (by subst hA; show (Int.toNat (((List.length a0_7) : Nat) : Int)) = (List.length (List.replicate (Int.toNat (((List.length a0_7) : Nat) : Int)) [(AV.int .i64 (0 : Int))])); (first | rfl | simp [rappS_end] | (simp only [rappS_end, List.length_append, List.length_set, List.length_cons, List.length_nil]; omega))))), ⟨ndI hA (by subst hA; exact (vrep rfl)), (by subst hA; show EV 13 [(List.replicate (Int.toNat (((List.length a0_7) : Nat) : Int)) [(AV.int .i64 (0 : Int))])] [(Lf.i (0 : Int)), (Lf.i a1_1), (Lf.r a2), (Lf.i (((List.length a2) : Nat) : Int)), (Lf.i (0 : Int)), (Lf.i a0_0), (Lf.i a0_1), (Lf.i a0_2), (Lf.i a0_3), (Lf.r a0_4), (Lf.i a0_5), (Lf.r a0_6), (Lf.r a0_7), (Lf.r a0_8), (Lf.r a0_9)]; simp only [rappS_end, Nat.zero_add, Int.toNat_natCast]; exact h.2.2)⟩⟩⟩

-- 21: signalbox/signalboxref24.Reach DRAWN
section
structure V21 (EV Q : Nat → Rs → List Lf → Prop) : Prop where
  p11 : ∀ {R0 : List (List AV)} {t7 : Int} {tb0_0 : Int} {tb0_1 : Int} {tb0_2 : Int} {tb0_3 : Int} {tb0_4 : List (List AV)} {tb0_5 : Int} {tb0_6 : List (List AV)} {tb0_7 : List (List AV)} {tb0_8 : List (List AV)} {tb0_9 : List (List AV)} {tb1_0 : Int} {tb1_1 : Int} {tb1_2 : Int} {tb1_3 : Int} {tb1_4 : Int} {tb1_5 : Int} {tb1_6 : List (List AV)}, (pursS R0 = true → 
    (t7 ≤ (64 : Int) →
      EV 23 [R0] [(Lf.i t7), (Lf.i (IntKind.wrap .i64 ((((List.length tb1_6) : Nat) : Int) + (1 : Int)))), (Lf.i (0 : Int)), (Lf.i tb0_0), (Lf.i tb0_1), (Lf.i tb0_2), (Lf.i tb0_3), (Lf.r tb0_4), (Lf.i tb0_5), (Lf.r tb0_6), (Lf.r tb0_7), (Lf.r tb0_8), (Lf.r tb0_9), (Lf.i tb1_0), (Lf.i tb1_1), (Lf.i tb1_2), (Lf.i tb1_3), (Lf.i tb1_4), (Lf.i tb1_5), (Lf.r tb1_6)]) ∧
    (t7 > (64 : Int) →
      Q 0 [R0] [])) →
    EV 11 [R0] [.i t7, .i tb0_0, .i tb0_1, .i tb0_2, .i tb0_3, .r tb0_4, .i tb0_5, .r tb0_6, .r tb0_7, .r tb0_8, .r tb0_9, .i tb1_0, .i tb1_1, .i tb1_2, .i tb1_3, .i tb1_4, .i tb1_5, .r tb1_6]
  p23 : ∀ {R0 : List (List AV)} {t7 : Int} {t24 : Int} {t25 : Int} {tb0_0 : Int} {tb0_1 : Int} {tb0_2 : Int} {tb0_3 : Int} {tb0_4 : List (List AV)} {tb0_5 : Int} {tb0_6 : List (List AV)} {tb0_7 : List (List AV)} {tb0_8 : List (List AV)} {tb0_9 : List (List AV)} {tb1_0 : Int} {tb1_1 : Int} {tb1_2 : Int} {tb1_3 : Int} {tb1_4 : Int} {tb1_5 : Int} {tb1_6 : List (List AV)}, (pursS R0 = true → 
    (t25 < t24 →
      ((0 : Int) ≤ t25) ∧
      (t25 ≤ (((List.length tb1_6) : Nat) : Int)) ∧
      (EC Try.prog G20 [] [(Lf.i tb0_0), (Lf.i tb0_1), (Lf.i tb0_2), (Lf.i tb0_3), (Lf.r tb0_4), (Lf.i tb0_5), (Lf.r tb0_6), (Lf.r tb0_7), (Lf.r tb0_8), (Lf.r tb0_9), (Lf.i tb1_0), (Lf.i tb1_1), (Lf.i tb1_2), (Lf.i tb1_3), (Lf.i tb1_4), (Lf.i tb1_5), (Lf.r tb1_6), (Lf.r (List.take (Int.toNat t25) tb1_6))] (fun x rs vs => (x = 0 ∧ ∃ (y1_0 : Int), rs = [] ∧ vs = [.i y1_0] ∧
        ((y1_0 = t7 →
            (((List.length R0) + 1) ≤ 140737488355328) ∧
            ((((List.length R0) + 1) * 8) ≤ 140737488355328) ∧
            (EV 11 [(R0 ++ [[(AV.int .i64 t7)]])] [(Lf.i (IntKind.wrap .i64 (t7 + (1 : Int)))), (Lf.i tb0_0), (Lf.i tb0_1), (Lf.i tb0_2), (Lf.i tb0_3), (Lf.r tb0_4), (Lf.i tb0_5), (Lf.r tb0_6), (Lf.r tb0_7), (Lf.r tb0_8), (Lf.r tb0_9), (Lf.i tb1_0), (Lf.i tb1_1), (Lf.i tb1_2), (Lf.i tb1_3), (Lf.i tb1_4), (Lf.i tb1_5), (Lf.r tb1_6)])) ∧
          (y1_0 ≠ t7 →
            EV 23 [R0] [(Lf.i t7), (Lf.i t24), (Lf.i (IntKind.wrap .i64 (t25 + (1 : Int)))), (Lf.i tb0_0), (Lf.i tb0_1), (Lf.i tb0_2), (Lf.i tb0_3), (Lf.r tb0_4), (Lf.i tb0_5), (Lf.r tb0_6), (Lf.r tb0_7), (Lf.r tb0_8), (Lf.r tb0_9), (Lf.i tb1_0), (Lf.i tb1_1), (Lf.i tb1_2), (Lf.i tb1_3), (Lf.i tb1_4), (Lf.i tb1_5), (Lf.r tb1_6)])))))) ∧
    (t25 ≥ t24 →
      EV 11 [R0] [(Lf.i (IntKind.wrap .i64 (t7 + (1 : Int)))), (Lf.i tb0_0), (Lf.i tb0_1), (Lf.i tb0_2), (Lf.i tb0_3), (Lf.r tb0_4), (Lf.i tb0_5), (Lf.r tb0_6), (Lf.r tb0_7), (Lf.r tb0_8), (Lf.r tb0_9), (Lf.i tb1_0), (Lf.i tb1_1), (Lf.i tb1_2), (Lf.i tb1_3), (Lf.i tb1_4), (Lf.i tb1_5), (Lf.r tb1_6)])) →
    EV 23 [R0] [.i t7, .i t24, .i t25, .i tb0_0, .i tb0_1, .i tb0_2, .i tb0_3, .r tb0_4, .i tb0_5, .r tb0_6, .r tb0_7, .r tb0_8, .r tb0_9, .i tb1_0, .i tb1_1, .i tb1_2, .i tb1_3, .i tb1_4, .i tb1_5, .r tb1_6]

set_option maxHeartbeats 0 in
theorem V21.of {Q : Nat → Rs → List Lf → Prop} {A : Ar} {CE : Nat → Rs → List Lf → (Nat → Rs → List Lf → Prop) → Prop} {CK : Nat → Rs → List Lf → Cont → Prop} {Dn : Nat → List Bool → List AItem → Nat → List Bool → List AV → List ABlk → Prop} {EV RR : Nat → Rs → List Lf → Prop} (W : Wk Try.prog Try.f21 I21 L21 Q A sg CE CK Dn EV RR) : V21 EV Q := by
  have hA := W.hA
  refine ⟨?_, ?_⟩
  · intro R0 t7 tb0_0 tb0_1 tb0_2 tb0_3 tb0_4 tb0_5 tb0_6 tb0_7 tb0_8 tb0_9 tb1_0 tb1_1 tb1_2 tb1_3 tb1_4 tb1_5 tb1_6 h
    refine W.step 80 fun hp => ?_
    have h := h hp.1
    cbv
    refine ⟨imI hA fun e0 => have c0 : t7 ≤ (64 : Int) := (by have q := (cmpE (op := .leq) hA e0); subst hA; exact q); ⟨ndI hA (And.intro rfl (And.intro rfl rfl)), ⟨ndI hA (by subst hA; exact hp.1), (by subst hA; exact (h.1 c0))⟩⟩, imI hA fun e0 => have c0 : t7 > (64 : Int) := (by have q := (cmpE (op := .leq) hA e0); subst hA; exact q); ⟨ndI hA (And.intro rfl (And.intro rfl rfl)), ⟨ndI hA (by subst hA; exact hp.1), (by rw [W.rr]; exact (by subst hA; exact (h.2 c0)))⟩⟩⟩
  · intro R0 t7 t24 t25 tb0_0 tb0_1 tb0_2 tb0_3 tb0_4 tb0_5 tb0_6 tb0_7 tb0_8 tb0_9 tb1_0 tb1_1 tb1_2 tb1_3 tb1_4 tb1_5 tb1_6 h
    refine W.step 80 fun hp => ?_
    have h := h hp.1
    cbv
    refine ⟨imI hA fun e0 => have c0 : t25 < t24 := (by have q := (cmpE (op := .lss) hA e0); subst hA; exact q); ⟨ndI hA (And.intro (by subst hA; exact (h.1 c0).1) (by subst hA; exact (h.1 c0).2.1)), ⟨?_, trivial⟩⟩, imI hA fun e0 => have c0 : t25 ≥ t24 := (by have q := (cmpE (op := .lss) hA e0); subst hA; exact q); ⟨ndI hA (And.intro rfl (And.intro rfl rfl)), ⟨ndI hA (by subst hA; exact hp.1), (by subst hA; exact (h.2 c0))⟩⟩⟩
    · refine W.callD (by rfl) (h.1 c0).2.2 (by subst hA; rfl) (by subst hA; rfl) ?_
      rintro x rs vs hp1 hq1
      rcases hq1 with ⟨rfl, y1_0, rfl, rfl, k1⟩
      · cbv
        refine ?_
        · refine W.draw 80 (by rfl) ?_
          cbv
          refine ⟨imI hA fun e2 => have c2 : y1_0 = t7 := (by have q := (cmpE (op := .eql) hA e2); subst hA; exact q); ⟨ndI hA (And.intro rfl (And.intro (Nat.le_refl _) (And.intro (by subst hA; exact (k1.1 c2).1) (by subst hA; exact (k1.1 c2).2.1)))), ⟨ndI hA (And.intro rfl (And.intro rfl (by subst hA; show ((List.length R0) + 1) = (List.length (rappS R0 (List.length R0) [[(AV.int .i64 t7)]])); (first | rfl | simp [rappS_end] | (simp only [rappS_end, List.length_append, List.length_set, List.length_cons, List.length_nil]; omega))))), ⟨ndI hA (by subst hA; exact (vapp hp.1 vpur)), (by subst hA; show EV 11 [(rappS R0 (List.length R0) [[(AV.int .i64 t7)]])] [(Lf.i (IntKind.wrap .i64 (t7 + (1 : Int)))), (Lf.i tb0_0), (Lf.i tb0_1), (Lf.i tb0_2), (Lf.i tb0_3), (Lf.r tb0_4), (Lf.i tb0_5), (Lf.r tb0_6), (Lf.r tb0_7), (Lf.r tb0_8), (Lf.r tb0_9), (Lf.i tb1_0), (Lf.i tb1_1), (Lf.i tb1_2), (Lf.i tb1_3), (Lf.i tb1_4), (Lf.i tb1_5), (Lf.r tb1_6)]; simp only [rappS_end, Nat.zero_add, Int.toNat_natCast]; exact (k1.1 c2).2.2)⟩⟩⟩, imI hA fun e2 => have c2 : y1_0 ≠ t7 := (by have q := (cmpE (op := .eql) hA e2); subst hA; exact q); ⟨ndI hA (And.intro rfl (And.intro rfl rfl)), ⟨ndI hA (by subst hA; exact hp.1), (by subst hA; exact (k1.2 c2))⟩⟩⟩

end
set_option maxHeartbeats 0 in
/-- To enter. -/
theorem E21 {Q : Nat → Rs → List Lf → Prop} {a0_0 : Int} {a0_1 : Int} {a0_2 : Int} {a0_3 : Int} {a0_4 : List (List AV)} {a0_5 : Int} {a0_6 : List (List AV)} {a0_7 : List (List AV)} {a0_8 : List (List AV)} {a0_9 : List (List AV)} {a1 : Int} (h : ∀ EV : Nat → Rs → List Lf → Prop, V21 EV Q →
    ((0 : Int) ≤ a1) ∧
    (a0_8[(Int.toNat a1)]? = some [(AV.int .i64 (cIS a0_8 (Int.toNat a1) 0)), (AV.int .i64 (cIS a0_8 (Int.toNat a1) 1)), (AV.int .i64 (cIS a0_8 (Int.toNat a1) 2)), (AV.int .i64 (cIS a0_8 (Int.toNat a1) 3)), (AV.int .i64 (cIS a0_8 (Int.toNat a1) 4)), (AV.int .i64 (cIS a0_8 (Int.toNat a1) 5)), (AV.inl 3 (cRS a0_8 (Int.toNat a1) 6))]) ∧
    (EV 11 [[]] [(Lf.i (IntKind.wrap .i64 ((cIS a0_8 (Int.toNat a1) 1) + (1 : Int)))), (Lf.i a0_0), (Lf.i a0_1), (Lf.i a0_2), (Lf.i a0_3), (Lf.r a0_4), (Lf.i a0_5), (Lf.r a0_6), (Lf.r a0_7), (Lf.r a0_8), (Lf.r a0_9), (Lf.i (cIS a0_8 (Int.toNat a1) 0)), (Lf.i (cIS a0_8 (Int.toNat a1) 1)), (Lf.i (cIS a0_8 (Int.toNat a1) 2)), (Lf.i (cIS a0_8 (Int.toNat a1) 3)), (Lf.i (cIS a0_8 (Int.toNat a1) 4)), (Lf.i (cIS a0_8 (Int.toNat a1) 5)), (Lf.r (cRS a0_8 (Int.toNat a1) 6))])) :
    EC Try.prog G21 [] [.i a0_0, .i a0_1, .i a0_2, .i a0_3, .r a0_4, .i a0_5, .r a0_6, .r a0_7, .r a0_8, .r a0_9, .i a1] Q := by
  obtain ⟨A, hA⟩ : ∃ A, A = arS := ⟨_, rfl⟩
  refine Inst.enter (I := I21) hA mixed F21_at sg L21 80 rfl fun CE CK Dn EV RR W hp => ?_
  have h := h  EV (V21.of W)
  cbv
  refine ⟨ndI hA (And.intro (by subst hA; exact h.1) (by subst hA; exact h.2.1)), ⟨ndI hA (And.intro (by subst hA; show 0 = 0; (first | rfl | simp [rappS_end] | (simp only [rappS_end, List.length_append, List.length_set, List.length_cons, List.length_nil]; omega))) (And.intro rfl (by subst hA; show 0 = 0; (first | rfl | simp [rappS_end] | (simp only [rappS_end, List.length_append, List.length_set, List.length_cons, List.length_nil]; omega))))), ⟨ndI hA (by subst hA; exact vpur), (by subst hA; exact h.2.2)⟩⟩⟩

-- 52: signalbox/signalboxref09.clamp
section
structure V52 (EV Q : Nat → Rs → List Lf → Prop) : Prop where
  none : True

end
set_option maxHeartbeats 0 in
/-- To enter. -/
theorem E52 {Q : Nat → Rs → List Lf → Prop} {a0 : Int} (h : ∀ EV : Nat → Rs → List Lf → Prop, V52 EV Q →
    (a0 < (0 : Int) →
      Q 0 [] [(Lf.i (0 : Int))]) ∧
    (a0 ≥ (0 : Int) →
      (a0 > (1073741824 : Int) →
        Q 0 [] [(Lf.i (1073741824 : Int))]) ∧
      (a0 ≤ (1073741824 : Int) →
        Q 0 [] [(Lf.i a0)]))) :
    EC Try.prog G52 [] [.i a0] Q := by
  obtain ⟨A, hA⟩ : ∃ A, A = arS := ⟨_, rfl⟩
  refine Inst.enter (I := I52) hA mixed F52_at sg L52 80 rfl fun CE CK Dn EV RR W hp => ?_
  have h := h  EV ⟨trivial⟩
  cbv
  refine ⟨imI hA fun e0 => have c0 : a0 < (0 : Int) := (by have q := (cmpE (op := .lss) hA e0); subst hA; exact q); (by rw [W.rr]; exact (by subst hA; exact (h.1 c0))), imI hA fun e0 => have c0 : a0 ≥ (0 : Int) := (by have q := (cmpE (op := .lss) hA e0); subst hA; exact q); ⟨imI hA fun e1 => have c1 : a0 > (1073741824 : Int) := (by have q := (cmpE (op := .gtr) hA e1); subst hA; exact q); (by rw [W.rr]; exact (by subst hA; exact ((h.2 c0).1 c1))), imI hA fun e1 => have c1 : a0 ≤ (1073741824 : Int) := (by have q := (cmpE (op := .gtr) hA e1); subst hA; exact q); (by rw [W.rr]; exact (by subst hA; exact ((h.2 c0).2 c1)))⟩⟩

-- 41: signalbox/signalboxref09.Of
section
structure V41 (EV Q : Nat → Rs → List Lf → Prop) : Prop where
  none : True

end
set_option maxHeartbeats 0 in
/-- To enter. -/
theorem E41 {Q : Nat → Rs → List Lf → Prop} {a0_0 : Int} {a0_1 : Int} {a0_2 : Int} {a1_0 : Int} {a1_1 : Int} {a1_2 : Int} {a1_3 : Int} {a2 : Bool} (h : ∀ EV : Nat → Rs → List Lf → Prop, V41 EV Q →
    (a0_0 = (1 : Int) →
      EC Try.prog G52 [] [(Lf.i a0_1)] (fun x rs vs => (x = 0 ∧ ∃ (y1_0 : Int), rs = [] ∧ vs = [.i y1_0] ∧
        (Q 0 [] [(Lf.i y1_0)])))) ∧
    (a0_0 ≠ (1 : Int) →
      (a0_0 = (2 : Int) →
        (a2 = true →
          EC Try.prog G52 [] [(Lf.i a1_2)] (fun x rs vs => (x = 0 ∧ ∃ (y3_0 : Int), rs = [] ∧ vs = [.i y3_0] ∧
            (Q 0 [] [(Lf.i y3_0)])))) ∧
        (a2 = false →
          (a0_0 = (2 : Int) →
            EC Try.prog G52 [] [(Lf.i a1_3)] (fun x rs vs => (x = 0 ∧ ∃ (y4_0 : Int), rs = [] ∧ vs = [.i y4_0] ∧
              (Q 0 [] [(Lf.i y4_0)])))) ∧
          (a0_0 ≠ (2 : Int) →
            Q 0 [] [(Lf.i (1 : Int))]))) ∧
      (a0_0 ≠ (2 : Int) →
        (a0_0 = (2 : Int) →
          EC Try.prog G52 [] [(Lf.i a1_3)] (fun x rs vs => (x = 0 ∧ ∃ (y3_0 : Int), rs = [] ∧ vs = [.i y3_0] ∧
            (Q 0 [] [(Lf.i y3_0)])))) ∧
        (a0_0 ≠ (2 : Int) →
          Q 0 [] [(Lf.i (1 : Int))])))) :
    EC Try.prog G41 [] [.i a0_0, .i a0_1, .i a0_2, .i a1_0, .i a1_1, .i a1_2, .i a1_3, .b a2] Q := by
  obtain ⟨A, hA⟩ : ∃ A, A = arS := ⟨_, rfl⟩
  refine Inst.enter (I := I41) hA mixed F41_at sg L41 80 rfl fun CE CK Dn EV RR W hp => ?_
  have h := h  EV ⟨trivial⟩
  cbv
  refine ⟨imI hA fun e0 => have c0 : a0_0 = (1 : Int) := (by have q := (cmpE (op := .eql) hA e0); subst hA; exact q); ?_, imI hA fun e0 => have c0 : a0_0 ≠ (1 : Int) := (by have q := (cmpE (op := .eql) hA e0); subst hA; exact q); ⟨imI hA fun e1 => have c1 : a0_0 = (2 : Int) := (by have q := (cmpE (op := .eql) hA e1); subst hA; exact q); ⟨imI hA fun e2 => have c2 : a2 = true := (by have q := e2; subst hA; exact q); ?_, imI hA fun e2 => have c2 : a2 = false := (by have q := e2; subst hA; exact q); ⟨imI hA fun e3 => have c3 : a0_0 = (2 : Int) := (by have q := (cmpE (op := .eql) hA e3); subst hA; exact q); ?_, imI hA fun e3 => have c3 : a0_0 ≠ (2 : Int) := (by have q := (cmpE (op := .eql) hA e3); subst hA; exact q); (by rw [W.rr]; exact (by subst hA; exact ((((h.2 c0).1 c1).2 c2).2 c3)))⟩⟩, imI hA fun e1 => have c1 : a0_0 ≠ (2 : Int) := (by have q := (cmpE (op := .eql) hA e1); subst hA; exact q); ⟨imI hA fun e2 => have c2 : a0_0 = (2 : Int) := (by have q := (cmpE (op := .eql) hA e2); subst hA; exact q); ?_, imI hA fun e2 => have c2 : a0_0 ≠ (2 : Int) := (by have q := (cmpE (op := .eql) hA e2); subst hA; exact q); (by rw [W.rr]; exact (by subst hA; exact (((h.2 c0).2 c1).2 c2)))⟩⟩⟩
  · refine W.call 80 (by rfl) (h.1 c0) (by subst hA; rfl) (by subst hA; rfl) ?_
    rintro x rs vs hp1 hq1
    rcases hq1 with ⟨rfl, y1_0, rfl, rfl, k1⟩
    · cbv
      refine (by rw [W.rr]; exact (by subst hA; exact k1))
  · refine W.call 80 (by rfl) (((h.2 c0).1 c1).1 c2) (by subst hA; rfl) (by subst hA; rfl) ?_
    rintro x rs vs hp3 hq3
    rcases hq3 with ⟨rfl, y3_0, rfl, rfl, k3⟩
    · cbv
      refine (by rw [W.rr]; exact (by subst hA; exact k3))
  · refine W.call 80 (by rfl) ((((h.2 c0).1 c1).2 c2).1 c3) (by subst hA; rfl) (by subst hA; rfl) ?_
    rintro x rs vs hp4 hq4
    rcases hq4 with ⟨rfl, y4_0, rfl, rfl, k4⟩
    · cbv
      refine (by rw [W.rr]; exact (by subst hA; exact k4))
  · refine W.call 80 (by rfl) (((h.2 c0).2 c1).1 c2) (by subst hA; rfl) (by subst hA; rfl) ?_
    rintro x rs vs hp3 hq3
    rcases hq3 with ⟨rfl, y3_0, rfl, rfl, k3⟩
    · cbv
      refine (by rw [W.rr]; exact (by subst hA; exact k3))

-- 22: signalbox/signalboxref24.Longest DRAWN
section
structure V22 (EV Q : Nat → Rs → List Lf → Prop) : Prop where
  p11 : ∀ {t2 : Int} {t8 : Int} {t19 : Int} {t20 : Int} {tb0_0 : Int} {tb0_1 : Int} {tb0_2 : Int} {tb0_3 : Int} {tb0_4 : List (List AV)} {tb0_5 : Int} {tb0_6 : List (List AV)} {tb0_7 : List (List AV)} {tb0_8 : List (List AV)} {tb0_9 : List (List AV)} {tb1_0 : Int} {tb1_1 : Int} {tb1_2 : Int} {tb1_3 : Int} {tb1_4 : Int} {tb1_5 : Int} {tb1_6 : List (List AV)}, (
    (t20 < t19 →
      EV 27 [] [(Lf.i t2), (Lf.i t8), (Lf.i (0 : Int)), (Lf.i t20), (Lf.i t19), (Lf.i t20), (Lf.i tb0_0), (Lf.i tb0_1), (Lf.i tb0_2), (Lf.i tb0_3), (Lf.r tb0_4), (Lf.i tb0_5), (Lf.r tb0_6), (Lf.r tb0_7), (Lf.r tb0_8), (Lf.r tb0_9), (Lf.i tb1_0), (Lf.i tb1_1), (Lf.i tb1_2), (Lf.i tb1_3), (Lf.i tb1_4), (Lf.i tb1_5), (Lf.r tb1_6)]) ∧
    (t20 ≥ t19 →
      Q 0 [] [(Lf.i t8)])) →
    EV 11 [] [.i t2, .i t8, .i t19, .i t20, .i tb0_0, .i tb0_1, .i tb0_2, .i tb0_3, .r tb0_4, .i tb0_5, .r tb0_6, .r tb0_7, .r tb0_8, .r tb0_9, .i tb1_0, .i tb1_1, .i tb1_2, .i tb1_3, .i tb1_4, .i tb1_5, .r tb1_6]
  p27 : ∀ {t2 : Int} {t8 : Int} {t10 : Int} {t11 : Int} {t19 : Int} {t20 : Int} {tb0_0 : Int} {tb0_1 : Int} {tb0_2 : Int} {tb0_3 : Int} {tb0_4 : List (List AV)} {tb0_5 : Int} {tb0_6 : List (List AV)} {tb0_7 : List (List AV)} {tb0_8 : List (List AV)} {tb0_9 : List (List AV)} {tb1_0 : Int} {tb1_1 : Int} {tb1_2 : Int} {tb1_3 : Int} {tb1_4 : Int} {tb1_5 : Int} {tb1_6 : List (List AV)}, (
    (t11 < (((List.length tb1_6) : Nat) : Int) →
      ((0 : Int) ≤ t11) ∧
      (t11 ≤ (((List.length tb1_6) : Nat) : Int)) ∧
      (EC Try.prog G20 [] [(Lf.i tb0_0), (Lf.i tb0_1), (Lf.i tb0_2), (Lf.i tb0_3), (Lf.r tb0_4), (Lf.i tb0_5), (Lf.r tb0_6), (Lf.r tb0_7), (Lf.r tb0_8), (Lf.r tb0_9), (Lf.i tb1_0), (Lf.i tb1_1), (Lf.i tb1_2), (Lf.i tb1_3), (Lf.i tb1_4), (Lf.i tb1_5), (Lf.r tb1_6), (Lf.r (List.take (Int.toNat t11) tb1_6))] (fun x rs vs => (x = 0 ∧ ∃ (y1_0 : Int), rs = [] ∧ vs = [.i y1_0] ∧
        ((y1_0 < t2 →
            ((0 : Int) ≤ (IntKind.wrap .i64 (t11 + (1 : Int)))) ∧
            ((IntKind.wrap .i64 (t11 + (1 : Int))) ≤ (((List.length tb1_6) : Nat) : Int)) ∧
            (EC Try.prog G20 [] [(Lf.i tb0_0), (Lf.i tb0_1), (Lf.i tb0_2), (Lf.i tb0_3), (Lf.r tb0_4), (Lf.i tb0_5), (Lf.r tb0_6), (Lf.r tb0_7), (Lf.r tb0_8), (Lf.r tb0_9), (Lf.i tb1_0), (Lf.i tb1_1), (Lf.i tb1_2), (Lf.i tb1_3), (Lf.i tb1_4), (Lf.i tb1_5), (Lf.r tb1_6), (Lf.r (List.take (Int.toNat (IntKind.wrap .i64 (t11 + (1 : Int)))) tb1_6))] (fun x rs vs => (x = 0 ∧ ∃ (y3_0 : Int), rs = [] ∧ vs = [.i y3_0] ∧
              (EV 38 [] [(Lf.i t2), (Lf.i t8), (Lf.i t10), (Lf.i t11), (Lf.i t19), (Lf.i t20), (Lf.b (decide (y3_0 < t2))), (Lf.i tb0_0), (Lf.i tb0_1), (Lf.i tb0_2), (Lf.i tb0_3), (Lf.r tb0_4), (Lf.i tb0_5), (Lf.r tb0_6), (Lf.r tb0_7), (Lf.r tb0_8), (Lf.r tb0_9), (Lf.i tb1_0), (Lf.i tb1_1), (Lf.i tb1_2), (Lf.i tb1_3), (Lf.i tb1_4), (Lf.i tb1_5), (Lf.r tb1_6)]))))) ∧
          (y1_0 ≥ t2 →
            EV 38 [] [(Lf.i t2), (Lf.i t8), (Lf.i t10), (Lf.i t11), (Lf.i t19), (Lf.i t20), (Lf.b false), (Lf.i tb0_0), (Lf.i tb0_1), (Lf.i tb0_2), (Lf.i tb0_3), (Lf.r tb0_4), (Lf.i tb0_5), (Lf.r tb0_6), (Lf.r tb0_7), (Lf.r tb0_8), (Lf.r tb0_9), (Lf.i tb1_0), (Lf.i tb1_1), (Lf.i tb1_2), (Lf.i tb1_3), (Lf.i tb1_4), (Lf.i tb1_5), (Lf.r tb1_6)])))))) ∧
    (t11 ≥ (((List.length tb1_6) : Nat) : Int) →
      EV 11 [] [(Lf.i t2), (Lf.i t8), (Lf.i t19), (Lf.i (IntKind.wrap .i64 (t20 + (1 : Int)))), (Lf.i tb0_0), (Lf.i tb0_1), (Lf.i tb0_2), (Lf.i tb0_3), (Lf.r tb0_4), (Lf.i tb0_5), (Lf.r tb0_6), (Lf.r tb0_7), (Lf.r tb0_8), (Lf.r tb0_9), (Lf.i tb1_0), (Lf.i tb1_1), (Lf.i tb1_2), (Lf.i tb1_3), (Lf.i tb1_4), (Lf.i tb1_5), (Lf.r tb1_6)])) →
    EV 27 [] [.i t2, .i t8, .i t10, .i t11, .i t19, .i t20, .i tb0_0, .i tb0_1, .i tb0_2, .i tb0_3, .r tb0_4, .i tb0_5, .r tb0_6, .r tb0_7, .r tb0_8, .r tb0_9, .i tb1_0, .i tb1_1, .i tb1_2, .i tb1_3, .i tb1_4, .i tb1_5, .r tb1_6]
  p38 : ∀ {t2 : Int} {t8 : Int} {t10 : Int} {t11 : Int} {t19 : Int} {t20 : Int} {t51 : Bool} {tb0_0 : Int} {tb0_1 : Int} {tb0_2 : Int} {tb0_3 : Int} {tb0_4 : List (List AV)} {tb0_5 : Int} {tb0_6 : List (List AV)} {tb0_7 : List (List AV)} {tb0_8 : List (List AV)} {tb0_9 : List (List AV)} {tb1_0 : Int} {tb1_1 : Int} {tb1_2 : Int} {tb1_3 : Int} {tb1_4 : Int} {tb1_5 : Int} {tb1_6 : List (List AV)}, (
    (t51 = true →
      EV 11 [] [(Lf.i t2), (Lf.i t8), (Lf.i t19), (Lf.i (IntKind.wrap .i64 (t20 + (1 : Int)))), (Lf.i tb0_0), (Lf.i tb0_1), (Lf.i tb0_2), (Lf.i tb0_3), (Lf.r tb0_4), (Lf.i tb0_5), (Lf.r tb0_6), (Lf.r tb0_7), (Lf.r tb0_8), (Lf.r tb0_9), (Lf.i tb1_0), (Lf.i tb1_1), (Lf.i tb1_2), (Lf.i tb1_3), (Lf.i tb1_4), (Lf.i tb1_5), (Lf.r tb1_6)]) ∧
    (t51 = false →
      ((0 : Int) ≤ t11) ∧
      (tb1_6[(Int.toNat t11)]? = some [(AV.int .i64 (cIS tb1_6 (Int.toNat t11) 0)), (AV.int .i64 (cIS tb1_6 (Int.toNat t11) 1)), (AV.int .i64 (cIS tb1_6 (Int.toNat t11) 2))]) ∧
      (EC Try.prog G41 [] [(Lf.i (cIS tb1_6 (Int.toNat t11) 0)), (Lf.i (cIS tb1_6 (Int.toNat t11) 1)), (Lf.i (cIS tb1_6 (Int.toNat t11) 2)), (Lf.i tb0_0), (Lf.i tb0_1), (Lf.i tb0_2), (Lf.i tb0_3), (Lf.b false)] (fun x rs vs => (x = 0 ∧ ∃ (y1_0 : Int), rs = [] ∧ vs = [.i y1_0] ∧
        (EV 27 [] [(Lf.i t2), (Lf.i (arS.mx t8 (IntKind.wrap .i64 (t10 + y1_0)))), (Lf.i (IntKind.wrap .i64 (t10 + y1_0))), (Lf.i (IntKind.wrap .i64 (t11 + (1 : Int)))), (Lf.i t19), (Lf.i t20), (Lf.i tb0_0), (Lf.i tb0_1), (Lf.i tb0_2), (Lf.i tb0_3), (Lf.r tb0_4), (Lf.i tb0_5), (Lf.r tb0_6), (Lf.r tb0_7), (Lf.r tb0_8), (Lf.r tb0_9), (Lf.i tb1_0), (Lf.i tb1_1), (Lf.i tb1_2), (Lf.i tb1_3), (Lf.i tb1_4), (Lf.i tb1_5), (Lf.r tb1_6)])))))) →
    EV 38 [] [.i t2, .i t8, .i t10, .i t11, .i t19, .i t20, .b t51, .i tb0_0, .i tb0_1, .i tb0_2, .i tb0_3, .r tb0_4, .i tb0_5, .r tb0_6, .r tb0_7, .r tb0_8, .r tb0_9, .i tb1_0, .i tb1_1, .i tb1_2, .i tb1_3, .i tb1_4, .i tb1_5, .r tb1_6]

set_option maxHeartbeats 0 in
theorem V22.of {Q : Nat → Rs → List Lf → Prop} {A : Ar} {CE : Nat → Rs → List Lf → (Nat → Rs → List Lf → Prop) → Prop} {CK : Nat → Rs → List Lf → Cont → Prop} {Dn : Nat → List Bool → List AItem → Nat → List Bool → List AV → List ABlk → Prop} {EV RR : Nat → Rs → List Lf → Prop} (W : Wk Try.prog Try.f22 I22 L22 Q A sg CE CK Dn EV RR) : V22 EV Q := by
  have hA := W.hA
  refine ⟨?_, ?_, ?_⟩
  · intro t2 t8 t19 t20 tb0_0 tb0_1 tb0_2 tb0_3 tb0_4 tb0_5 tb0_6 tb0_7 tb0_8 tb0_9 tb1_0 tb1_1 tb1_2 tb1_3 tb1_4 tb1_5 tb1_6 h
    refine W.step 80 fun hp => ?_
    cbv
    refine ⟨imI hA fun e0 => have c0 : t20 < t19 := (by have q := (cmpE (op := .lss) hA e0); subst hA; exact q); (by subst hA; exact (h.1 c0)), imI hA fun e0 => have c0 : t20 ≥ t19 := (by have q := (cmpE (op := .lss) hA e0); subst hA; exact q); (by rw [W.rr]; exact (by subst hA; exact (h.2 c0)))⟩
  · intro t2 t8 t10 t11 t19 t20 tb0_0 tb0_1 tb0_2 tb0_3 tb0_4 tb0_5 tb0_6 tb0_7 tb0_8 tb0_9 tb1_0 tb1_1 tb1_2 tb1_3 tb1_4 tb1_5 tb1_6 h
    refine W.step 80 fun hp => ?_
    cbv
    refine ⟨imI hA fun e0 => have c0 : t11 < (((List.length tb1_6) : Nat) : Int) := (by have q := (cmpE (op := .lss) hA e0); subst hA; exact q); ⟨ndI hA (And.intro (by subst hA; exact (h.1 c0).1) (by subst hA; exact (h.1 c0).2.1)), ⟨?_, trivial⟩⟩, imI hA fun e0 => have c0 : t11 ≥ (((List.length tb1_6) : Nat) : Int) := (by have q := (cmpE (op := .lss) hA e0); subst hA; exact q); (by subst hA; exact (h.2 c0))⟩
    · refine W.callD (by rfl) (h.1 c0).2.2 (by subst hA; rfl) (by subst hA; rfl) ?_
      rintro x rs vs hp1 hq1
      rcases hq1 with ⟨rfl, y1_0, rfl, rfl, k1⟩
      · cbv
        refine ?_
        · refine W.draw 80 (by rfl) ?_
          cbv
          refine ⟨fun e2 => have c2 : y1_0 < t2 := (by have q := (cmpE (op := .lss) hA e2); subst hA; exact q); ?_, fun e2 => have c2 : y1_0 ≥ t2 := (by have q := (cmpE (op := .lss) hA e2); subst hA; exact q); ?_⟩
          · refine W.draw 80 (by rfl) ?_
            cbv
            refine ⟨ndI hA (And.intro (by subst hA; exact (k1.1 c2).1) (by subst hA; exact (k1.1 c2).2.1)), ⟨?_, trivial⟩⟩
            · refine W.callD (by rfl) (k1.1 c2).2.2 (by subst hA; rfl) (by subst hA; rfl) ?_
              rintro x rs vs hp3 hq3
              rcases hq3 with ⟨rfl, y3_0, rfl, rfl, k3⟩
              · cbv
                refine ?_
                · refine W.draw 80 (by rfl) ?_
                  cbv
                  refine (by subst hA; exact k3)
          · refine W.draw 80 (by rfl) ?_
            cbv
            refine ⟨(by subst hA; exact (k1.2 c2)), trivial⟩
  · intro t2 t8 t10 t11 t19 t20 t51 tb0_0 tb0_1 tb0_2 tb0_3 tb0_4 tb0_5 tb0_6 tb0_7 tb0_8 tb0_9 tb1_0 tb1_1 tb1_2 tb1_3 tb1_4 tb1_5 tb1_6 h
    refine W.step 80 fun hp => ?_
    cbv
    refine ⟨imI hA fun e0 => have c0 : t51 = true := (by have q := e0; subst hA; exact q); (by subst hA; exact (h.1 c0)), imI hA fun e0 => have c0 : t51 = false := (by have q := e0; subst hA; exact q); ⟨ndI hA (And.intro (by subst hA; exact (h.2 c0).1) (by subst hA; exact (h.2 c0).2.1)), ⟨?_, trivial⟩⟩⟩
    · refine W.callD (by rfl) (h.2 c0).2.2 (by subst hA; rfl) (by subst hA; rfl) ?_
      rintro x rs vs hp1 hq1
      rcases hq1 with ⟨rfl, y1_0, rfl, rfl, k1⟩
      · cbv
        refine ?_
        · refine W.draw 80 (by rfl) ?_
          cbv
          refine (by subst hA; exact k1)

end
set_option maxHeartbeats 0 in
/-- To enter. -/
theorem E22 {Q : Nat → Rs → List Lf → Prop} {a0_0 : Int} {a0_1 : Int} {a0_2 : Int} {a0_3 : Int} {a0_4 : List (List AV)} {a0_5 : Int} {a0_6 : List (List AV)} {a0_7 : List (List AV)} {a0_8 : List (List AV)} {a0_9 : List (List AV)} {a1 : Int} {a2 : Int} (h : ∀ EV : Nat → Rs → List Lf → Prop, V22 EV Q →
    ((0 : Int) ≤ a1) ∧
    (a0_8[(Int.toNat a1)]? = some [(AV.int .i64 (cIS a0_8 (Int.toNat a1) 0)), (AV.int .i64 (cIS a0_8 (Int.toNat a1) 1)), (AV.int .i64 (cIS a0_8 (Int.toNat a1) 2)), (AV.int .i64 (cIS a0_8 (Int.toNat a1) 3)), (AV.int .i64 (cIS a0_8 (Int.toNat a1) 4)), (AV.int .i64 (cIS a0_8 (Int.toNat a1) 5)), (AV.inl 3 (cRS a0_8 (Int.toNat a1) 6))]) ∧
    (EV 11 [] [(Lf.i a2), (Lf.i (0 : Int)), (Lf.i (((List.length (cRS a0_8 (Int.toNat a1) 6)) : Nat) : Int)), (Lf.i (0 : Int)), (Lf.i a0_0), (Lf.i a0_1), (Lf.i a0_2), (Lf.i a0_3), (Lf.r a0_4), (Lf.i a0_5), (Lf.r a0_6), (Lf.r a0_7), (Lf.r a0_8), (Lf.r a0_9), (Lf.i (cIS a0_8 (Int.toNat a1) 0)), (Lf.i (cIS a0_8 (Int.toNat a1) 1)), (Lf.i (cIS a0_8 (Int.toNat a1) 2)), (Lf.i (cIS a0_8 (Int.toNat a1) 3)), (Lf.i (cIS a0_8 (Int.toNat a1) 4)), (Lf.i (cIS a0_8 (Int.toNat a1) 5)), (Lf.r (cRS a0_8 (Int.toNat a1) 6))])) :
    EC Try.prog G22 [] [.i a0_0, .i a0_1, .i a0_2, .i a0_3, .r a0_4, .i a0_5, .r a0_6, .r a0_7, .r a0_8, .r a0_9, .i a1, .i a2] Q := by
  obtain ⟨A, hA⟩ : ∃ A, A = arS := ⟨_, rfl⟩
  refine Inst.enter (I := I22) hA mixed F22_at sg L22 80 rfl fun CE CK Dn EV RR W hp => ?_
  have h := h  EV (V22.of W)
  cbv
  refine ⟨ndI hA (And.intro (by subst hA; exact h.1) (by subst hA; exact h.2.1)), (by subst hA; exact h.2.2)⟩

-- 4: signalbox/signalboxlaw24.SectionTells DRAWN
section
structure V4 (EV Q : Nat → Rs → List Lf → Prop) : Prop where
  p43 : ∀ {R0 : List (List AV)} {t1 : Int} {t2 : Int} {t61 : Int} {t62 : Int} {tb0_0 : Int} {tb0_1 : Int} {tb0_2 : Int} {tb0_3 : Int} {tb0_4 : List (List AV)} {tb0_5 : Int} {tb0_6 : List (List AV)} {tb0_7 : List (List AV)} {tb0_8 : List (List AV)} {tb0_9 : List (List AV)} {tb1_0 : Int} {tb1_1 : Int} {tb1_2 : Int} {tb1_3 : Int} {tb1_4 : Int} {tb1_5 : Int} {tb1_6 : List (List AV)}, (pursS R0 = true → 
    (t62 < t61 →
      ((0 : Int) ≤ t62) ∧
      (t62 < (((List.length R0) : Nat) : Int)) ∧
      (R0[(Int.toNat t62)]? = some [(AV.int .i64 (cIS R0 (Int.toNat t62) 0)), (AV.int .i64 (cIS R0 (Int.toNat t62) 1))]) ∧
      (t62 ≤ (((List.length tb1_6) : Nat) : Int)) ∧
      (EC Try.prog G20 [] [(Lf.i tb0_0), (Lf.i tb0_1), (Lf.i tb0_2), (Lf.i tb0_3), (Lf.r tb0_4), (Lf.i tb0_5), (Lf.r tb0_6), (Lf.r tb0_7), (Lf.r tb0_8), (Lf.r tb0_9), (Lf.i tb1_0), (Lf.i tb1_1), (Lf.i tb1_2), (Lf.i tb1_3), (Lf.i tb1_4), (Lf.i tb1_5), (Lf.r tb1_6), (Lf.r (List.take (Int.toNat t62) tb1_6))] (fun x rs vs => (x = 0 ∧ ∃ (y1_0 : Int), rs = [] ∧ vs = [.i y1_0] ∧
        (((cIS R0 (Int.toNat t62) 0) ≠ y1_0 →
            EV 55 [R0] [(Lf.i t1), (Lf.i t2), (Lf.i t61), (Lf.i t62), (Lf.b true), (Lf.i tb0_0), (Lf.i tb0_1), (Lf.i tb0_2), (Lf.i tb0_3), (Lf.r tb0_4), (Lf.i tb0_5), (Lf.r tb0_6), (Lf.r tb0_7), (Lf.r tb0_8), (Lf.r tb0_9), (Lf.i tb1_0), (Lf.i tb1_1), (Lf.i tb1_2), (Lf.i tb1_3), (Lf.i tb1_4), (Lf.i tb1_5), (Lf.r tb1_6)]) ∧
          ((cIS R0 (Int.toNat t62) 0) = y1_0 →
            ((0 : Int) ≤ (IntKind.wrap .i64 (t62 + (1 : Int)))) ∧
            ((IntKind.wrap .i64 (t62 + (1 : Int))) ≤ (((List.length tb1_6) : Nat) : Int)) ∧
            (EC Try.prog G20 [] [(Lf.i tb0_0), (Lf.i tb0_1), (Lf.i tb0_2), (Lf.i tb0_3), (Lf.r tb0_4), (Lf.i tb0_5), (Lf.r tb0_6), (Lf.r tb0_7), (Lf.r tb0_8), (Lf.r tb0_9), (Lf.i tb1_0), (Lf.i tb1_1), (Lf.i tb1_2), (Lf.i tb1_3), (Lf.i tb1_4), (Lf.i tb1_5), (Lf.r tb1_6), (Lf.r (List.take (Int.toNat (IntKind.wrap .i64 (t62 + (1 : Int)))) tb1_6))] (fun x rs vs => (x = 0 ∧ ∃ (y3_0 : Int), rs = [] ∧ vs = [.i y3_0] ∧
              (EV 55 [R0] [(Lf.i t1), (Lf.i t2), (Lf.i t61), (Lf.i t62), (Lf.b ((cIS R0 (Int.toNat t62) 1) != y3_0)), (Lf.i tb0_0), (Lf.i tb0_1), (Lf.i tb0_2), (Lf.i tb0_3), (Lf.r tb0_4), (Lf.i tb0_5), (Lf.r tb0_6), (Lf.r tb0_7), (Lf.r tb0_8), (Lf.r tb0_9), (Lf.i tb1_0), (Lf.i tb1_1), (Lf.i tb1_2), (Lf.i tb1_3), (Lf.i tb1_4), (Lf.i tb1_5), (Lf.r tb1_6)])))))))))) ∧
    (t62 ≥ t61 →
      EC Try.prog G18 [] [(Lf.i tb0_0), (Lf.i tb0_1), (Lf.i tb0_2), (Lf.i tb0_3), (Lf.r tb0_4), (Lf.i tb0_5), (Lf.r tb0_6), (Lf.r tb0_7), (Lf.r tb0_8), (Lf.r tb0_9), (Lf.i t1)] (fun x rs vs => (x = 0 ∧ ∃ (Y1_0 : List (List AV)) (y1_0 : Nat), rs = [Y1_0] ∧ vs = [.n y1_0] ∧
        (EC Try.prog G21 [] [(Lf.i tb0_0), (Lf.i tb0_1), (Lf.i tb0_2), (Lf.i tb0_3), (Lf.r tb0_4), (Lf.i tb0_5), (Lf.r tb0_6), (Lf.r tb0_7), (Lf.r tb0_8), (Lf.r tb0_9), (Lf.i t1)] (fun x rs vs => (x = 0 ∧ ∃ (Y2_0 : List (List AV)), rs = [Y2_0] ∧ vs = [] ∧
            (EV 63 [Y1_0, Y2_0] [(Lf.i t1), (Lf.i t2), (Lf.n y1_0), (Lf.i tb0_0), (Lf.i tb0_1), (Lf.i tb0_2), (Lf.i tb0_3), (Lf.r tb0_4), (Lf.i tb0_5), (Lf.r tb0_6), (Lf.r tb0_7), (Lf.r tb0_8), (Lf.r tb0_9), (Lf.i tb1_0), (Lf.i tb1_1), (Lf.i tb1_2), (Lf.i tb1_3), (Lf.i tb1_4), (Lf.i tb1_5), (Lf.r tb1_6)])))))))) →
    EV 43 [R0] [.i t1, .i t2, .i t61, .i t62, .i tb0_0, .i tb0_1, .i tb0_2, .i tb0_3, .r tb0_4, .i tb0_5, .r tb0_6, .r tb0_7, .r tb0_8, .r tb0_9, .i tb1_0, .i tb1_1, .i tb1_2, .i tb1_3, .i tb1_4, .i tb1_5, .r tb1_6]
  p55 : ∀ {R0 : List (List AV)} {t1 : Int} {t2 : Int} {t61 : Int} {t62 : Int} {t89 : Bool} {tb0_0 : Int} {tb0_1 : Int} {tb0_2 : Int} {tb0_3 : Int} {tb0_4 : List (List AV)} {tb0_5 : Int} {tb0_6 : List (List AV)} {tb0_7 : List (List AV)} {tb0_8 : List (List AV)} {tb0_9 : List (List AV)} {tb1_0 : Int} {tb1_1 : Int} {tb1_2 : Int} {tb1_3 : Int} {tb1_4 : Int} {tb1_5 : Int} {tb1_6 : List (List AV)}, (pursS R0 = true → 
    (t89 = true →
      Q 0 [] [(Lf.b false)]) ∧
    (t89 = false →
      EV 43 [R0] [(Lf.i t1), (Lf.i t2), (Lf.i t61), (Lf.i (IntKind.wrap .i64 (t62 + (1 : Int)))), (Lf.i tb0_0), (Lf.i tb0_1), (Lf.i tb0_2), (Lf.i tb0_3), (Lf.r tb0_4), (Lf.i tb0_5), (Lf.r tb0_6), (Lf.r tb0_7), (Lf.r tb0_8), (Lf.r tb0_9), (Lf.i tb1_0), (Lf.i tb1_1), (Lf.i tb1_2), (Lf.i tb1_3), (Lf.i tb1_4), (Lf.i tb1_5), (Lf.r tb1_6)])) →
    EV 55 [R0] [.i t1, .i t2, .i t61, .i t62, .b t89, .i tb0_0, .i tb0_1, .i tb0_2, .i tb0_3, .r tb0_4, .i tb0_5, .r tb0_6, .r tb0_7, .r tb0_8, .r tb0_9, .i tb1_0, .i tb1_1, .i tb1_2, .i tb1_3, .i tb1_4, .i tb1_5, .r tb1_6]
  p63 : ∀ {R0 : List (List AV)} {R1 : List (List AV)} {t1 : Int} {t2 : Int} {t11 : Nat} {tb0_0 : Int} {tb0_1 : Int} {tb0_2 : Int} {tb0_3 : Int} {tb0_4 : List (List AV)} {tb0_5 : Int} {tb0_6 : List (List AV)} {tb0_7 : List (List AV)} {tb0_8 : List (List AV)} {tb0_9 : List (List AV)} {tb1_0 : Int} {tb1_1 : Int} {tb1_2 : Int} {tb1_3 : Int} {tb1_4 : Int} {tb1_5 : Int} {tb1_6 : List (List AV)}, (pursS R0 = true → pursS R1 = true → 
    ((((List.length tb1_6) : Nat) : Int) = (0 : Int) →
      EV 69 [R0, []] [(Lf.i t1), (Lf.i t2), (Lf.n t11), (Lf.i tb0_0), (Lf.i tb0_1), (Lf.i tb0_2), (Lf.i tb0_3), (Lf.r tb0_4), (Lf.i tb0_5), (Lf.r tb0_6), (Lf.r tb0_7), (Lf.r tb0_8), (Lf.r tb0_9)]) ∧
    ((((List.length tb1_6) : Nat) : Int) ≠ (0 : Int) →
      EV 69 [R0, R1] [(Lf.i t1), (Lf.i t2), (Lf.n t11), (Lf.i tb0_0), (Lf.i tb0_1), (Lf.i tb0_2), (Lf.i tb0_3), (Lf.r tb0_4), (Lf.i tb0_5), (Lf.r tb0_6), (Lf.r tb0_7), (Lf.r tb0_8), (Lf.r tb0_9)])) →
    EV 63 [R0, R1] [.i t1, .i t2, .n t11, .i tb0_0, .i tb0_1, .i tb0_2, .i tb0_3, .r tb0_4, .i tb0_5, .r tb0_6, .r tb0_7, .r tb0_8, .r tb0_9, .i tb1_0, .i tb1_1, .i tb1_2, .i tb1_3, .i tb1_4, .i tb1_5, .r tb1_6]
  p69 : ∀ {R0 : List (List AV)} {R1 : List (List AV)} {t1 : Int} {t2 : Int} {t11 : Nat} {tb0_0 : Int} {tb0_1 : Int} {tb0_2 : Int} {tb0_3 : Int} {tb0_4 : List (List AV)} {tb0_5 : Int} {tb0_6 : List (List AV)} {tb0_7 : List (List AV)} {tb0_8 : List (List AV)} {tb0_9 : List (List AV)}, (pursS R0 = true → pursS R1 = true → 
    (((t11 : Nat) : Int) ≠ (((List.length R1) : Nat) : Int) →
      Q 0 [] [(Lf.b false)]) ∧
    (((t11 : Nat) : Int) = (((List.length R1) : Nat) : Int) →
      EV 82 [R0, R1] [(Lf.i t1), (Lf.i t2), (Lf.n t11), (Lf.i ((t11 : Nat) : Int)), (Lf.i (0 : Int)), (Lf.i tb0_0), (Lf.i tb0_1), (Lf.i tb0_2), (Lf.i tb0_3), (Lf.r tb0_4), (Lf.i tb0_5), (Lf.r tb0_6), (Lf.r tb0_7), (Lf.r tb0_8), (Lf.r tb0_9)])) →
    EV 69 [R0, R1] [.i t1, .i t2, .n t11, .i tb0_0, .i tb0_1, .i tb0_2, .i tb0_3, .r tb0_4, .i tb0_5, .r tb0_6, .r tb0_7, .r tb0_8, .r tb0_9]
  p82 : ∀ {R0 : List (List AV)} {R1 : List (List AV)} {t1 : Int} {t2 : Int} {t11 : Nat} {t107 : Int} {t108 : Int} {tb0_0 : Int} {tb0_1 : Int} {tb0_2 : Int} {tb0_3 : Int} {tb0_4 : List (List AV)} {tb0_5 : Int} {tb0_6 : List (List AV)} {tb0_7 : List (List AV)} {tb0_8 : List (List AV)} {tb0_9 : List (List AV)}, (pursS R0 = true → pursS R1 = true → 
    (t108 < t107 →
      ((0 : Int) ≤ t108) ∧
      (t108 < ((t11 : Nat) : Int)) ∧
      (R0[(Int.toNat t108)]? = some [(AV.int .i64 (cIS R0 (Int.toNat t108) 0))]) ∧
      (t108 < (((List.length R1) : Nat) : Int)) ∧
      (R1[(Int.toNat t108)]? = some [(AV.int .i64 (cIS R1 (Int.toNat t108) 0))]) ∧
      ((cIS R0 (Int.toNat t108) 0) ≠ (cIS R1 (Int.toNat t108) 0) →
        Q 0 [] [(Lf.b false)]) ∧
      ((cIS R0 (Int.toNat t108) 0) = (cIS R1 (Int.toNat t108) 0) →
        EV 82 [R0, R1] [(Lf.i t1), (Lf.i t2), (Lf.n t11), (Lf.i t107), (Lf.i (IntKind.wrap .i64 (t108 + (1 : Int)))), (Lf.i tb0_0), (Lf.i tb0_1), (Lf.i tb0_2), (Lf.i tb0_3), (Lf.r tb0_4), (Lf.i tb0_5), (Lf.r tb0_6), (Lf.r tb0_7), (Lf.r tb0_8), (Lf.r tb0_9)])) ∧
    (t108 ≥ t107 →
      EC Try.prog G19 [] [(Lf.i tb0_0), (Lf.i tb0_1), (Lf.i tb0_2), (Lf.i tb0_3), (Lf.r tb0_4), (Lf.i tb0_5), (Lf.r tb0_6), (Lf.r tb0_7), (Lf.r tb0_8), (Lf.r tb0_9), (Lf.i t1), (Lf.i t2)] (fun x rs vs => (x = 0 ∧ ∃ (y1_0 : Int), rs = [] ∧ vs = [.i y1_0] ∧
        (EC Try.prog G22 [] [(Lf.i tb0_0), (Lf.i tb0_1), (Lf.i tb0_2), (Lf.i tb0_3), (Lf.r tb0_4), (Lf.i tb0_5), (Lf.r tb0_6), (Lf.r tb0_7), (Lf.r tb0_8), (Lf.r tb0_9), (Lf.i t1), (Lf.i t2)] (fun x rs vs => (x = 0 ∧ ∃ (y2_0 : Int), rs = [] ∧ vs = [.i y2_0] ∧
            (Q 0 [] [(Lf.b (y1_0 == y2_0))])))))))) →
    EV 82 [R0, R1] [.i t1, .i t2, .n t11, .i t107, .i t108, .i tb0_0, .i tb0_1, .i tb0_2, .i tb0_3, .r tb0_4, .i tb0_5, .r tb0_6, .r tb0_7, .r tb0_8, .r tb0_9]

set_option maxHeartbeats 0 in
theorem V4.of {Q : Nat → Rs → List Lf → Prop} {A : Ar} {CE : Nat → Rs → List Lf → (Nat → Rs → List Lf → Prop) → Prop} {CK : Nat → Rs → List Lf → Cont → Prop} {Dn : Nat → List Bool → List AItem → Nat → List Bool → List AV → List ABlk → Prop} {EV RR : Nat → Rs → List Lf → Prop} (W : Wk Try.prog Try.f4 I4 L4 Q A sg CE CK Dn EV RR) : V4 EV Q := by
  have hA := W.hA
  refine ⟨?_, ?_, ?_, ?_, ?_⟩
  · intro R0 t1 t2 t61 t62 tb0_0 tb0_1 tb0_2 tb0_3 tb0_4 tb0_5 tb0_6 tb0_7 tb0_8 tb0_9 tb1_0 tb1_1 tb1_2 tb1_3 tb1_4 tb1_5 tb1_6 h
    refine W.step 80 fun hp => ?_
    have h := h hp.1
    cbv
    refine ⟨imI hA fun e0 => have c0 : t62 < t61 := (by have q := (cmpE (op := .lss) hA e0); subst hA; exact q); ⟨ndI hA (And.intro (by subst hA; exact (h.1 c0).1) (And.intro (by subst hA; exact (h.1 c0).2.1) rfl)), ⟨ndI hA (And.intro rfl (by subst hA; show R0[(0 + (Int.toNat t62))]? = some [(AV.int .i64 (cIS R0 (0 + (Int.toNat t62)) 0)), (AV.int .i64 (cIS R0 (0 + (Int.toNat t62)) 1))]; simp only [rappS_end, Nat.zero_add, Int.toNat_natCast]; exact (h.1 c0).2.2.1)), ⟨ndI hA (And.intro (by subst hA; exact (h.1 c0).1) (by subst hA; exact (h.1 c0).2.2.2.1)), ⟨?_, trivial⟩⟩⟩⟩, imI hA fun e0 => have c0 : t62 ≥ t61 := (by have q := (cmpE (op := .lss) hA e0); subst hA; exact q); ⟨?_, trivial⟩⟩
    · refine W.callD (by rfl) (h.1 c0).2.2.2.2 (by subst hA; rfl) (by subst hA; rfl) ?_
      rintro x rs vs hp1 hq1
      rcases hq1 with ⟨rfl, y1_0, rfl, rfl, k1⟩
      · cbv
        refine ?_
        · refine W.draw 80 (by rfl) ?_
          cbv
          refine ⟨fun e2 => have c2 : (cIS R0 (Int.toNat t62) 0) ≠ y1_0 := (by have q := (cmpE (op := .neq) hA e2); subst hA; have q : (cIS R0 (0 + (Int.toNat t62)) 0) ≠ y1_0 := q; simpa only [rappS_end, Nat.zero_add, Int.toNat_natCast] using q); ?_, fun e2 => have c2 : (cIS R0 (Int.toNat t62) 0) = y1_0 := (by have q := (cmpE (op := .neq) hA e2); subst hA; have q : (cIS R0 (0 + (Int.toNat t62)) 0) = y1_0 := q; simpa only [rappS_end, Nat.zero_add, Int.toNat_natCast] using q); ?_⟩
          · refine W.draw 80 (by rfl) ?_
            cbv
            refine ⟨⟨ndI hA (And.intro rfl (And.intro rfl rfl)), ⟨ndI hA (by subst hA; exact hp.1), (by subst hA; exact (k1.1 c2))⟩⟩, trivial⟩
          · refine W.draw 80 (by rfl) ?_
            cbv
            refine ⟨ndI hA (And.intro (by subst hA; exact (k1.2 c2).1) (by subst hA; exact (k1.2 c2).2.1)), ⟨?_, trivial⟩⟩
            · refine W.callD (by rfl) (k1.2 c2).2.2 (by subst hA; rfl) (by subst hA; rfl) ?_
              rintro x rs vs hp3 hq3
              rcases hq3 with ⟨rfl, y3_0, rfl, rfl, k3⟩
              · cbv
                refine ?_
                · refine W.draw 80 (by rfl) ?_
                  cbv
                  refine ⟨ndI hA (And.intro rfl (And.intro rfl rfl)), ⟨ndI hA (by subst hA; exact hp.1), (by subst hA; show EV 55 [R0] [(Lf.i t1), (Lf.i t2), (Lf.i t61), (Lf.i t62), (Lf.b ((cIS R0 (0 + (Int.toNat t62)) 1) != y3_0)), (Lf.i tb0_0), (Lf.i tb0_1), (Lf.i tb0_2), (Lf.i tb0_3), (Lf.r tb0_4), (Lf.i tb0_5), (Lf.r tb0_6), (Lf.r tb0_7), (Lf.r tb0_8), (Lf.r tb0_9), (Lf.i tb1_0), (Lf.i tb1_1), (Lf.i tb1_2), (Lf.i tb1_3), (Lf.i tb1_4), (Lf.i tb1_5), (Lf.r tb1_6)]; simp only [rappS_end, Nat.zero_add, Int.toNat_natCast]; exact k3)⟩⟩
    · refine W.callD (by rfl) (h.2 c0) (by subst hA; rfl) (by subst hA; rfl) ?_
      rintro x rs vs hp1 hq1
      rcases hq1 with ⟨rfl, Y1_0, y1_0, rfl, rfl, k1⟩
      · cbv
        refine ?_
        · refine W.draw 80 (by rfl) ?_
          cbv
          refine ⟨?_, trivial⟩
          · refine W.callD (by rfl) k1 (by subst hA; rfl) (by subst hA; rfl) ?_
            rintro x rs vs hp2 hq2
            rcases hq2 with ⟨rfl, Y2_0, rfl, rfl, k2⟩
            · cbv
              refine ?_
              · refine W.draw 80 (by rfl) ?_
                cbv
                refine ⟨ndI hA (And.intro rfl rfl), ⟨ndI hA (And.intro rfl (And.intro rfl rfl)), ⟨ndI hA (by subst hA; exact hp1.1), ⟨ndI hA (by subst hA; exact hp2.1), (by subst hA; exact k2)⟩⟩⟩⟩
  · intro R0 t1 t2 t61 t62 t89 tb0_0 tb0_1 tb0_2 tb0_3 tb0_4 tb0_5 tb0_6 tb0_7 tb0_8 tb0_9 tb1_0 tb1_1 tb1_2 tb1_3 tb1_4 tb1_5 tb1_6 h
    refine W.step 80 fun hp => ?_
    have h := h hp.1
    cbv
    refine ⟨imI hA fun e0 => have c0 : t89 = true := (by have q := e0; subst hA; exact q); (by rw [W.rr]; exact (by subst hA; exact (h.1 c0))), imI hA fun e0 => have c0 : t89 = false := (by have q := e0; subst hA; exact q); ⟨ndI hA (And.intro rfl (And.intro rfl rfl)), ⟨ndI hA (by subst hA; exact hp.1), (by subst hA; exact (h.2 c0))⟩⟩⟩
  · intro R0 R1 t1 t2 t11 tb0_0 tb0_1 tb0_2 tb0_3 tb0_4 tb0_5 tb0_6 tb0_7 tb0_8 tb0_9 tb1_0 tb1_1 tb1_2 tb1_3 tb1_4 tb1_5 tb1_6 h
    refine W.step 80 fun hp => ?_
    have h := h hp.1 hp.2.1
    cbv
    refine ⟨imI hA fun e0 => have c0 : (((List.length tb1_6) : Nat) : Int) = (0 : Int) := (by have q := (cmpE (op := .eql) hA e0); subst hA; exact q); ⟨ndI hA (And.intro rfl rfl), ⟨ndI hA (And.intro (by subst hA; show 0 = 0; (first | rfl | simp [rappS_end] | (simp only [rappS_end, List.length_append, List.length_set, List.length_cons, List.length_nil]; omega))) (And.intro rfl (by subst hA; show 0 = 0; (first | rfl | simp [rappS_end] | (simp only [rappS_end, List.length_append, List.length_set, List.length_cons, List.length_nil]; omega))))), ⟨ndI hA (by subst hA; exact hp.1), ⟨ndI hA (by subst hA; exact vpur), (by subst hA; exact (h.1 c0))⟩⟩⟩⟩, imI hA fun e0 => have c0 : (((List.length tb1_6) : Nat) : Int) ≠ (0 : Int) := (by have q := (cmpE (op := .eql) hA e0); subst hA; exact q); ⟨ndI hA (And.intro rfl rfl), ⟨ndI hA (And.intro rfl (And.intro rfl rfl)), ⟨ndI hA (by subst hA; exact hp.1), ⟨ndI hA (by subst hA; exact hp.2.1), (by subst hA; exact (h.2 c0))⟩⟩⟩⟩⟩
  · intro R0 R1 t1 t2 t11 tb0_0 tb0_1 tb0_2 tb0_3 tb0_4 tb0_5 tb0_6 tb0_7 tb0_8 tb0_9 h
    refine W.step 80 fun hp => ?_
    have h := h hp.1 hp.2.1
    cbv
    refine ⟨ndI hA rfl, ⟨ndI hA rfl, ⟨imI hA fun e0 => have c0 : ((t11 : Nat) : Int) ≠ (((List.length R1) : Nat) : Int) := (by have q := (cmpE (op := .neq) hA e0); subst hA; exact q); (by rw [W.rr]; exact (by subst hA; exact (h.1 c0))), imI hA fun e0 => have c0 : ((t11 : Nat) : Int) = (((List.length R1) : Nat) : Int) := (by have q := (cmpE (op := .neq) hA e0); subst hA; exact q); ⟨ndI hA rfl, ⟨ndI hA (And.intro rfl rfl), ⟨ndI hA (And.intro rfl (And.intro rfl rfl)), ⟨ndI hA (by subst hA; exact hp.1), ⟨ndI hA (by subst hA; exact hp.2.1), (by subst hA; exact (h.2 c0))⟩⟩⟩⟩⟩⟩⟩⟩
  · intro R0 R1 t1 t2 t11 t107 t108 tb0_0 tb0_1 tb0_2 tb0_3 tb0_4 tb0_5 tb0_6 tb0_7 tb0_8 tb0_9 h
    refine W.step 80 fun hp => ?_
    have h := h hp.1 hp.2.1
    cbv
    refine ⟨imI hA fun e0 => have c0 : t108 < t107 := (by have q := (cmpE (op := .lss) hA e0); subst hA; exact q); ⟨ndI hA (And.intro (by subst hA; exact (h.1 c0).1) (And.intro (by subst hA; exact (h.1 c0).2.1) rfl)), ⟨ndI hA (And.intro rfl (by subst hA; show R0[(0 + (Int.toNat t108))]? = some [(AV.int .i64 (cIS R0 (0 + (Int.toNat t108)) 0))]; simp only [rappS_end, Nat.zero_add, Int.toNat_natCast]; exact (h.1 c0).2.2.1)), ⟨ndI hA (And.intro (by subst hA; exact (h.1 c0).1) (And.intro (by subst hA; exact (h.1 c0).2.2.2.1) rfl)), ⟨ndI hA (And.intro rfl (by subst hA; show R1[(0 + (Int.toNat t108))]? = some [(AV.int .i64 (cIS R1 (0 + (Int.toNat t108)) 0))]; simp only [rappS_end, Nat.zero_add, Int.toNat_natCast]; exact (h.1 c0).2.2.2.2.1)), ⟨imI hA fun e1 => have c1 : (cIS R0 (Int.toNat t108) 0) ≠ (cIS R1 (Int.toNat t108) 0) := (by have q := (cmpE (op := .neq) hA e1); subst hA; have q : (cIS R0 (0 + (Int.toNat t108)) 0) ≠ (cIS R1 (0 + (Int.toNat t108)) 0) := q; simpa only [rappS_end, Nat.zero_add, Int.toNat_natCast] using q); (by rw [W.rr]; exact (by subst hA; exact ((h.1 c0).2.2.2.2.2.1 c1))), imI hA fun e1 => have c1 : (cIS R0 (Int.toNat t108) 0) = (cIS R1 (Int.toNat t108) 0) := (by have q := (cmpE (op := .neq) hA e1); subst hA; have q : (cIS R0 (0 + (Int.toNat t108)) 0) = (cIS R1 (0 + (Int.toNat t108)) 0) := q; simpa only [rappS_end, Nat.zero_add, Int.toNat_natCast] using q); ⟨ndI hA (And.intro rfl rfl), ⟨ndI hA (And.intro rfl (And.intro rfl rfl)), ⟨ndI hA (by subst hA; exact hp.1), ⟨ndI hA (by subst hA; exact hp.2.1), (by subst hA; exact ((h.1 c0).2.2.2.2.2.2 c1))⟩⟩⟩⟩⟩⟩⟩⟩⟩, imI hA fun e0 => have c0 : t108 ≥ t107 := (by have q := (cmpE (op := .lss) hA e0); subst hA; exact q); ⟨?_, trivial⟩⟩
    · refine W.callD (by rfl) (h.2 c0) (by subst hA; rfl) (by subst hA; rfl) ?_
      rintro x rs vs hp1 hq1
      rcases hq1 with ⟨rfl, y1_0, rfl, rfl, k1⟩
      · cbv
        refine ?_
        · refine W.draw 80 (by rfl) ?_
          cbv
          refine ⟨?_, trivial⟩
          · refine W.callD (by rfl) k1 (by subst hA; rfl) (by subst hA; rfl) ?_
            rintro x rs vs hp2 hq2
            rcases hq2 with ⟨rfl, y2_0, rfl, rfl, k2⟩
            · cbv
              refine ?_
              · refine W.draw 80 (by rfl) ?_
                cbv
                refine (by rw [W.rr]; exact (by subst hA; exact k2))

end
set_option maxHeartbeats 0 in
/-- To enter. -/
theorem E4 {Q : Nat → Rs → List Lf → Prop} {a0_0 : Int} {a0_1 : Int} {a0_2 : Int} {a0_3 : Int} {a0_4 : List (List AV)} {a0_5 : Int} {a0_6 : List (List AV)} {a0_7 : List (List AV)} {a0_8 : List (List AV)} {a0_9 : List (List AV)} {a1 : Int} {a2 : Int} (h : ∀ EV : Nat → Rs → List Lf → Prop, V4 EV Q →
    EC Try.prog G14 [] [] (fun x rs vs => (x = 0 ∧ ∃ (y0_0 : Bool), rs = [] ∧ vs = [.b y0_0] ∧
      ((y0_0 = false →
          Q 0 [] [(Lf.b false)]) ∧
        (y0_0 = true →
          EC Try.prog G15 [] [(Lf.i a0_0), (Lf.i a0_1), (Lf.i a0_2), (Lf.i a0_3), (Lf.r a0_4), (Lf.i a0_5), (Lf.r a0_6), (Lf.r a0_7), (Lf.r a0_8), (Lf.r a0_9)] (fun x rs vs => (x = 0 ∧ ∃ (y2_0 : Bool), rs = [] ∧ vs = [.b y2_0] ∧
            ((y2_0 = true →
                EC Try.prog G16 [] [(Lf.i a0_0), (Lf.i a0_1), (Lf.i a0_2), (Lf.i a0_3), (Lf.r a0_4), (Lf.i a0_5), (Lf.r a0_6), (Lf.r a0_7), (Lf.r a0_8), (Lf.r a0_9)] (fun x rs vs => (x = 0 ∧ ∃ (y4_0 : Bool), rs = [] ∧ vs = [.b y4_0] ∧
                  ((y4_0 = false →
                      Q 0 [] [(Lf.b true)]) ∧
                    (y4_0 = true →
                      EC Try.prog G17 [] [(Lf.i a0_0), (Lf.i a0_1), (Lf.i a0_2), (Lf.i a0_3), (Lf.r a0_4), (Lf.i a0_5), (Lf.r a0_6), (Lf.r a0_7), (Lf.r a0_8), (Lf.r a0_9), (Lf.i a1)] (fun x rs vs => (x = 0 ∧ ∃ (Y6_0 : List (List AV)), rs = [Y6_0] ∧ vs = [] ∧
                        ((a1 ≥ (0 : Int) →
                            (a1 ≥ (((List.length a0_8) : Nat) : Int) →
                              EC Try.prog G18 [] [(Lf.i a0_0), (Lf.i a0_1), (Lf.i a0_2), (Lf.i a0_3), (Lf.r a0_4), (Lf.i a0_5), (Lf.r a0_6), (Lf.r a0_7), (Lf.r a0_8), (Lf.r a0_9), (Lf.i a1)] (fun x rs vs => (x = 0 ∧ ∃ (Y9_0 : List (List AV)) (y9_0 : Nat), rs = [Y9_0] ∧ vs = [.n y9_0] ∧
                                (∃ (y10_0 : Int), EC Try.prog G19 [] [(Lf.i a0_0), (Lf.i a0_1), (Lf.i a0_2), (Lf.i a0_3), (Lf.r a0_4), (Lf.i a0_5), (Lf.r a0_6), (Lf.r a0_7), (Lf.r a0_8), (Lf.r a0_9), (Lf.i a1), (Lf.i a2)] (fun x rs vs => x = 0 ∧ rs = [] ∧ vs = [.i y10_0]) ∧
                                    (Q 0 [] [(Lf.b ((IntKind.wrap .i64 ((IntKind.wrap .i64 ((((List.length Y6_0) : Nat) : Int) + ((y9_0 : Nat) : Int))) + y10_0)) == (0 : Int)))]))))) ∧
                            (a1 < (((List.length a0_8) : Nat) : Int) →
                              ((0 : Int) ≤ a1) ∧
                              (a0_8[(Int.toNat a1)]? = some [(AV.int .i64 (cIS a0_8 (Int.toNat a1) 0)), (AV.int .i64 (cIS a0_8 (Int.toNat a1) 1)), (AV.int .i64 (cIS a0_8 (Int.toNat a1) 2)), (AV.int .i64 (cIS a0_8 (Int.toNat a1) 3)), (AV.int .i64 (cIS a0_8 (Int.toNat a1) 4)), (AV.int .i64 (cIS a0_8 (Int.toNat a1) 5)), (AV.inl 3 (cRS a0_8 (Int.toNat a1) 6))]) ∧
                              ((((List.length Y6_0) : Nat) : Int) ≠ (((List.length (cRS a0_8 (Int.toNat a1) 6)) : Nat) : Int) →
                                Q 0 [] [(Lf.b false)]) ∧
                              ((((List.length Y6_0) : Nat) : Int) = (((List.length (cRS a0_8 (Int.toNat a1) 6)) : Nat) : Int) →
                                EV 43 [Y6_0] [(Lf.i a1), (Lf.i a2), (Lf.i (((List.length Y6_0) : Nat) : Int)), (Lf.i (0 : Int)), (Lf.i a0_0), (Lf.i a0_1), (Lf.i a0_2), (Lf.i a0_3), (Lf.r a0_4), (Lf.i a0_5), (Lf.r a0_6), (Lf.r a0_7), (Lf.r a0_8), (Lf.r a0_9), (Lf.i (cIS a0_8 (Int.toNat a1) 0)), (Lf.i (cIS a0_8 (Int.toNat a1) 1)), (Lf.i (cIS a0_8 (Int.toNat a1) 2)), (Lf.i (cIS a0_8 (Int.toNat a1) 3)), (Lf.i (cIS a0_8 (Int.toNat a1) 4)), (Lf.i (cIS a0_8 (Int.toNat a1) 5)), (Lf.r (cRS a0_8 (Int.toNat a1) 6))]))) ∧
                          (a1 < (0 : Int) →
                            EC Try.prog G18 [] [(Lf.i a0_0), (Lf.i a0_1), (Lf.i a0_2), (Lf.i a0_3), (Lf.r a0_4), (Lf.i a0_5), (Lf.r a0_6), (Lf.r a0_7), (Lf.r a0_8), (Lf.r a0_9), (Lf.i a1)] (fun x rs vs => (x = 0 ∧ ∃ (Y8_0 : List (List AV)) (y8_0 : Nat), rs = [Y8_0] ∧ vs = [.n y8_0] ∧
                              (∃ (y9_0 : Int), EC Try.prog G19 [] [(Lf.i a0_0), (Lf.i a0_1), (Lf.i a0_2), (Lf.i a0_3), (Lf.r a0_4), (Lf.i a0_5), (Lf.r a0_6), (Lf.r a0_7), (Lf.r a0_8), (Lf.r a0_9), (Lf.i a1), (Lf.i a2)] (fun x rs vs => x = 0 ∧ rs = [] ∧ vs = [.i y9_0]) ∧
                                  (Q 0 [] [(Lf.b ((IntKind.wrap .i64 ((IntKind.wrap .i64 ((((List.length Y6_0) : Nat) : Int) + ((y8_0 : Nat) : Int))) + y9_0)) == (0 : Int)))]))))))))))))) ∧
              (y2_0 = false →
                Q 0 [] [(Lf.b true)]))))))))) :
    EC Try.prog G4 [] [.i a0_0, .i a0_1, .i a0_2, .i a0_3, .r a0_4, .i a0_5, .r a0_6, .r a0_7, .r a0_8, .r a0_9, .i a1, .i a2] Q := by
  obtain ⟨A, hA⟩ : ∃ A, A = arS := ⟨_, rfl⟩
  refine Inst.enter (I := I4) hA mixed F4_at sg L4 80 rfl fun CE CK Dn EV RR W hp => ?_
  have h := h  EV (V4.of W)
  cbv
  refine ?_
  · refine W.call 80 (by rfl) h (by subst hA; rfl) (by subst hA; rfl) ?_
    rintro x rs vs hp0 hq0
    rcases hq0 with ⟨rfl, y0_0, rfl, rfl, k0⟩
    · cbv
      refine ⟨imI hA fun e1 => have c1 : y0_0 = false := (by have q := (notE hA e1); subst hA; exact q); (by rw [W.rr]; exact (by subst hA; exact (k0.1 c1))), imI hA fun e1 => have c1 : y0_0 = true := (by have q := (notE hA e1); subst hA; exact q); ?_⟩
      · refine W.call 80 (by rfl) (k0.2 c1) (by subst hA; rfl) (by subst hA; rfl) ?_
        rintro x rs vs hp2 hq2
        rcases hq2 with ⟨rfl, y2_0, rfl, rfl, k2⟩
        · cbv
          refine ⟨imI hA fun e3 => have c3 : y2_0 = true := (by have q := (notE hA e3); subst hA; exact q); ?_, imI hA fun e3 => have c3 : y2_0 = false := (by have q := (notE hA e3); subst hA; exact q); (by rw [W.rr]; exact (by subst hA; exact (k2.2 c3)))⟩
          · refine W.call 80 (by rfl) (k2.1 c3) (by subst hA; rfl) (by subst hA; rfl) ?_
            rintro x rs vs hp4 hq4
            rcases hq4 with ⟨rfl, y4_0, rfl, rfl, k4⟩
            · cbv
              refine ⟨imI hA fun e5 => have c5 : y4_0 = false := (by have q := (notE hA e5); subst hA; exact q); (by rw [W.rr]; exact (by subst hA; exact (k4.1 c5))), imI hA fun e5 => have c5 : y4_0 = true := (by have q := (notE hA e5); subst hA; exact q); ?_⟩
              · refine W.call 80 (by rfl) (k4.2 c5) (by subst hA; rfl) (by subst hA; rfl) ?_
                rintro x rs vs hp6 hq6
                rcases hq6 with ⟨rfl, Y6_0, rfl, rfl, k6⟩
                · cbv
                  refine ⟨imI hA fun e7 => have c7 : a1 ≥ (0 : Int) := (by have q := (cmpE (op := .lss) hA e7); subst hA; exact q); ⟨imI hA fun e8 => have c8 : a1 ≥ (((List.length a0_8) : Nat) : Int) := (by have q := (cmpE (op := .geq) hA e8); subst hA; exact q); ⟨ndI hA rfl, ⟨?_, trivial⟩⟩, imI hA fun e8 => have c8 : a1 < (((List.length a0_8) : Nat) : Int) := (by have q := (cmpE (op := .geq) hA e8); subst hA; exact q); ⟨ndI hA (And.intro (by subst hA; exact ((k6.1 c7).2 c8).1) (by subst hA; exact ((k6.1 c7).2 c8).2.1)), ⟨ndI hA rfl, ⟨imI hA fun e9 => have c9 : (((List.length Y6_0) : Nat) : Int) ≠ (((List.length (cRS a0_8 (Int.toNat a1) 6)) : Nat) : Int) := (by have q := (cmpE (op := .neq) hA e9); subst hA; exact q); (by rw [W.rr]; exact (by subst hA; exact (((k6.1 c7).2 c8).2.2.1 c9))), imI hA fun e9 => have c9 : (((List.length Y6_0) : Nat) : Int) = (((List.length (cRS a0_8 (Int.toNat a1) 6)) : Nat) : Int) := (by have q := (cmpE (op := .neq) hA e9); subst hA; exact q); ⟨ndI hA rfl, ⟨ndI hA (And.intro rfl (And.intro rfl rfl)), ⟨ndI hA (by subst hA; exact hp6.1), (by subst hA; exact (((k6.1 c7).2 c8).2.2.2 c9))⟩⟩⟩⟩⟩⟩⟩, imI hA fun e7 => have c7 : a1 < (0 : Int) := (by have q := (cmpE (op := .lss) hA e7); subst hA; exact q); ⟨ndI hA rfl, ⟨?_, trivial⟩⟩⟩
                  · refine W.callD (by rfl) ((k6.1 c7).1 c8) (by subst hA; rfl) (by subst hA; rfl) ?_
                    rintro x rs vs hp9 hq9
                    rcases hq9 with ⟨rfl, Y9_0, y9_0, rfl, rfl, k9⟩
                    · cbv
                      refine ?_
                      · refine W.draw 80 (by rfl) ?_
                        cbv
                        refine ?_
                        · obtain ⟨y10_0, he10, hk10⟩ := k9
                          refine ⟨(AV.int .i64 y10_0), ?_⟩
                          cbv
                          refine ⟨?_, ?_⟩
                          · refine W.callD (by rfl) he10 (by subst hA; rfl) (by subst hA; rfl) ?_
                            rintro _ _ _ _ ⟨rfl, rfl, rfl⟩
                            cbv
                            try first | exact ⟨rfl, rfl⟩ | rfl
                          · refine ?_
                            · refine W.draw 80 (by rfl) ?_
                              cbv
                              refine ⟨⟨ndI hA rfl, (by rw [W.rr]; exact (by subst hA; exact hk10))⟩, trivial⟩
                  · refine W.callD (by rfl) (k6.2 c7) (by subst hA; rfl) (by subst hA; rfl) ?_
                    rintro x rs vs hp8 hq8
                    rcases hq8 with ⟨rfl, Y8_0, y8_0, rfl, rfl, k8⟩
                    · cbv
                      refine ?_
                      · refine W.draw 80 (by rfl) ?_
                        cbv
                        refine ?_
                        · obtain ⟨y9_0, he9, hk9⟩ := k8
                          refine ⟨(AV.int .i64 y9_0), ?_⟩
                          cbv
                          refine ⟨?_, ?_⟩
                          · refine W.callD (by rfl) he9 (by subst hA; rfl) (by subst hA; rfl) ?_
                            rintro _ _ _ _ ⟨rfl, rfl, rfl⟩
                            cbv
                            try first | exact ⟨rfl, rfl⟩ | rfl
                          · refine ?_
                            · refine W.draw 80 (by rfl) ?_
                              cbv
                              refine ⟨⟨ndI hA rfl, (by rw [W.rr]; exact (by subst hA; exact hk9))⟩, trivial⟩

end Go.Ab
