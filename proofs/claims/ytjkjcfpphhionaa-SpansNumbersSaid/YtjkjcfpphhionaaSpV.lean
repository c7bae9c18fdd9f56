/- PRINTED BY A PROGRAM (wip/tools/vc.py, AbVc.lean): what is to be shown of each function, from place to place, and that it is enough. -/
import Derived.Test.YtjkjcfpphhionaaSpS
import Derived.Test.YtjkjcfpphhionaaAbV0
namespace Go.Ab
open Go Go.Proofs
set_option linter.unusedVariables false
set_option linter.unusedSimpArgs false
set_option maxRecDepth 100000

-- 50: signalbox/spans.clamp
section
structure V50 (EV Q : Nat → Rs → List Lf → Prop) : Prop where
  none : True

end
set_option maxHeartbeats 0 in
/-- To enter. -/
theorem E50 {Q : Nat → Rs → List Lf → Prop} {a0 : Int} (h : ∀ EV : Nat → Rs → List Lf → Prop, V50 EV Q →
    Q 0 [] [(Lf.i (arS.mn (arS.mx a0 (-1099511627776)) (1099511627776 : Int)))]) :
    EC Try.prog G50 [] [.i a0] Q := by
  obtain ⟨A, hA⟩ : ∃ A, A = arS := ⟨_, rfl⟩
  refine Inst.enter (I := I50) hA mixed F50_at sg L50 80 rfl fun CE CK Dn EV RR W hp => ?_
  have h := h  EV ⟨trivial⟩
  cbv
  refine (by rw [W.rr]; exact (by subst hA; exact h))

-- 51: (signalbox/spans.Span).size
section
structure V51 (EV Q : Nat → Rs → List Lf → Prop) : Prop where
  none : True

end
set_option maxHeartbeats 0 in
/-- To enter. -/
theorem E51 {Q : Nat → Rs → List Lf → Prop} {a0_0 : Int} {a0_1 : Int} (h : ∀ EV : Nat → Rs → List Lf → Prop, V51 EV Q →
    Q 0 [] [(Lf.i (IntKind.wrap .i64 (a0_1 - a0_0)))]) :
    EC Try.prog G51 [] [.i a0_0, .i a0_1] Q := by
  obtain ⟨A, hA⟩ : ∃ A, A = arS := ⟨_, rfl⟩
  refine Inst.enter (I := I51) hA mixed F51_at sg L51 80 rfl fun CE CK Dn EV RR W hp => ?_
  have h := h  EV ⟨trivial⟩
  cbv
  refine (by rw [W.rr]; exact (by subst hA; exact h))

-- 48: signalbox/spans.proper DRAWN
section
structure V48 (EV Q : Nat → Rs → List Lf → Prop) : Prop where
  p9 : ∀ {R0 : List (List AV)} {t6 : List (List AV)} {t7 : Int} {t8 : Int}, (pursS R0 = true → 
    (t8 < t7 →
      ((0 : Int) ≤ t8) ∧
      (t6[(Int.toNat t8)]? = some [(AV.int .i64 (cIS t6 (Int.toNat t8) 0)), (AV.int .i64 (cIS t6 (Int.toNat t8) 1))]) ∧
      (∃ (y1_0 : Int), EC Try.prog G50 [] [(Lf.i (cIS t6 (Int.toNat t8) 0))] (fun x rs vs => x = 0 ∧ rs = [] ∧ vs = [.i y1_0]) ∧
        (EC Try.prog G50 [] [(Lf.i (cIS t6 (Int.toNat t8) 1))] (fun x rs vs => (x = 0 ∧ ∃ (y2_0 : Int), rs = [] ∧ vs = [.i y2_0] ∧
          (EV 21 [R0] [(Lf.r t6), (Lf.i t7), (Lf.i t8), (Lf.i y1_0), (Lf.i y2_0)]))))) ∧
      (EC Try.prog G50 [] [(Lf.i (cIS t6 (Int.toNat t8) 0))] (fun x rs vs => (x = 0 ∧ ∃ (y1_0 : Int), rs = [] ∧ vs = [.i y1_0] ∧
        (EC Try.prog G50 [] [(Lf.i (cIS t6 (Int.toNat t8) 1))] (fun x rs vs => (x = 0 ∧ ∃ (y2_0 : Int), rs = [] ∧ vs = [.i y2_0] ∧
            (EV 21 [R0] [(Lf.r t6), (Lf.i t7), (Lf.i t8), (Lf.i y1_0), (Lf.i y2_0)])))))))) ∧
    (t8 ≥ t7 →
      EC Try.prog G54a [R0] [] (fun x rs vs => (x = 0 ∧ ∃ (Y1_0 : List (List AV)), rs = [Y1_0] ∧ vs = [] ∧
        (((List.length R0) = (List.length Y1_0)) ∧
          (Q 0 [Y1_0] [])))))) →
    EV 9 [R0] [.r t6, .i t7, .i t8]
  p21 : ∀ {R0 : List (List AV)} {t6 : List (List AV)} {t7 : Int} {t8 : Int} {tb1_0 : Int} {tb1_1 : Int}, (pursS R0 = true → 
    EC Try.prog G51 [] [(Lf.i tb1_0), (Lf.i tb1_1)] (fun x rs vs => (x = 0 ∧ ∃ (y0_0 : Int), rs = [] ∧ vs = [.i y0_0] ∧
      ((y0_0 > (0 : Int) →
          (((List.length R0) + 1) ≤ 140737488355328) ∧
          ((((List.length R0) + 1) * 16) ≤ 140737488355328) ∧
          (EV 9 [(R0 ++ [[(AV.int .i64 tb1_0), (AV.int .i64 tb1_1)]])] [(Lf.r t6), (Lf.i t7), (Lf.i (IntKind.wrap .i64 (t8 + (1 : Int))))])) ∧
        (y0_0 ≤ (0 : Int) →
          EV 9 [R0] [(Lf.r t6), (Lf.i t7), (Lf.i (IntKind.wrap .i64 (t8 + (1 : Int))))]))))) →
    EV 21 [R0] [.r t6, .i t7, .i t8, .i tb1_0, .i tb1_1]

set_option maxHeartbeats 0 in
theorem V48.of {Q : Nat → Rs → List Lf → Prop} {A : Ar} {CE : Nat → Rs → List Lf → (Nat → Rs → List Lf → Prop) → Prop} {CK : Nat → Rs → List Lf → Cont → Prop} {Dn : Nat → List Bool → List AItem → Nat → List Bool → List AV → List ABlk → Prop} {EV RR : Nat → Rs → List Lf → Prop} (W : Wk Try.prog Try.f48 I48 L48 Q A sg CE CK Dn EV RR) : V48 EV Q := by
  have hA := W.hA
  refine ⟨?_, ?_⟩
  · intro R0 t6 t7 t8 h
    refine W.step 80 fun hp => ?_
    have h := h hp.1
    cbv
    refine ⟨imI hA fun e0 => have c0 : t8 < t7 := (by have q := (cmpE (op := .lss) hA e0); subst hA; exact q); ⟨ndI hA (And.intro (by subst hA; exact (h.1 c0).1) (by subst hA; exact (h.1 c0).2.1)), ⟨?_, ⟨⟨⟨?_, trivial⟩, trivial⟩, trivial⟩⟩⟩, imI hA fun e0 => have c0 : t8 ≥ t7 := (by have q := (cmpE (op := .lss) hA e0); subst hA; exact q); ⟨ndI hA (And.intro rfl (And.intro rfl rfl)), ⟨ndI hA (by subst hA; exact hp.1), ?_⟩⟩⟩
    · obtain ⟨y1_0, he1, hk1⟩ := (h.1 c0).2.2.1
      refine ⟨(AV.int .i64 y1_0), ?_⟩
      cbv
      refine ⟨?_, ?_⟩
      · refine W.callD (by rfl) he1 (by subst hA; rfl) (by subst hA; rfl) ?_
        rintro _ _ _ _ ⟨rfl, rfl, rfl⟩
        cbv
        try first | exact ⟨rfl, rfl⟩ | rfl
      · refine ?_
        · refine W.draw 80 (by rfl) ?_
          cbv
          refine ⟨⟨?_, trivial⟩, trivial⟩
          · refine W.callD (by rfl) hk1 (by subst hA; rfl) (by subst hA; rfl) ?_
            rintro x rs vs hp2 hq2
            rcases hq2 with ⟨rfl, y2_0, rfl, rfl, k2⟩
            · cbv
              refine ?_
              · refine W.draw 80 (by rfl) ?_
                cbv
                refine ⟨⟨ndI hA (And.intro rfl (And.intro rfl rfl)), ⟨ndI hA (by subst hA; exact hp.1), (by subst hA; exact k2)⟩⟩, trivial⟩
    · refine W.callD (by rfl) (h.1 c0).2.2.2 (by subst hA; rfl) (by subst hA; rfl) ?_
      rintro x rs vs hp1 hq1
      rcases hq1 with ⟨rfl, y1_0, rfl, rfl, k1⟩
      · cbv
        refine ?_
        · refine W.draw 80 (by rfl) ?_
          cbv
          refine ⟨?_, trivial⟩
          · refine W.callD (by rfl) k1 (by subst hA; rfl) (by subst hA; rfl) ?_
            rintro x rs vs hp2 hq2
            rcases hq2 with ⟨rfl, y2_0, rfl, rfl, k2⟩
            · cbv
              refine ?_
              · refine W.draw 80 (by rfl) ?_
                cbv
                refine ⟨⟨ndI hA (And.intro rfl (And.intro rfl rfl)), ⟨ndI hA (by subst hA; exact hp.1), (by subst hA; exact k2)⟩⟩, trivial⟩
    · refine W.call 80 (by rfl) (h.2 c0) (by subst hA; rfl) (by subst hA; rfl) ?_
      rintro x rs vs hp1 hq1
      rcases hq1 with ⟨rfl, Y1_0, rfl, rfl, k1⟩
      · cbv
        refine ⟨ndI hA (And.intro (by subst hA; exact k1.1) (And.intro rfl (by subst hA; exact k1.1))), ⟨ndI hA (by subst hA; exact hp1.1), (by rw [W.rr]; exact (by subst hA; exact k1.2))⟩⟩
  · intro R0 t6 t7 t8 tb1_0 tb1_1 h
    refine W.step 80 fun hp => ?_
    have h := h hp.1
    cbv
    refine ?_
    · refine W.call 80 (by rfl) h (by subst hA; rfl) (by subst hA; rfl) ?_
      rintro x rs vs hp0 hq0
      rcases hq0 with ⟨rfl, y0_0, rfl, rfl, k0⟩
      · cbv
        refine ⟨imI hA fun e1 => have c1 : y0_0 > (0 : Int) := (by have q := (cmpE (op := .gtr) hA e1); subst hA; exact q); ⟨ndI hA (And.intro rfl (And.intro (Nat.le_refl _) (And.intro (by subst hA; exact (k0.1 c1).1) (by subst hA; exact (k0.1 c1).2.1)))), ⟨ndI hA (And.intro rfl (And.intro rfl (by subst hA; show ((List.length R0) + 1) = (List.length (rappS R0 (List.length R0) [[(AV.int .i64 tb1_0), (AV.int .i64 tb1_1)]])); (first | rfl | simp [rappS_end] | (simp only [rappS_end, List.length_append, List.length_set, List.length_cons, List.length_nil]; omega))))), ⟨ndI hA (by subst hA; exact (vapp hp.1 vpur)), (by subst hA; show EV 9 [(rappS R0 (List.length R0) [[(AV.int .i64 tb1_0), (AV.int .i64 tb1_1)]])] [(Lf.r t6), (Lf.i t7), (Lf.i (IntKind.wrap .i64 (t8 + (1 : Int))))]; (try simp only [rappS_end, Nat.zero_add, Int.toNat_natCast]); exact (k0.1 c1).2.2)⟩⟩⟩, imI hA fun e1 => have c1 : y0_0 ≤ (0 : Int) := (by have q := (cmpE (op := .gtr) hA e1); subst hA; exact q); ⟨ndI hA (And.intro rfl (And.intro rfl rfl)), ⟨ndI hA (by subst hA; exact hp.1), (by subst hA; exact (k0.2 c1))⟩⟩⟩

end
set_option maxHeartbeats 0 in
/-- To enter. -/
theorem E48 {Q : Nat → Rs → List Lf → Prop} {a0 : List (List AV)} (h : ∀ EV : Nat → Rs → List Lf → Prop, V48 EV Q →
    EV 9 [[]] [(Lf.r a0), (Lf.i (((List.length a0) : Nat) : Int)), (Lf.i (0 : Int))]) :
    EC Try.prog G48 [] [.r a0] Q := by
  obtain ⟨A, hA⟩ : ∃ A, A = arS := ⟨_, rfl⟩
  refine Inst.enter (I := I48) hA mixed F48_at sg L48 80 rfl fun CE CK Dn EV RR W hp => ?_
  have h := h  EV (V48.of W)
  cbv
  refine ⟨ndI hA (And.intro (by subst hA; show 0 = 0; (first | rfl | simp [rappS_end] | (simp only [rappS_end, List.length_append, List.length_set, List.length_cons, List.length_nil]; omega))) (And.intro rfl (by subst hA; show 0 = 0; (first | rfl | simp [rappS_end] | (simp only [rappS_end, List.length_append, List.length_set, List.length_cons, List.length_nil]; omega))))), ⟨ndI hA (by subst hA; exact vpur), (by subst hA; exact h)⟩⟩

-- 26: signalbox/spans.Join DRAWN
section
structure V26 (EV Q : Nat → Rs → List Lf → Prop) : Prop where
  p9 : ∀ {R0 : List (List AV)} {R1 : List (List AV)} {t9 : Int} {t10 : Int}, (pursS R0 = true → pursS R1 = true → 
    (t10 < t9 →
      ((0 : Int) ≤ t10) ∧
      (t10 < (((List.length R1) : Nat) : Int)) ∧
      (R1[(Int.toNat t10)]? = some [(AV.int .i64 (cIS R1 (Int.toNat t10) 0)), (AV.int .i64 (cIS R1 (Int.toNat t10) 1))]) ∧
      ((IntKind.wrap .i64 ((((List.length R0) : Nat) : Int) - (1 : Int))) ≥ (0 : Int) →
        ((0 : Int) ≤ (IntKind.wrap .i64 ((((List.length R0) : Nat) : Int) - (1 : Int)))) ∧
        ((IntKind.wrap .i64 ((((List.length R0) : Nat) : Int) - (1 : Int))) < (((List.length R0) : Nat) : Int)) ∧
        (R0[(Int.toNat (IntKind.wrap .i64 ((((List.length R0) : Nat) : Int) - (1 : Int))))]? = some [(AV.int .i64 (cIS R0 (Int.toNat (IntKind.wrap .i64 ((((List.length R0) : Nat) : Int) - (1 : Int)))) 0)), (AV.int .i64 (cIS R0 (Int.toNat (IntKind.wrap .i64 ((((List.length R0) : Nat) : Int) - (1 : Int)))) 1))]) ∧
        ((cIS R1 (Int.toNat t10) 0) ≤ (cIS R0 (Int.toNat (IntKind.wrap .i64 ((((List.length R0) : Nat) : Int) - (1 : Int)))) 1) →
          ((0 : Int) ≤ (IntKind.wrap .i64 ((((List.length R0) : Nat) : Int) - (1 : Int)))) ∧
          ((IntKind.wrap .i64 ((((List.length R0) : Nat) : Int) - (1 : Int))) < (((List.length R0) : Nat) : Int)) ∧
          (R0[(Int.toNat (IntKind.wrap .i64 ((((List.length R0) : Nat) : Int) - (1 : Int))))]? = some [(AV.int .i64 (cIS R0 (Int.toNat (IntKind.wrap .i64 ((((List.length R0) : Nat) : Int) - (1 : Int)))) 0)), (AV.int .i64 (cIS R0 (Int.toNat (IntKind.wrap .i64 ((((List.length R0) : Nat) : Int) - (1 : Int)))) 1))]) ∧
          (EV 9 [(List.set R0 (Int.toNat (IntKind.wrap .i64 ((((List.length R0) : Nat) : Int) - (1 : Int)))) [(AV.int .i64 (cIS R0 (Int.toNat (IntKind.wrap .i64 ((((List.length R0) : Nat) : Int) - (1 : Int)))) 0)), (AV.int .i64 (arS.mx (cIS R0 (Int.toNat (IntKind.wrap .i64 ((((List.length R0) : Nat) : Int) - (1 : Int)))) 1) (cIS R1 (Int.toNat t10) 1)))]), R1] [(Lf.i t9), (Lf.i (IntKind.wrap .i64 (t10 + (1 : Int))))])) ∧
        ((cIS R1 (Int.toNat t10) 0) > (cIS R0 (Int.toNat (IntKind.wrap .i64 ((((List.length R0) : Nat) : Int) - (1 : Int)))) 1) →
          (((List.length R0) + 1) ≤ 140737488355328) ∧
          ((((List.length R0) + 1) * 16) ≤ 140737488355328) ∧
          (EV 9 [(R0 ++ [[(AV.int .i64 (cIS R1 (Int.toNat t10) 0)), (AV.int .i64 (cIS R1 (Int.toNat t10) 1))]]), R1] [(Lf.i t9), (Lf.i (IntKind.wrap .i64 (t10 + (1 : Int))))]))) ∧
      ((IntKind.wrap .i64 ((((List.length R0) : Nat) : Int) - (1 : Int))) < (0 : Int) →
        (((List.length R0) + 1) ≤ 140737488355328) ∧
        ((((List.length R0) + 1) * 16) ≤ 140737488355328) ∧
        (EV 9 [(R0 ++ [[(AV.int .i64 (cIS R1 (Int.toNat t10) 0)), (AV.int .i64 (cIS R1 (Int.toNat t10) 1))]]), R1] [(Lf.i t9), (Lf.i (IntKind.wrap .i64 (t10 + (1 : Int))))]))) ∧
    (t10 ≥ t9 →
      Q 0 [R0] [])) →
    EV 9 [R0, R1] [.i t9, .i t10]

set_option maxHeartbeats 0 in
theorem V26.of {Q : Nat → Rs → List Lf → Prop} {A : Ar} {CE : Nat → Rs → List Lf → (Nat → Rs → List Lf → Prop) → Prop} {CK : Nat → Rs → List Lf → Cont → Prop} {Dn : Nat → List Bool → List AItem → Nat → List Bool → List AV → List ABlk → Prop} {EV RR : Nat → Rs → List Lf → Prop} (W : Wk Try.prog Try.f26 I26 L26 Q A sg CE CK Dn EV RR) : V26 EV Q := by
  have hA := W.hA
  refine ⟨?_⟩
  · intro R0 R1 t9 t10 h
    refine W.step 80 fun hp => ?_
    have h := h hp.1 hp.2.1
    cbv
    refine ⟨imI hA fun e0 => have c0 : t10 < t9 := (by have q := (cmpE (op := .lss) hA e0); subst hA; exact q); ⟨ndI hA (And.intro (by subst hA; exact (h.1 c0).1) (And.intro (by subst hA; exact (h.1 c0).2.1) rfl)), ⟨ndI hA (And.intro rfl (by subst hA; show R1[(0 + (Int.toNat t10))]? = some [(AV.int .i64 (cIS R1 (0 + (Int.toNat t10)) 0)), (AV.int .i64 (cIS R1 (0 + (Int.toNat t10)) 1))]; (try simp only [rappS_end, Nat.zero_add, Int.toNat_natCast]); exact (h.1 c0).2.2.1)), ⟨ndI hA rfl, ⟨fun e1 => have c1 : (IntKind.wrap .i64 ((((List.length R0) : Nat) : Int) - (1 : Int))) ≥ (0 : Int) := (by have q := (cmpE (op := .geq) hA e1); subst hA; exact q); ?_, fun e1 => have c1 : (IntKind.wrap .i64 ((((List.length R0) : Nat) : Int) - (1 : Int))) < (0 : Int) := (by have q := (cmpE (op := .geq) hA e1); subst hA; exact q); ?_⟩⟩⟩⟩, imI hA fun e0 => have c0 : t10 ≥ t9 := (by have q := (cmpE (op := .lss) hA e0); subst hA; exact q); ⟨ndI hA (And.intro rfl (And.intro rfl rfl)), ⟨ndI hA (by subst hA; exact hp.1), (by rw [W.rr]; exact (by subst hA; exact (h.2 c0)))⟩⟩⟩
    · refine W.draw 80 (by rfl) ?_
      cbv
      refine ⟨ndI hA (And.intro (by subst hA; exact ((h.1 c0).2.2.2.1 c1).1) (And.intro (by subst hA; exact ((h.1 c0).2.2.2.1 c1).2.1) rfl)), ⟨ndI hA (And.intro rfl (by subst hA; show R0[(0 + (Int.toNat (IntKind.wrap .i64 ((((List.length R0) : Nat) : Int) - (1 : Int)))))]? = some [(AV.int .i64 (cIS R0 (0 + (Int.toNat (IntKind.wrap .i64 ((((List.length R0) : Nat) : Int) - (1 : Int))))) 0)), (AV.int .i64 (cIS R0 (0 + (Int.toNat (IntKind.wrap .i64 ((((List.length R0) : Nat) : Int) - (1 : Int))))) 1))]; (try simp only [rappS_end, Nat.zero_add, Int.toNat_natCast]); exact ((h.1 c0).2.2.2.1 c1).2.2.1)), ⟨imI hA fun e2 => have c2 : (cIS R1 (Int.toNat t10) 0) ≤ (cIS R0 (Int.toNat (IntKind.wrap .i64 ((((List.length R0) : Nat) : Int) - (1 : Int)))) 1) := (by have q := (cmpE (op := .leq) hA e2); subst hA; have q : (cIS R1 (0 + (Int.toNat t10)) 0) ≤ (cIS R0 (0 + (Int.toNat (IntKind.wrap .i64 ((((List.length R0) : Nat) : Int) - (1 : Int))))) 1) := q; simpa only [rappS_end, Nat.zero_add, Int.toNat_natCast] using q); ⟨⟨ndI hA (And.intro (by subst hA; exact (((h.1 c0).2.2.2.1 c1).2.2.2.1 c2).1) (And.intro (by subst hA; exact (((h.1 c0).2.2.2.1 c1).2.2.2.1 c2).2.1) rfl)), ⟨⟨ndI hA (And.intro rfl (by subst hA; show R0[(0 + (Int.toNat (IntKind.wrap .i64 ((((List.length R0) : Nat) : Int) - (1 : Int)))))]? = some [(AV.int .i64 (cIS R0 (0 + (Int.toNat (IntKind.wrap .i64 ((((List.length R0) : Nat) : Int) - (1 : Int))))) 0)), (AV.int .i64 (cIS R0 (0 + (Int.toNat (IntKind.wrap .i64 ((((List.length R0) : Nat) : Int) - (1 : Int))))) 1))]; (try simp only [rappS_end, Nat.zero_add, Int.toNat_natCast]); exact (((h.1 c0).2.2.2.1 c1).2.2.2.1 c2).2.2.1)), ⟨⟨ndI hA (And.intro (by subst hA; exact (((h.1 c0).2.2.2.1 c1).2.2.2.1 c2).1) (And.intro (by subst hA; exact (((h.1 c0).2.2.2.1 c1).2.2.2.1 c2).2.1) rfl)), ⟨⟨ndI hA (And.intro rfl (by subst hA; show R0[(0 + (Int.toNat (IntKind.wrap .i64 ((((List.length R0) : Nat) : Int) - (1 : Int)))))]? = some [(AV.int .i64 (cIS R0 (0 + (Int.toNat (IntKind.wrap .i64 ((((List.length R0) : Nat) : Int) - (1 : Int))))) 0)), (AV.int .i64 (cIS R0 (0 + (Int.toNat (IntKind.wrap .i64 ((((List.length R0) : Nat) : Int) - (1 : Int))))) 1))]; (try simp only [rappS_end, Nat.zero_add, Int.toNat_natCast]); exact (((h.1 c0).2.2.2.1 c1).2.2.2.1 c2).2.2.1)), ⟨ndI hA (And.intro (by subst hA; show (List.length R0) = (List.length (List.set R0 (0 + (Int.toNat (IntKind.wrap .i64 ((((List.length R0) : Nat) : Int) - (1 : Int))))) [(AV.int .i64 (cIS R0 (0 + (Int.toNat (IntKind.wrap .i64 ((((List.length R0) : Nat) : Int) - (1 : Int))))) 0)), (AV.int .i64 (arS.mx (cIS R0 (0 + (Int.toNat (IntKind.wrap .i64 ((((List.length R0) : Nat) : Int) - (1 : Int))))) 1) (cIS R1 (0 + (Int.toNat t10)) 1)))])); (first | rfl | simp [rappS_end] | (simp only [rappS_end, List.length_append, List.length_set, List.length_cons, List.length_nil]; omega))) (And.intro rfl (by subst hA; show (List.length R0) = (List.length (List.set R0 (0 + (Int.toNat (IntKind.wrap .i64 ((((List.length R0) : Nat) : Int) - (1 : Int))))) [(AV.int .i64 (cIS R0 (0 + (Int.toNat (IntKind.wrap .i64 ((((List.length R0) : Nat) : Int) - (1 : Int))))) 0)), (AV.int .i64 (arS.mx (cIS R0 (0 + (Int.toNat (IntKind.wrap .i64 ((((List.length R0) : Nat) : Int) - (1 : Int))))) 1) (cIS R1 (0 + (Int.toNat t10)) 1)))])); (first | rfl | simp [rappS_end] | (simp only [rappS_end, List.length_append, List.length_set, List.length_cons, List.length_nil]; omega))))), ⟨ndI hA (And.intro rfl (And.intro rfl rfl)), ⟨ndI hA (by subst hA; exact (vset hp.1 rfl)), ⟨ndI hA (by subst hA; exact hp.2.1), (by subst hA; show EV 9 [(List.set R0 (0 + (Int.toNat (IntKind.wrap .i64 ((((List.length R0) : Nat) : Int) - (1 : Int))))) [(AV.int .i64 (cIS R0 (0 + (Int.toNat (IntKind.wrap .i64 ((((List.length R0) : Nat) : Int) - (1 : Int))))) 0)), (AV.int .i64 (arS.mx (cIS R0 (0 + (Int.toNat (IntKind.wrap .i64 ((((List.length R0) : Nat) : Int) - (1 : Int))))) 1) (cIS R1 (0 + (Int.toNat t10)) 1)))]), R1] [(Lf.i t9), (Lf.i (IntKind.wrap .i64 (t10 + (1 : Int))))]; (try simp only [rappS_end, Nat.zero_add, Int.toNat_natCast]); exact (((h.1 c0).2.2.2.1 c1).2.2.2.1 c2).2.2.2)⟩⟩⟩⟩⟩, trivial⟩⟩, trivial⟩⟩, trivial⟩⟩, trivial⟩, imI hA fun e2 => have c2 : (cIS R1 (Int.toNat t10) 0) > (cIS R0 (Int.toNat (IntKind.wrap .i64 ((((List.length R0) : Nat) : Int) - (1 : Int)))) 1) := (by have q := (cmpE (op := .leq) hA e2); subst hA; have q : (cIS R1 (0 + (Int.toNat t10)) 0) > (cIS R0 (0 + (Int.toNat (IntKind.wrap .i64 ((((List.length R0) : Nat) : Int) - (1 : Int))))) 1) := q; simpa only [rappS_end, Nat.zero_add, Int.toNat_natCast] using q); ⟨ndI hA (And.intro rfl (And.intro (Nat.le_refl _) (And.intro (by subst hA; show ((List.length R0) + 1) ≤ 140737488355328; (try simp only [rappS_end, Nat.zero_add, Int.toNat_natCast]); exact (((h.1 c0).2.2.2.1 c1).2.2.2.2 c2).1) (by subst hA; show (((List.length R0) + 1) * 16) ≤ 140737488355328; (try simp only [rappS_end, Nat.zero_add, Int.toNat_natCast]); exact (((h.1 c0).2.2.2.1 c1).2.2.2.2 c2).2.1)))), ⟨ndI hA (And.intro rfl (And.intro rfl (by subst hA; show ((List.length R0) + 1) = (List.length (rappS R0 (List.length R0) [[(AV.int .i64 (cIS R1 (0 + (Int.toNat t10)) 0)), (AV.int .i64 (cIS R1 (0 + (Int.toNat t10)) 1))]])); (first | rfl | simp [rappS_end] | (simp only [rappS_end, List.length_append, List.length_set, List.length_cons, List.length_nil]; omega))))), ⟨ndI hA (And.intro rfl (And.intro rfl rfl)), ⟨ndI hA (by subst hA; exact (vapp hp.1 vpur)), ⟨ndI hA (by subst hA; exact hp.2.1), (by subst hA; show EV 9 [(rappS R0 (List.length R0) [[(AV.int .i64 (cIS R1 (0 + (Int.toNat t10)) 0)), (AV.int .i64 (cIS R1 (0 + (Int.toNat t10)) 1))]]), R1] [(Lf.i t9), (Lf.i (IntKind.wrap .i64 (t10 + (1 : Int))))]; (try simp only [rappS_end, Nat.zero_add, Int.toNat_natCast]); exact (((h.1 c0).2.2.2.1 c1).2.2.2.2 c2).2.2)⟩⟩⟩⟩⟩⟩⟩⟩
    · refine W.draw 80 (by rfl) ?_
      cbv
      refine ⟨ndI hA (And.intro rfl (And.intro (Nat.le_refl _) (And.intro (by subst hA; show ((List.length R0) + 1) ≤ 140737488355328; (try simp only [rappS_end, Nat.zero_add, Int.toNat_natCast]); exact ((h.1 c0).2.2.2.2 c1).1) (by subst hA; show (((List.length R0) + 1) * 16) ≤ 140737488355328; (try simp only [rappS_end, Nat.zero_add, Int.toNat_natCast]); exact ((h.1 c0).2.2.2.2 c1).2.1)))), ⟨ndI hA (And.intro rfl (And.intro rfl (by subst hA; show ((List.length R0) + 1) = (List.length (rappS R0 (List.length R0) [[(AV.int .i64 (cIS R1 (0 + (Int.toNat t10)) 0)), (AV.int .i64 (cIS R1 (0 + (Int.toNat t10)) 1))]])); (first | rfl | simp [rappS_end] | (simp only [rappS_end, List.length_append, List.length_set, List.length_cons, List.length_nil]; omega))))), ⟨ndI hA (And.intro rfl (And.intro rfl rfl)), ⟨ndI hA (by subst hA; exact (vapp hp.1 vpur)), ⟨ndI hA (by subst hA; exact hp.2.1), (by subst hA; show EV 9 [(rappS R0 (List.length R0) [[(AV.int .i64 (cIS R1 (0 + (Int.toNat t10)) 0)), (AV.int .i64 (cIS R1 (0 + (Int.toNat t10)) 1))]]), R1] [(Lf.i t9), (Lf.i (IntKind.wrap .i64 (t10 + (1 : Int))))]; (try simp only [rappS_end, Nat.zero_add, Int.toNat_natCast]); exact ((h.1 c0).2.2.2.2 c1).2.2)⟩⟩⟩⟩⟩

end
set_option maxHeartbeats 0 in
/-- To enter. -/
theorem E26 {Q : Nat → Rs → List Lf → Prop} {a0 : List (List AV)} (h : ∀ EV : Nat → Rs → List Lf → Prop, V26 EV Q →
    EC Try.prog G48 [] [(Lf.r a0)] (fun x rs vs => (x = 0 ∧ ∃ (Y0_0 : List (List AV)), rs = [Y0_0] ∧ vs = [] ∧
      (EV 9 [[], Y0_0] [(Lf.i (((List.length Y0_0) : Nat) : Int)), (Lf.i (0 : Int))])))) :
    EC Try.prog G26 [] [.r a0] Q := by
  obtain ⟨A, hA⟩ : ∃ A, A = arS := ⟨_, rfl⟩
  refine Inst.enter (I := I26) hA mixed F26_at sg L26 80 rfl fun CE CK Dn EV RR W hp => ?_
  have h := h  EV (V26.of W)
  cbv
  refine ?_
  · refine W.call 80 (by rfl) h (by subst hA; rfl) (by subst hA; rfl) ?_
    rintro x rs vs hp0 hq0
    rcases hq0 with ⟨rfl, Y0_0, rfl, rfl, k0⟩
    · cbv
      refine ⟨ndI hA rfl, ⟨ndI hA (And.intro (by subst hA; show 0 = 0; (first | rfl | simp [rappS_end] | (simp only [rappS_end, List.length_append, List.length_set, List.length_cons, List.length_nil]; omega))) (And.intro rfl (by subst hA; show 0 = 0; (first | rfl | simp [rappS_end] | (simp only [rappS_end, List.length_append, List.length_set, List.length_cons, List.length_nil]; omega))))), ⟨ndI hA (And.intro rfl (And.intro rfl rfl)), ⟨ndI hA (by subst hA; exact vpur), ⟨ndI hA (by subst hA; exact hp0.1), (by subst hA; exact k0)⟩⟩⟩⟩⟩

-- 53: slices.Clone[[]signalbox/spans.Span,signalbox/spans.Span]
section
structure V53 (EV Q : Nat → Rs → List Lf → Prop) : Prop where
  none : True

end
set_option maxHeartbeats 0 in
/-- To enter. -/
theorem E53 {Q : Nat → Rs → List Lf → Prop} {a0 : List (List AV)} (h : ∀ EV : Nat → Rs → List Lf → Prop, V53 EV Q →
    ((((List.length a0) : Nat) : Int) = (0 : Int) →
      Q 0 [[]] []) ∧
    ((List.length a0) ≤ 140737488355328) ∧
    (((List.length a0) * 16) ≤ 140737488355328) ∧
    (pursS a0 = true) ∧
    (Q 0 [a0] [])) :
    EC Try.prog G53 [] [.r a0] Q := by
  obtain ⟨A, hA⟩ : ∃ A, A = arS := ⟨_, rfl⟩
  refine Inst.enter (I := I53) hA mixed F53_at sg L53 80 rfl fun CE CK Dn EV RR W hp => ?_
  have h := h  EV ⟨trivial⟩
  cbv
  refine ⟨imI hA fun e0 => have c0 : (((List.length a0) : Nat) : Int) = (0 : Int) := (by have q := (cmpE (op := .eql) hA e0); subst hA; exact q); ⟨ndI hA (And.intro (by subst hA; show 0 = 0; (first | rfl | simp [rappS_end] | (simp only [rappS_end, List.length_append, List.length_set, List.length_cons, List.length_nil]; omega))) (And.intro rfl (by subst hA; show 0 = 0; (first | rfl | simp [rappS_end] | (simp only [rappS_end, List.length_append, List.length_set, List.length_cons, List.length_nil]; omega))))), ⟨ndI hA (by subst hA; exact vpur), (by rw [W.rr]; exact (by subst hA; exact (h.1 c0)))⟩⟩, ⟨ndI hA (And.intro (by subst hA; exact h.2.1) (by subst hA; exact h.2.2.1)), ⟨ndI hA (And.intro rfl (And.intro rfl rfl)), ⟨ndI hA (by subst hA; exact h.2.2.2.1), (by rw [W.rr]; exact (by subst hA; exact h.2.2.2.2))⟩⟩⟩⟩

-- 36: signalbox/spans.Deepest DRAWN
section
structure V36 (EV Q : Nat → Rs → List Lf → Prop) : Prop where
  p15 : ∀ {R0 : List (List AV)} {t6 : Int} {t7 : Int} {t8 : Int} {t18 : List (List AV)} {t19 : Int} {t20 : Int}, (pursS R0 = true → 
    (t20 < t19 →
      ((0 : Int) ≤ t20) ∧
      (t18[(Int.toNat t20)]? = some [(AV.int .i64 (cIS t18 (Int.toNat t20) 0)), (AV.int .i64 (cIS t18 (Int.toNat t20) 1))]) ∧
      (EV 28 [R0] [(Lf.i t6), (Lf.i t7), (Lf.i t8), (Lf.i t20), (Lf.r t18), (Lf.i t19), (Lf.i t20), (Lf.i (cIS t18 (Int.toNat t20) 0)), (Lf.i (cIS t18 (Int.toNat t20) 1))])) ∧
    (t20 ≥ t19 →
      Q 0 [] [(Lf.i t6), (Lf.i t7)])) →
    EV 15 [R0] [.i t6, .i t7, .i t8, .r t18, .i t19, .i t20]
  p28 : ∀ {R0 : List (List AV)} {t6 : Int} {t7 : Int} {t8 : Int} {t9 : Int} {t18 : List (List AV)} {t19 : Int} {t20 : Int} {tb1_0 : Int} {tb1_1 : Int}, (pursS R0 = true → 
    ((0 : Int) ≤ t8) ∧
    (t8 < (((List.length R0) : Nat) : Int)) ∧
    (R0[(Int.toNat t8)]? = some [(AV.int .i64 (cIS R0 (Int.toNat t8) 0)), (AV.int .i64 (cIS R0 (Int.toNat t8) 1))]) ∧
    ((cIS R0 (Int.toNat t8) 1) ≤ tb1_0 →
      EV 28 [R0] [(Lf.i t6), (Lf.i t7), (Lf.i (IntKind.wrap .i64 (t8 + (1 : Int)))), (Lf.i t9), (Lf.r t18), (Lf.i t19), (Lf.i t20), (Lf.i tb1_0), (Lf.i tb1_1)]) ∧
    ((cIS R0 (Int.toNat t8) 1) > tb1_0 →
      ((IntKind.wrap .i64 ((IntKind.wrap .i64 (t9 + (1 : Int))) - t8)) > t6 →
        EV 15 [R0] [(Lf.i (IntKind.wrap .i64 ((IntKind.wrap .i64 (t9 + (1 : Int))) - t8))), (Lf.i tb1_0), (Lf.i t8), (Lf.r t18), (Lf.i t19), (Lf.i (IntKind.wrap .i64 (t20 + (1 : Int))))]) ∧
      ((IntKind.wrap .i64 ((IntKind.wrap .i64 (t9 + (1 : Int))) - t8)) ≤ t6 →
        EV 15 [R0] [(Lf.i t6), (Lf.i t7), (Lf.i t8), (Lf.r t18), (Lf.i t19), (Lf.i (IntKind.wrap .i64 (t20 + (1 : Int))))]))) →
    EV 28 [R0] [.i t6, .i t7, .i t8, .i t9, .r t18, .i t19, .i t20, .i tb1_0, .i tb1_1]

set_option maxHeartbeats 0 in
theorem V36.of {Q : Nat → Rs → List Lf → Prop} {A : Ar} {CE : Nat → Rs → List Lf → (Nat → Rs → List Lf → Prop) → Prop} {CK : Nat → Rs → List Lf → Cont → Prop} {Dn : Nat → List Bool → List AItem → Nat → List Bool → List AV → List ABlk → Prop} {EV RR : Nat → Rs → List Lf → Prop} (W : Wk Try.prog Try.f36 I36 L36 Q A sg CE CK Dn EV RR) : V36 EV Q := by
  have hA := W.hA
  refine ⟨?_, ?_⟩
  · intro R0 t6 t7 t8 t18 t19 t20 h
    refine W.step 80 fun hp => ?_
    have h := h hp.1
    cbv
    refine ⟨imI hA fun e0 => have c0 : t20 < t19 := (by have q := (cmpE (op := .lss) hA e0); subst hA; exact q); ⟨ndI hA (And.intro (by subst hA; exact (h.1 c0).1) (by subst hA; exact (h.1 c0).2.1)), ⟨ndI hA (And.intro rfl (And.intro rfl rfl)), ⟨ndI hA (by subst hA; exact hp.1), (by subst hA; exact (h.1 c0).2.2)⟩⟩⟩, imI hA fun e0 => have c0 : t20 ≥ t19 := (by have q := (cmpE (op := .lss) hA e0); subst hA; exact q); (by rw [W.rr]; exact (by subst hA; exact (h.2 c0)))⟩
  · intro R0 t6 t7 t8 t9 t18 t19 t20 tb1_0 tb1_1 h
    refine W.step 80 fun hp => ?_
    have h := h hp.1
    cbv
    refine ⟨ndI hA (And.intro (by subst hA; exact h.1) (And.intro (by subst hA; exact h.2.1) rfl)), ⟨ndI hA (And.intro rfl (by subst hA; show R0[(0 + (Int.toNat t8))]? = some [(AV.int .i64 (cIS R0 (0 + (Int.toNat t8)) 0)), (AV.int .i64 (cIS R0 (0 + (Int.toNat t8)) 1))]; (try simp only [rappS_end, Nat.zero_add, Int.toNat_natCast]); exact h.2.2.1)), ⟨imI hA fun e0 => have c0 : (cIS R0 (Int.toNat t8) 1) ≤ tb1_0 := (by have q := (cmpE (op := .leq) hA e0); subst hA; have q : (cIS R0 (0 + (Int.toNat t8)) 1) ≤ tb1_0 := q; simpa only [rappS_end, Nat.zero_add, Int.toNat_natCast] using q); ⟨ndI hA (And.intro rfl (And.intro rfl rfl)), ⟨ndI hA (by subst hA; exact hp.1), (by subst hA; exact (h.2.2.2.1 c0))⟩⟩, imI hA fun e0 => have c0 : (cIS R0 (Int.toNat t8) 1) > tb1_0 := (by have q := (cmpE (op := .leq) hA e0); subst hA; have q : (cIS R0 (0 + (Int.toNat t8)) 1) > tb1_0 := q; simpa only [rappS_end, Nat.zero_add, Int.toNat_natCast] using q); ⟨imI hA fun e1 => have c1 : (IntKind.wrap .i64 ((IntKind.wrap .i64 (t9 + (1 : Int))) - t8)) > t6 := (by have q := (cmpE (op := .gtr) hA e1); subst hA; exact q); ⟨ndI hA (And.intro rfl (And.intro rfl rfl)), ⟨ndI hA (by subst hA; exact hp.1), (by subst hA; exact ((h.2.2.2.2 c0).1 c1))⟩⟩, imI hA fun e1 => have c1 : (IntKind.wrap .i64 ((IntKind.wrap .i64 (t9 + (1 : Int))) - t8)) ≤ t6 := (by have q := (cmpE (op := .gtr) hA e1); subst hA; exact q); ⟨ndI hA (And.intro rfl (And.intro rfl rfl)), ⟨ndI hA (by subst hA; exact hp.1), (by subst hA; exact ((h.2.2.2.2 c0).2 c1))⟩⟩⟩⟩⟩⟩

end
set_option maxHeartbeats 0 in
/-- To enter. -/
theorem E36 {Q : Nat → Rs → List Lf → Prop} {a0 : List (List AV)} (h : ∀ EV : Nat → Rs → List Lf → Prop, V36 EV Q →
    EC Try.prog G48 [] [(Lf.r a0)] (fun x rs vs => (x = 0 ∧ ∃ (Y0_0 : List (List AV)), rs = [Y0_0] ∧ vs = [] ∧
      (EC Try.prog G53 [] [(Lf.r (List.take (List.length Y0_0) (List.drop 0 Y0_0)))] (fun x rs vs => (x = 0 ∧ ∃ (Y1_0 : List (List AV)), rs = [Y1_0] ∧ vs = [] ∧
          (EC Try.prog G54b [Y1_0] [] (fun x rs vs => (x = 0 ∧ ∃ (Y2_0 : List (List AV)), rs = [Y2_0] ∧ vs = [] ∧
              (((List.length Y1_0) = (List.length Y2_0)) ∧
                (EV 15 [Y2_0] [(Lf.i (0 : Int)), (Lf.i (0 : Int)), (Lf.i (0 : Int)), (Lf.r (List.take (List.length Y0_0) (List.drop 0 Y0_0))), (Lf.i (((List.length (List.take (List.length Y0_0) (List.drop 0 Y0_0))) : Nat) : Int)), (Lf.i (0 : Int))]))))))))))) :
    EC Try.prog G36 [] [.r a0] Q := by
  obtain ⟨A, hA⟩ : ∃ A, A = arS := ⟨_, rfl⟩
  refine Inst.enter (I := I36) hA mixed F36_at sg L36 80 rfl fun CE CK Dn EV RR W hp => ?_
  have h := h  EV (V36.of W)
  cbv
  refine ?_
  · refine W.call 80 (by rfl) h (by subst hA; rfl) (by subst hA; rfl) ?_
    rintro x rs vs hp0 hq0
    rcases hq0 with ⟨rfl, Y0_0, rfl, rfl, k0⟩
    · cbv
      refine ⟨ndI hA (And.intro (And.intro (by subst hA; exact hp0.1) trivial) (And.intro rfl (And.intro rfl trivial))), ?_⟩
      · refine W.call 80 (by rfl) k0 (by subst hA; rfl) (by subst hA; rfl) ?_
        rintro x rs vs hp1 hq1
        rcases hq1 with ⟨rfl, Y1_0, rfl, rfl, k1⟩
        · cbv
          refine ⟨ndI hA (And.intro rfl (And.intro rfl rfl)), ⟨ndI hA (by subst hA; exact hp1.1), ?_⟩⟩
          · refine W.call 80 (by rfl) k1 (by subst hA; rfl) (by subst hA; rfl) ?_
            rintro x rs vs hp2 hq2
            rcases hq2 with ⟨rfl, Y2_0, rfl, rfl, k2⟩
            · cbv
              refine ⟨ndI hA (And.intro (by subst hA; exact k2.1) (And.intro rfl (by subst hA; exact k2.1))), ⟨ndI hA (by subst hA; exact hp2.1), (by subst hA; exact k2.2)⟩⟩

-- 29: signalbox/spans.Gaps
section
structure V29 (EV Q : Nat → Rs → List Lf → Prop) : Prop where
  p11 : ∀ {R0 : List (List AV)} {R1 : List (List AV)} {t8 : Int} {t9 : Int} {t24 : Int} {t25 : Int}, (pursS R0 = true → pursS R1 = true → 
    (t25 < t24 →
      ((0 : Int) ≤ t25) ∧
      (t25 < (((List.length R1) : Nat) : Int)) ∧
      (R1[(Int.toNat t25)]? = some [(AV.int .i64 (cIS R1 (Int.toNat t25) 0)), (AV.int .i64 (cIS R1 (Int.toNat t25) 1))]) ∧
      (EC Try.prog G51 [] [(Lf.i t8), (Lf.i (arS.mn (cIS R1 (Int.toNat t25) 0) t9))] (fun x rs vs => (x = 0 ∧ ∃ (y1_0 : Int), rs = [] ∧ vs = [.i y1_0] ∧
        ((y1_0 > (0 : Int) →
            (((List.length R0) + 1) ≤ 140737488355328) ∧
            ((((List.length R0) + 1) * 16) ≤ 140737488355328) ∧
            (EV 11 [(R0 ++ [[(AV.int .i64 t8), (AV.int .i64 (arS.mn (cIS R1 (Int.toNat t25) 0) t9))]]), R1] [(Lf.i (arS.mx t8 (cIS R1 (Int.toNat t25) 1))), (Lf.i t9), (Lf.i t24), (Lf.i (IntKind.wrap .i64 (t25 + (1 : Int))))])) ∧
          (y1_0 ≤ (0 : Int) →
            EV 11 [R0, R1] [(Lf.i (arS.mx t8 (cIS R1 (Int.toNat t25) 1))), (Lf.i t9), (Lf.i t24), (Lf.i (IntKind.wrap .i64 (t25 + (1 : Int))))])))))) ∧
    (t25 ≥ t24 →
      Q 0 [R0] [])) →
    EV 11 [R0, R1] [.i t8, .i t9, .i t24, .i t25]

set_option maxHeartbeats 0 in
theorem V29.of {Q : Nat → Rs → List Lf → Prop} {A : Ar} {CE : Nat → Rs → List Lf → (Nat → Rs → List Lf → Prop) → Prop} {CK : Nat → Rs → List Lf → Cont → Prop} {Dn : Nat → List Bool → List AItem → Nat → List Bool → List AV → List ABlk → Prop} {EV RR : Nat → Rs → List Lf → Prop} (W : Wk Try.prog Try.f29 I29 L29 Q A sg CE CK Dn EV RR) : V29 EV Q := by
  have hA := W.hA
  refine ⟨?_⟩
  · intro R0 R1 t8 t9 t24 t25 h
    refine W.step 80 fun hp => ?_
    have h := h hp.1 hp.2.1
    cbv
    refine ⟨imI hA fun e0 => have c0 : t25 < t24 := (by have q := (cmpE (op := .lss) hA e0); subst hA; exact q); ⟨ndI hA (And.intro (by subst hA; exact (h.1 c0).1) (And.intro (by subst hA; exact (h.1 c0).2.1) rfl)), ⟨ndI hA (And.intro rfl (by subst hA; show R1[(0 + (Int.toNat t25))]? = some [(AV.int .i64 (cIS R1 (0 + (Int.toNat t25)) 0)), (AV.int .i64 (cIS R1 (0 + (Int.toNat t25)) 1))]; (try simp only [rappS_end, Nat.zero_add, Int.toNat_natCast]); exact (h.1 c0).2.2.1)), ?_⟩⟩, imI hA fun e0 => have c0 : t25 ≥ t24 := (by have q := (cmpE (op := .lss) hA e0); subst hA; exact q); ⟨ndI hA (And.intro rfl (And.intro rfl rfl)), ⟨ndI hA (by subst hA; exact hp.1), (by rw [W.rr]; exact (by subst hA; exact (h.2 c0)))⟩⟩⟩
    · refine W.call 80 (by rfl) (h.1 c0).2.2.2 (by subst hA; show [] = []; (try simp only [rappS_end, Nat.zero_add, Int.toNat_natCast])) (by subst hA; show [(Lf.i t8), (Lf.i (arS.mn (cIS R1 (0 + (Int.toNat t25)) 0) t9))] = [(Lf.i t8), (Lf.i (arS.mn (cIS R1 (Int.toNat t25) 0) t9))]; (try simp only [rappS_end, Nat.zero_add, Int.toNat_natCast])) ?_
      rintro x rs vs hp1 hq1
      rcases hq1 with ⟨rfl, y1_0, rfl, rfl, k1⟩
      · cbv
        refine ⟨imI hA fun e2 => have c2 : y1_0 > (0 : Int) := (by have q := (cmpE (op := .gtr) hA e2); subst hA; exact q); ⟨ndI hA (And.intro rfl (And.intro (Nat.le_refl _) (And.intro (by subst hA; show ((List.length R0) + 1) ≤ 140737488355328; (try simp only [rappS_end, Nat.zero_add, Int.toNat_natCast]); exact (k1.1 c2).1) (by subst hA; show (((List.length R0) + 1) * 16) ≤ 140737488355328; (try simp only [rappS_end, Nat.zero_add, Int.toNat_natCast]); exact (k1.1 c2).2.1)))), ⟨ndI hA (And.intro rfl (And.intro rfl (by subst hA; show ((List.length R0) + 1) = (List.length (rappS R0 (List.length R0) [[(AV.int .i64 t8), (AV.int .i64 (arS.mn (cIS R1 (0 + (Int.toNat t25)) 0) t9))]])); (first | rfl | simp [rappS_end] | (simp only [rappS_end, List.length_append, List.length_set, List.length_cons, List.length_nil]; omega))))), ⟨ndI hA (And.intro rfl (And.intro rfl rfl)), ⟨ndI hA (by subst hA; exact (vapp hp.1 vpur)), ⟨ndI hA (by subst hA; exact hp.2.1), (by subst hA; show EV 11 [(rappS R0 (List.length R0) [[(AV.int .i64 t8), (AV.int .i64 (arS.mn (cIS R1 (0 + (Int.toNat t25)) 0) t9))]]), R1] [(Lf.i (arS.mx t8 (cIS R1 (0 + (Int.toNat t25)) 1))), (Lf.i t9), (Lf.i t24), (Lf.i (IntKind.wrap .i64 (t25 + (1 : Int))))]; (try simp only [rappS_end, Nat.zero_add, Int.toNat_natCast]); exact (k1.1 c2).2.2)⟩⟩⟩⟩⟩, imI hA fun e2 => have c2 : y1_0 ≤ (0 : Int) := (by have q := (cmpE (op := .gtr) hA e2); subst hA; exact q); ⟨ndI hA (And.intro rfl (And.intro rfl rfl)), ⟨ndI hA (And.intro rfl (And.intro rfl rfl)), ⟨ndI hA (by subst hA; exact hp.1), ⟨ndI hA (by subst hA; exact hp.2.1), (by subst hA; show EV 11 [R0, R1] [(Lf.i (arS.mx t8 (cIS R1 (0 + (Int.toNat t25)) 1))), (Lf.i t9), (Lf.i t24), (Lf.i (IntKind.wrap .i64 (t25 + (1 : Int))))]; (try simp only [rappS_end, Nat.zero_add, Int.toNat_natCast]); exact (k1.2 c2))⟩⟩⟩⟩⟩

end
set_option maxHeartbeats 0 in
/-- To enter. -/
theorem E29 {Q : Nat → Rs → List Lf → Prop} {a0 : List (List AV)} {a1 : Int} {a2 : Int} (h : ∀ EV : Nat → Rs → List Lf → Prop, V29 EV Q →
    EC Try.prog G50 [] [(Lf.i a1)] (fun x rs vs => (x = 0 ∧ ∃ (y0_0 : Int), rs = [] ∧ vs = [.i y0_0] ∧
      (EC Try.prog G50 [] [(Lf.i a2)] (fun x rs vs => (x = 0 ∧ ∃ (y1_0 : Int), rs = [] ∧ vs = [.i y1_0] ∧
          (EC Try.prog G26 [] [(Lf.r a0)] (fun x rs vs => (x = 0 ∧ ∃ (Y2_0 : List (List AV)), rs = [Y2_0] ∧ vs = [] ∧
              ((((List.length Y2_0) + 1) ≤ 140737488355328) ∧
                ((((List.length Y2_0) + 1) * 16) ≤ 140737488355328) ∧
                (EV 11 [[], (Y2_0 ++ [[(AV.int .i64 y1_0), (AV.int .i64 y1_0)]])] [(Lf.i y0_0), (Lf.i y1_0), (Lf.i ((((List.length Y2_0) + 1) : Nat) : Int)), (Lf.i (0 : Int))]))))))))))) :
    EC Try.prog G29 [] [.r a0, .i a1, .i a2] Q := by
  obtain ⟨A, hA⟩ : ∃ A, A = arS := ⟨_, rfl⟩
  refine Inst.enter (I := I29) hA mixed F29_at sg L29 80 rfl fun CE CK Dn EV RR W hp => ?_
  have h := h  EV (V29.of W)
  cbv
  refine ?_
  · refine W.call 80 (by rfl) h (by subst hA; rfl) (by subst hA; rfl) ?_
    rintro x rs vs hp0 hq0
    rcases hq0 with ⟨rfl, y0_0, rfl, rfl, k0⟩
    · cbv
      refine ?_
      · refine W.call 80 (by rfl) k0 (by subst hA; rfl) (by subst hA; rfl) ?_
        rintro x rs vs hp1 hq1
        rcases hq1 with ⟨rfl, y1_0, rfl, rfl, k1⟩
        · cbv
          refine ?_
          · refine W.call 80 (by rfl) k1 (by subst hA; rfl) (by subst hA; rfl) ?_
            rintro x rs vs hp2 hq2
            rcases hq2 with ⟨rfl, Y2_0, rfl, rfl, k2⟩
            · cbv
              refine ⟨ndI hA (And.intro rfl (And.intro (Nat.le_refl _) (And.intro (by subst hA; exact k2.1) (by subst hA; exact k2.2.1)))), ⟨ndI hA rfl, ⟨ndI hA (And.intro (by subst hA; show 0 = 0; (first | rfl | simp [rappS_end] | (simp only [rappS_end, List.length_append, List.length_set, List.length_cons, List.length_nil]; omega))) (And.intro rfl (by subst hA; show 0 = 0; (first | rfl | simp [rappS_end] | (simp only [rappS_end, List.length_append, List.length_set, List.length_cons, List.length_nil]; omega))))), ⟨ndI hA (And.intro rfl (And.intro rfl (by subst hA; show ((List.length Y2_0) + 1) = (List.length (rappS Y2_0 (List.length Y2_0) [[(AV.int .i64 y1_0), (AV.int .i64 y1_0)]])); (first | rfl | simp [rappS_end] | (simp only [rappS_end, List.length_append, List.length_set, List.length_cons, List.length_nil]; omega))))), ⟨ndI hA (by subst hA; exact vpur), ⟨ndI hA (by subst hA; exact (vapp hp2.1 vpur)), (by subst hA; show EV 11 [[], (rappS Y2_0 (List.length Y2_0) [[(AV.int .i64 y1_0), (AV.int .i64 y1_0)]])] [(Lf.i y0_0), (Lf.i y1_0), (Lf.i ((((List.length Y2_0) + 1) : Nat) : Int)), (Lf.i (0 : Int))]; (try simp only [rappS_end, Nat.zero_add, Int.toNat_natCast]); exact k2.2.2)⟩⟩⟩⟩⟩⟩

-- 35: signalbox/spans.Longest DRAWN
section
structure V35 (EV Q : Nat → Rs → List Lf → Prop) : Prop where
  p19 : ∀ {R0 : List (List AV)} {t18_0 : Nat} {t18_1 : Nat} {t19 : Int} {t20 : Int} {tb0_0 : Int} {tb0_1 : Int} {tb1_0 : Int} {tb1_1 : Int}, (pursS R0 = true → 
    (t20 < t19 →
      ((0 : Int) ≤ t20) ∧
      (t20 < ((t18_1 : Nat) : Int)) ∧
      (R0[(t18_0 + (Int.toNat t20))]? = some [(AV.int .i64 (cIS R0 (t18_0 + (Int.toNat t20)) 0)), (AV.int .i64 (cIS R0 (t18_0 + (Int.toNat t20)) 1))]) ∧
      (EC Try.prog G51 [] [(Lf.i (cIS R0 (t18_0 + (Int.toNat t20)) 0)), (Lf.i (cIS R0 (t18_0 + (Int.toNat t20)) 1))] (fun x rs vs => (x = 0 ∧ ∃ (y1_0 : Int), rs = [] ∧ vs = [.i y1_0] ∧
        (EC Try.prog G51 [] [(Lf.i tb1_0), (Lf.i tb1_1)] (fun x rs vs => (x = 0 ∧ ∃ (y2_0 : Int), rs = [] ∧ vs = [.i y2_0] ∧
            (EV 31 [R0] [(Lf.n t18_0), (Lf.n t18_1), (Lf.i t19), (Lf.i t20), (Lf.b (decide (y1_0 > y2_0))), (Lf.i tb0_0), (Lf.i tb0_1), (Lf.i tb1_0), (Lf.i tb1_1), (Lf.i (cIS R0 (t18_0 + (Int.toNat t20)) 0)), (Lf.i (cIS R0 (t18_0 + (Int.toNat t20)) 1))])))))))) ∧
    (t20 ≥ t19 →
      Q 0 [] [(Lf.i tb1_0), (Lf.i tb1_1), (Lf.b true)])) →
    EV 19 [R0] [.n t18_0, .n t18_1, .i t19, .i t20, .i tb0_0, .i tb0_1, .i tb1_0, .i tb1_1]
  p31 : ∀ {R0 : List (List AV)} {t18_0 : Nat} {t18_1 : Nat} {t19 : Int} {t20 : Int} {t28 : Bool} {tb0_0 : Int} {tb0_1 : Int} {tb1_0 : Int} {tb1_1 : Int} {tb2_0 : Int} {tb2_1 : Int}, (pursS R0 = true → 
    (t28 = true →
      EV 19 [R0] [(Lf.n t18_0), (Lf.n t18_1), (Lf.i t19), (Lf.i (IntKind.wrap .i64 (t20 + (1 : Int)))), (Lf.i tb0_0), (Lf.i tb0_1), (Lf.i tb2_0), (Lf.i tb2_1)]) ∧
    (t28 = false →
      EV 19 [R0] [(Lf.n t18_0), (Lf.n t18_1), (Lf.i t19), (Lf.i (IntKind.wrap .i64 (t20 + (1 : Int)))), (Lf.i tb0_0), (Lf.i tb0_1), (Lf.i tb1_0), (Lf.i tb1_1)])) →
    EV 31 [R0] [.n t18_0, .n t18_1, .i t19, .i t20, .b t28, .i tb0_0, .i tb0_1, .i tb1_0, .i tb1_1, .i tb2_0, .i tb2_1]

set_option maxHeartbeats 0 in
theorem V35.of {Q : Nat → Rs → List Lf → Prop} {A : Ar} {CE : Nat → Rs → List Lf → (Nat → Rs → List Lf → Prop) → Prop} {CK : Nat → Rs → List Lf → Cont → Prop} {Dn : Nat → List Bool → List AItem → Nat → List Bool → List AV → List ABlk → Prop} {EV RR : Nat → Rs → List Lf → Prop} (W : Wk Try.prog Try.f35 I35 L35 Q A sg CE CK Dn EV RR) : V35 EV Q := by
  have hA := W.hA
  refine ⟨?_, ?_⟩
  · intro R0 t18_0 t18_1 t19 t20 tb0_0 tb0_1 tb1_0 tb1_1 h
    refine W.step 80 fun hp => ?_
    have h := h hp.1
    cbv
    refine ⟨imI hA fun e0 => have c0 : t20 < t19 := (by have q := (cmpE (op := .lss) hA e0); subst hA; exact q); ⟨ndI hA (And.intro (by subst hA; exact (h.1 c0).1) (And.intro (by subst hA; exact (h.1 c0).2.1) rfl)), ⟨ndI hA (And.intro rfl (by subst hA; exact (h.1 c0).2.2.1)), ⟨?_, trivial⟩⟩⟩, imI hA fun e0 => have c0 : t20 ≥ t19 := (by have q := (cmpE (op := .lss) hA e0); subst hA; exact q); (by rw [W.rr]; exact (by subst hA; exact (h.2 c0)))⟩
    · refine W.callD (by rfl) (h.1 c0).2.2.2 (by subst hA; rfl) (by subst hA; rfl) ?_
      rintro x rs vs hp1 hq1
      rcases hq1 with ⟨rfl, y1_0, rfl, rfl, k1⟩
      · cbv
        refine ?_
        · refine W.draw 80 (by rfl) ?_
          cbv
          refine ⟨?_, trivial⟩
          · refine W.callD (by rfl) k1 (by subst hA; rfl) (by subst hA; rfl) ?_
            rintro x rs vs hp2 hq2
            rcases hq2 with ⟨rfl, y2_0, rfl, rfl, k2⟩
            · cbv
              refine ?_
              · refine W.draw 80 (by rfl) ?_
                cbv
                refine ⟨ndI hA rfl, ⟨ndI hA (by subst hA; exact hp.1), (by subst hA; exact k2)⟩⟩
  · intro R0 t18_0 t18_1 t19 t20 t28 tb0_0 tb0_1 tb1_0 tb1_1 tb2_0 tb2_1 h
    refine W.step 80 fun hp => ?_
    have h := h hp.1
    cbv
    refine ⟨imI hA fun e0 => have c0 : t28 = true := (by have q := e0; subst hA; exact q); ⟨ndI hA rfl, ⟨ndI hA (by subst hA; exact hp.1), (by subst hA; exact (h.1 c0))⟩⟩, imI hA fun e0 => have c0 : t28 = false := (by have q := e0; subst hA; exact q); ⟨ndI hA rfl, ⟨ndI hA (by subst hA; exact hp.1), (by subst hA; exact (h.2 c0))⟩⟩⟩

end
set_option maxHeartbeats 0 in
/-- To enter. -/
theorem E35 {Q : Nat → Rs → List Lf → Prop} {a0 : List (List AV)} (h : ∀ EV : Nat → Rs → List Lf → Prop, V35 EV Q →
    EC Try.prog G26 [] [(Lf.r a0)] (fun x rs vs => (x = 0 ∧ ∃ (Y0_0 : List (List AV)), rs = [Y0_0] ∧ vs = [] ∧
      (((((List.length Y0_0) : Nat) : Int) = (0 : Int) →
          Q 0 [] [(Lf.i (0 : Int)), (Lf.i (0 : Int)), (Lf.b false)]) ∧
        ((((List.length Y0_0) : Nat) : Int) ≠ (0 : Int) →
          ((0 : Int) < (((List.length Y0_0) : Nat) : Int)) ∧
          (Y0_0[(Int.toNat (0 : Int))]? = some [(AV.int .i64 (cIS Y0_0 (Int.toNat (0 : Int)) 0)), (AV.int .i64 (cIS Y0_0 (Int.toNat (0 : Int)) 1))]) ∧
          ((0 : Int) ≤ (1 : Int)) ∧
          ((1 : Int) ≤ (((List.length Y0_0) : Nat) : Int)) ∧
          (EV 19 [Y0_0] [(Lf.n (Int.toNat (1 : Int))), (Lf.n ((List.length Y0_0) - (Int.toNat (1 : Int)))), (Lf.i ((((List.length Y0_0) - (Int.toNat (1 : Int))) : Nat) : Int)), (Lf.i (0 : Int)), (Lf.i (0 : Int)), (Lf.i (0 : Int)), (Lf.i (cIS Y0_0 (Int.toNat (0 : Int)) 0)), (Lf.i (cIS Y0_0 (Int.toNat (0 : Int)) 1))])))))) :
    EC Try.prog G35 [] [.r a0] Q := by
  obtain ⟨A, hA⟩ : ∃ A, A = arS := ⟨_, rfl⟩
  refine Inst.enter (I := I35) hA mixed F35_at sg L35 80 rfl fun CE CK Dn EV RR W hp => ?_
  have h := h  EV (V35.of W)
  cbv
  refine ?_
  · refine W.call 80 (by rfl) h (by subst hA; rfl) (by subst hA; rfl) ?_
    rintro x rs vs hp0 hq0
    rcases hq0 with ⟨rfl, Y0_0, rfl, rfl, k0⟩
    · cbv
      refine ⟨ndI hA rfl, ⟨imI hA fun e1 => have c1 : (((List.length Y0_0) : Nat) : Int) = (0 : Int) := (by have q := (cmpE (op := .eql) hA e1); subst hA; exact q); (by rw [W.rr]; exact (by subst hA; exact (k0.1 c1))), imI hA fun e1 => have c1 : (((List.length Y0_0) : Nat) : Int) ≠ (0 : Int) := (by have q := (cmpE (op := .eql) hA e1); subst hA; exact q); ⟨ndI hA (And.intro (by subst hA; exact Int.le_refl _) (And.intro (by subst hA; exact (k0.2 c1).1) rfl)), ⟨ndI hA (And.intro rfl (by subst hA; show Y0_0[(0 + (Int.toNat (0 : Int)))]? = some [(AV.int .i64 (cIS Y0_0 (0 + (Int.toNat (0 : Int))) 0)), (AV.int .i64 (cIS Y0_0 (0 + (Int.toNat (0 : Int))) 1))]; (try simp only [rappS_end, Nat.zero_add, Int.toNat_natCast]); exact (k0.2 c1).2.1)), ⟨ndI hA (And.intro (by subst hA; exact (k0.2 c1).2.2.1) (And.intro (by subst hA; exact (k0.2 c1).2.2.2.1) rfl)), ⟨ndI hA rfl, ⟨ndI hA rfl, ⟨ndI hA (by subst hA; exact hp0.1), (by subst hA; show EV 19 [Y0_0] [(Lf.n (0 + (Int.toNat (1 : Int)))), (Lf.n ((List.length Y0_0) - (Int.toNat (1 : Int)))), (Lf.i ((((List.length Y0_0) - (Int.toNat (1 : Int))) : Nat) : Int)), (Lf.i (0 : Int)), (Lf.i (0 : Int)), (Lf.i (0 : Int)), (Lf.i (cIS Y0_0 (0 + (Int.toNat (0 : Int))) 0)), (Lf.i (cIS Y0_0 (0 + (Int.toNat (0 : Int))) 1))]; (try simp only [rappS_end, Nat.zero_add, Int.toNat_natCast]); exact (k0.2 c1).2.2.2.2)⟩⟩⟩⟩⟩⟩⟩⟩

-- 37: signalbox/spans.Total
section
structure V37 (EV Q : Nat → Rs → List Lf → Prop) : Prop where
  p9 : ∀ {R0 : List (List AV)} {t3 : Int} {t8 : Int} {t9 : Int}, (pursS R0 = true → 
    (t9 < t8 →
      ((0 : Int) ≤ t9) ∧
      (t9 < (((List.length R0) : Nat) : Int)) ∧
      (R0[(Int.toNat t9)]? = some [(AV.int .i64 (cIS R0 (Int.toNat t9) 0)), (AV.int .i64 (cIS R0 (Int.toNat t9) 1))]) ∧
      (EC Try.prog G51 [] [(Lf.i (cIS R0 (Int.toNat t9) 0)), (Lf.i (cIS R0 (Int.toNat t9) 1))] (fun x rs vs => (x = 0 ∧ ∃ (y1_0 : Int), rs = [] ∧ vs = [.i y1_0] ∧
        (EV 9 [R0] [(Lf.i (IntKind.wrap .i64 (t3 + y1_0))), (Lf.i t8), (Lf.i (IntKind.wrap .i64 (t9 + (1 : Int))))]))))) ∧
    (t9 ≥ t8 →
      Q 0 [] [(Lf.i t3)])) →
    EV 9 [R0] [.i t3, .i t8, .i t9]

set_option maxHeartbeats 0 in
theorem V37.of {Q : Nat → Rs → List Lf → Prop} {A : Ar} {CE : Nat → Rs → List Lf → (Nat → Rs → List Lf → Prop) → Prop} {CK : Nat → Rs → List Lf → Cont → Prop} {Dn : Nat → List Bool → List AItem → Nat → List Bool → List AV → List ABlk → Prop} {EV RR : Nat → Rs → List Lf → Prop} (W : Wk Try.prog Try.f37 I37 L37 Q A sg CE CK Dn EV RR) : V37 EV Q := by
  have hA := W.hA
  refine ⟨?_⟩
  · intro R0 t3 t8 t9 h
    refine W.step 80 fun hp => ?_
    have h := h hp.1
    cbv
    refine ⟨imI hA fun e0 => have c0 : t9 < t8 := (by have q := (cmpE (op := .lss) hA e0); subst hA; exact q); ⟨ndI hA (And.intro (by subst hA; exact (h.1 c0).1) (And.intro (by subst hA; exact (h.1 c0).2.1) rfl)), ⟨ndI hA (And.intro rfl (by subst hA; show R0[(0 + (Int.toNat t9))]? = some [(AV.int .i64 (cIS R0 (0 + (Int.toNat t9)) 0)), (AV.int .i64 (cIS R0 (0 + (Int.toNat t9)) 1))]; (try simp only [rappS_end, Nat.zero_add, Int.toNat_natCast]); exact (h.1 c0).2.2.1)), ?_⟩⟩, imI hA fun e0 => have c0 : t9 ≥ t8 := (by have q := (cmpE (op := .lss) hA e0); subst hA; exact q); (by rw [W.rr]; exact (by subst hA; exact (h.2 c0)))⟩
    · refine W.call 80 (by rfl) (h.1 c0).2.2.2 (by subst hA; show [] = []; (try simp only [rappS_end, Nat.zero_add, Int.toNat_natCast])) (by subst hA; show [(Lf.i (cIS R0 (0 + (Int.toNat t9)) 0)), (Lf.i (cIS R0 (0 + (Int.toNat t9)) 1))] = [(Lf.i (cIS R0 (Int.toNat t9) 0)), (Lf.i (cIS R0 (Int.toNat t9) 1))]; (try simp only [rappS_end, Nat.zero_add, Int.toNat_natCast])) ?_
      rintro x rs vs hp1 hq1
      rcases hq1 with ⟨rfl, y1_0, rfl, rfl, k1⟩
      · cbv
        refine ⟨ndI hA (And.intro rfl (And.intro rfl rfl)), ⟨ndI hA (by subst hA; exact hp.1), (by subst hA; exact k1)⟩⟩

end
set_option maxHeartbeats 0 in
/-- To enter. -/
theorem E37 {Q : Nat → Rs → List Lf → Prop} {a0 : List (List AV)} (h : ∀ EV : Nat → Rs → List Lf → Prop, V37 EV Q →
    EC Try.prog G26 [] [(Lf.r a0)] (fun x rs vs => (x = 0 ∧ ∃ (Y0_0 : List (List AV)), rs = [Y0_0] ∧ vs = [] ∧
      (EV 9 [Y0_0] [(Lf.i (0 : Int)), (Lf.i (((List.length Y0_0) : Nat) : Int)), (Lf.i (0 : Int))])))) :
    EC Try.prog G37 [] [.r a0] Q := by
  obtain ⟨A, hA⟩ : ∃ A, A = arS := ⟨_, rfl⟩
  refine Inst.enter (I := I37) hA mixed F37_at sg L37 80 rfl fun CE CK Dn EV RR W hp => ?_
  have h := h  EV (V37.of W)
  cbv
  refine ?_
  · refine W.call 80 (by rfl) h (by subst hA; rfl) (by subst hA; rfl) ?_
    rintro x rs vs hp0 hq0
    rcases hq0 with ⟨rfl, Y0_0, rfl, rfl, k0⟩
    · cbv
      refine ⟨ndI hA rfl, ⟨ndI hA (And.intro rfl (And.intro rfl rfl)), ⟨ndI hA (by subst hA; exact hp0.1), (by subst hA; exact k0)⟩⟩⟩

-- 31: signalbox/spans.Meet DRAWN
section
structure V31 (EV Q : Nat → Rs → List Lf → Prop) : Prop where
  p9 : ∀ {R0 : List (List AV)} {R1 : List (List AV)} {R2 : List (List AV)} {t5_0 : Nat} {t5_1 : Nat} {t6_0 : Nat} {t6_1 : Nat}, (pursS R0 = true → pursS R1 = true → pursS R2 = true → 
    (((t5_1 : Nat) : Int) > (0 : Int) →
      (((t6_1 : Nat) : Int) > (0 : Int) →
        ((0 : Int) < ((t5_1 : Nat) : Int)) ∧
        (R0[(t5_0 + (Int.toNat (0 : Int)))]? = some [(AV.int .i64 (cIS R0 (t5_0 + (Int.toNat (0 : Int))) 0)), (AV.int .i64 (cIS R0 (t5_0 + (Int.toNat (0 : Int))) 1))]) ∧
        ((0 : Int) < ((t6_1 : Nat) : Int)) ∧
        (R1[(t6_0 + (Int.toNat (0 : Int)))]? = some [(AV.int .i64 (cIS R1 (t6_0 + (Int.toNat (0 : Int))) 0)), (AV.int .i64 (cIS R1 (t6_0 + (Int.toNat (0 : Int))) 1))]) ∧
        (EV 19 [R0, R1, R2] [(Lf.n t5_0), (Lf.n t5_1), (Lf.n t6_0), (Lf.n t6_1), (Lf.i (arS.mx (cIS R0 (t5_0 + (Int.toNat (0 : Int))) 0) (cIS R1 (t6_0 + (Int.toNat (0 : Int))) 0))), (Lf.i (arS.mn (cIS R0 (t5_0 + (Int.toNat (0 : Int))) 1) (cIS R1 (t6_0 + (Int.toNat (0 : Int))) 1)))])) ∧
      (((t6_1 : Nat) : Int) ≤ (0 : Int) →
        Q 0 [R2] [])) ∧
    (((t5_1 : Nat) : Int) ≤ (0 : Int) →
      Q 0 [R2] [])) →
    EV 9 [R0, R1, R2] [.n t5_0, .n t5_1, .n t6_0, .n t6_1]
  p19 : ∀ {R0 : List (List AV)} {R1 : List (List AV)} {R2 : List (List AV)} {t5_0 : Nat} {t5_1 : Nat} {t6_0 : Nat} {t6_1 : Nat} {tb3_0 : Int} {tb3_1 : Int}, (pursS R0 = true → pursS R1 = true → pursS R2 = true → 
    EC Try.prog G51 [] [(Lf.i tb3_0), (Lf.i tb3_1)] (fun x rs vs => (x = 0 ∧ ∃ (y0_0 : Int), rs = [] ∧ vs = [.i y0_0] ∧
      ((y0_0 > (0 : Int) →
          (((List.length R2) + 1) ≤ 140737488355328) ∧
          ((((List.length R2) + 1) * 16) ≤ 140737488355328) ∧
          (EV 24 [R0, R1, (R2 ++ [[(AV.int .i64 tb3_0), (AV.int .i64 tb3_1)]])] [(Lf.n t5_0), (Lf.n t5_1), (Lf.n t6_0), (Lf.n t6_1)])) ∧
        (y0_0 ≤ (0 : Int) →
          EV 24 [R0, R1, R2] [(Lf.n t5_0), (Lf.n t5_1), (Lf.n t6_0), (Lf.n t6_1)]))))) →
    EV 19 [R0, R1, R2] [.n t5_0, .n t5_1, .n t6_0, .n t6_1, .i tb3_0, .i tb3_1]
  p24 : ∀ {R0 : List (List AV)} {R1 : List (List AV)} {R2 : List (List AV)} {t5_0 : Nat} {t5_1 : Nat} {t6_0 : Nat} {t6_1 : Nat}, (pursS R0 = true → pursS R1 = true → pursS R2 = true → 
    ((0 : Int) < ((t5_1 : Nat) : Int)) ∧
    (R0[(t5_0 + (Int.toNat (0 : Int)))]? = some [(AV.int .i64 (cIS R0 (t5_0 + (Int.toNat (0 : Int))) 0)), (AV.int .i64 (cIS R0 (t5_0 + (Int.toNat (0 : Int))) 1))]) ∧
    ((0 : Int) < ((t6_1 : Nat) : Int)) ∧
    (R1[(t6_0 + (Int.toNat (0 : Int)))]? = some [(AV.int .i64 (cIS R1 (t6_0 + (Int.toNat (0 : Int))) 0)), (AV.int .i64 (cIS R1 (t6_0 + (Int.toNat (0 : Int))) 1))]) ∧
    ((cIS R0 (t5_0 + (Int.toNat (0 : Int))) 1) < (cIS R1 (t6_0 + (Int.toNat (0 : Int))) 1) →
      ((0 : Int) ≤ (1 : Int)) ∧
      ((1 : Int) ≤ ((t5_1 : Nat) : Int)) ∧
      (EV 9 [R0, R1, R2] [(Lf.n (t5_0 + (Int.toNat (1 : Int)))), (Lf.n (t5_1 - (Int.toNat (1 : Int)))), (Lf.n t6_0), (Lf.n t6_1)])) ∧
    ((cIS R0 (t5_0 + (Int.toNat (0 : Int))) 1) ≥ (cIS R1 (t6_0 + (Int.toNat (0 : Int))) 1) →
      ((0 : Int) ≤ (1 : Int)) ∧
      ((1 : Int) ≤ ((t6_1 : Nat) : Int)) ∧
      (EV 9 [R0, R1, R2] [(Lf.n t5_0), (Lf.n t5_1), (Lf.n (t6_0 + (Int.toNat (1 : Int)))), (Lf.n (t6_1 - (Int.toNat (1 : Int))))]))) →
    EV 24 [R0, R1, R2] [.n t5_0, .n t5_1, .n t6_0, .n t6_1]

set_option maxHeartbeats 0 in
theorem V31.of {Q : Nat → Rs → List Lf → Prop} {A : Ar} {CE : Nat → Rs → List Lf → (Nat → Rs → List Lf → Prop) → Prop} {CK : Nat → Rs → List Lf → Cont → Prop} {Dn : Nat → List Bool → List AItem → Nat → List Bool → List AV → List ABlk → Prop} {EV RR : Nat → Rs → List Lf → Prop} (W : Wk Try.prog Try.f31 I31 L31 Q A sg CE CK Dn EV RR) : V31 EV Q := by
  have hA := W.hA
  refine ⟨?_, ?_, ?_⟩
  · intro R0 R1 R2 t5_0 t5_1 t6_0 t6_1 h
    refine W.step 80 fun hp => ?_
    have h := h hp.1 hp.2.1 hp.2.2.1
    cbv
    refine ⟨ndI hA rfl, ⟨imI hA fun e0 => have c0 : ((t5_1 : Nat) : Int) > (0 : Int) := (by have q := (cmpE (op := .gtr) hA e0); subst hA; exact q); ⟨ndI hA rfl, ⟨imI hA fun e1 => have c1 : ((t6_1 : Nat) : Int) > (0 : Int) := (by have q := (cmpE (op := .gtr) hA e1); subst hA; exact q); ⟨ndI hA (And.intro (by subst hA; exact Int.le_refl _) (And.intro (by subst hA; exact ((h.1 c0).1 c1).1) rfl)), ⟨ndI hA (And.intro rfl (by subst hA; exact ((h.1 c0).1 c1).2.1)), ⟨ndI hA (And.intro (by subst hA; exact Int.le_refl _) (And.intro (by subst hA; exact ((h.1 c0).1 c1).2.2.1) rfl)), ⟨ndI hA (And.intro rfl (by subst hA; exact ((h.1 c0).1 c1).2.2.2.1)), ⟨ndI hA (And.intro (by subst hA; exact Int.le_refl _) (And.intro (by subst hA; exact ((h.1 c0).1 c1).1) rfl)), ⟨ndI hA (And.intro rfl (by subst hA; exact ((h.1 c0).1 c1).2.1)), ⟨ndI hA (And.intro (by subst hA; exact Int.le_refl _) (And.intro (by subst hA; exact ((h.1 c0).1 c1).2.2.1) rfl)), ⟨ndI hA (And.intro rfl (by subst hA; exact ((h.1 c0).1 c1).2.2.2.1)), ⟨⟨⟨ndI hA rfl, ⟨ndI hA rfl, ⟨ndI hA (And.intro rfl (And.intro rfl rfl)), ⟨ndI hA (by subst hA; exact hp.1), ⟨ndI hA (by subst hA; exact hp.2.1), ⟨ndI hA (by subst hA; exact hp.2.2.1), (by subst hA; exact ((h.1 c0).1 c1).2.2.2.2)⟩⟩⟩⟩⟩⟩, trivial⟩, trivial⟩⟩⟩⟩⟩⟩⟩⟩⟩, imI hA fun e1 => have c1 : ((t6_1 : Nat) : Int) ≤ (0 : Int) := (by have q := (cmpE (op := .gtr) hA e1); subst hA; exact q); ⟨ndI hA (And.intro rfl (And.intro rfl rfl)), ⟨ndI hA (by subst hA; exact hp.2.2.1), (by rw [W.rr]; exact (by subst hA; exact ((h.1 c0).2 c1)))⟩⟩⟩⟩, imI hA fun e0 => have c0 : ((t5_1 : Nat) : Int) ≤ (0 : Int) := (by have q := (cmpE (op := .gtr) hA e0); subst hA; exact q); ⟨ndI hA (And.intro rfl (And.intro rfl rfl)), ⟨ndI hA (by subst hA; exact hp.2.2.1), (by rw [W.rr]; exact (by subst hA; exact (h.2 c0)))⟩⟩⟩⟩
  · intro R0 R1 R2 t5_0 t5_1 t6_0 t6_1 tb3_0 tb3_1 h
    refine W.step 80 fun hp => ?_
    have h := h hp.1 hp.2.1 hp.2.2.1
    cbv
    refine ?_
    · refine W.call 80 (by rfl) h (by subst hA; rfl) (by subst hA; rfl) ?_
      rintro x rs vs hp0 hq0
      rcases hq0 with ⟨rfl, y0_0, rfl, rfl, k0⟩
      · cbv
        refine ⟨imI hA fun e1 => have c1 : y0_0 > (0 : Int) := (by have q := (cmpE (op := .gtr) hA e1); subst hA; exact q); ⟨ndI hA (And.intro rfl (And.intro (Nat.le_refl _) (And.intro (by subst hA; exact (k0.1 c1).1) (by subst hA; exact (k0.1 c1).2.1)))), ⟨ndI hA rfl, ⟨ndI hA rfl, ⟨ndI hA (And.intro rfl (And.intro rfl (by subst hA; show ((List.length R2) + 1) = (List.length (rappS R2 (List.length R2) [[(AV.int .i64 tb3_0), (AV.int .i64 tb3_1)]])); (first | rfl | simp [rappS_end] | (simp only [rappS_end, List.length_append, List.length_set, List.length_cons, List.length_nil]; omega))))), ⟨ndI hA (by subst hA; exact hp.1), ⟨ndI hA (by subst hA; exact hp.2.1), ⟨ndI hA (by subst hA; exact (vapp hp.2.2.1 vpur)), (by subst hA; show EV 24 [R0, R1, (rappS R2 (List.length R2) [[(AV.int .i64 tb3_0), (AV.int .i64 tb3_1)]])] [(Lf.n t5_0), (Lf.n t5_1), (Lf.n t6_0), (Lf.n t6_1)]; (try simp only [rappS_end, Nat.zero_add, Int.toNat_natCast]); exact (k0.1 c1).2.2)⟩⟩⟩⟩⟩⟩⟩, imI hA fun e1 => have c1 : y0_0 ≤ (0 : Int) := (by have q := (cmpE (op := .gtr) hA e1); subst hA; exact q); ⟨ndI hA rfl, ⟨ndI hA rfl, ⟨ndI hA (And.intro rfl (And.intro rfl rfl)), ⟨ndI hA (by subst hA; exact hp.1), ⟨ndI hA (by subst hA; exact hp.2.1), ⟨ndI hA (by subst hA; exact hp.2.2.1), (by subst hA; exact (k0.2 c1))⟩⟩⟩⟩⟩⟩⟩
  · intro R0 R1 R2 t5_0 t5_1 t6_0 t6_1 h
    refine W.step 80 fun hp => ?_
    have h := h hp.1 hp.2.1 hp.2.2.1
    cbv
    refine ⟨ndI hA (And.intro (by subst hA; exact Int.le_refl _) (And.intro (by subst hA; exact h.1) rfl)), ⟨ndI hA (And.intro rfl (by subst hA; exact h.2.1)), ⟨ndI hA (And.intro (by subst hA; exact Int.le_refl _) (And.intro (by subst hA; exact h.2.2.1) rfl)), ⟨ndI hA (And.intro rfl (by subst hA; exact h.2.2.2.1)), ⟨imI hA fun e0 => have c0 : (cIS R0 (t5_0 + (Int.toNat (0 : Int))) 1) < (cIS R1 (t6_0 + (Int.toNat (0 : Int))) 1) := (by have q := (cmpE (op := .lss) hA e0); subst hA; exact q); ⟨ndI hA (And.intro (by subst hA; exact (h.2.2.2.2.1 c0).1) (And.intro (by subst hA; exact (h.2.2.2.2.1 c0).2.1) rfl)), ⟨ndI hA rfl, ⟨ndI hA rfl, ⟨ndI hA (And.intro rfl (And.intro rfl rfl)), ⟨ndI hA (by subst hA; exact hp.1), ⟨ndI hA (by subst hA; exact hp.2.1), ⟨ndI hA (by subst hA; exact hp.2.2.1), (by subst hA; exact (h.2.2.2.2.1 c0).2.2)⟩⟩⟩⟩⟩⟩⟩, imI hA fun e0 => have c0 : (cIS R0 (t5_0 + (Int.toNat (0 : Int))) 1) ≥ (cIS R1 (t6_0 + (Int.toNat (0 : Int))) 1) := (by have q := (cmpE (op := .lss) hA e0); subst hA; exact q); ⟨ndI hA (And.intro (by subst hA; exact (h.2.2.2.2.2 c0).1) (And.intro (by subst hA; exact (h.2.2.2.2.2 c0).2.1) rfl)), ⟨ndI hA rfl, ⟨ndI hA rfl, ⟨ndI hA (And.intro rfl (And.intro rfl rfl)), ⟨ndI hA (by subst hA; exact hp.1), ⟨ndI hA (by subst hA; exact hp.2.1), ⟨ndI hA (by subst hA; exact hp.2.2.1), (by subst hA; exact (h.2.2.2.2.2 c0).2.2)⟩⟩⟩⟩⟩⟩⟩⟩⟩⟩⟩⟩

end
set_option maxHeartbeats 0 in
/-- To enter. -/
theorem E31 {Q : Nat → Rs → List Lf → Prop} {a0 : List (List AV)} {a1 : List (List AV)} (h : ∀ EV : Nat → Rs → List Lf → Prop, V31 EV Q →
    EC Try.prog G26 [] [(Lf.r a0)] (fun x rs vs => (x = 0 ∧ ∃ (Y0_0 : List (List AV)), rs = [Y0_0] ∧ vs = [] ∧
      (EC Try.prog G26 [] [(Lf.r a1)] (fun x rs vs => (x = 0 ∧ ∃ (Y1_0 : List (List AV)), rs = [Y1_0] ∧ vs = [] ∧
          (EV 9 [Y0_0, Y1_0, []] [(Lf.n 0), (Lf.n (List.length Y0_0)), (Lf.n 0), (Lf.n (List.length Y1_0))]))))))) :
    EC Try.prog G31 [] [.r a0, .r a1] Q := by
  obtain ⟨A, hA⟩ : ∃ A, A = arS := ⟨_, rfl⟩
  refine Inst.enter (I := I31) hA mixed F31_at sg L31 80 rfl fun CE CK Dn EV RR W hp => ?_
  have h := h  EV (V31.of W)
  cbv
  refine ?_
  · refine W.call 80 (by rfl) h (by subst hA; rfl) (by subst hA; rfl) ?_
    rintro x rs vs hp0 hq0
    rcases hq0 with ⟨rfl, Y0_0, rfl, rfl, k0⟩
    · cbv
      refine ?_
      · refine W.call 80 (by rfl) k0 (by subst hA; rfl) (by subst hA; rfl) ?_
        rintro x rs vs hp1 hq1
        rcases hq1 with ⟨rfl, Y1_0, rfl, rfl, k1⟩
        · cbv
          refine ⟨ndI hA rfl, ⟨ndI hA rfl, ⟨ndI hA (And.intro (by subst hA; show 0 = 0; (first | rfl | simp [rappS_end] | (simp only [rappS_end, List.length_append, List.length_set, List.length_cons, List.length_nil]; omega))) (And.intro rfl (by subst hA; show 0 = 0; (first | rfl | simp [rappS_end] | (simp only [rappS_end, List.length_append, List.length_set, List.length_cons, List.length_nil]; omega))))), ⟨ndI hA (by subst hA; exact hp0.1), ⟨ndI hA (by subst hA; exact hp1.1), ⟨ndI hA (by subst hA; exact vpur), (by subst hA; exact k1)⟩⟩⟩⟩⟩⟩

-- 28: signalbox/signalboxlaw50.rows
section
structure V28 (EV Q : Nat → Rs → List Lf → Prop) : Prop where
  p9 : ∀ {R0 : List (List AV)} {t6 : List (List AV)} {t7 : Int} {t8 : Int}, (pursS R0 = true → 
    (t8 < t7 →
      ((0 : Int) ≤ t8) ∧
      (t6[(Int.toNat t8)]? = some [(AV.int .i64 (cIS t6 (Int.toNat t8) 0)), (AV.int .i64 (cIS t6 (Int.toNat t8) 1))]) ∧
      (((List.length R0) + 1) ≤ 140737488355328) ∧
      ((((List.length R0) + 1) * 16) ≤ 140737488355328) ∧
      (EV 9 [(R0 ++ [[(AV.int .i64 (cIS t6 (Int.toNat t8) 0)), (AV.int .i64 (cIS t6 (Int.toNat t8) 1))]])] [(Lf.r t6), (Lf.i t7), (Lf.i (IntKind.wrap .i64 (t8 + (1 : Int))))])) ∧
    (t8 ≥ t7 →
      Q 0 [R0] [])) →
    EV 9 [R0] [.r t6, .i t7, .i t8]

set_option maxHeartbeats 0 in
theorem V28.of {Q : Nat → Rs → List Lf → Prop} {A : Ar} {CE : Nat → Rs → List Lf → (Nat → Rs → List Lf → Prop) → Prop} {CK : Nat → Rs → List Lf → Cont → Prop} {Dn : Nat → List Bool → List AItem → Nat → List Bool → List AV → List ABlk → Prop} {EV RR : Nat → Rs → List Lf → Prop} (W : Wk Try.prog Try.f28 I28 L28 Q A sg CE CK Dn EV RR) : V28 EV Q := by
  have hA := W.hA
  refine ⟨?_⟩
  · intro R0 t6 t7 t8 h
    refine W.step 80 fun hp => ?_
    have h := h hp.1
    cbv
    refine ⟨imI hA fun e0 => have c0 : t8 < t7 := (by have q := (cmpE (op := .lss) hA e0); subst hA; exact q); ⟨ndI hA (And.intro (by subst hA; exact (h.1 c0).1) (by subst hA; exact (h.1 c0).2.1)), ⟨ndI hA (And.intro rfl (And.intro (Nat.le_refl _) (And.intro (by subst hA; exact (h.1 c0).2.2.1) (by subst hA; exact (h.1 c0).2.2.2.1)))), ⟨ndI hA (And.intro rfl (And.intro rfl (by subst hA; show ((List.length R0) + 1) = (List.length (rappS R0 (List.length R0) [[(AV.int .i64 (cIS t6 (Int.toNat t8) 0)), (AV.int .i64 (cIS t6 (Int.toNat t8) 1))]])); (first | rfl | simp [rappS_end] | (simp only [rappS_end, List.length_append, List.length_set, List.length_cons, List.length_nil]; omega))))), ⟨ndI hA (by subst hA; exact (vapp hp.1 vpur)), (by subst hA; show EV 9 [(rappS R0 (List.length R0) [[(AV.int .i64 (cIS t6 (Int.toNat t8) 0)), (AV.int .i64 (cIS t6 (Int.toNat t8) 1))]])] [(Lf.r t6), (Lf.i t7), (Lf.i (IntKind.wrap .i64 (t8 + (1 : Int))))]; (try simp only [rappS_end, Nat.zero_add, Int.toNat_natCast]); exact (h.1 c0).2.2.2.2)⟩⟩⟩⟩, imI hA fun e0 => have c0 : t8 ≥ t7 := (by have q := (cmpE (op := .lss) hA e0); subst hA; exact q); ⟨ndI hA (And.intro rfl (And.intro rfl rfl)), ⟨ndI hA (by subst hA; exact hp.1), (by rw [W.rr]; exact (by subst hA; exact (h.2 c0)))⟩⟩⟩

end
set_option maxHeartbeats 0 in
/-- To enter. -/
theorem E28 {Q : Nat → Rs → List Lf → Prop} {a0 : List (List AV)} (h : ∀ EV : Nat → Rs → List Lf → Prop, V28 EV Q →
    EV 9 [[]] [(Lf.r a0), (Lf.i (((List.length a0) : Nat) : Int)), (Lf.i (0 : Int))]) :
    EC Try.prog G28 [] [.r a0] Q := by
  obtain ⟨A, hA⟩ : ∃ A, A = arS := ⟨_, rfl⟩
  refine Inst.enter (I := I28) hA mixed F28_at sg L28 80 rfl fun CE CK Dn EV RR W hp => ?_
  have h := h  EV (V28.of W)
  cbv
  refine ⟨ndI hA (And.intro (by subst hA; show 0 = 0; (first | rfl | simp [rappS_end] | (simp only [rappS_end, List.length_append, List.length_set, List.length_cons, List.length_nil]; omega))) (And.intro rfl (by subst hA; show 0 = 0; (first | rfl | simp [rappS_end] | (simp only [rappS_end, List.length_append, List.length_set, List.length_cons, List.length_nil]; omega))))), ⟨ndI hA (by subst hA; exact vpur), (by subst hA; exact h)⟩⟩

-- 52: signalbox/signalboxref50.Clamp
section
structure V52 (EV Q : Nat → Rs → List Lf → Prop) : Prop where
  none : True

end
set_option maxHeartbeats 0 in
/-- To enter. -/
theorem E52 {Q : Nat → Rs → List Lf → Prop} {a0 : Int} (h : ∀ EV : Nat → Rs → List Lf → Prop, V52 EV Q →
    (a0 < (-1099511627776) →
      Q 0 [] [(Lf.i (-1099511627776))]) ∧
    (a0 ≥ (-1099511627776) →
      (a0 > (1099511627776 : Int) →
        Q 0 [] [(Lf.i (1099511627776 : Int))]) ∧
      (a0 ≤ (1099511627776 : Int) →
        Q 0 [] [(Lf.i a0)]))) :
    EC Try.prog G52 [] [.i a0] Q := by
  obtain ⟨A, hA⟩ : ∃ A, A = arS := ⟨_, rfl⟩
  refine Inst.enter (I := I52) hA mixed F52_at sg L52 80 rfl fun CE CK Dn EV RR W hp => ?_
  have h := h  EV ⟨trivial⟩
  cbv
  refine ⟨imI hA fun e0 => have c0 : a0 < (-1099511627776) := (by have q := (cmpE (op := .lss) hA e0); subst hA; exact q); (by rw [W.rr]; exact (by subst hA; exact (h.1 c0))), imI hA fun e0 => have c0 : a0 ≥ (-1099511627776) := (by have q := (cmpE (op := .lss) hA e0); subst hA; exact q); ⟨imI hA fun e1 => have c1 : a0 > (1099511627776 : Int) := (by have q := (cmpE (op := .gtr) hA e1); subst hA; exact q); (by rw [W.rr]; exact (by subst hA; exact ((h.2 c0).1 c1))), imI hA fun e1 => have c1 : a0 ≤ (1099511627776 : Int) := (by have q := (cmpE (op := .gtr) hA e1); subst hA; exact q); (by rw [W.rr]; exact (by subst hA; exact ((h.2 c0).2 c1)))⟩⟩

-- 33: signalbox/signalboxref50.Edges DRAWN
section
structure V33 (EV Q : Nat → Rs → List Lf → Prop) : Prop where
  p9 : ∀ {R0 : List (List AV)} {t9 : List (List AV)} {t10 : Int} {t11 : Int}, (pursS R0 = true → 
    (t11 < t10 →
      ((0 : Int) ≤ t11) ∧
      (t9[(Int.toNat t11)]? = some [(AV.int .i64 (cIS t9 (Int.toNat t11) 0)), (AV.int .i64 (cIS t9 (Int.toNat t11) 1))]) ∧
      (EC Try.prog G52 [] [(Lf.i (cIS t9 (Int.toNat t11) 0))] (fun x rs vs => (x = 0 ∧ ∃ (y1_0 : Int), rs = [] ∧ vs = [.i y1_0] ∧
        (EC Try.prog G52 [] [(Lf.i (cIS t9 (Int.toNat t11) 1))] (fun x rs vs => (x = 0 ∧ ∃ (y2_0 : Int), rs = [] ∧ vs = [.i y2_0] ∧
            (EV 21 [R0] [(Lf.r t9), (Lf.i t10), (Lf.i t11), (Lf.r [[(AV.int .i64 y1_0)], [(AV.int .i64 y2_0)]]), (Lf.i ((2 : Nat) : Int)), (Lf.i (0 : Int))])))))))) ∧
    (t11 ≥ t10 →
      Q 0 [R0] [])) →
    EV 9 [R0] [.r t9, .i t10, .i t11]
  p21 : ∀ {R0 : List (List AV)} {t9 : List (List AV)} {t10 : Int} {t11 : Int} {t21 : List (List AV)} {t22 : Int} {t23 : Int}, (pursS R0 = true → 
    EV 23 [R0] [(Lf.r t9), (Lf.i t10), (Lf.i t11), (Lf.r t21), (Lf.i t22), (Lf.i t23)]) →
    EV 21 [R0] [.r t9, .i t10, .i t11, .r t21, .i t22, .i t23]
  p23 : ∀ {R0 : List (List AV)} {t9 : List (List AV)} {t10 : Int} {t11 : Int} {t21 : List (List AV)} {t22 : Int} {t23 : Int}, (pursS R0 = true → 
    (t23 < t22 →
      ((0 : Int) ≤ t23) ∧
      (t21[(Int.toNat t23)]? = some [(AV.int .i64 (cIS t21 (Int.toNat t23) 0))]) ∧
      (EV 38 [R0] [(Lf.i (cIS t21 (Int.toNat t23) 0)), (Lf.i (0 : Int)), (Lf.r t9), (Lf.i t10), (Lf.i t11), (Lf.r t21), (Lf.i t22), (Lf.i t23)])) ∧
    (t23 ≥ t22 →
      EV 9 [R0] [(Lf.r t9), (Lf.i t10), (Lf.i (IntKind.wrap .i64 (t11 + (1 : Int))))])) →
    EV 23 [R0] [.r t9, .i t10, .i t11, .r t21, .i t22, .i t23]
  p38 : ∀ {R0 : List (List AV)} {t7 : Int} {t8 : Int} {t9 : List (List AV)} {t10 : Int} {t11 : Int} {t21 : List (List AV)} {t22 : Int} {t23 : Int}, (pursS R0 = true → 
    (t8 < (((List.length R0) : Nat) : Int) →
      ((0 : Int) ≤ t8) ∧
      (t8 < (((List.length R0) : Nat) : Int)) ∧
      (R0[(Int.toNat t8)]? = some [(AV.int .i64 (cIS R0 (Int.toNat t8) 0))]) ∧
      ((cIS R0 (Int.toNat t8) 0) < t7 →
        EV 38 [R0] [(Lf.i t7), (Lf.i (IntKind.wrap .i64 (t8 + (1 : Int)))), (Lf.r t9), (Lf.i t10), (Lf.i t11), (Lf.r t21), (Lf.i t22), (Lf.i t23)]) ∧
      ((cIS R0 (Int.toNat t8) 0) ≥ t7 →
        (t8 ≠ (((List.length R0) : Nat) : Int) →
          ((0 : Int) ≤ t8) ∧
          (t8 < (((List.length R0) : Nat) : Int)) ∧
          (R0[(Int.toNat t8)]? = some [(AV.int .i64 (cIS R0 (Int.toNat t8) 0))]) ∧
          ((cIS R0 (Int.toNat t8) 0) ≠ t7 →
            ((0 : Int) ≤ t8) ∧
            (t8 ≤ (((List.length R0) : Nat) : Int)) ∧
            ((Int.toNat t8) ≤ (List.length R0)) ∧
            ((List.length (List.take (Int.toNat t8) (List.drop 0 R0))) ≤ 140737488355328) ∧
            (((List.length (List.take (Int.toNat t8) (List.drop 0 R0))) * 8) ≤ 140737488355328) ∧
            (((List.length (List.take (Int.toNat t8) (List.drop 0 R0))) + 1) ≤ 140737488355328) ∧
            ((((List.length (List.take (Int.toNat t8) (List.drop 0 R0))) + 1) * 8) ≤ 140737488355328) ∧
            (((Int.toNat t8) + ((List.length R0) - (Int.toNat t8))) ≤ (List.length R0)) ∧
            (((List.length (List.take (Int.toNat t8) (List.drop 0 R0))) + 1) ≤ (List.length ((List.take (Int.toNat t8) (List.drop 0 R0)) ++ [[(AV.int .i64 t7)]]))) ∧
            ((((List.length (List.take (Int.toNat t8) (List.drop 0 R0))) + 1) + (List.length (List.take ((List.length R0) - (Int.toNat t8)) (List.drop (Int.toNat t8) R0)))) ≤ 140737488355328) ∧
            (((((List.length (List.take (Int.toNat t8) (List.drop 0 R0))) + 1) + (List.length (List.take ((List.length R0) - (Int.toNat t8)) (List.drop (Int.toNat t8) R0)))) * 8) ≤ 140737488355328) ∧
            ((((List.length (List.take (Int.toNat t8) (List.drop 0 R0))) + 1) + (List.length (List.take ((List.length R0) - (Int.toNat t8)) (List.drop (Int.toNat t8) R0)))) = (List.length (rappS ((List.take (Int.toNat t8) (List.drop 0 R0)) ++ [[(AV.int .i64 t7)]]) ((List.length (List.take (Int.toNat t8) (List.drop 0 R0))) + 1) (List.take ((List.length R0) - (Int.toNat t8)) (List.drop (Int.toNat t8) R0))))) ∧
            (EV 23 [(rappS ((List.take (Int.toNat t8) (List.drop 0 R0)) ++ [[(AV.int .i64 t7)]]) ((List.length (List.take (Int.toNat t8) (List.drop 0 R0))) + 1) (List.take ((List.length R0) - (Int.toNat t8)) (List.drop (Int.toNat t8) R0)))] [(Lf.r t9), (Lf.i t10), (Lf.i t11), (Lf.r t21), (Lf.i t22), (Lf.i (IntKind.wrap .i64 (t23 + (1 : Int))))])) ∧
          ((cIS R0 (Int.toNat t8) 0) = t7 →
            EV 23 [R0] [(Lf.r t9), (Lf.i t10), (Lf.i t11), (Lf.r t21), (Lf.i t22), (Lf.i (IntKind.wrap .i64 (t23 + (1 : Int))))])) ∧
        (t8 = (((List.length R0) : Nat) : Int) →
          ((0 : Int) ≤ t8) ∧
          (t8 ≤ (((List.length R0) : Nat) : Int)) ∧
          ((Int.toNat t8) ≤ (List.length R0)) ∧
          ((List.length (List.take (Int.toNat t8) (List.drop 0 R0))) ≤ 140737488355328) ∧
          (((List.length (List.take (Int.toNat t8) (List.drop 0 R0))) * 8) ≤ 140737488355328) ∧
          (((List.length (List.take (Int.toNat t8) (List.drop 0 R0))) + 1) ≤ 140737488355328) ∧
          ((((List.length (List.take (Int.toNat t8) (List.drop 0 R0))) + 1) * 8) ≤ 140737488355328) ∧
          (((Int.toNat t8) + ((List.length R0) - (Int.toNat t8))) ≤ (List.length R0)) ∧
          (((List.length (List.take (Int.toNat t8) (List.drop 0 R0))) + 1) ≤ (List.length ((List.take (Int.toNat t8) (List.drop 0 R0)) ++ [[(AV.int .i64 t7)]]))) ∧
          ((((List.length (List.take (Int.toNat t8) (List.drop 0 R0))) + 1) + (List.length (List.take ((List.length R0) - (Int.toNat t8)) (List.drop (Int.toNat t8) R0)))) ≤ 140737488355328) ∧
          (((((List.length (List.take (Int.toNat t8) (List.drop 0 R0))) + 1) + (List.length (List.take ((List.length R0) - (Int.toNat t8)) (List.drop (Int.toNat t8) R0)))) * 8) ≤ 140737488355328) ∧
          ((((List.length (List.take (Int.toNat t8) (List.drop 0 R0))) + 1) + (List.length (List.take ((List.length R0) - (Int.toNat t8)) (List.drop (Int.toNat t8) R0)))) = (List.length (rappS ((List.take (Int.toNat t8) (List.drop 0 R0)) ++ [[(AV.int .i64 t7)]]) ((List.length (List.take (Int.toNat t8) (List.drop 0 R0))) + 1) (List.take ((List.length R0) - (Int.toNat t8)) (List.drop (Int.toNat t8) R0))))) ∧
          (EV 23 [(rappS ((List.take (Int.toNat t8) (List.drop 0 R0)) ++ [[(AV.int .i64 t7)]]) ((List.length (List.take (Int.toNat t8) (List.drop 0 R0))) + 1) (List.take ((List.length R0) - (Int.toNat t8)) (List.drop (Int.toNat t8) R0)))] [(Lf.r t9), (Lf.i t10), (Lf.i t11), (Lf.r t21), (Lf.i t22), (Lf.i (IntKind.wrap .i64 (t23 + (1 : Int))))])))) ∧
    (t8 ≥ (((List.length R0) : Nat) : Int) →
      (t8 ≠ (((List.length R0) : Nat) : Int) →
        ((0 : Int) ≤ t8) ∧
        (t8 < (((List.length R0) : Nat) : Int)) ∧
        (R0[(Int.toNat t8)]? = some [(AV.int .i64 (cIS R0 (Int.toNat t8) 0))]) ∧
        ((cIS R0 (Int.toNat t8) 0) ≠ t7 →
          ((0 : Int) ≤ t8) ∧
          (t8 ≤ (((List.length R0) : Nat) : Int)) ∧
          ((Int.toNat t8) ≤ (List.length R0)) ∧
          ((List.length (List.take (Int.toNat t8) (List.drop 0 R0))) ≤ 140737488355328) ∧
          (((List.length (List.take (Int.toNat t8) (List.drop 0 R0))) * 8) ≤ 140737488355328) ∧
          (((List.length (List.take (Int.toNat t8) (List.drop 0 R0))) + 1) ≤ 140737488355328) ∧
          ((((List.length (List.take (Int.toNat t8) (List.drop 0 R0))) + 1) * 8) ≤ 140737488355328) ∧
          (((Int.toNat t8) + ((List.length R0) - (Int.toNat t8))) ≤ (List.length R0)) ∧
          (((List.length (List.take (Int.toNat t8) (List.drop 0 R0))) + 1) ≤ (List.length ((List.take (Int.toNat t8) (List.drop 0 R0)) ++ [[(AV.int .i64 t7)]]))) ∧
          ((((List.length (List.take (Int.toNat t8) (List.drop 0 R0))) + 1) + (List.length (List.take ((List.length R0) - (Int.toNat t8)) (List.drop (Int.toNat t8) R0)))) ≤ 140737488355328) ∧
          (((((List.length (List.take (Int.toNat t8) (List.drop 0 R0))) + 1) + (List.length (List.take ((List.length R0) - (Int.toNat t8)) (List.drop (Int.toNat t8) R0)))) * 8) ≤ 140737488355328) ∧
          ((((List.length (List.take (Int.toNat t8) (List.drop 0 R0))) + 1) + (List.length (List.take ((List.length R0) - (Int.toNat t8)) (List.drop (Int.toNat t8) R0)))) = (List.length (rappS ((List.take (Int.toNat t8) (List.drop 0 R0)) ++ [[(AV.int .i64 t7)]]) ((List.length (List.take (Int.toNat t8) (List.drop 0 R0))) + 1) (List.take ((List.length R0) - (Int.toNat t8)) (List.drop (Int.toNat t8) R0))))) ∧
          (EV 23 [(rappS ((List.take (Int.toNat t8) (List.drop 0 R0)) ++ [[(AV.int .i64 t7)]]) ((List.length (List.take (Int.toNat t8) (List.drop 0 R0))) + 1) (List.take ((List.length R0) - (Int.toNat t8)) (List.drop (Int.toNat t8) R0)))] [(Lf.r t9), (Lf.i t10), (Lf.i t11), (Lf.r t21), (Lf.i t22), (Lf.i (IntKind.wrap .i64 (t23 + (1 : Int))))])) ∧
        ((cIS R0 (Int.toNat t8) 0) = t7 →
          EV 23 [R0] [(Lf.r t9), (Lf.i t10), (Lf.i t11), (Lf.r t21), (Lf.i t22), (Lf.i (IntKind.wrap .i64 (t23 + (1 : Int))))])) ∧
      (t8 = (((List.length R0) : Nat) : Int) →
        ((0 : Int) ≤ t8) ∧
        (t8 ≤ (((List.length R0) : Nat) : Int)) ∧
        ((Int.toNat t8) ≤ (List.length R0)) ∧
        ((List.length (List.take (Int.toNat t8) (List.drop 0 R0))) ≤ 140737488355328) ∧
        (((List.length (List.take (Int.toNat t8) (List.drop 0 R0))) * 8) ≤ 140737488355328) ∧
        (((List.length (List.take (Int.toNat t8) (List.drop 0 R0))) + 1) ≤ 140737488355328) ∧
        ((((List.length (List.take (Int.toNat t8) (List.drop 0 R0))) + 1) * 8) ≤ 140737488355328) ∧
        (((Int.toNat t8) + ((List.length R0) - (Int.toNat t8))) ≤ (List.length R0)) ∧
        (((List.length (List.take (Int.toNat t8) (List.drop 0 R0))) + 1) ≤ (List.length ((List.take (Int.toNat t8) (List.drop 0 R0)) ++ [[(AV.int .i64 t7)]]))) ∧
        ((((List.length (List.take (Int.toNat t8) (List.drop 0 R0))) + 1) + (List.length (List.take ((List.length R0) - (Int.toNat t8)) (List.drop (Int.toNat t8) R0)))) ≤ 140737488355328) ∧
        (((((List.length (List.take (Int.toNat t8) (List.drop 0 R0))) + 1) + (List.length (List.take ((List.length R0) - (Int.toNat t8)) (List.drop (Int.toNat t8) R0)))) * 8) ≤ 140737488355328) ∧
        ((((List.length (List.take (Int.toNat t8) (List.drop 0 R0))) + 1) + (List.length (List.take ((List.length R0) - (Int.toNat t8)) (List.drop (Int.toNat t8) R0)))) = (List.length (rappS ((List.take (Int.toNat t8) (List.drop 0 R0)) ++ [[(AV.int .i64 t7)]]) ((List.length (List.take (Int.toNat t8) (List.drop 0 R0))) + 1) (List.take ((List.length R0) - (Int.toNat t8)) (List.drop (Int.toNat t8) R0))))) ∧
        (EV 23 [(rappS ((List.take (Int.toNat t8) (List.drop 0 R0)) ++ [[(AV.int .i64 t7)]]) ((List.length (List.take (Int.toNat t8) (List.drop 0 R0))) + 1) (List.take ((List.length R0) - (Int.toNat t8)) (List.drop (Int.toNat t8) R0)))] [(Lf.r t9), (Lf.i t10), (Lf.i t11), (Lf.r t21), (Lf.i t22), (Lf.i (IntKind.wrap .i64 (t23 + (1 : Int))))])))) →
    EV 38 [R0] [.i t7, .i t8, .r t9, .i t10, .i t11, .r t21, .i t22, .i t23]

set_option maxHeartbeats 0 in
theorem V33.of {Q : Nat → Rs → List Lf → Prop} {A : Ar} {CE : Nat → Rs → List Lf → (Nat → Rs → List Lf → Prop) → Prop} {CK : Nat → Rs → List Lf → Cont → Prop} {Dn : Nat → List Bool → List AItem → Nat → List Bool → List AV → List ABlk → Prop} {EV RR : Nat → Rs → List Lf → Prop} (W : Wk Try.prog Try.f33 I33 L33 Q A sg CE CK Dn EV RR) : V33 EV Q := by
  have hA := W.hA
  refine ⟨?_, ?_, ?_, ?_⟩
  · intro R0 t9 t10 t11 h
    refine W.step 80 fun hp => ?_
    have h := h hp.1
    cbv
    refine ⟨imI hA fun e0 => have c0 : t11 < t10 := (by have q := (cmpE (op := .lss) hA e0); subst hA; exact q); ⟨ndI hA (And.intro (by subst hA; exact (h.1 c0).1) (by subst hA; exact (h.1 c0).2.1)), ⟨?_, trivial⟩⟩, imI hA fun e0 => have c0 : t11 ≥ t10 := (by have q := (cmpE (op := .lss) hA e0); subst hA; exact q); ⟨ndI hA (And.intro rfl (And.intro rfl rfl)), ⟨ndI hA (by subst hA; exact hp.1), (by rw [W.rr]; exact (by subst hA; exact (h.2 c0)))⟩⟩⟩
    · refine W.callD (by rfl) (h.1 c0).2.2 (by subst hA; rfl) (by subst hA; rfl) ?_
      rintro x rs vs hp1 hq1
      rcases hq1 with ⟨rfl, y1_0, rfl, rfl, k1⟩
      · cbv
        refine ?_
        · refine W.draw 80 (by rfl) ?_
          cbv
          refine ⟨?_, trivial⟩
          · refine W.callD (by rfl) k1 (by subst hA; rfl) (by subst hA; rfl) ?_
            rintro x rs vs hp2 hq2
            rcases hq2 with ⟨rfl, y2_0, rfl, rfl, k2⟩
            · cbv
              refine ?_
              · refine W.draw 80 (by rfl) ?_
                cbv
                refine ⟨⟨ndI hA (And.intro rfl (And.intro rfl rfl)), ⟨ndI hA (by subst hA; exact hp.1), (by subst hA; exact k2)⟩⟩, trivial⟩
  · intro R0 t9 t10 t11 t21 t22 t23 h
    refine W.step 80 fun hp => ?_
    have h := h hp.1
    cbv
    refine ⟨ndI hA (And.intro rfl (And.intro rfl rfl)), ⟨ndI hA (by subst hA; exact hp.1), (by subst hA; exact h)⟩⟩
  · intro R0 t9 t10 t11 t21 t22 t23 h
    refine W.step 80 fun hp => ?_
    have h := h hp.1
    cbv
    refine ⟨imI hA fun e0 => have c0 : t23 < t22 := (by have q := (cmpE (op := .lss) hA e0); subst hA; exact q); ⟨ndI hA (And.intro (by subst hA; exact (h.1 c0).1) (by subst hA; exact (h.1 c0).2.1)), ⟨ndI hA (And.intro rfl (And.intro rfl rfl)), ⟨ndI hA (by subst hA; exact hp.1), (by subst hA; exact (h.1 c0).2.2)⟩⟩⟩, imI hA fun e0 => have c0 : t23 ≥ t22 := (by have q := (cmpE (op := .lss) hA e0); subst hA; exact q); ⟨ndI hA (And.intro rfl (And.intro rfl rfl)), ⟨ndI hA (by subst hA; exact hp.1), (by subst hA; exact (h.2 c0))⟩⟩⟩
  · intro R0 t7 t8 t9 t10 t11 t21 t22 t23 h
    refine W.step 80 fun hp => ?_
    have h := h hp.1
    cbv
    refine ⟨ndI hA rfl, ⟨imI hA fun e0 => have c0 : t8 < (((List.length R0) : Nat) : Int) := (by have q := (cmpE (op := .lss) hA e0); subst hA; exact q); ⟨ndI hA (And.intro (by subst hA; exact (h.1 c0).1) (And.intro (by subst hA; exact (h.1 c0).2.1) rfl)), ⟨ndI hA (And.intro rfl (by subst hA; show R0[(0 + (Int.toNat t8))]? = some [(AV.int .i64 (cIS R0 (0 + (Int.toNat t8)) 0))]; (try simp only [rappS_end, Nat.zero_add, Int.toNat_natCast]); exact (h.1 c0).2.2.1)), ⟨imI hA fun e1 => have c1 : (cIS R0 (Int.toNat t8) 0) < t7 := (by have q := (cmpE (op := .lss) hA e1); subst hA; have q : (cIS R0 (0 + (Int.toNat t8)) 0) < t7 := q; simpa only [rappS_end, Nat.zero_add, Int.toNat_natCast] using q); ⟨ndI hA (And.intro rfl (And.intro rfl rfl)), ⟨ndI hA (by subst hA; exact hp.1), (by subst hA; exact ((h.1 c0).2.2.2.1 c1))⟩⟩, imI hA fun e1 => have c1 : (cIS R0 (Int.toNat t8) 0) ≥ t7 := (by have q := (cmpE (op := .lss) hA e1); subst hA; have q : (cIS R0 (0 + (Int.toNat t8)) 0) ≥ t7 := q; simpa only [rappS_end, Nat.zero_add, Int.toNat_natCast] using q); ⟨ndI hA rfl, ⟨imI hA fun e2 => have c2 : t8 ≠ (((List.length R0) : Nat) : Int) := (by have q := (cmpE (op := .eql) hA e2); subst hA; exact q); ⟨ndI hA (And.intro (by subst hA; exact (((h.1 c0).2.2.2.2 c1).1 c2).1) (And.intro (by subst hA; exact (((h.1 c0).2.2.2.2 c1).1 c2).2.1) rfl)), ⟨ndI hA (And.intro rfl (by subst hA; show R0[(0 + (Int.toNat t8))]? = some [(AV.int .i64 (cIS R0 (0 + (Int.toNat t8)) 0))]; (try simp only [rappS_end, Nat.zero_add, Int.toNat_natCast]); exact (((h.1 c0).2.2.2.2 c1).1 c2).2.2.1)), ⟨imI hA fun e3 => have c3 : (cIS R0 (Int.toNat t8) 0) ≠ t7 := (by have q := (cmpE (op := .neq) hA e3); subst hA; have q : (cIS R0 (0 + (Int.toNat t8)) 0) ≠ t7 := q; simpa only [rappS_end, Nat.zero_add, Int.toNat_natCast] using q); ⟨ndI hA (And.intro (by subst hA; exact ((((h.1 c0).2.2.2.2 c1).1 c2).2.2.2.1 c3).1) (And.intro (by subst hA; exact ((((h.1 c0).2.2.2.2 c1).1 c2).2.2.2.1 c3).2.1) rfl)), ⟨ndI hA (And.intro (by subst hA; exact ((((h.1 c0).2.2.2.2 c1).1 c2).2.2.2.1 c3).1) (And.intro (by subst hA; exact ((((h.1 c0).2.2.2.2 c1).1 c2).2.2.2.1 c3).2.1) rfl)), ⟨⟨⟨ndI hA (And.intro rfl (by subst hA; show (0 + (Int.toNat t8)) ≤ (List.length R0); (try simp only [rappS_end, Nat.zero_add, Int.toNat_natCast]); exact ((((h.1 c0).2.2.2.2 c1).1 c2).2.2.2.1 c3).2.2.1)), ⟨ndI hA (And.intro (by subst hA; exact ((((h.1 c0).2.2.2.2 c1).1 c2).2.2.2.1 c3).2.2.2.1) (by subst hA; exact ((((h.1 c0).2.2.2.2 c1).1 c2).2.2.2.1 c3).2.2.2.2.1)), ?_⟩⟩, ⟨⟨⟨ndI hA (And.intro rfl (by subst hA; show (0 + (Int.toNat t8)) ≤ (List.length R0); (try simp only [rappS_end, Nat.zero_add, Int.toNat_natCast]); exact ((((h.1 c0).2.2.2.2 c1).1 c2).2.2.2.1 c3).2.2.1)), ⟨ndI hA (And.intro (by subst hA; exact ((((h.1 c0).2.2.2.2 c1).1 c2).2.2.2.1 c3).2.2.2.1) (by subst hA; exact ((((h.1 c0).2.2.2.2 c1).1 c2).2.2.2.1 c3).2.2.2.2.1)), ?_⟩⟩, trivial⟩, trivial⟩⟩, ⟨⟨⟨⟨ndI hA (And.intro rfl (by subst hA; show (0 + (Int.toNat t8)) ≤ (List.length R0); (try simp only [rappS_end, Nat.zero_add, Int.toNat_natCast]); exact ((((h.1 c0).2.2.2.2 c1).1 c2).2.2.2.1 c3).2.2.1)), ⟨ndI hA (And.intro (by subst hA; exact ((((h.1 c0).2.2.2.2 c1).1 c2).2.2.2.1 c3).2.2.2.1) (by subst hA; exact ((((h.1 c0).2.2.2.2 c1).1 c2).2.2.2.1 c3).2.2.2.2.1)), ?_⟩⟩, trivial⟩, trivial⟩, trivial⟩⟩⟩⟩, imI hA fun e3 => have c3 : (cIS R0 (Int.toNat t8) 0) = t7 := (by have q := (cmpE (op := .neq) hA e3); subst hA; have q : (cIS R0 (0 + (Int.toNat t8)) 0) = t7 := q; simpa only [rappS_end, Nat.zero_add, Int.toNat_natCast] using q); ⟨ndI hA (And.intro rfl (And.intro rfl rfl)), ⟨ndI hA (by subst hA; exact hp.1), (by subst hA; exact ((((h.1 c0).2.2.2.2 c1).1 c2).2.2.2.2 c3))⟩⟩⟩⟩⟩, imI hA fun e2 => have c2 : t8 = (((List.length R0) : Nat) : Int) := (by have q := (cmpE (op := .eql) hA e2); subst hA; exact q); ⟨ndI hA (And.intro (by subst hA; exact (((h.1 c0).2.2.2.2 c1).2 c2).1) (And.intro (by subst hA; exact (((h.1 c0).2.2.2.2 c1).2 c2).2.1) rfl)), ⟨ndI hA (And.intro (by subst hA; exact (((h.1 c0).2.2.2.2 c1).2 c2).1) (And.intro (by subst hA; exact (((h.1 c0).2.2.2.2 c1).2 c2).2.1) rfl)), ⟨⟨⟨ndI hA (And.intro rfl (by subst hA; show (0 + (Int.toNat t8)) ≤ (List.length R0); (try simp only [rappS_end, Nat.zero_add, Int.toNat_natCast]); exact (((h.1 c0).2.2.2.2 c1).2 c2).2.2.1)), ⟨ndI hA (And.intro (by subst hA; exact (((h.1 c0).2.2.2.2 c1).2 c2).2.2.2.1) (by subst hA; exact (((h.1 c0).2.2.2.2 c1).2 c2).2.2.2.2.1)), ?_⟩⟩, ⟨⟨⟨ndI hA (And.intro rfl (by subst hA; show (0 + (Int.toNat t8)) ≤ (List.length R0); (try simp only [rappS_end, Nat.zero_add, Int.toNat_natCast]); exact (((h.1 c0).2.2.2.2 c1).2 c2).2.2.1)), ⟨ndI hA (And.intro (by subst hA; exact (((h.1 c0).2.2.2.2 c1).2 c2).2.2.2.1) (by subst hA; exact (((h.1 c0).2.2.2.2 c1).2 c2).2.2.2.2.1)), ?_⟩⟩, trivial⟩, trivial⟩⟩, ⟨⟨⟨⟨ndI hA (And.intro rfl (by subst hA; show (0 + (Int.toNat t8)) ≤ (List.length R0); (try simp only [rappS_end, Nat.zero_add, Int.toNat_natCast]); exact (((h.1 c0).2.2.2.2 c1).2 c2).2.2.1)), ⟨ndI hA (And.intro (by subst hA; exact (((h.1 c0).2.2.2.2 c1).2 c2).2.2.2.1) (by subst hA; exact (((h.1 c0).2.2.2.2 c1).2 c2).2.2.2.2.1)), ?_⟩⟩, trivial⟩, trivial⟩, trivial⟩⟩⟩⟩⟩⟩⟩⟩⟩, imI hA fun e0 => have c0 : t8 ≥ (((List.length R0) : Nat) : Int) := (by have q := (cmpE (op := .lss) hA e0); subst hA; exact q); ⟨ndI hA rfl, ⟨imI hA fun e1 => have c1 : t8 ≠ (((List.length R0) : Nat) : Int) := (by have q := (cmpE (op := .eql) hA e1); subst hA; exact q); ⟨ndI hA (And.intro (by subst hA; exact ((h.2 c0).1 c1).1) (And.intro (by subst hA; exact ((h.2 c0).1 c1).2.1) rfl)), ⟨ndI hA (And.intro rfl (by subst hA; show R0[(0 + (Int.toNat t8))]? = some [(AV.int .i64 (cIS R0 (0 + (Int.toNat t8)) 0))]; (try simp only [rappS_end, Nat.zero_add, Int.toNat_natCast]); exact ((h.2 c0).1 c1).2.2.1)), ⟨imI hA fun e2 => have c2 : (cIS R0 (Int.toNat t8) 0) ≠ t7 := (by have q := (cmpE (op := .neq) hA e2); subst hA; have q : (cIS R0 (0 + (Int.toNat t8)) 0) ≠ t7 := q; simpa only [rappS_end, Nat.zero_add, Int.toNat_natCast] using q); ⟨ndI hA (And.intro (by subst hA; exact (((h.2 c0).1 c1).2.2.2.1 c2).1) (And.intro (by subst hA; exact (((h.2 c0).1 c1).2.2.2.1 c2).2.1) rfl)), ⟨ndI hA (And.intro (by subst hA; exact (((h.2 c0).1 c1).2.2.2.1 c2).1) (And.intro (by subst hA; exact (((h.2 c0).1 c1).2.2.2.1 c2).2.1) rfl)), ⟨⟨⟨ndI hA (And.intro rfl (by subst hA; show (0 + (Int.toNat t8)) ≤ (List.length R0); (try simp only [rappS_end, Nat.zero_add, Int.toNat_natCast]); exact (((h.2 c0).1 c1).2.2.2.1 c2).2.2.1)), ⟨ndI hA (And.intro (by subst hA; exact (((h.2 c0).1 c1).2.2.2.1 c2).2.2.2.1) (by subst hA; exact (((h.2 c0).1 c1).2.2.2.1 c2).2.2.2.2.1)), ?_⟩⟩, ⟨⟨⟨ndI hA (And.intro rfl (by subst hA; show (0 + (Int.toNat t8)) ≤ (List.length R0); (try simp only [rappS_end, Nat.zero_add, Int.toNat_natCast]); exact (((h.2 c0).1 c1).2.2.2.1 c2).2.2.1)), ⟨ndI hA (And.intro (by subst hA; exact (((h.2 c0).1 c1).2.2.2.1 c2).2.2.2.1) (by subst hA; exact (((h.2 c0).1 c1).2.2.2.1 c2).2.2.2.2.1)), ?_⟩⟩, trivial⟩, trivial⟩⟩, ⟨⟨⟨⟨ndI hA (And.intro rfl (by subst hA; show (0 + (Int.toNat t8)) ≤ (List.length R0); (try simp only [rappS_end, Nat.zero_add, Int.toNat_natCast]); exact (((h.2 c0).1 c1).2.2.2.1 c2).2.2.1)), ⟨ndI hA (And.intro (by subst hA; exact (((h.2 c0).1 c1).2.2.2.1 c2).2.2.2.1) (by subst hA; exact (((h.2 c0).1 c1).2.2.2.1 c2).2.2.2.2.1)), ?_⟩⟩, trivial⟩, trivial⟩, trivial⟩⟩⟩⟩, imI hA fun e2 => have c2 : (cIS R0 (Int.toNat t8) 0) = t7 := (by have q := (cmpE (op := .neq) hA e2); subst hA; have q : (cIS R0 (0 + (Int.toNat t8)) 0) = t7 := q; simpa only [rappS_end, Nat.zero_add, Int.toNat_natCast] using q); ⟨ndI hA (And.intro rfl (And.intro rfl rfl)), ⟨ndI hA (by subst hA; exact hp.1), (by subst hA; exact (((h.2 c0).1 c1).2.2.2.2 c2))⟩⟩⟩⟩⟩, imI hA fun e1 => have c1 : t8 = (((List.length R0) : Nat) : Int) := (by have q := (cmpE (op := .eql) hA e1); subst hA; exact q); ⟨ndI hA (And.intro (by subst hA; exact ((h.2 c0).2 c1).1) (And.intro (by subst hA; exact ((h.2 c0).2 c1).2.1) rfl)), ⟨ndI hA (And.intro (by subst hA; exact ((h.2 c0).2 c1).1) (And.intro (by subst hA; exact ((h.2 c0).2 c1).2.1) rfl)), ⟨⟨⟨ndI hA (And.intro rfl (by subst hA; show (0 + (Int.toNat t8)) ≤ (List.length R0); (try simp only [rappS_end, Nat.zero_add, Int.toNat_natCast]); exact ((h.2 c0).2 c1).2.2.1)), ⟨ndI hA (And.intro (by subst hA; exact ((h.2 c0).2 c1).2.2.2.1) (by subst hA; exact ((h.2 c0).2 c1).2.2.2.2.1)), ?_⟩⟩, ⟨⟨⟨ndI hA (And.intro rfl (by subst hA; show (0 + (Int.toNat t8)) ≤ (List.length R0); (try simp only [rappS_end, Nat.zero_add, Int.toNat_natCast]); exact ((h.2 c0).2 c1).2.2.1)), ⟨ndI hA (And.intro (by subst hA; exact ((h.2 c0).2 c1).2.2.2.1) (by subst hA; exact ((h.2 c0).2 c1).2.2.2.2.1)), ?_⟩⟩, trivial⟩, trivial⟩⟩, ⟨⟨⟨⟨ndI hA (And.intro rfl (by subst hA; show (0 + (Int.toNat t8)) ≤ (List.length R0); (try simp only [rappS_end, Nat.zero_add, Int.toNat_natCast]); exact ((h.2 c0).2 c1).2.2.1)), ⟨ndI hA (And.intro (by subst hA; exact ((h.2 c0).2 c1).2.2.2.1) (by subst hA; exact ((h.2 c0).2 c1).2.2.2.2.1)), ?_⟩⟩, trivial⟩, trivial⟩, trivial⟩⟩⟩⟩⟩⟩⟩⟩
    · refine W.draw 80 (by rfl) ?_
      cbv
      refine ⟨⟨⟨ndI hA (And.intro rfl (And.intro (Nat.le_refl _) (And.intro (by subst hA; exact ((((h.1 c0).2.2.2.2 c1).1 c2).2.2.2.1 c3).2.2.2.2.2.1) (by subst hA; exact ((((h.1 c0).2.2.2.2 c1).1 c2).2.2.2.1 c3).2.2.2.2.2.2.1)))), ⟨⟨ndI hA (And.intro rfl (by subst hA; show ((0 + (Int.toNat t8)) + ((List.length R0) - (Int.toNat t8))) ≤ (List.length R0); (try simp only [rappS_end, Nat.zero_add, Int.toNat_natCast]); exact ((((h.1 c0).2.2.2.2 c1).1 c2).2.2.2.1 c3).2.2.2.2.2.2.2.1)), ⟨ndI hA (And.intro rfl (And.intro (by subst hA; show ((List.length (List.take (Int.toNat t8) (List.drop 0 R0))) + 1) ≤ (List.length (rappS (List.take (Int.toNat t8) (List.drop 0 R0)) (List.length (List.take (Int.toNat t8) (List.drop 0 R0))) [[(AV.int .i64 t7)]])); (try simp only [rappS_end, Nat.zero_add, Int.toNat_natCast]); exact ((((h.1 c0).2.2.2.2 c1).1 c2).2.2.2.1 c3).2.2.2.2.2.2.2.2.1) (And.intro (by subst hA; show (((List.length (List.take (Int.toNat t8) (List.drop 0 R0))) + 1) + (List.length (List.take ((List.length R0) - (Int.toNat t8)) (List.drop (0 + (Int.toNat t8)) R0)))) ≤ 140737488355328; (try simp only [rappS_end, Nat.zero_add, Int.toNat_natCast]); exact ((((h.1 c0).2.2.2.2 c1).1 c2).2.2.2.1 c3).2.2.2.2.2.2.2.2.2.1) (by subst hA; show ((((List.length (List.take (Int.toNat t8) (List.drop 0 R0))) + 1) + (List.length (List.take ((List.length R0) - (Int.toNat t8)) (List.drop (0 + (Int.toNat t8)) R0)))) * 8) ≤ 140737488355328; (try simp only [rappS_end, Nat.zero_add, Int.toNat_natCast]); exact ((((h.1 c0).2.2.2.2 c1).1 c2).2.2.2.1 c3).2.2.2.2.2.2.2.2.2.2.1)))), ?_⟩⟩, trivial⟩⟩, trivial⟩, trivial⟩
      · refine W.draw 80 (by rfl) ?_
        cbv
        refine ⟨ndI hA (And.intro rfl (And.intro rfl (by subst hA; show (((List.length (List.take (Int.toNat t8) (List.drop 0 R0))) + 1) + (List.length (List.take ((List.length R0) - (Int.toNat t8)) (List.drop (0 + (Int.toNat t8)) R0)))) = (List.length (rappS (rappS (List.take (Int.toNat t8) (List.drop 0 R0)) (List.length (List.take (Int.toNat t8) (List.drop 0 R0))) [[(AV.int .i64 t7)]]) ((List.length (List.take (Int.toNat t8) (List.drop 0 R0))) + 1) (List.take ((List.length R0) - (Int.toNat t8)) (List.drop (0 + (Int.toNat t8)) R0)))); (try simp only [rappS_end, Nat.zero_add, Int.toNat_natCast]); exact ((((h.1 c0).2.2.2.2 c1).1 c2).2.2.2.1 c3).2.2.2.2.2.2.2.2.2.2.2.1))), ⟨ndI hA (by subst hA; exact (vapp (vapp (vtake (vdrop hp.1)) vpur) (vtake (vdrop hp.1)))), (by subst hA; show EV 23 [(rappS (rappS (List.take (Int.toNat t8) (List.drop 0 R0)) (List.length (List.take (Int.toNat t8) (List.drop 0 R0))) [[(AV.int .i64 t7)]]) ((List.length (List.take (Int.toNat t8) (List.drop 0 R0))) + 1) (List.take ((List.length R0) - (Int.toNat t8)) (List.drop (0 + (Int.toNat t8)) R0)))] [(Lf.r t9), (Lf.i t10), (Lf.i t11), (Lf.r t21), (Lf.i t22), (Lf.i (IntKind.wrap .i64 (t23 + (1 : Int))))]; (try simp only [rappS_end, Nat.zero_add, Int.toNat_natCast]); exact ((((h.1 c0).2.2.2.2 c1).1 c2).2.2.2.1 c3).2.2.2.2.2.2.2.2.2.2.2.2)⟩⟩
    · refine W.draw 80 (by rfl) ?_
      cbv
      refine ⟨⟨ndI hA (And.intro rfl (And.intro (Nat.le_refl _) (And.intro (by subst hA; exact ((((h.1 c0).2.2.2.2 c1).1 c2).2.2.2.1 c3).2.2.2.2.2.1) (by subst hA; exact ((((h.1 c0).2.2.2.2 c1).1 c2).2.2.2.1 c3).2.2.2.2.2.2.1)))), ⟨⟨ndI hA (And.intro rfl (by subst hA; show ((0 + (Int.toNat t8)) + ((List.length R0) - (Int.toNat t8))) ≤ (List.length R0); (try simp only [rappS_end, Nat.zero_add, Int.toNat_natCast]); exact ((((h.1 c0).2.2.2.2 c1).1 c2).2.2.2.1 c3).2.2.2.2.2.2.2.1)), ⟨ndI hA (And.intro rfl (And.intro (by subst hA; show ((List.length (List.take (Int.toNat t8) (List.drop 0 R0))) + 1) ≤ (List.length (rappS (List.take (Int.toNat t8) (List.drop 0 R0)) (List.length (List.take (Int.toNat t8) (List.drop 0 R0))) [[(AV.int .i64 t7)]])); (try simp only [rappS_end, Nat.zero_add, Int.toNat_natCast]); exact ((((h.1 c0).2.2.2.2 c1).1 c2).2.2.2.1 c3).2.2.2.2.2.2.2.2.1) (And.intro (by subst hA; show (((List.length (List.take (Int.toNat t8) (List.drop 0 R0))) + 1) + (List.length (List.take ((List.length R0) - (Int.toNat t8)) (List.drop (0 + (Int.toNat t8)) R0)))) ≤ 140737488355328; (try simp only [rappS_end, Nat.zero_add, Int.toNat_natCast]); exact ((((h.1 c0).2.2.2.2 c1).1 c2).2.2.2.1 c3).2.2.2.2.2.2.2.2.2.1) (by subst hA; show ((((List.length (List.take (Int.toNat t8) (List.drop 0 R0))) + 1) + (List.length (List.take ((List.length R0) - (Int.toNat t8)) (List.drop (0 + (Int.toNat t8)) R0)))) * 8) ≤ 140737488355328; (try simp only [rappS_end, Nat.zero_add, Int.toNat_natCast]); exact ((((h.1 c0).2.2.2.2 c1).1 c2).2.2.2.1 c3).2.2.2.2.2.2.2.2.2.2.1)))), ?_⟩⟩, trivial⟩⟩, trivial⟩
      · refine W.draw 80 (by rfl) ?_
        cbv
        refine ⟨ndI hA (And.intro rfl (And.intro rfl (by subst hA; show (((List.length (List.take (Int.toNat t8) (List.drop 0 R0))) + 1) + (List.length (List.take ((List.length R0) - (Int.toNat t8)) (List.drop (0 + (Int.toNat t8)) R0)))) = (List.length (rappS (rappS (List.take (Int.toNat t8) (List.drop 0 R0)) (List.length (List.take (Int.toNat t8) (List.drop 0 R0))) [[(AV.int .i64 t7)]]) ((List.length (List.take (Int.toNat t8) (List.drop 0 R0))) + 1) (List.take ((List.length R0) - (Int.toNat t8)) (List.drop (0 + (Int.toNat t8)) R0)))); (try simp only [rappS_end, Nat.zero_add, Int.toNat_natCast]); exact ((((h.1 c0).2.2.2.2 c1).1 c2).2.2.2.1 c3).2.2.2.2.2.2.2.2.2.2.2.1))), ⟨ndI hA (by subst hA; exact (vapp (vapp (vtake (vdrop hp.1)) vpur) (vtake (vdrop hp.1)))), (by subst hA; show EV 23 [(rappS (rappS (List.take (Int.toNat t8) (List.drop 0 R0)) (List.length (List.take (Int.toNat t8) (List.drop 0 R0))) [[(AV.int .i64 t7)]]) ((List.length (List.take (Int.toNat t8) (List.drop 0 R0))) + 1) (List.take ((List.length R0) - (Int.toNat t8)) (List.drop (0 + (Int.toNat t8)) R0)))] [(Lf.r t9), (Lf.i t10), (Lf.i t11), (Lf.r t21), (Lf.i t22), (Lf.i (IntKind.wrap .i64 (t23 + (1 : Int))))]; (try simp only [rappS_end, Nat.zero_add, Int.toNat_natCast]); exact ((((h.1 c0).2.2.2.2 c1).1 c2).2.2.2.1 c3).2.2.2.2.2.2.2.2.2.2.2.2)⟩⟩
    · refine W.draw 80 (by rfl) ?_
      cbv
      refine ⟨⟨ndI hA (And.intro rfl (And.intro (Nat.le_refl _) (And.intro (by subst hA; exact ((((h.1 c0).2.2.2.2 c1).1 c2).2.2.2.1 c3).2.2.2.2.2.1) (by subst hA; exact ((((h.1 c0).2.2.2.2 c1).1 c2).2.2.2.1 c3).2.2.2.2.2.2.1)))), ⟨⟨ndI hA (And.intro rfl (by subst hA; show ((0 + (Int.toNat t8)) + ((List.length R0) - (Int.toNat t8))) ≤ (List.length R0); (try simp only [rappS_end, Nat.zero_add, Int.toNat_natCast]); exact ((((h.1 c0).2.2.2.2 c1).1 c2).2.2.2.1 c3).2.2.2.2.2.2.2.1)), ⟨ndI hA (And.intro rfl (And.intro (by subst hA; show ((List.length (List.take (Int.toNat t8) (List.drop 0 R0))) + 1) ≤ (List.length (rappS (List.take (Int.toNat t8) (List.drop 0 R0)) (List.length (List.take (Int.toNat t8) (List.drop 0 R0))) [[(AV.int .i64 t7)]])); (try simp only [rappS_end, Nat.zero_add, Int.toNat_natCast]); exact ((((h.1 c0).2.2.2.2 c1).1 c2).2.2.2.1 c3).2.2.2.2.2.2.2.2.1) (And.intro (by subst hA; show (((List.length (List.take (Int.toNat t8) (List.drop 0 R0))) + 1) + (List.length (List.take ((List.length R0) - (Int.toNat t8)) (List.drop (0 + (Int.toNat t8)) R0)))) ≤ 140737488355328; (try simp only [rappS_end, Nat.zero_add, Int.toNat_natCast]); exact ((((h.1 c0).2.2.2.2 c1).1 c2).2.2.2.1 c3).2.2.2.2.2.2.2.2.2.1) (by subst hA; show ((((List.length (List.take (Int.toNat t8) (List.drop 0 R0))) + 1) + (List.length (List.take ((List.length R0) - (Int.toNat t8)) (List.drop (0 + (Int.toNat t8)) R0)))) * 8) ≤ 140737488355328; (try simp only [rappS_end, Nat.zero_add, Int.toNat_natCast]); exact ((((h.1 c0).2.2.2.2 c1).1 c2).2.2.2.1 c3).2.2.2.2.2.2.2.2.2.2.1)))), ?_⟩⟩, trivial⟩⟩, trivial⟩
      · refine W.draw 80 (by rfl) ?_
        cbv
        refine ⟨ndI hA (And.intro rfl (And.intro rfl (by subst hA; show (((List.length (List.take (Int.toNat t8) (List.drop 0 R0))) + 1) + (List.length (List.take ((List.length R0) - (Int.toNat t8)) (List.drop (0 + (Int.toNat t8)) R0)))) = (List.length (rappS (rappS (List.take (Int.toNat t8) (List.drop 0 R0)) (List.length (List.take (Int.toNat t8) (List.drop 0 R0))) [[(AV.int .i64 t7)]]) ((List.length (List.take (Int.toNat t8) (List.drop 0 R0))) + 1) (List.take ((List.length R0) - (Int.toNat t8)) (List.drop (0 + (Int.toNat t8)) R0)))); (try simp only [rappS_end, Nat.zero_add, Int.toNat_natCast]); exact ((((h.1 c0).2.2.2.2 c1).1 c2).2.2.2.1 c3).2.2.2.2.2.2.2.2.2.2.2.1))), ⟨ndI hA (by subst hA; exact (vapp (vapp (vtake (vdrop hp.1)) vpur) (vtake (vdrop hp.1)))), (by subst hA; show EV 23 [(rappS (rappS (List.take (Int.toNat t8) (List.drop 0 R0)) (List.length (List.take (Int.toNat t8) (List.drop 0 R0))) [[(AV.int .i64 t7)]]) ((List.length (List.take (Int.toNat t8) (List.drop 0 R0))) + 1) (List.take ((List.length R0) - (Int.toNat t8)) (List.drop (0 + (Int.toNat t8)) R0)))] [(Lf.r t9), (Lf.i t10), (Lf.i t11), (Lf.r t21), (Lf.i t22), (Lf.i (IntKind.wrap .i64 (t23 + (1 : Int))))]; (try simp only [rappS_end, Nat.zero_add, Int.toNat_natCast]); exact ((((h.1 c0).2.2.2.2 c1).1 c2).2.2.2.1 c3).2.2.2.2.2.2.2.2.2.2.2.2)⟩⟩
    · refine W.draw 80 (by rfl) ?_
      cbv
      refine ⟨⟨⟨ndI hA (And.intro rfl (And.intro (Nat.le_refl _) (And.intro (by subst hA; exact (((h.1 c0).2.2.2.2 c1).2 c2).2.2.2.2.2.1) (by subst hA; exact (((h.1 c0).2.2.2.2 c1).2 c2).2.2.2.2.2.2.1)))), ⟨⟨ndI hA (And.intro rfl (by subst hA; show ((0 + (Int.toNat t8)) + ((List.length R0) - (Int.toNat t8))) ≤ (List.length R0); (try simp only [rappS_end, Nat.zero_add, Int.toNat_natCast]); exact (((h.1 c0).2.2.2.2 c1).2 c2).2.2.2.2.2.2.2.1)), ⟨ndI hA (And.intro rfl (And.intro (by subst hA; show ((List.length (List.take (Int.toNat t8) (List.drop 0 R0))) + 1) ≤ (List.length (rappS (List.take (Int.toNat t8) (List.drop 0 R0)) (List.length (List.take (Int.toNat t8) (List.drop 0 R0))) [[(AV.int .i64 t7)]])); (try simp only [rappS_end, Nat.zero_add, Int.toNat_natCast]); exact (((h.1 c0).2.2.2.2 c1).2 c2).2.2.2.2.2.2.2.2.1) (And.intro (by subst hA; show (((List.length (List.take (Int.toNat t8) (List.drop 0 R0))) + 1) + (List.length (List.take ((List.length R0) - (Int.toNat t8)) (List.drop (0 + (Int.toNat t8)) R0)))) ≤ 140737488355328; (try simp only [rappS_end, Nat.zero_add, Int.toNat_natCast]); exact (((h.1 c0).2.2.2.2 c1).2 c2).2.2.2.2.2.2.2.2.2.1) (by subst hA; show ((((List.length (List.take (Int.toNat t8) (List.drop 0 R0))) + 1) + (List.length (List.take ((List.length R0) - (Int.toNat t8)) (List.drop (0 + (Int.toNat t8)) R0)))) * 8) ≤ 140737488355328; (try simp only [rappS_end, Nat.zero_add, Int.toNat_natCast]); exact (((h.1 c0).2.2.2.2 c1).2 c2).2.2.2.2.2.2.2.2.2.2.1)))), ?_⟩⟩, trivial⟩⟩, trivial⟩, trivial⟩
      · refine W.draw 80 (by rfl) ?_
        cbv
        refine ⟨ndI hA (And.intro rfl (And.intro rfl (by subst hA; show (((List.length (List.take (Int.toNat t8) (List.drop 0 R0))) + 1) + (List.length (List.take ((List.length R0) - (Int.toNat t8)) (List.drop (0 + (Int.toNat t8)) R0)))) = (List.length (rappS (rappS (List.take (Int.toNat t8) (List.drop 0 R0)) (List.length (List.take (Int.toNat t8) (List.drop 0 R0))) [[(AV.int .i64 t7)]]) ((List.length (List.take (Int.toNat t8) (List.drop 0 R0))) + 1) (List.take ((List.length R0) - (Int.toNat t8)) (List.drop (0 + (Int.toNat t8)) R0)))); (try simp only [rappS_end, Nat.zero_add, Int.toNat_natCast]); exact (((h.1 c0).2.2.2.2 c1).2 c2).2.2.2.2.2.2.2.2.2.2.2.1))), ⟨ndI hA (by subst hA; exact (vapp (vapp (vtake (vdrop hp.1)) vpur) (vtake (vdrop hp.1)))), (by subst hA; show EV 23 [(rappS (rappS (List.take (Int.toNat t8) (List.drop 0 R0)) (List.length (List.take (Int.toNat t8) (List.drop 0 R0))) [[(AV.int .i64 t7)]]) ((List.length (List.take (Int.toNat t8) (List.drop 0 R0))) + 1) (List.take ((List.length R0) - (Int.toNat t8)) (List.drop (0 + (Int.toNat t8)) R0)))] [(Lf.r t9), (Lf.i t10), (Lf.i t11), (Lf.r t21), (Lf.i t22), (Lf.i (IntKind.wrap .i64 (t23 + (1 : Int))))]; (try simp only [rappS_end, Nat.zero_add, Int.toNat_natCast]); exact (((h.1 c0).2.2.2.2 c1).2 c2).2.2.2.2.2.2.2.2.2.2.2.2)⟩⟩
    · refine W.draw 80 (by rfl) ?_
      cbv
      refine ⟨⟨ndI hA (And.intro rfl (And.intro (Nat.le_refl _) (And.intro (by subst hA; exact (((h.1 c0).2.2.2.2 c1).2 c2).2.2.2.2.2.1) (by subst hA; exact (((h.1 c0).2.2.2.2 c1).2 c2).2.2.2.2.2.2.1)))), ⟨⟨ndI hA (And.intro rfl (by subst hA; show ((0 + (Int.toNat t8)) + ((List.length R0) - (Int.toNat t8))) ≤ (List.length R0); (try simp only [rappS_end, Nat.zero_add, Int.toNat_natCast]); exact (((h.1 c0).2.2.2.2 c1).2 c2).2.2.2.2.2.2.2.1)), ⟨ndI hA (And.intro rfl (And.intro (by subst hA; show ((List.length (List.take (Int.toNat t8) (List.drop 0 R0))) + 1) ≤ (List.length (rappS (List.take (Int.toNat t8) (List.drop 0 R0)) (List.length (List.take (Int.toNat t8) (List.drop 0 R0))) [[(AV.int .i64 t7)]])); (try simp only [rappS_end, Nat.zero_add, Int.toNat_natCast]); exact (((h.1 c0).2.2.2.2 c1).2 c2).2.2.2.2.2.2.2.2.1) (And.intro (by subst hA; show (((List.length (List.take (Int.toNat t8) (List.drop 0 R0))) + 1) + (List.length (List.take ((List.length R0) - (Int.toNat t8)) (List.drop (0 + (Int.toNat t8)) R0)))) ≤ 140737488355328; (try simp only [rappS_end, Nat.zero_add, Int.toNat_natCast]); exact (((h.1 c0).2.2.2.2 c1).2 c2).2.2.2.2.2.2.2.2.2.1) (by subst hA; show ((((List.length (List.take (Int.toNat t8) (List.drop 0 R0))) + 1) + (List.length (List.take ((List.length R0) - (Int.toNat t8)) (List.drop (0 + (Int.toNat t8)) R0)))) * 8) ≤ 140737488355328; (try simp only [rappS_end, Nat.zero_add, Int.toNat_natCast]); exact (((h.1 c0).2.2.2.2 c1).2 c2).2.2.2.2.2.2.2.2.2.2.1)))), ?_⟩⟩, trivial⟩⟩, trivial⟩
      · refine W.draw 80 (by rfl) ?_
        cbv
        refine ⟨ndI hA (And.intro rfl (And.intro rfl (by subst hA; show (((List.length (List.take (Int.toNat t8) (List.drop 0 R0))) + 1) + (List.length (List.take ((List.length R0) - (Int.toNat t8)) (List.drop (0 + (Int.toNat t8)) R0)))) = (List.length (rappS (rappS (List.take (Int.toNat t8) (List.drop 0 R0)) (List.length (List.take (Int.toNat t8) (List.drop 0 R0))) [[(AV.int .i64 t7)]]) ((List.length (List.take (Int.toNat t8) (List.drop 0 R0))) + 1) (List.take ((List.length R0) - (Int.toNat t8)) (List.drop (0 + (Int.toNat t8)) R0)))); (try simp only [rappS_end, Nat.zero_add, Int.toNat_natCast]); exact (((h.1 c0).2.2.2.2 c1).2 c2).2.2.2.2.2.2.2.2.2.2.2.1))), ⟨ndI hA (by subst hA; exact (vapp (vapp (vtake (vdrop hp.1)) vpur) (vtake (vdrop hp.1)))), (by subst hA; show EV 23 [(rappS (rappS (List.take (Int.toNat t8) (List.drop 0 R0)) (List.length (List.take (Int.toNat t8) (List.drop 0 R0))) [[(AV.int .i64 t7)]]) ((List.length (List.take (Int.toNat t8) (List.drop 0 R0))) + 1) (List.take ((List.length R0) - (Int.toNat t8)) (List.drop (0 + (Int.toNat t8)) R0)))] [(Lf.r t9), (Lf.i t10), (Lf.i t11), (Lf.r t21), (Lf.i t22), (Lf.i (IntKind.wrap .i64 (t23 + (1 : Int))))]; (try simp only [rappS_end, Nat.zero_add, Int.toNat_natCast]); exact (((h.1 c0).2.2.2.2 c1).2 c2).2.2.2.2.2.2.2.2.2.2.2.2)⟩⟩
    · refine W.draw 80 (by rfl) ?_
      cbv
      refine ⟨⟨ndI hA (And.intro rfl (And.intro (Nat.le_refl _) (And.intro (by subst hA; exact (((h.1 c0).2.2.2.2 c1).2 c2).2.2.2.2.2.1) (by subst hA; exact (((h.1 c0).2.2.2.2 c1).2 c2).2.2.2.2.2.2.1)))), ⟨⟨ndI hA (And.intro rfl (by subst hA; show ((0 + (Int.toNat t8)) + ((List.length R0) - (Int.toNat t8))) ≤ (List.length R0); (try simp only [rappS_end, Nat.zero_add, Int.toNat_natCast]); exact (((h.1 c0).2.2.2.2 c1).2 c2).2.2.2.2.2.2.2.1)), ⟨ndI hA (And.intro rfl (And.intro (by subst hA; show ((List.length (List.take (Int.toNat t8) (List.drop 0 R0))) + 1) ≤ (List.length (rappS (List.take (Int.toNat t8) (List.drop 0 R0)) (List.length (List.take (Int.toNat t8) (List.drop 0 R0))) [[(AV.int .i64 t7)]])); (try simp only [rappS_end, Nat.zero_add, Int.toNat_natCast]); exact (((h.1 c0).2.2.2.2 c1).2 c2).2.2.2.2.2.2.2.2.1) (And.intro (by subst hA; show (((List.length (List.take (Int.toNat t8) (List.drop 0 R0))) + 1) + (List.length (List.take ((List.length R0) - (Int.toNat t8)) (List.drop (0 + (Int.toNat t8)) R0)))) ≤ 140737488355328; (try simp only [rappS_end, Nat.zero_add, Int.toNat_natCast]); exact (((h.1 c0).2.2.2.2 c1).2 c2).2.2.2.2.2.2.2.2.2.1) (by subst hA; show ((((List.length (List.take (Int.toNat t8) (List.drop 0 R0))) + 1) + (List.length (List.take ((List.length R0) - (Int.toNat t8)) (List.drop (0 + (Int.toNat t8)) R0)))) * 8) ≤ 140737488355328; (try simp only [rappS_end, Nat.zero_add, Int.toNat_natCast]); exact (((h.1 c0).2.2.2.2 c1).2 c2).2.2.2.2.2.2.2.2.2.2.1)))), ?_⟩⟩, trivial⟩⟩, trivial⟩
      · refine W.draw 80 (by rfl) ?_
        cbv
        refine ⟨ndI hA (And.intro rfl (And.intro rfl (by subst hA; show (((List.length (List.take (Int.toNat t8) (List.drop 0 R0))) + 1) + (List.length (List.take ((List.length R0) - (Int.toNat t8)) (List.drop (0 + (Int.toNat t8)) R0)))) = (List.length (rappS (rappS (List.take (Int.toNat t8) (List.drop 0 R0)) (List.length (List.take (Int.toNat t8) (List.drop 0 R0))) [[(AV.int .i64 t7)]]) ((List.length (List.take (Int.toNat t8) (List.drop 0 R0))) + 1) (List.take ((List.length R0) - (Int.toNat t8)) (List.drop (0 + (Int.toNat t8)) R0)))); (try simp only [rappS_end, Nat.zero_add, Int.toNat_natCast]); exact (((h.1 c0).2.2.2.2 c1).2 c2).2.2.2.2.2.2.2.2.2.2.2.1))), ⟨ndI hA (by subst hA; exact (vapp (vapp (vtake (vdrop hp.1)) vpur) (vtake (vdrop hp.1)))), (by subst hA; show EV 23 [(rappS (rappS (List.take (Int.toNat t8) (List.drop 0 R0)) (List.length (List.take (Int.toNat t8) (List.drop 0 R0))) [[(AV.int .i64 t7)]]) ((List.length (List.take (Int.toNat t8) (List.drop 0 R0))) + 1) (List.take ((List.length R0) - (Int.toNat t8)) (List.drop (0 + (Int.toNat t8)) R0)))] [(Lf.r t9), (Lf.i t10), (Lf.i t11), (Lf.r t21), (Lf.i t22), (Lf.i (IntKind.wrap .i64 (t23 + (1 : Int))))]; (try simp only [rappS_end, Nat.zero_add, Int.toNat_natCast]); exact (((h.1 c0).2.2.2.2 c1).2 c2).2.2.2.2.2.2.2.2.2.2.2.2)⟩⟩
    · refine W.draw 80 (by rfl) ?_
      cbv
      refine ⟨⟨⟨ndI hA (And.intro rfl (And.intro (Nat.le_refl _) (And.intro (by subst hA; exact (((h.2 c0).1 c1).2.2.2.1 c2).2.2.2.2.2.1) (by subst hA; exact (((h.2 c0).1 c1).2.2.2.1 c2).2.2.2.2.2.2.1)))), ⟨⟨ndI hA (And.intro rfl (by subst hA; show ((0 + (Int.toNat t8)) + ((List.length R0) - (Int.toNat t8))) ≤ (List.length R0); (try simp only [rappS_end, Nat.zero_add, Int.toNat_natCast]); exact (((h.2 c0).1 c1).2.2.2.1 c2).2.2.2.2.2.2.2.1)), ⟨ndI hA (And.intro rfl (And.intro (by subst hA; show ((List.length (List.take (Int.toNat t8) (List.drop 0 R0))) + 1) ≤ (List.length (rappS (List.take (Int.toNat t8) (List.drop 0 R0)) (List.length (List.take (Int.toNat t8) (List.drop 0 R0))) [[(AV.int .i64 t7)]])); (try simp only [rappS_end, Nat.zero_add, Int.toNat_natCast]); exact (((h.2 c0).1 c1).2.2.2.1 c2).2.2.2.2.2.2.2.2.1) (And.intro (by subst hA; show (((List.length (List.take (Int.toNat t8) (List.drop 0 R0))) + 1) + (List.length (List.take ((List.length R0) - (Int.toNat t8)) (List.drop (0 + (Int.toNat t8)) R0)))) ≤ 140737488355328; (try simp only [rappS_end, Nat.zero_add, Int.toNat_natCast]); exact (((h.2 c0).1 c1).2.2.2.1 c2).2.2.2.2.2.2.2.2.2.1) (by subst hA; show ((((List.length (List.take (Int.toNat t8) (List.drop 0 R0))) + 1) + (List.length (List.take ((List.length R0) - (Int.toNat t8)) (List.drop (0 + (Int.toNat t8)) R0)))) * 8) ≤ 140737488355328; (try simp only [rappS_end, Nat.zero_add, Int.toNat_natCast]); exact (((h.2 c0).1 c1).2.2.2.1 c2).2.2.2.2.2.2.2.2.2.2.1)))), ?_⟩⟩, trivial⟩⟩, trivial⟩, trivial⟩
      · refine W.draw 80 (by rfl) ?_
        cbv
        refine ⟨ndI hA (And.intro rfl (And.intro rfl (by subst hA; show (((List.length (List.take (Int.toNat t8) (List.drop 0 R0))) + 1) + (List.length (List.take ((List.length R0) - (Int.toNat t8)) (List.drop (0 + (Int.toNat t8)) R0)))) = (List.length (rappS (rappS (List.take (Int.toNat t8) (List.drop 0 R0)) (List.length (List.take (Int.toNat t8) (List.drop 0 R0))) [[(AV.int .i64 t7)]]) ((List.length (List.take (Int.toNat t8) (List.drop 0 R0))) + 1) (List.take ((List.length R0) - (Int.toNat t8)) (List.drop (0 + (Int.toNat t8)) R0)))); (try simp only [rappS_end, Nat.zero_add, Int.toNat_natCast]); exact (((h.2 c0).1 c1).2.2.2.1 c2).2.2.2.2.2.2.2.2.2.2.2.1))), ⟨ndI hA (by subst hA; exact (vapp (vapp (vtake (vdrop hp.1)) vpur) (vtake (vdrop hp.1)))), (by subst hA; show EV 23 [(rappS (rappS (List.take (Int.toNat t8) (List.drop 0 R0)) (List.length (List.take (Int.toNat t8) (List.drop 0 R0))) [[(AV.int .i64 t7)]]) ((List.length (List.take (Int.toNat t8) (List.drop 0 R0))) + 1) (List.take ((List.length R0) - (Int.toNat t8)) (List.drop (0 + (Int.toNat t8)) R0)))] [(Lf.r t9), (Lf.i t10), (Lf.i t11), (Lf.r t21), (Lf.i t22), (Lf.i (IntKind.wrap .i64 (t23 + (1 : Int))))]; (try simp only [rappS_end, Nat.zero_add, Int.toNat_natCast]); exact (((h.2 c0).1 c1).2.2.2.1 c2).2.2.2.2.2.2.2.2.2.2.2.2)⟩⟩
    · refine W.draw 80 (by rfl) ?_
      cbv
      refine ⟨⟨ndI hA (And.intro rfl (And.intro (Nat.le_refl _) (And.intro (by subst hA; exact (((h.2 c0).1 c1).2.2.2.1 c2).2.2.2.2.2.1) (by subst hA; exact (((h.2 c0).1 c1).2.2.2.1 c2).2.2.2.2.2.2.1)))), ⟨⟨ndI hA (And.intro rfl (by subst hA; show ((0 + (Int.toNat t8)) + ((List.length R0) - (Int.toNat t8))) ≤ (List.length R0); (try simp only [rappS_end, Nat.zero_add, Int.toNat_natCast]); exact (((h.2 c0).1 c1).2.2.2.1 c2).2.2.2.2.2.2.2.1)), ⟨ndI hA (And.intro rfl (And.intro (by subst hA; show ((List.length (List.take (Int.toNat t8) (List.drop 0 R0))) + 1) ≤ (List.length (rappS (List.take (Int.toNat t8) (List.drop 0 R0)) (List.length (List.take (Int.toNat t8) (List.drop 0 R0))) [[(AV.int .i64 t7)]])); (try simp only [rappS_end, Nat.zero_add, Int.toNat_natCast]); exact (((h.2 c0).1 c1).2.2.2.1 c2).2.2.2.2.2.2.2.2.1) (And.intro (by subst hA; show (((List.length (List.take (Int.toNat t8) (List.drop 0 R0))) + 1) + (List.length (List.take ((List.length R0) - (Int.toNat t8)) (List.drop (0 + (Int.toNat t8)) R0)))) ≤ 140737488355328; (try simp only [rappS_end, Nat.zero_add, Int.toNat_natCast]); exact (((h.2 c0).1 c1).2.2.2.1 c2).2.2.2.2.2.2.2.2.2.1) (by subst hA; show ((((List.length (List.take (Int.toNat t8) (List.drop 0 R0))) + 1) + (List.length (List.take ((List.length R0) - (Int.toNat t8)) (List.drop (0 + (Int.toNat t8)) R0)))) * 8) ≤ 140737488355328; (try simp only [rappS_end, Nat.zero_add, Int.toNat_natCast]); exact (((h.2 c0).1 c1).2.2.2.1 c2).2.2.2.2.2.2.2.2.2.2.1)))), ?_⟩⟩, trivial⟩⟩, trivial⟩
      · refine W.draw 80 (by rfl) ?_
        cbv
        refine ⟨ndI hA (And.intro rfl (And.intro rfl (by subst hA; show (((List.length (List.take (Int.toNat t8) (List.drop 0 R0))) + 1) + (List.length (List.take ((List.length R0) - (Int.toNat t8)) (List.drop (0 + (Int.toNat t8)) R0)))) = (List.length (rappS (rappS (List.take (Int.toNat t8) (List.drop 0 R0)) (List.length (List.take (Int.toNat t8) (List.drop 0 R0))) [[(AV.int .i64 t7)]]) ((List.length (List.take (Int.toNat t8) (List.drop 0 R0))) + 1) (List.take ((List.length R0) - (Int.toNat t8)) (List.drop (0 + (Int.toNat t8)) R0)))); (try simp only [rappS_end, Nat.zero_add, Int.toNat_natCast]); exact (((h.2 c0).1 c1).2.2.2.1 c2).2.2.2.2.2.2.2.2.2.2.2.1))), ⟨ndI hA (by subst hA; exact (vapp (vapp (vtake (vdrop hp.1)) vpur) (vtake (vdrop hp.1)))), (by subst hA; show EV 23 [(rappS (rappS (List.take (Int.toNat t8) (List.drop 0 R0)) (List.length (List.take (Int.toNat t8) (List.drop 0 R0))) [[(AV.int .i64 t7)]]) ((List.length (List.take (Int.toNat t8) (List.drop 0 R0))) + 1) (List.take ((List.length R0) - (Int.toNat t8)) (List.drop (0 + (Int.toNat t8)) R0)))] [(Lf.r t9), (Lf.i t10), (Lf.i t11), (Lf.r t21), (Lf.i t22), (Lf.i (IntKind.wrap .i64 (t23 + (1 : Int))))]; (try simp only [rappS_end, Nat.zero_add, Int.toNat_natCast]); exact (((h.2 c0).1 c1).2.2.2.1 c2).2.2.2.2.2.2.2.2.2.2.2.2)⟩⟩
    · refine W.draw 80 (by rfl) ?_
      cbv
      refine ⟨⟨ndI hA (And.intro rfl (And.intro (Nat.le_refl _) (And.intro (by subst hA; exact (((h.2 c0).1 c1).2.2.2.1 c2).2.2.2.2.2.1) (by subst hA; exact (((h.2 c0).1 c1).2.2.2.1 c2).2.2.2.2.2.2.1)))), ⟨⟨ndI hA (And.intro rfl (by subst hA; show ((0 + (Int.toNat t8)) + ((List.length R0) - (Int.toNat t8))) ≤ (List.length R0); (try simp only [rappS_end, Nat.zero_add, Int.toNat_natCast]); exact (((h.2 c0).1 c1).2.2.2.1 c2).2.2.2.2.2.2.2.1)), ⟨ndI hA (And.intro rfl (And.intro (by subst hA; show ((List.length (List.take (Int.toNat t8) (List.drop 0 R0))) + 1) ≤ (List.length (rappS (List.take (Int.toNat t8) (List.drop 0 R0)) (List.length (List.take (Int.toNat t8) (List.drop 0 R0))) [[(AV.int .i64 t7)]])); (try simp only [rappS_end, Nat.zero_add, Int.toNat_natCast]); exact (((h.2 c0).1 c1).2.2.2.1 c2).2.2.2.2.2.2.2.2.1) (And.intro (by subst hA; show (((List.length (List.take (Int.toNat t8) (List.drop 0 R0))) + 1) + (List.length (List.take ((List.length R0) - (Int.toNat t8)) (List.drop (0 + (Int.toNat t8)) R0)))) ≤ 140737488355328; (try simp only [rappS_end, Nat.zero_add, Int.toNat_natCast]); exact (((h.2 c0).1 c1).2.2.2.1 c2).2.2.2.2.2.2.2.2.2.1) (by subst hA; show ((((List.length (List.take (Int.toNat t8) (List.drop 0 R0))) + 1) + (List.length (List.take ((List.length R0) - (Int.toNat t8)) (List.drop (0 + (Int.toNat t8)) R0)))) * 8) ≤ 140737488355328; (try simp only [rappS_end, Nat.zero_add, Int.toNat_natCast]); exact (((h.2 c0).1 c1).2.2.2.1 c2).2.2.2.2.2.2.2.2.2.2.1)))), ?_⟩⟩, trivial⟩⟩, trivial⟩
      · refine W.draw 80 (by rfl) ?_
        cbv
        refine ⟨ndI hA (And.intro rfl (And.intro rfl (by subst hA; show (((List.length (List.take (Int.toNat t8) (List.drop 0 R0))) + 1) + (List.length (List.take ((List.length R0) - (Int.toNat t8)) (List.drop (0 + (Int.toNat t8)) R0)))) = (List.length (rappS (rappS (List.take (Int.toNat t8) (List.drop 0 R0)) (List.length (List.take (Int.toNat t8) (List.drop 0 R0))) [[(AV.int .i64 t7)]]) ((List.length (List.take (Int.toNat t8) (List.drop 0 R0))) + 1) (List.take ((List.length R0) - (Int.toNat t8)) (List.drop (0 + (Int.toNat t8)) R0)))); (try simp only [rappS_end, Nat.zero_add, Int.toNat_natCast]); exact (((h.2 c0).1 c1).2.2.2.1 c2).2.2.2.2.2.2.2.2.2.2.2.1))), ⟨ndI hA (by subst hA; exact (vapp (vapp (vtake (vdrop hp.1)) vpur) (vtake (vdrop hp.1)))), (by subst hA; show EV 23 [(rappS (rappS (List.take (Int.toNat t8) (List.drop 0 R0)) (List.length (List.take (Int.toNat t8) (List.drop 0 R0))) [[(AV.int .i64 t7)]]) ((List.length (List.take (Int.toNat t8) (List.drop 0 R0))) + 1) (List.take ((List.length R0) - (Int.toNat t8)) (List.drop (0 + (Int.toNat t8)) R0)))] [(Lf.r t9), (Lf.i t10), (Lf.i t11), (Lf.r t21), (Lf.i t22), (Lf.i (IntKind.wrap .i64 (t23 + (1 : Int))))]; (try simp only [rappS_end, Nat.zero_add, Int.toNat_natCast]); exact (((h.2 c0).1 c1).2.2.2.1 c2).2.2.2.2.2.2.2.2.2.2.2.2)⟩⟩
    · refine W.draw 80 (by rfl) ?_
      cbv
      refine ⟨⟨⟨ndI hA (And.intro rfl (And.intro (Nat.le_refl _) (And.intro (by subst hA; exact ((h.2 c0).2 c1).2.2.2.2.2.1) (by subst hA; exact ((h.2 c0).2 c1).2.2.2.2.2.2.1)))), ⟨⟨ndI hA (And.intro rfl (by subst hA; show ((0 + (Int.toNat t8)) + ((List.length R0) - (Int.toNat t8))) ≤ (List.length R0); (try simp only [rappS_end, Nat.zero_add, Int.toNat_natCast]); exact ((h.2 c0).2 c1).2.2.2.2.2.2.2.1)), ⟨ndI hA (And.intro rfl (And.intro (by subst hA; show ((List.length (List.take (Int.toNat t8) (List.drop 0 R0))) + 1) ≤ (List.length (rappS (List.take (Int.toNat t8) (List.drop 0 R0)) (List.length (List.take (Int.toNat t8) (List.drop 0 R0))) [[(AV.int .i64 t7)]])); (try simp only [rappS_end, Nat.zero_add, Int.toNat_natCast]); exact ((h.2 c0).2 c1).2.2.2.2.2.2.2.2.1) (And.intro (by subst hA; show (((List.length (List.take (Int.toNat t8) (List.drop 0 R0))) + 1) + (List.length (List.take ((List.length R0) - (Int.toNat t8)) (List.drop (0 + (Int.toNat t8)) R0)))) ≤ 140737488355328; (try simp only [rappS_end, Nat.zero_add, Int.toNat_natCast]); exact ((h.2 c0).2 c1).2.2.2.2.2.2.2.2.2.1) (by subst hA; show ((((List.length (List.take (Int.toNat t8) (List.drop 0 R0))) + 1) + (List.length (List.take ((List.length R0) - (Int.toNat t8)) (List.drop (0 + (Int.toNat t8)) R0)))) * 8) ≤ 140737488355328; (try simp only [rappS_end, Nat.zero_add, Int.toNat_natCast]); exact ((h.2 c0).2 c1).2.2.2.2.2.2.2.2.2.2.1)))), ?_⟩⟩, trivial⟩⟩, trivial⟩, trivial⟩
      · refine W.draw 80 (by rfl) ?_
        cbv
        refine ⟨ndI hA (And.intro rfl (And.intro rfl (by subst hA; show (((List.length (List.take (Int.toNat t8) (List.drop 0 R0))) + 1) + (List.length (List.take ((List.length R0) - (Int.toNat t8)) (List.drop (0 + (Int.toNat t8)) R0)))) = (List.length (rappS (rappS (List.take (Int.toNat t8) (List.drop 0 R0)) (List.length (List.take (Int.toNat t8) (List.drop 0 R0))) [[(AV.int .i64 t7)]]) ((List.length (List.take (Int.toNat t8) (List.drop 0 R0))) + 1) (List.take ((List.length R0) - (Int.toNat t8)) (List.drop (0 + (Int.toNat t8)) R0)))); (try simp only [rappS_end, Nat.zero_add, Int.toNat_natCast]); exact ((h.2 c0).2 c1).2.2.2.2.2.2.2.2.2.2.2.1))), ⟨ndI hA (by subst hA; exact (vapp (vapp (vtake (vdrop hp.1)) vpur) (vtake (vdrop hp.1)))), (by subst hA; show EV 23 [(rappS (rappS (List.take (Int.toNat t8) (List.drop 0 R0)) (List.length (List.take (Int.toNat t8) (List.drop 0 R0))) [[(AV.int .i64 t7)]]) ((List.length (List.take (Int.toNat t8) (List.drop 0 R0))) + 1) (List.take ((List.length R0) - (Int.toNat t8)) (List.drop (0 + (Int.toNat t8)) R0)))] [(Lf.r t9), (Lf.i t10), (Lf.i t11), (Lf.r t21), (Lf.i t22), (Lf.i (IntKind.wrap .i64 (t23 + (1 : Int))))]; (try simp only [rappS_end, Nat.zero_add, Int.toNat_natCast]); exact ((h.2 c0).2 c1).2.2.2.2.2.2.2.2.2.2.2.2)⟩⟩
    · refine W.draw 80 (by rfl) ?_
      cbv
      refine ⟨⟨ndI hA (And.intro rfl (And.intro (Nat.le_refl _) (And.intro (by subst hA; exact ((h.2 c0).2 c1).2.2.2.2.2.1) (by subst hA; exact ((h.2 c0).2 c1).2.2.2.2.2.2.1)))), ⟨⟨ndI hA (And.intro rfl (by subst hA; show ((0 + (Int.toNat t8)) + ((List.length R0) - (Int.toNat t8))) ≤ (List.length R0); (try simp only [rappS_end, Nat.zero_add, Int.toNat_natCast]); exact ((h.2 c0).2 c1).2.2.2.2.2.2.2.1)), ⟨ndI hA (And.intro rfl (And.intro (by subst hA; show ((List.length (List.take (Int.toNat t8) (List.drop 0 R0))) + 1) ≤ (List.length (rappS (List.take (Int.toNat t8) (List.drop 0 R0)) (List.length (List.take (Int.toNat t8) (List.drop 0 R0))) [[(AV.int .i64 t7)]])); (try simp only [rappS_end, Nat.zero_add, Int.toNat_natCast]); exact ((h.2 c0).2 c1).2.2.2.2.2.2.2.2.1) (And.intro (by subst hA; show (((List.length (List.take (Int.toNat t8) (List.drop 0 R0))) + 1) + (List.length (List.take ((List.length R0) - (Int.toNat t8)) (List.drop (0 + (Int.toNat t8)) R0)))) ≤ 140737488355328; (try simp only [rappS_end, Nat.zero_add, Int.toNat_natCast]); exact ((h.2 c0).2 c1).2.2.2.2.2.2.2.2.2.1) (by subst hA; show ((((List.length (List.take (Int.toNat t8) (List.drop 0 R0))) + 1) + (List.length (List.take ((List.length R0) - (Int.toNat t8)) (List.drop (0 + (Int.toNat t8)) R0)))) * 8) ≤ 140737488355328; (try simp only [rappS_end, Nat.zero_add, Int.toNat_natCast]); exact ((h.2 c0).2 c1).2.2.2.2.2.2.2.2.2.2.1)))), ?_⟩⟩, trivial⟩⟩, trivial⟩
      · refine W.draw 80 (by rfl) ?_
        cbv
        refine ⟨ndI hA (And.intro rfl (And.intro rfl (by subst hA; show (((List.length (List.take (Int.toNat t8) (List.drop 0 R0))) + 1) + (List.length (List.take ((List.length R0) - (Int.toNat t8)) (List.drop (0 + (Int.toNat t8)) R0)))) = (List.length (rappS (rappS (List.take (Int.toNat t8) (List.drop 0 R0)) (List.length (List.take (Int.toNat t8) (List.drop 0 R0))) [[(AV.int .i64 t7)]]) ((List.length (List.take (Int.toNat t8) (List.drop 0 R0))) + 1) (List.take ((List.length R0) - (Int.toNat t8)) (List.drop (0 + (Int.toNat t8)) R0)))); (try simp only [rappS_end, Nat.zero_add, Int.toNat_natCast]); exact ((h.2 c0).2 c1).2.2.2.2.2.2.2.2.2.2.2.1))), ⟨ndI hA (by subst hA; exact (vapp (vapp (vtake (vdrop hp.1)) vpur) (vtake (vdrop hp.1)))), (by subst hA; show EV 23 [(rappS (rappS (List.take (Int.toNat t8) (List.drop 0 R0)) (List.length (List.take (Int.toNat t8) (List.drop 0 R0))) [[(AV.int .i64 t7)]]) ((List.length (List.take (Int.toNat t8) (List.drop 0 R0))) + 1) (List.take ((List.length R0) - (Int.toNat t8)) (List.drop (0 + (Int.toNat t8)) R0)))] [(Lf.r t9), (Lf.i t10), (Lf.i t11), (Lf.r t21), (Lf.i t22), (Lf.i (IntKind.wrap .i64 (t23 + (1 : Int))))]; (try simp only [rappS_end, Nat.zero_add, Int.toNat_natCast]); exact ((h.2 c0).2 c1).2.2.2.2.2.2.2.2.2.2.2.2)⟩⟩
    · refine W.draw 80 (by rfl) ?_
      cbv
      refine ⟨⟨ndI hA (And.intro rfl (And.intro (Nat.le_refl _) (And.intro (by subst hA; exact ((h.2 c0).2 c1).2.2.2.2.2.1) (by subst hA; exact ((h.2 c0).2 c1).2.2.2.2.2.2.1)))), ⟨⟨ndI hA (And.intro rfl (by subst hA; show ((0 + (Int.toNat t8)) + ((List.length R0) - (Int.toNat t8))) ≤ (List.length R0); (try simp only [rappS_end, Nat.zero_add, Int.toNat_natCast]); exact ((h.2 c0).2 c1).2.2.2.2.2.2.2.1)), ⟨ndI hA (And.intro rfl (And.intro (by subst hA; show ((List.length (List.take (Int.toNat t8) (List.drop 0 R0))) + 1) ≤ (List.length (rappS (List.take (Int.toNat t8) (List.drop 0 R0)) (List.length (List.take (Int.toNat t8) (List.drop 0 R0))) [[(AV.int .i64 t7)]])); (try simp only [rappS_end, Nat.zero_add, Int.toNat_natCast]); exact ((h.2 c0).2 c1).2.2.2.2.2.2.2.2.1) (And.intro (by subst hA; show (((List.length (List.take (Int.toNat t8) (List.drop 0 R0))) + 1) + (List.length (List.take ((List.length R0) - (Int.toNat t8)) (List.drop (0 + (Int.toNat t8)) R0)))) ≤ 140737488355328; (try simp only [rappS_end, Nat.zero_add, Int.toNat_natCast]); exact ((h.2 c0).2 c1).2.2.2.2.2.2.2.2.2.1) (by subst hA; show ((((List.length (List.take (Int.toNat t8) (List.drop 0 R0))) + 1) + (List.length (List.take ((List.length R0) - (Int.toNat t8)) (List.drop (0 + (Int.toNat t8)) R0)))) * 8) ≤ 140737488355328; (try simp only [rappS_end, Nat.zero_add, Int.toNat_natCast]); exact ((h.2 c0).2 c1).2.2.2.2.2.2.2.2.2.2.1)))), ?_⟩⟩, trivial⟩⟩, trivial⟩
      · refine W.draw 80 (by rfl) ?_
        cbv
        refine ⟨ndI hA (And.intro rfl (And.intro rfl (by subst hA; show (((List.length (List.take (Int.toNat t8) (List.drop 0 R0))) + 1) + (List.length (List.take ((List.length R0) - (Int.toNat t8)) (List.drop (0 + (Int.toNat t8)) R0)))) = (List.length (rappS (rappS (List.take (Int.toNat t8) (List.drop 0 R0)) (List.length (List.take (Int.toNat t8) (List.drop 0 R0))) [[(AV.int .i64 t7)]]) ((List.length (List.take (Int.toNat t8) (List.drop 0 R0))) + 1) (List.take ((List.length R0) - (Int.toNat t8)) (List.drop (0 + (Int.toNat t8)) R0)))); (try simp only [rappS_end, Nat.zero_add, Int.toNat_natCast]); exact ((h.2 c0).2 c1).2.2.2.2.2.2.2.2.2.2.2.1))), ⟨ndI hA (by subst hA; exact (vapp (vapp (vtake (vdrop hp.1)) vpur) (vtake (vdrop hp.1)))), (by subst hA; show EV 23 [(rappS (rappS (List.take (Int.toNat t8) (List.drop 0 R0)) (List.length (List.take (Int.toNat t8) (List.drop 0 R0))) [[(AV.int .i64 t7)]]) ((List.length (List.take (Int.toNat t8) (List.drop 0 R0))) + 1) (List.take ((List.length R0) - (Int.toNat t8)) (List.drop (0 + (Int.toNat t8)) R0)))] [(Lf.r t9), (Lf.i t10), (Lf.i t11), (Lf.r t21), (Lf.i t22), (Lf.i (IntKind.wrap .i64 (t23 + (1 : Int))))]; (try simp only [rappS_end, Nat.zero_add, Int.toNat_natCast]); exact ((h.2 c0).2 c1).2.2.2.2.2.2.2.2.2.2.2.2)⟩⟩

end
set_option maxHeartbeats 0 in
/-- To enter. -/
theorem E33 {Q : Nat → Rs → List Lf → Prop} {a0 : List (List AV)} (h : ∀ EV : Nat → Rs → List Lf → Prop, V33 EV Q →
    EV 9 [[]] [(Lf.r a0), (Lf.i (((List.length a0) : Nat) : Int)), (Lf.i (0 : Int))]) :
    EC Try.prog G33 [] [.r a0] Q := by
  obtain ⟨A, hA⟩ : ∃ A, A = arS := ⟨_, rfl⟩
  refine Inst.enter (I := I33) hA mixed F33_at sg L33 80 rfl fun CE CK Dn EV RR W hp => ?_
  have h := h  EV (V33.of W)
  cbv
  refine ⟨ndI hA (And.intro (by subst hA; show 0 = 0; (first | rfl | simp [rappS_end] | (simp only [rappS_end, List.length_append, List.length_set, List.length_cons, List.length_nil]; omega))) (And.intro rfl (by subst hA; show 0 = 0; (first | rfl | simp [rappS_end] | (simp only [rappS_end, List.length_append, List.length_set, List.length_cons, List.length_nil]; omega))))), ⟨ndI hA (by subst hA; exact vpur), (by subst hA; exact h)⟩⟩

-- 34: signalbox/signalboxref50.Depth
section
structure V34 (EV Q : Nat → Rs → List Lf → Prop) : Prop where
  p9 : ∀ {t1 : Int} {t5 : Int} {t8 : List (List AV)} {t9 : Int} {t10 : Int}, (
    (t10 < t9 →
      ((0 : Int) ≤ t10) ∧
      (t8[(Int.toNat t10)]? = some [(AV.int .i64 (cIS t8 (Int.toNat t10) 0)), (AV.int .i64 (cIS t8 (Int.toNat t10) 1))]) ∧
      (EC Try.prog G52 [] [(Lf.i (cIS t8 (Int.toNat t10) 0))] (fun x rs vs => (x = 0 ∧ ∃ (y1_0 : Int), rs = [] ∧ vs = [.i y1_0] ∧
        ((y1_0 ≤ t1 →
            EC Try.prog G52 [] [(Lf.i (cIS t8 (Int.toNat t10) 1))] (fun x rs vs => (x = 0 ∧ ∃ (y3_0 : Int), rs = [] ∧ vs = [.i y3_0] ∧
              ((t1 < y3_0 →
                  EV 9 [] [(Lf.i t1), (Lf.i (IntKind.wrap .i64 (t5 + (1 : Int)))), (Lf.r t8), (Lf.i t9), (Lf.i (IntKind.wrap .i64 (t10 + (1 : Int))))]) ∧
                (t1 ≥ y3_0 →
                  EV 9 [] [(Lf.i t1), (Lf.i t5), (Lf.r t8), (Lf.i t9), (Lf.i (IntKind.wrap .i64 (t10 + (1 : Int))))]))))) ∧
          (y1_0 > t1 →
            EV 9 [] [(Lf.i t1), (Lf.i t5), (Lf.r t8), (Lf.i t9), (Lf.i (IntKind.wrap .i64 (t10 + (1 : Int))))])))))) ∧
    (t10 ≥ t9 →
      Q 0 [] [(Lf.i t5)])) →
    EV 9 [] [.i t1, .i t5, .r t8, .i t9, .i t10]

set_option maxHeartbeats 0 in
theorem V34.of {Q : Nat → Rs → List Lf → Prop} {A : Ar} {CE : Nat → Rs → List Lf → (Nat → Rs → List Lf → Prop) → Prop} {CK : Nat → Rs → List Lf → Cont → Prop} {Dn : Nat → List Bool → List AItem → Nat → List Bool → List AV → List ABlk → Prop} {EV RR : Nat → Rs → List Lf → Prop} (W : Wk Try.prog Try.f34 I34 L34 Q A sg CE CK Dn EV RR) : V34 EV Q := by
  have hA := W.hA
  refine ⟨?_⟩
  · intro t1 t5 t8 t9 t10 h
    refine W.step 80 fun hp => ?_
    cbv
    refine ⟨imI hA fun e0 => have c0 : t10 < t9 := (by have q := (cmpE (op := .lss) hA e0); subst hA; exact q); ⟨ndI hA (And.intro (by subst hA; exact (h.1 c0).1) (by subst hA; exact (h.1 c0).2.1)), ?_⟩, imI hA fun e0 => have c0 : t10 ≥ t9 := (by have q := (cmpE (op := .lss) hA e0); subst hA; exact q); (by rw [W.rr]; exact (by subst hA; exact (h.2 c0)))⟩
    · refine W.call 80 (by rfl) (h.1 c0).2.2 (by subst hA; rfl) (by subst hA; rfl) ?_
      rintro x rs vs hp1 hq1
      rcases hq1 with ⟨rfl, y1_0, rfl, rfl, k1⟩
      · cbv
        refine ⟨imI hA fun e2 => have c2 : y1_0 ≤ t1 := (by have q := (cmpE (op := .leq) hA e2); subst hA; exact q); ?_, imI hA fun e2 => have c2 : y1_0 > t1 := (by have q := (cmpE (op := .leq) hA e2); subst hA; exact q); (by subst hA; exact (k1.2 c2))⟩
        · refine W.call 80 (by rfl) (k1.1 c2) (by subst hA; rfl) (by subst hA; rfl) ?_
          rintro x rs vs hp3 hq3
          rcases hq3 with ⟨rfl, y3_0, rfl, rfl, k3⟩
          · cbv
            refine ⟨imI hA fun e4 => have c4 : t1 < y3_0 := (by have q := (cmpE (op := .lss) hA e4); subst hA; exact q); (by subst hA; exact (k3.1 c4)), imI hA fun e4 => have c4 : t1 ≥ y3_0 := (by have q := (cmpE (op := .lss) hA e4); subst hA; exact q); (by subst hA; exact (k3.2 c4))⟩

end
set_option maxHeartbeats 0 in
/-- To enter. -/
theorem E34 {Q : Nat → Rs → List Lf → Prop} {a0 : List (List AV)} {a1 : Int} (h : ∀ EV : Nat → Rs → List Lf → Prop, V34 EV Q →
    EV 9 [] [(Lf.i a1), (Lf.i (0 : Int)), (Lf.r a0), (Lf.i (((List.length a0) : Nat) : Int)), (Lf.i (0 : Int))]) :
    EC Try.prog G34 [] [.r a0, .i a1] Q := by
  obtain ⟨A, hA⟩ : ∃ A, A = arS := ⟨_, rfl⟩
  refine Inst.enter (I := I34) hA mixed F34_at sg L34 80 rfl fun CE CK Dn EV RR W hp => ?_
  have h := h  EV (V34.of W)
  cbv
  refine (by subst hA; exact h)

-- 49a: signalbox/signalboxref50.Add DRAWN
section
structure V49a (EV Q : Nat → Rs → List Lf → Prop) : Prop where
  none : True

end
set_option maxHeartbeats 0 in
/-- To enter. -/
theorem E49a {Q : Nat → Rs → List Lf → Prop} {R0 : List (List AV)} {a1_0 : Int} {a1_1 : Int} (h : pursS R0 = true → ∀ EV : Nat → Rs → List Lf → Prop, V49a EV Q →
    ((((List.length R0) : Nat) : Int) > (0 : Int) →
      ((0 : Int) ≤ (IntKind.wrap .i64 ((((List.length R0) : Nat) : Int) - (1 : Int)))) ∧
      ((IntKind.wrap .i64 ((((List.length R0) : Nat) : Int) - (1 : Int))) < (((List.length R0) : Nat) : Int)) ∧
      (R0[(Int.toNat (IntKind.wrap .i64 ((((List.length R0) : Nat) : Int) - (1 : Int))))]? = some [(AV.int .i64 (cIS R0 (Int.toNat (IntKind.wrap .i64 ((((List.length R0) : Nat) : Int) - (1 : Int)))) 0)), (AV.int .i64 (cIS R0 (Int.toNat (IntKind.wrap .i64 ((((List.length R0) : Nat) : Int) - (1 : Int)))) 1))]) ∧
      ((cIS R0 (Int.toNat (IntKind.wrap .i64 ((((List.length R0) : Nat) : Int) - (1 : Int)))) 1) = a1_0 →
        ((List.length R0) ≤ (List.length R0)) ∧
        ((List.length (List.take (List.length R0) (List.drop 0 R0))) ≤ 140737488355328) ∧
        (((List.length (List.take (List.length R0) (List.drop 0 R0))) * 16) ≤ 140737488355328) ∧
        ((0 : Int) ≤ (IntKind.wrap .i64 ((((List.length (List.take (List.length R0) (List.drop 0 R0))) : Nat) : Int) - (1 : Int)))) ∧
        ((IntKind.wrap .i64 ((((List.length (List.take (List.length R0) (List.drop 0 R0))) : Nat) : Int) - (1 : Int))) < (((List.length (List.take (List.length R0) (List.drop 0 R0))) : Nat) : Int)) ∧
        ((List.take (List.length R0) (List.drop 0 R0))[(Int.toNat (IntKind.wrap .i64 ((((List.length (List.take (List.length R0) (List.drop 0 R0))) : Nat) : Int) - (1 : Int))))]? = some [(AV.int .i64 (cIS (List.take (List.length R0) (List.drop 0 R0)) (Int.toNat (IntKind.wrap .i64 ((((List.length (List.take (List.length R0) (List.drop 0 R0))) : Nat) : Int) - (1 : Int)))) 0)), (AV.int .i64 (cIS (List.take (List.length R0) (List.drop 0 R0)) (Int.toNat (IntKind.wrap .i64 ((((List.length (List.take (List.length R0) (List.drop 0 R0))) : Nat) : Int) - (1 : Int)))) 1))]) ∧
        (Q 0 [R0, (List.set (List.take (List.length R0) (List.drop 0 R0)) (Int.toNat (IntKind.wrap .i64 ((((List.length (List.take (List.length R0) (List.drop 0 R0))) : Nat) : Int) - (1 : Int)))) [(AV.int .i64 (cIS (List.take (List.length R0) (List.drop 0 R0)) (Int.toNat (IntKind.wrap .i64 ((((List.length (List.take (List.length R0) (List.drop 0 R0))) : Nat) : Int) - (1 : Int)))) 0)), (AV.int .i64 a1_1)])] [])) ∧
      ((cIS R0 (Int.toNat (IntKind.wrap .i64 ((((List.length R0) : Nat) : Int) - (1 : Int)))) 1) ≠ a1_0 →
        ((List.length R0) ≤ (List.length R0)) ∧
        ((List.length (List.take (List.length R0) (List.drop 0 R0))) ≤ 140737488355328) ∧
        (((List.length (List.take (List.length R0) (List.drop 0 R0))) * 16) ≤ 140737488355328) ∧
        (((List.length (List.take (List.length R0) (List.drop 0 R0))) + 1) ≤ 140737488355328) ∧
        ((((List.length (List.take (List.length R0) (List.drop 0 R0))) + 1) * 16) ≤ 140737488355328) ∧
        (Q 0 [R0, ((List.take (List.length R0) (List.drop 0 R0)) ++ [[(AV.int .i64 a1_0), (AV.int .i64 a1_1)]])] []))) ∧
    ((((List.length R0) : Nat) : Int) ≤ (0 : Int) →
      ((List.length R0) ≤ (List.length R0)) ∧
      ((List.length (List.take (List.length R0) (List.drop 0 R0))) ≤ 140737488355328) ∧
      (((List.length (List.take (List.length R0) (List.drop 0 R0))) * 16) ≤ 140737488355328) ∧
      (((List.length (List.take (List.length R0) (List.drop 0 R0))) + 1) ≤ 140737488355328) ∧
      ((((List.length (List.take (List.length R0) (List.drop 0 R0))) + 1) * 16) ≤ 140737488355328) ∧
      (Q 0 [R0, ((List.take (List.length R0) (List.drop 0 R0)) ++ [[(AV.int .i64 a1_0), (AV.int .i64 a1_1)]])] []))) :
    EC Try.prog G49a [R0] [.i a1_0, .i a1_1] Q := by
  obtain ⟨A, hA⟩ : ∃ A, A = arS := ⟨_, rfl⟩
  refine Inst.enter (I := I49a) hA mixed F49_at sg L49a 80 rfl fun CE CK Dn EV RR W hp => ?_
  have h := h hp.1 EV ⟨trivial⟩
  cbv
  refine ⟨ndI hA rfl, ⟨fun e0 => have c0 : (((List.length R0) : Nat) : Int) > (0 : Int) := (by have q := (cmpE (op := .gtr) hA e0); subst hA; exact q); ?_, fun e0 => have c0 : (((List.length R0) : Nat) : Int) ≤ (0 : Int) := (by have q := (cmpE (op := .gtr) hA e0); subst hA; exact q); ?_⟩⟩
  · refine W.draw 80 (by rfl) ?_
    cbv
    refine ⟨ndI hA rfl, ⟨ndI hA (And.intro (by subst hA; exact (h.1 c0).1) (And.intro (by subst hA; exact (h.1 c0).2.1) rfl)), ⟨ndI hA (And.intro rfl (by subst hA; show R0[(0 + (Int.toNat (IntKind.wrap .i64 ((((List.length R0) : Nat) : Int) - (1 : Int)))))]? = some [(AV.int .i64 (cIS R0 (0 + (Int.toNat (IntKind.wrap .i64 ((((List.length R0) : Nat) : Int) - (1 : Int))))) 0)), (AV.int .i64 (cIS R0 (0 + (Int.toNat (IntKind.wrap .i64 ((((List.length R0) : Nat) : Int) - (1 : Int))))) 1))]; (try simp only [rappS_end, Nat.zero_add, Int.toNat_natCast]); exact (h.1 c0).2.2.1)), ⟨imI hA fun e1 => have c1 : (cIS R0 (Int.toNat (IntKind.wrap .i64 ((((List.length R0) : Nat) : Int) - (1 : Int)))) 1) = a1_0 := (by have q := (cmpE (op := .eql) hA e1); subst hA; have q : (cIS R0 (0 + (Int.toNat (IntKind.wrap .i64 ((((List.length R0) : Nat) : Int) - (1 : Int))))) 1) = a1_0 := q; simpa only [rappS_end, Nat.zero_add, Int.toNat_natCast] using q); ⟨ndI hA (And.intro rfl (by subst hA; show (0 + (List.length R0)) ≤ (List.length R0); (try simp only [rappS_end, Nat.zero_add, Int.toNat_natCast]); exact ((h.1 c0).2.2.2.1 c1).1)), ⟨ndI hA (And.intro (by subst hA; exact ((h.1 c0).2.2.2.1 c1).2.1) (by subst hA; exact ((h.1 c0).2.2.2.1 c1).2.2.1)), ⟨ndI hA rfl, ⟨ndI hA (And.intro (by subst hA; exact ((h.1 c0).2.2.2.1 c1).2.2.2.1) (And.intro (by subst hA; exact ((h.1 c0).2.2.2.1 c1).2.2.2.2.1) rfl)), ⟨ndI hA (And.intro rfl (by subst hA; show (List.take (List.length R0) (List.drop 0 R0))[(0 + (Int.toNat (IntKind.wrap .i64 ((((List.length (List.take (List.length R0) (List.drop 0 R0))) : Nat) : Int) - (1 : Int)))))]? = some [(AV.int .i64 (cIS (List.take (List.length R0) (List.drop 0 R0)) (0 + (Int.toNat (IntKind.wrap .i64 ((((List.length (List.take (List.length R0) (List.drop 0 R0))) : Nat) : Int) - (1 : Int))))) 0)), (AV.int .i64 (cIS (List.take (List.length R0) (List.drop 0 R0)) (0 + (Int.toNat (IntKind.wrap .i64 ((((List.length (List.take (List.length R0) (List.drop 0 R0))) : Nat) : Int) - (1 : Int))))) 1))]; (try simp only [rappS_end, Nat.zero_add, Int.toNat_natCast]); exact ((h.1 c0).2.2.2.1 c1).2.2.2.2.2.1)), ⟨ndI hA (And.intro (by subst hA; show (List.length (List.take (List.length R0) (List.drop 0 R0))) = (List.length (List.set (List.take (List.length R0) (List.drop 0 R0)) (0 + (Int.toNat (IntKind.wrap .i64 ((((List.length (List.take (List.length R0) (List.drop 0 R0))) : Nat) : Int) - (1 : Int))))) [(AV.int .i64 (cIS (List.take (List.length R0) (List.drop 0 R0)) (0 + (Int.toNat (IntKind.wrap .i64 ((((List.length (List.take (List.length R0) (List.drop 0 R0))) : Nat) : Int) - (1 : Int))))) 0)), (AV.int .i64 a1_1)])); (first | rfl | simp [rappS_end] | (simp only [rappS_end, List.length_append, List.length_set, List.length_cons, List.length_nil]; omega))) (And.intro rfl (by subst hA; show (List.length (List.take (List.length R0) (List.drop 0 R0))) = (List.length (List.set (List.take (List.length R0) (List.drop 0 R0)) (0 + (Int.toNat (IntKind.wrap .i64 ((((List.length (List.take (List.length R0) (List.drop 0 R0))) : Nat) : Int) - (1 : Int))))) [(AV.int .i64 (cIS (List.take (List.length R0) (List.drop 0 R0)) (0 + (Int.toNat (IntKind.wrap .i64 ((((List.length (List.take (List.length R0) (List.drop 0 R0))) : Nat) : Int) - (1 : Int))))) 0)), (AV.int .i64 a1_1)])); (first | rfl | simp [rappS_end] | (simp only [rappS_end, List.length_append, List.length_set, List.length_cons, List.length_nil]; omega))))), ⟨ndI hA (by subst hA; exact hp.1), ⟨ndI hA (by subst hA; exact (vset (vtake (vdrop hp.1)) rfl)), (by rw [W.rr]; exact (by subst hA; show Q 0 [R0, (List.set (List.take (List.length R0) (List.drop 0 R0)) (0 + (Int.toNat (IntKind.wrap .i64 ((((List.length (List.take (List.length R0) (List.drop 0 R0))) : Nat) : Int) - (1 : Int))))) [(AV.int .i64 (cIS (List.take (List.length R0) (List.drop 0 R0)) (0 + (Int.toNat (IntKind.wrap .i64 ((((List.length (List.take (List.length R0) (List.drop 0 R0))) : Nat) : Int) - (1 : Int))))) 0)), (AV.int .i64 a1_1)])] []; (try simp only [rappS_end, Nat.zero_add, Int.toNat_natCast]); exact ((h.1 c0).2.2.2.1 c1).2.2.2.2.2.2))⟩⟩⟩⟩⟩⟩⟩⟩, imI hA fun e1 => have c1 : (cIS R0 (Int.toNat (IntKind.wrap .i64 ((((List.length R0) : Nat) : Int) - (1 : Int)))) 1) ≠ a1_0 := (by have q := (cmpE (op := .eql) hA e1); subst hA; have q : (cIS R0 (0 + (Int.toNat (IntKind.wrap .i64 ((((List.length R0) : Nat) : Int) - (1 : Int))))) 1) ≠ a1_0 := q; simpa only [rappS_end, Nat.zero_add, Int.toNat_natCast] using q); ⟨⟨⟨ndI hA (And.intro rfl (by subst hA; show (0 + (List.length R0)) ≤ (List.length R0); (try simp only [rappS_end, Nat.zero_add, Int.toNat_natCast]); exact ((h.1 c0).2.2.2.2 c1).1)), ⟨ndI hA (And.intro (by subst hA; exact ((h.1 c0).2.2.2.2 c1).2.1) (by subst hA; exact ((h.1 c0).2.2.2.2 c1).2.2.1)), ?_⟩⟩, ⟨⟨⟨ndI hA (And.intro rfl (by subst hA; show (0 + (List.length R0)) ≤ (List.length R0); (try simp only [rappS_end, Nat.zero_add, Int.toNat_natCast]); exact ((h.1 c0).2.2.2.2 c1).1)), ⟨ndI hA (And.intro (by subst hA; exact ((h.1 c0).2.2.2.2 c1).2.1) (by subst hA; exact ((h.1 c0).2.2.2.2 c1).2.2.1)), ?_⟩⟩, trivial⟩, trivial⟩⟩, ⟨⟨⟨⟨ndI hA (And.intro rfl (by subst hA; show (0 + (List.length R0)) ≤ (List.length R0); (try simp only [rappS_end, Nat.zero_add, Int.toNat_natCast]); exact ((h.1 c0).2.2.2.2 c1).1)), ⟨ndI hA (And.intro (by subst hA; exact ((h.1 c0).2.2.2.2 c1).2.1) (by subst hA; exact ((h.1 c0).2.2.2.2 c1).2.2.1)), ?_⟩⟩, trivial⟩, trivial⟩, trivial⟩⟩⟩⟩⟩⟩
    · refine W.draw 80 (by rfl) ?_
      cbv
      refine ⟨⟨⟨ndI hA (And.intro rfl (And.intro (Nat.le_refl _) (And.intro (by subst hA; exact ((h.1 c0).2.2.2.2 c1).2.2.2.1) (by subst hA; exact ((h.1 c0).2.2.2.2 c1).2.2.2.2.1)))), ⟨ndI hA (And.intro rfl (And.intro rfl (by subst hA; show ((List.length (List.take (List.length R0) (List.drop 0 R0))) + 1) = (List.length (rappS (List.take (List.length R0) (List.drop 0 R0)) (List.length (List.take (List.length R0) (List.drop 0 R0))) [[(AV.int .i64 a1_0), (AV.int .i64 a1_1)]])); (first | rfl | simp [rappS_end] | (simp only [rappS_end, List.length_append, List.length_set, List.length_cons, List.length_nil]; omega))))), ⟨ndI hA (by subst hA; exact hp.1), ⟨ndI hA (by subst hA; exact (vapp (vtake (vdrop hp.1)) vpur)), (by rw [W.rr]; exact (by subst hA; show Q 0 [R0, (rappS (List.take (List.length R0) (List.drop 0 R0)) (List.length (List.take (List.length R0) (List.drop 0 R0))) [[(AV.int .i64 a1_0), (AV.int .i64 a1_1)]])] []; (try simp only [rappS_end, Nat.zero_add, Int.toNat_natCast]); exact ((h.1 c0).2.2.2.2 c1).2.2.2.2.2))⟩⟩⟩⟩, trivial⟩, trivial⟩
    · refine W.draw 80 (by rfl) ?_
      cbv
      refine ⟨⟨ndI hA (And.intro rfl (And.intro (Nat.le_refl _) (And.intro (by subst hA; exact ((h.1 c0).2.2.2.2 c1).2.2.2.1) (by subst hA; exact ((h.1 c0).2.2.2.2 c1).2.2.2.2.1)))), ⟨ndI hA (And.intro rfl (And.intro rfl (by subst hA; show ((List.length (List.take (List.length R0) (List.drop 0 R0))) + 1) = (List.length (rappS (List.take (List.length R0) (List.drop 0 R0)) (List.length (List.take (List.length R0) (List.drop 0 R0))) [[(AV.int .i64 a1_0), (AV.int .i64 a1_1)]])); (first | rfl | simp [rappS_end] | (simp only [rappS_end, List.length_append, List.length_set, List.length_cons, List.length_nil]; omega))))), ⟨ndI hA (by subst hA; exact hp.1), ⟨ndI hA (by subst hA; exact (vapp (vtake (vdrop hp.1)) vpur)), (by rw [W.rr]; exact (by subst hA; show Q 0 [R0, (rappS (List.take (List.length R0) (List.drop 0 R0)) (List.length (List.take (List.length R0) (List.drop 0 R0))) [[(AV.int .i64 a1_0), (AV.int .i64 a1_1)]])] []; (try simp only [rappS_end, Nat.zero_add, Int.toNat_natCast]); exact ((h.1 c0).2.2.2.2 c1).2.2.2.2.2))⟩⟩⟩⟩, trivial⟩
    · refine W.draw 80 (by rfl) ?_
      cbv
      refine ⟨⟨ndI hA (And.intro rfl (And.intro (Nat.le_refl _) (And.intro (by subst hA; exact ((h.1 c0).2.2.2.2 c1).2.2.2.1) (by subst hA; exact ((h.1 c0).2.2.2.2 c1).2.2.2.2.1)))), ⟨ndI hA (And.intro rfl (And.intro rfl (by subst hA; show ((List.length (List.take (List.length R0) (List.drop 0 R0))) + 1) = (List.length (rappS (List.take (List.length R0) (List.drop 0 R0)) (List.length (List.take (List.length R0) (List.drop 0 R0))) [[(AV.int .i64 a1_0), (AV.int .i64 a1_1)]])); (first | rfl | simp [rappS_end] | (simp only [rappS_end, List.length_append, List.length_set, List.length_cons, List.length_nil]; omega))))), ⟨ndI hA (by subst hA; exact hp.1), ⟨ndI hA (by subst hA; exact (vapp (vtake (vdrop hp.1)) vpur)), (by rw [W.rr]; exact (by subst hA; show Q 0 [R0, (rappS (List.take (List.length R0) (List.drop 0 R0)) (List.length (List.take (List.length R0) (List.drop 0 R0))) [[(AV.int .i64 a1_0), (AV.int .i64 a1_1)]])] []; (try simp only [rappS_end, Nat.zero_add, Int.toNat_natCast]); exact ((h.1 c0).2.2.2.2 c1).2.2.2.2.2))⟩⟩⟩⟩, trivial⟩
  · refine W.draw 80 (by rfl) ?_
    cbv
    refine ⟨⟨⟨ndI hA (And.intro rfl (by subst hA; show (0 + (List.length R0)) ≤ (List.length R0); (try simp only [rappS_end, Nat.zero_add, Int.toNat_natCast]); exact (h.2 c0).1)), ⟨ndI hA (And.intro (by subst hA; exact (h.2 c0).2.1) (by subst hA; exact (h.2 c0).2.2.1)), ?_⟩⟩, ⟨⟨⟨ndI hA (And.intro rfl (by subst hA; show (0 + (List.length R0)) ≤ (List.length R0); (try simp only [rappS_end, Nat.zero_add, Int.toNat_natCast]); exact (h.2 c0).1)), ⟨ndI hA (And.intro (by subst hA; exact (h.2 c0).2.1) (by subst hA; exact (h.2 c0).2.2.1)), ?_⟩⟩, trivial⟩, trivial⟩⟩, ⟨⟨⟨⟨ndI hA (And.intro rfl (by subst hA; show (0 + (List.length R0)) ≤ (List.length R0); (try simp only [rappS_end, Nat.zero_add, Int.toNat_natCast]); exact (h.2 c0).1)), ⟨ndI hA (And.intro (by subst hA; exact (h.2 c0).2.1) (by subst hA; exact (h.2 c0).2.2.1)), ?_⟩⟩, trivial⟩, trivial⟩, trivial⟩⟩
    · refine W.draw 80 (by rfl) ?_
      cbv
      refine ⟨⟨⟨ndI hA (And.intro rfl (And.intro (Nat.le_refl _) (And.intro (by subst hA; exact (h.2 c0).2.2.2.1) (by subst hA; exact (h.2 c0).2.2.2.2.1)))), ⟨ndI hA (And.intro rfl (And.intro rfl (by subst hA; show ((List.length (List.take (List.length R0) (List.drop 0 R0))) + 1) = (List.length (rappS (List.take (List.length R0) (List.drop 0 R0)) (List.length (List.take (List.length R0) (List.drop 0 R0))) [[(AV.int .i64 a1_0), (AV.int .i64 a1_1)]])); (first | rfl | simp [rappS_end] | (simp only [rappS_end, List.length_append, List.length_set, List.length_cons, List.length_nil]; omega))))), ⟨ndI hA (by subst hA; exact hp.1), ⟨ndI hA (by subst hA; exact (vapp (vtake (vdrop hp.1)) vpur)), (by rw [W.rr]; exact (by subst hA; show Q 0 [R0, (rappS (List.take (List.length R0) (List.drop 0 R0)) (List.length (List.take (List.length R0) (List.drop 0 R0))) [[(AV.int .i64 a1_0), (AV.int .i64 a1_1)]])] []; (try simp only [rappS_end, Nat.zero_add, Int.toNat_natCast]); exact (h.2 c0).2.2.2.2.2))⟩⟩⟩⟩, trivial⟩, trivial⟩
    · refine W.draw 80 (by rfl) ?_
      cbv
      refine ⟨⟨ndI hA (And.intro rfl (And.intro (Nat.le_refl _) (And.intro (by subst hA; exact (h.2 c0).2.2.2.1) (by subst hA; exact (h.2 c0).2.2.2.2.1)))), ⟨ndI hA (And.intro rfl (And.intro rfl (by subst hA; show ((List.length (List.take (List.length R0) (List.drop 0 R0))) + 1) = (List.length (rappS (List.take (List.length R0) (List.drop 0 R0)) (List.length (List.take (List.length R0) (List.drop 0 R0))) [[(AV.int .i64 a1_0), (AV.int .i64 a1_1)]])); (first | rfl | simp [rappS_end] | (simp only [rappS_end, List.length_append, List.length_set, List.length_cons, List.length_nil]; omega))))), ⟨ndI hA (by subst hA; exact hp.1), ⟨ndI hA (by subst hA; exact (vapp (vtake (vdrop hp.1)) vpur)), (by rw [W.rr]; exact (by subst hA; show Q 0 [R0, (rappS (List.take (List.length R0) (List.drop 0 R0)) (List.length (List.take (List.length R0) (List.drop 0 R0))) [[(AV.int .i64 a1_0), (AV.int .i64 a1_1)]])] []; (try simp only [rappS_end, Nat.zero_add, Int.toNat_natCast]); exact (h.2 c0).2.2.2.2.2))⟩⟩⟩⟩, trivial⟩
    · refine W.draw 80 (by rfl) ?_
      cbv
      refine ⟨⟨ndI hA (And.intro rfl (And.intro (Nat.le_refl _) (And.intro (by subst hA; exact (h.2 c0).2.2.2.1) (by subst hA; exact (h.2 c0).2.2.2.2.1)))), ⟨ndI hA (And.intro rfl (And.intro rfl (by subst hA; show ((List.length (List.take (List.length R0) (List.drop 0 R0))) + 1) = (List.length (rappS (List.take (List.length R0) (List.drop 0 R0)) (List.length (List.take (List.length R0) (List.drop 0 R0))) [[(AV.int .i64 a1_0), (AV.int .i64 a1_1)]])); (first | rfl | simp [rappS_end] | (simp only [rappS_end, List.length_append, List.length_set, List.length_cons, List.length_nil]; omega))))), ⟨ndI hA (by subst hA; exact hp.1), ⟨ndI hA (by subst hA; exact (vapp (vtake (vdrop hp.1)) vpur)), (by rw [W.rr]; exact (by subst hA; show Q 0 [R0, (rappS (List.take (List.length R0) (List.drop 0 R0)) (List.length (List.take (List.length R0) (List.drop 0 R0))) [[(AV.int .i64 a1_0), (AV.int .i64 a1_1)]])] []; (try simp only [rappS_end, Nat.zero_add, Int.toNat_natCast]); exact (h.2 c0).2.2.2.2.2))⟩⟩⟩⟩, trivial⟩

-- 27: signalbox/signalboxref50.Join DRAWN
section
structure V27 (EV Q : Nat → Rs → List Lf → Prop) : Prop where
  p11 : ∀ {R0 : List (List AV)} {R1 : List (List AV)} {t0 : List (List AV)} {t5 : Int}, (pursS R0 = true → pursS R1 = true → 
    ((IntKind.wrap .i64 (t5 + (1 : Int))) < (((List.length R1) : Nat) : Int) →
      ((0 : Int) ≤ t5) ∧
      (t5 < (((List.length R1) : Nat) : Int)) ∧
      (R1[(Int.toNat t5)]? = some [(AV.int .i64 (cIS R1 (Int.toNat t5) 0))]) ∧
      (EC Try.prog G34 [] [(Lf.r t0), (Lf.i (cIS R1 (Int.toNat t5) 0))] (fun x rs vs => (x = 0 ∧ ∃ (y1_0 : Int), rs = [] ∧ vs = [.i y1_0] ∧
        ((y1_0 > (0 : Int) →
            ((0 : Int) ≤ t5) ∧
            (t5 < (((List.length R1) : Nat) : Int)) ∧
            (R1[(Int.toNat t5)]? = some [(AV.int .i64 (cIS R1 (Int.toNat t5) 0))]) ∧
            ((0 : Int) ≤ (IntKind.wrap .i64 (t5 + (1 : Int)))) ∧
            ((IntKind.wrap .i64 (t5 + (1 : Int))) < (((List.length R1) : Nat) : Int)) ∧
            (R1[(Int.toNat (IntKind.wrap .i64 (t5 + (1 : Int))))]? = some [(AV.int .i64 (cIS R1 (Int.toNat (IntKind.wrap .i64 (t5 + (1 : Int)))) 0))]) ∧
            (EC Try.prog G49a [R0] [(Lf.i (cIS R1 (Int.toNat t5) 0)), (Lf.i (cIS R1 (Int.toNat (IntKind.wrap .i64 (t5 + (1 : Int)))) 0))] (fun x rs vs => (x = 0 ∧ ∃ (Y3_0 : List (List AV)) (Y3_1 : List (List AV)), rs = [Y3_0, Y3_1] ∧ vs = [] ∧
              (EV 11 [Y3_1, R1] [(Lf.r t0), (Lf.i (IntKind.wrap .i64 (t5 + (1 : Int))))]))))) ∧
          (y1_0 ≤ (0 : Int) →
            EV 11 [R0, R1] [(Lf.r t0), (Lf.i (IntKind.wrap .i64 (t5 + (1 : Int))))])))))) ∧
    ((IntKind.wrap .i64 (t5 + (1 : Int))) ≥ (((List.length R1) : Nat) : Int) →
      Q 0 [R0] [])) →
    EV 11 [R0, R1] [.r t0, .i t5]

set_option maxHeartbeats 0 in
theorem V27.of {Q : Nat → Rs → List Lf → Prop} {A : Ar} {CE : Nat → Rs → List Lf → (Nat → Rs → List Lf → Prop) → Prop} {CK : Nat → Rs → List Lf → Cont → Prop} {Dn : Nat → List Bool → List AItem → Nat → List Bool → List AV → List ABlk → Prop} {EV RR : Nat → Rs → List Lf → Prop} (W : Wk Try.prog Try.f27 I27 L27 Q A sg CE CK Dn EV RR) : V27 EV Q := by
  have hA := W.hA
  refine ⟨?_⟩
  · intro R0 R1 t0 t5 h
    refine W.step 80 fun hp => ?_
    have h := h hp.1 hp.2.1
    cbv
    refine ⟨ndI hA rfl, ⟨imI hA fun e0 => have c0 : (IntKind.wrap .i64 (t5 + (1 : Int))) < (((List.length R1) : Nat) : Int) := (by have q := (cmpE (op := .lss) hA e0); subst hA; exact q); ⟨ndI hA (And.intro (by subst hA; exact (h.1 c0).1) (And.intro (by subst hA; exact (h.1 c0).2.1) rfl)), ⟨ndI hA (And.intro rfl (by subst hA; show R1[(0 + (Int.toNat t5))]? = some [(AV.int .i64 (cIS R1 (0 + (Int.toNat t5)) 0))]; (try simp only [rappS_end, Nat.zero_add, Int.toNat_natCast]); exact (h.1 c0).2.2.1)), ?_⟩⟩, imI hA fun e0 => have c0 : (IntKind.wrap .i64 (t5 + (1 : Int))) ≥ (((List.length R1) : Nat) : Int) := (by have q := (cmpE (op := .lss) hA e0); subst hA; exact q); ⟨ndI hA (And.intro rfl (And.intro rfl rfl)), ⟨ndI hA (by subst hA; exact hp.1), (by rw [W.rr]; exact (by subst hA; exact (h.2 c0)))⟩⟩⟩⟩
    · refine W.call 80 (by rfl) (h.1 c0).2.2.2 (by subst hA; show [] = []; (try simp only [rappS_end, Nat.zero_add, Int.toNat_natCast])) (by subst hA; show [(Lf.r t0), (Lf.i (cIS R1 (0 + (Int.toNat t5)) 0))] = [(Lf.r t0), (Lf.i (cIS R1 (Int.toNat t5) 0))]; (try simp only [rappS_end, Nat.zero_add, Int.toNat_natCast])) ?_
      rintro x rs vs hp1 hq1
      rcases hq1 with ⟨rfl, y1_0, rfl, rfl, k1⟩
      · cbv
        refine ⟨imI hA fun e2 => have c2 : y1_0 > (0 : Int) := (by have q := (cmpE (op := .gtr) hA e2); subst hA; exact q); ⟨ndI hA (And.intro (by subst hA; exact (k1.1 c2).1) (And.intro (by subst hA; exact (k1.1 c2).2.1) rfl)), ⟨ndI hA (And.intro rfl (by subst hA; show R1[(0 + (Int.toNat t5))]? = some [(AV.int .i64 (cIS R1 (0 + (Int.toNat t5)) 0))]; (try simp only [rappS_end, Nat.zero_add, Int.toNat_natCast]); exact (k1.1 c2).2.2.1)), ⟨ndI hA (And.intro (by subst hA; exact (k1.1 c2).2.2.2.1) (And.intro (by subst hA; exact (k1.1 c2).2.2.2.2.1) rfl)), ⟨ndI hA (And.intro rfl (by subst hA; show R1[(0 + (Int.toNat (IntKind.wrap .i64 (t5 + (1 : Int)))))]? = some [(AV.int .i64 (cIS R1 (0 + (Int.toNat (IntKind.wrap .i64 (t5 + (1 : Int))))) 0))]; (try simp only [rappS_end, Nat.zero_add, Int.toNat_natCast]); exact (k1.1 c2).2.2.2.2.2.1)), ⟨⟨ndI hA (And.intro rfl (And.intro rfl rfl)), ⟨ndI hA (by subst hA; exact hp.1), ?_⟩⟩, trivial⟩⟩⟩⟩⟩, imI hA fun e2 => have c2 : y1_0 ≤ (0 : Int) := (by have q := (cmpE (op := .gtr) hA e2); subst hA; exact q); ⟨ndI hA (And.intro rfl (And.intro rfl rfl)), ⟨ndI hA (And.intro rfl (And.intro rfl rfl)), ⟨ndI hA (by subst hA; exact hp.1), ⟨ndI hA (by subst hA; exact hp.2.1), (by subst hA; exact (k1.2 c2))⟩⟩⟩⟩⟩
        · refine W.callD (by rfl) (k1.1 c2).2.2.2.2.2.2 (by subst hA; show [R0] = [R0]; (try simp only [rappS_end, Nat.zero_add, Int.toNat_natCast])) (by subst hA; show [(Lf.i (cIS R1 (0 + (Int.toNat t5)) 0)), (Lf.i (cIS R1 (0 + (Int.toNat (IntKind.wrap .i64 (t5 + (1 : Int))))) 0))] = [(Lf.i (cIS R1 (Int.toNat t5) 0)), (Lf.i (cIS R1 (Int.toNat (IntKind.wrap .i64 (t5 + (1 : Int)))) 0))]; (try simp only [rappS_end, Nat.zero_add, Int.toNat_natCast])) ?_
          rintro x rs vs hp3 hq3
          rcases hq3 with ⟨rfl, Y3_0, Y3_1, rfl, rfl, k3⟩
          · cbv
            refine ?_
            · refine W.draw 80 (by rfl) ?_
              cbv
              refine ⟨ndI hA (And.intro rfl (And.intro rfl rfl)), ⟨ndI hA (And.intro rfl (And.intro rfl rfl)), ⟨ndI hA (by subst hA; exact hp3.2.1), ⟨ndI hA (by subst hA; exact hp.2.1), (by subst hA; exact k3)⟩⟩⟩⟩

end
set_option maxHeartbeats 0 in
/-- To enter. -/
theorem E27 {Q : Nat → Rs → List Lf → Prop} {a0 : List (List AV)} (h : ∀ EV : Nat → Rs → List Lf → Prop, V27 EV Q →
    EC Try.prog G33 [] [(Lf.r a0)] (fun x rs vs => (x = 0 ∧ ∃ (Y0_0 : List (List AV)), rs = [Y0_0] ∧ vs = [] ∧
      (EV 11 [[], Y0_0] [(Lf.r a0), (Lf.i (0 : Int))])))) :
    EC Try.prog G27 [] [.r a0] Q := by
  obtain ⟨A, hA⟩ : ∃ A, A = arS := ⟨_, rfl⟩
  refine Inst.enter (I := I27) hA mixed F27_at sg L27 80 rfl fun CE CK Dn EV RR W hp => ?_
  have h := h  EV (V27.of W)
  cbv
  refine ?_
  · refine W.call 80 (by rfl) h (by subst hA; rfl) (by subst hA; rfl) ?_
    rintro x rs vs hp0 hq0
    rcases hq0 with ⟨rfl, Y0_0, rfl, rfl, k0⟩
    · cbv
      refine ⟨ndI hA (And.intro (by subst hA; show 0 = 0; (first | rfl | simp [rappS_end] | (simp only [rappS_end, List.length_append, List.length_set, List.length_cons, List.length_nil]; omega))) (And.intro rfl (by subst hA; show 0 = 0; (first | rfl | simp [rappS_end] | (simp only [rappS_end, List.length_append, List.length_set, List.length_cons, List.length_nil]; omega))))), ⟨ndI hA (And.intro rfl (And.intro rfl rfl)), ⟨ndI hA (by subst hA; exact vpur), ⟨ndI hA (by subst hA; exact hp0.1), (by subst hA; exact k0)⟩⟩⟩⟩

-- 25: signalbox/signalboxlaw50.same DRAWN
section
structure V25 (EV Q : Nat → Rs → List Lf → Prop) : Prop where
  p17 : ∀ {R0 : List (List AV)} {t1 : List (List AV)} {t15 : Int} {t16 : Int}, (pursS R0 = true → 
    (t16 < t15 →
      ((0 : Int) ≤ t16) ∧
      (t16 < (((List.length R0) : Nat) : Int)) ∧
      (R0[(Int.toNat t16)]? = some [(AV.int .i64 (cIS R0 (Int.toNat t16) 0)), (AV.int .i64 (cIS R0 (Int.toNat t16) 1))]) ∧
      (t1[(Int.toNat t16)]? = some [(AV.int .i64 (cIS t1 (Int.toNat t16) 0)), (AV.int .i64 (cIS t1 (Int.toNat t16) 1))]) ∧
      ((((cIS R0 (Int.toNat t16) 0) == (cIS t1 (Int.toNat t16) 0)) && (((cIS R0 (Int.toNat t16) 1) == (cIS t1 (Int.toNat t16) 1)) && true)) = false →
        Q 0 [] [(Lf.b false)]) ∧
      ((((cIS R0 (Int.toNat t16) 0) == (cIS t1 (Int.toNat t16) 0)) && (((cIS R0 (Int.toNat t16) 1) == (cIS t1 (Int.toNat t16) 1)) && true)) = true →
        EV 17 [R0] [(Lf.r t1), (Lf.i t15), (Lf.i (IntKind.wrap .i64 (t16 + (1 : Int))))])) ∧
    (t16 ≥ t15 →
      Q 0 [] [(Lf.b true)])) →
    EV 17 [R0] [.r t1, .i t15, .i t16]

set_option maxHeartbeats 0 in
theorem V25.of {Q : Nat → Rs → List Lf → Prop} {A : Ar} {CE : Nat → Rs → List Lf → (Nat → Rs → List Lf → Prop) → Prop} {CK : Nat → Rs → List Lf → Cont → Prop} {Dn : Nat → List Bool → List AItem → Nat → List Bool → List AV → List ABlk → Prop} {EV RR : Nat → Rs → List Lf → Prop} (W : Wk Try.prog Try.f25 I25 L25 Q A sg CE CK Dn EV RR) : V25 EV Q := by
  have hA := W.hA
  refine ⟨?_⟩
  · intro R0 t1 t15 t16 h
    refine W.step 80 fun hp => ?_
    have h := h hp.1
    cbv
    refine ⟨imI hA fun e0 => have c0 : t16 < t15 := (by have q := (cmpE (op := .lss) hA e0); subst hA; exact q); ⟨ndI hA (And.intro (by subst hA; exact (h.1 c0).1) (And.intro (by subst hA; exact (h.1 c0).2.1) rfl)), ⟨ndI hA (And.intro rfl (by subst hA; show R0[(0 + (Int.toNat t16))]? = some [(AV.int .i64 (cIS R0 (0 + (Int.toNat t16)) 0)), (AV.int .i64 (cIS R0 (0 + (Int.toNat t16)) 1))]; (try simp only [rappS_end, Nat.zero_add, Int.toNat_natCast]); exact (h.1 c0).2.2.1)), ⟨ndI hA (And.intro (by subst hA; exact (h.1 c0).1) (by subst hA; exact (h.1 c0).2.2.2.1)), ⟨imI hA fun e1 => have c1 : (((cIS R0 (Int.toNat t16) 0) == (cIS t1 (Int.toNat t16) 0)) && (((cIS R0 (Int.toNat t16) 1) == (cIS t1 (Int.toNat t16) 1)) && true)) = false := (by have q := (notE hA e1); subst hA; have q : (((cIS R0 (0 + (Int.toNat t16)) 0) == (cIS t1 (Int.toNat t16) 0)) && (((cIS R0 (0 + (Int.toNat t16)) 1) == (cIS t1 (Int.toNat t16) 1)) && true)) = false := q; simpa only [rappS_end, Nat.zero_add, Int.toNat_natCast] using q); (by rw [W.rr]; exact (by subst hA; exact ((h.1 c0).2.2.2.2.1 c1))), imI hA fun e1 => have c1 : (((cIS R0 (Int.toNat t16) 0) == (cIS t1 (Int.toNat t16) 0)) && (((cIS R0 (Int.toNat t16) 1) == (cIS t1 (Int.toNat t16) 1)) && true)) = true := (by have q := (notE hA e1); subst hA; have q : (((cIS R0 (0 + (Int.toNat t16)) 0) == (cIS t1 (Int.toNat t16) 0)) && (((cIS R0 (0 + (Int.toNat t16)) 1) == (cIS t1 (Int.toNat t16) 1)) && true)) = true := q; simpa only [rappS_end, Nat.zero_add, Int.toNat_natCast] using q); ⟨ndI hA (And.intro rfl (And.intro rfl rfl)), ⟨ndI hA (by subst hA; exact hp.1), (by subst hA; exact ((h.1 c0).2.2.2.2.2 c1))⟩⟩⟩⟩⟩⟩, imI hA fun e0 => have c0 : t16 ≥ t15 := (by have q := (cmpE (op := .lss) hA e0); subst hA; exact q); (by rw [W.rr]; exact (by subst hA; exact (h.2 c0)))⟩

end
set_option maxHeartbeats 0 in
/-- To enter. -/
theorem E25 {Q : Nat → Rs → List Lf → Prop} {a0 : List (List AV)} {a1 : List (List AV)} (h : ∀ EV : Nat → Rs → List Lf → Prop, V25 EV Q →
    EC Try.prog G28 [] [(Lf.r a0)] (fun x rs vs => (x = 0 ∧ ∃ (Y0_0 : List (List AV)), rs = [Y0_0] ∧ vs = [] ∧
      (((((List.length Y0_0) : Nat) : Int) ≠ (((List.length a1) : Nat) : Int) →
          Q 0 [] [(Lf.b false)]) ∧
        ((((List.length Y0_0) : Nat) : Int) = (((List.length a1) : Nat) : Int) →
          EV 17 [Y0_0] [(Lf.r a1), (Lf.i (((List.length Y0_0) : Nat) : Int)), (Lf.i (0 : Int))]))))) :
    EC Try.prog G25 [] [.r a0, .r a1] Q := by
  obtain ⟨A, hA⟩ : ∃ A, A = arS := ⟨_, rfl⟩
  refine Inst.enter (I := I25) hA mixed F25_at sg L25 80 rfl fun CE CK Dn EV RR W hp => ?_
  have h := h  EV (V25.of W)
  cbv
  refine ?_
  · refine W.call 80 (by rfl) h (by subst hA; rfl) (by subst hA; rfl) ?_
    rintro x rs vs hp0 hq0
    rcases hq0 with ⟨rfl, Y0_0, rfl, rfl, k0⟩
    · cbv
      refine ⟨ndI hA rfl, ⟨imI hA fun e1 => have c1 : (((List.length Y0_0) : Nat) : Int) ≠ (((List.length a1) : Nat) : Int) := (by have q := (cmpE (op := .neq) hA e1); subst hA; exact q); (by rw [W.rr]; exact (by subst hA; exact (k0.1 c1))), imI hA fun e1 => have c1 : (((List.length Y0_0) : Nat) : Int) = (((List.length a1) : Nat) : Int) := (by have q := (cmpE (op := .neq) hA e1); subst hA; exact q); ⟨ndI hA rfl, ⟨ndI hA (And.intro rfl (And.intro rfl rfl)), ⟨ndI hA (by subst hA; exact hp0.1), (by subst hA; exact (k0.2 c1))⟩⟩⟩⟩⟩

-- 33a: signalbox/signalboxref50.Edges DRAWN
section
structure V33a (EV Q : Nat → Rs → List Lf → Prop) : Prop where
  p9 : ∀ {R0 : List (List AV)} {R1 : List (List AV)} {t10 : Int} {t11 : Int}, (pursS R0 = true → pursS R1 = true → 
    (t11 < t10 →
      ((0 : Int) ≤ t11) ∧
      (t11 < (((List.length R0) : Nat) : Int)) ∧
      (R0[(Int.toNat t11)]? = some [(AV.int .i64 (cIS R0 (Int.toNat t11) 0)), (AV.int .i64 (cIS R0 (Int.toNat t11) 1))]) ∧
      (EC Try.prog G52 [] [(Lf.i (cIS R0 (Int.toNat t11) 0))] (fun x rs vs => (x = 0 ∧ ∃ (y1_0 : Int), rs = [] ∧ vs = [.i y1_0] ∧
        (EC Try.prog G52 [] [(Lf.i (cIS R0 (Int.toNat t11) 1))] (fun x rs vs => (x = 0 ∧ ∃ (y2_0 : Int), rs = [] ∧ vs = [.i y2_0] ∧
            (EV 21 [R0, R1] [(Lf.i t10), (Lf.i t11), (Lf.r [[(AV.int .i64 y1_0)], [(AV.int .i64 y2_0)]]), (Lf.i ((2 : Nat) : Int)), (Lf.i (0 : Int))])))))))) ∧
    (t11 ≥ t10 →
      Q 0 [R0, R1] [])) →
    EV 9 [R0, R1] [.i t10, .i t11]
  p21 : ∀ {R0 : List (List AV)} {R1 : List (List AV)} {t10 : Int} {t11 : Int} {t21 : List (List AV)} {t22 : Int} {t23 : Int}, (pursS R0 = true → pursS R1 = true → 
    EV 23 [R0, R1] [(Lf.i t10), (Lf.i t11), (Lf.r t21), (Lf.i t22), (Lf.i t23)]) →
    EV 21 [R0, R1] [.i t10, .i t11, .r t21, .i t22, .i t23]
  p23 : ∀ {R0 : List (List AV)} {R1 : List (List AV)} {t10 : Int} {t11 : Int} {t21 : List (List AV)} {t22 : Int} {t23 : Int}, (pursS R0 = true → pursS R1 = true → 
    (t23 < t22 →
      ((0 : Int) ≤ t23) ∧
      (t21[(Int.toNat t23)]? = some [(AV.int .i64 (cIS t21 (Int.toNat t23) 0))]) ∧
      (EV 38 [R0, R1] [(Lf.i (cIS t21 (Int.toNat t23) 0)), (Lf.i (0 : Int)), (Lf.i t10), (Lf.i t11), (Lf.r t21), (Lf.i t22), (Lf.i t23)])) ∧
    (t23 ≥ t22 →
      EV 9 [R0, R1] [(Lf.i t10), (Lf.i (IntKind.wrap .i64 (t11 + (1 : Int))))])) →
    EV 23 [R0, R1] [.i t10, .i t11, .r t21, .i t22, .i t23]
  p38 : ∀ {R0 : List (List AV)} {R1 : List (List AV)} {t7 : Int} {t8 : Int} {t10 : Int} {t11 : Int} {t21 : List (List AV)} {t22 : Int} {t23 : Int}, (pursS R0 = true → pursS R1 = true → 
    (t8 < (((List.length R1) : Nat) : Int) →
      ((0 : Int) ≤ t8) ∧
      (t8 < (((List.length R1) : Nat) : Int)) ∧
      (R1[(Int.toNat t8)]? = some [(AV.int .i64 (cIS R1 (Int.toNat t8) 0))]) ∧
      ((cIS R1 (Int.toNat t8) 0) < t7 →
        EV 38 [R0, R1] [(Lf.i t7), (Lf.i (IntKind.wrap .i64 (t8 + (1 : Int)))), (Lf.i t10), (Lf.i t11), (Lf.r t21), (Lf.i t22), (Lf.i t23)]) ∧
      ((cIS R1 (Int.toNat t8) 0) ≥ t7 →
        (t8 ≠ (((List.length R1) : Nat) : Int) →
          ((0 : Int) ≤ t8) ∧
          (t8 < (((List.length R1) : Nat) : Int)) ∧
          (R1[(Int.toNat t8)]? = some [(AV.int .i64 (cIS R1 (Int.toNat t8) 0))]) ∧
          ((cIS R1 (Int.toNat t8) 0) ≠ t7 →
            ((0 : Int) ≤ t8) ∧
            (t8 ≤ (((List.length R1) : Nat) : Int)) ∧
            ((Int.toNat t8) ≤ (List.length R1)) ∧
            ((List.length (List.take (Int.toNat t8) (List.drop 0 R1))) ≤ 140737488355328) ∧
            (((List.length (List.take (Int.toNat t8) (List.drop 0 R1))) * 8) ≤ 140737488355328) ∧
            (((List.length (List.take (Int.toNat t8) (List.drop 0 R1))) + 1) ≤ 140737488355328) ∧
            ((((List.length (List.take (Int.toNat t8) (List.drop 0 R1))) + 1) * 8) ≤ 140737488355328) ∧
            (((Int.toNat t8) + ((List.length R1) - (Int.toNat t8))) ≤ (List.length R1)) ∧
            (((List.length (List.take (Int.toNat t8) (List.drop 0 R1))) + 1) ≤ (List.length ((List.take (Int.toNat t8) (List.drop 0 R1)) ++ [[(AV.int .i64 t7)]]))) ∧
            ((((List.length (List.take (Int.toNat t8) (List.drop 0 R1))) + 1) + (List.length (List.take ((List.length R1) - (Int.toNat t8)) (List.drop (Int.toNat t8) R1)))) ≤ 140737488355328) ∧
            (((((List.length (List.take (Int.toNat t8) (List.drop 0 R1))) + 1) + (List.length (List.take ((List.length R1) - (Int.toNat t8)) (List.drop (Int.toNat t8) R1)))) * 8) ≤ 140737488355328) ∧
            ((((List.length (List.take (Int.toNat t8) (List.drop 0 R1))) + 1) + (List.length (List.take ((List.length R1) - (Int.toNat t8)) (List.drop (Int.toNat t8) R1)))) = (List.length (rappS ((List.take (Int.toNat t8) (List.drop 0 R1)) ++ [[(AV.int .i64 t7)]]) ((List.length (List.take (Int.toNat t8) (List.drop 0 R1))) + 1) (List.take ((List.length R1) - (Int.toNat t8)) (List.drop (Int.toNat t8) R1))))) ∧
            (EV 23 [R0, (rappS ((List.take (Int.toNat t8) (List.drop 0 R1)) ++ [[(AV.int .i64 t7)]]) ((List.length (List.take (Int.toNat t8) (List.drop 0 R1))) + 1) (List.take ((List.length R1) - (Int.toNat t8)) (List.drop (Int.toNat t8) R1)))] [(Lf.i t10), (Lf.i t11), (Lf.r t21), (Lf.i t22), (Lf.i (IntKind.wrap .i64 (t23 + (1 : Int))))])) ∧
          ((cIS R1 (Int.toNat t8) 0) = t7 →
            EV 23 [R0, R1] [(Lf.i t10), (Lf.i t11), (Lf.r t21), (Lf.i t22), (Lf.i (IntKind.wrap .i64 (t23 + (1 : Int))))])) ∧
        (t8 = (((List.length R1) : Nat) : Int) →
          ((0 : Int) ≤ t8) ∧
          (t8 ≤ (((List.length R1) : Nat) : Int)) ∧
          ((Int.toNat t8) ≤ (List.length R1)) ∧
          ((List.length (List.take (Int.toNat t8) (List.drop 0 R1))) ≤ 140737488355328) ∧
          (((List.length (List.take (Int.toNat t8) (List.drop 0 R1))) * 8) ≤ 140737488355328) ∧
          (((List.length (List.take (Int.toNat t8) (List.drop 0 R1))) + 1) ≤ 140737488355328) ∧
          ((((List.length (List.take (Int.toNat t8) (List.drop 0 R1))) + 1) * 8) ≤ 140737488355328) ∧
          (((Int.toNat t8) + ((List.length R1) - (Int.toNat t8))) ≤ (List.length R1)) ∧
          (((List.length (List.take (Int.toNat t8) (List.drop 0 R1))) + 1) ≤ (List.length ((List.take (Int.toNat t8) (List.drop 0 R1)) ++ [[(AV.int .i64 t7)]]))) ∧
          ((((List.length (List.take (Int.toNat t8) (List.drop 0 R1))) + 1) + (List.length (List.take ((List.length R1) - (Int.toNat t8)) (List.drop (Int.toNat t8) R1)))) ≤ 140737488355328) ∧
          (((((List.length (List.take (Int.toNat t8) (List.drop 0 R1))) + 1) + (List.length (List.take ((List.length R1) - (Int.toNat t8)) (List.drop (Int.toNat t8) R1)))) * 8) ≤ 140737488355328) ∧
          ((((List.length (List.take (Int.toNat t8) (List.drop 0 R1))) + 1) + (List.length (List.take ((List.length R1) - (Int.toNat t8)) (List.drop (Int.toNat t8) R1)))) = (List.length (rappS ((List.take (Int.toNat t8) (List.drop 0 R1)) ++ [[(AV.int .i64 t7)]]) ((List.length (List.take (Int.toNat t8) (List.drop 0 R1))) + 1) (List.take ((List.length R1) - (Int.toNat t8)) (List.drop (Int.toNat t8) R1))))) ∧
          (EV 23 [R0, (rappS ((List.take (Int.toNat t8) (List.drop 0 R1)) ++ [[(AV.int .i64 t7)]]) ((List.length (List.take (Int.toNat t8) (List.drop 0 R1))) + 1) (List.take ((List.length R1) - (Int.toNat t8)) (List.drop (Int.toNat t8) R1)))] [(Lf.i t10), (Lf.i t11), (Lf.r t21), (Lf.i t22), (Lf.i (IntKind.wrap .i64 (t23 + (1 : Int))))])))) ∧
    (t8 ≥ (((List.length R1) : Nat) : Int) →
      (t8 ≠ (((List.length R1) : Nat) : Int) →
        ((0 : Int) ≤ t8) ∧
        (t8 < (((List.length R1) : Nat) : Int)) ∧
        (R1[(Int.toNat t8)]? = some [(AV.int .i64 (cIS R1 (Int.toNat t8) 0))]) ∧
        ((cIS R1 (Int.toNat t8) 0) ≠ t7 →
          ((0 : Int) ≤ t8) ∧
          (t8 ≤ (((List.length R1) : Nat) : Int)) ∧
          ((Int.toNat t8) ≤ (List.length R1)) ∧
          ((List.length (List.take (Int.toNat t8) (List.drop 0 R1))) ≤ 140737488355328) ∧
          (((List.length (List.take (Int.toNat t8) (List.drop 0 R1))) * 8) ≤ 140737488355328) ∧
          (((List.length (List.take (Int.toNat t8) (List.drop 0 R1))) + 1) ≤ 140737488355328) ∧
          ((((List.length (List.take (Int.toNat t8) (List.drop 0 R1))) + 1) * 8) ≤ 140737488355328) ∧
          (((Int.toNat t8) + ((List.length R1) - (Int.toNat t8))) ≤ (List.length R1)) ∧
          (((List.length (List.take (Int.toNat t8) (List.drop 0 R1))) + 1) ≤ (List.length ((List.take (Int.toNat t8) (List.drop 0 R1)) ++ [[(AV.int .i64 t7)]]))) ∧
          ((((List.length (List.take (Int.toNat t8) (List.drop 0 R1))) + 1) + (List.length (List.take ((List.length R1) - (Int.toNat t8)) (List.drop (Int.toNat t8) R1)))) ≤ 140737488355328) ∧
          (((((List.length (List.take (Int.toNat t8) (List.drop 0 R1))) + 1) + (List.length (List.take ((List.length R1) - (Int.toNat t8)) (List.drop (Int.toNat t8) R1)))) * 8) ≤ 140737488355328) ∧
          ((((List.length (List.take (Int.toNat t8) (List.drop 0 R1))) + 1) + (List.length (List.take ((List.length R1) - (Int.toNat t8)) (List.drop (Int.toNat t8) R1)))) = (List.length (rappS ((List.take (Int.toNat t8) (List.drop 0 R1)) ++ [[(AV.int .i64 t7)]]) ((List.length (List.take (Int.toNat t8) (List.drop 0 R1))) + 1) (List.take ((List.length R1) - (Int.toNat t8)) (List.drop (Int.toNat t8) R1))))) ∧
          (EV 23 [R0, (rappS ((List.take (Int.toNat t8) (List.drop 0 R1)) ++ [[(AV.int .i64 t7)]]) ((List.length (List.take (Int.toNat t8) (List.drop 0 R1))) + 1) (List.take ((List.length R1) - (Int.toNat t8)) (List.drop (Int.toNat t8) R1)))] [(Lf.i t10), (Lf.i t11), (Lf.r t21), (Lf.i t22), (Lf.i (IntKind.wrap .i64 (t23 + (1 : Int))))])) ∧
        ((cIS R1 (Int.toNat t8) 0) = t7 →
          EV 23 [R0, R1] [(Lf.i t10), (Lf.i t11), (Lf.r t21), (Lf.i t22), (Lf.i (IntKind.wrap .i64 (t23 + (1 : Int))))])) ∧
      (t8 = (((List.length R1) : Nat) : Int) →
        ((0 : Int) ≤ t8) ∧
        (t8 ≤ (((List.length R1) : Nat) : Int)) ∧
        ((Int.toNat t8) ≤ (List.length R1)) ∧
        ((List.length (List.take (Int.toNat t8) (List.drop 0 R1))) ≤ 140737488355328) ∧
        (((List.length (List.take (Int.toNat t8) (List.drop 0 R1))) * 8) ≤ 140737488355328) ∧
        (((List.length (List.take (Int.toNat t8) (List.drop 0 R1))) + 1) ≤ 140737488355328) ∧
        ((((List.length (List.take (Int.toNat t8) (List.drop 0 R1))) + 1) * 8) ≤ 140737488355328) ∧
        (((Int.toNat t8) + ((List.length R1) - (Int.toNat t8))) ≤ (List.length R1)) ∧
        (((List.length (List.take (Int.toNat t8) (List.drop 0 R1))) + 1) ≤ (List.length ((List.take (Int.toNat t8) (List.drop 0 R1)) ++ [[(AV.int .i64 t7)]]))) ∧
        ((((List.length (List.take (Int.toNat t8) (List.drop 0 R1))) + 1) + (List.length (List.take ((List.length R1) - (Int.toNat t8)) (List.drop (Int.toNat t8) R1)))) ≤ 140737488355328) ∧
        (((((List.length (List.take (Int.toNat t8) (List.drop 0 R1))) + 1) + (List.length (List.take ((List.length R1) - (Int.toNat t8)) (List.drop (Int.toNat t8) R1)))) * 8) ≤ 140737488355328) ∧
        ((((List.length (List.take (Int.toNat t8) (List.drop 0 R1))) + 1) + (List.length (List.take ((List.length R1) - (Int.toNat t8)) (List.drop (Int.toNat t8) R1)))) = (List.length (rappS ((List.take (Int.toNat t8) (List.drop 0 R1)) ++ [[(AV.int .i64 t7)]]) ((List.length (List.take (Int.toNat t8) (List.drop 0 R1))) + 1) (List.take ((List.length R1) - (Int.toNat t8)) (List.drop (Int.toNat t8) R1))))) ∧
        (EV 23 [R0, (rappS ((List.take (Int.toNat t8) (List.drop 0 R1)) ++ [[(AV.int .i64 t7)]]) ((List.length (List.take (Int.toNat t8) (List.drop 0 R1))) + 1) (List.take ((List.length R1) - (Int.toNat t8)) (List.drop (Int.toNat t8) R1)))] [(Lf.i t10), (Lf.i t11), (Lf.r t21), (Lf.i t22), (Lf.i (IntKind.wrap .i64 (t23 + (1 : Int))))])))) →
    EV 38 [R0, R1] [.i t7, .i t8, .i t10, .i t11, .r t21, .i t22, .i t23]

set_option maxHeartbeats 0 in
theorem V33a.of {Q : Nat → Rs → List Lf → Prop} {A : Ar} {CE : Nat → Rs → List Lf → (Nat → Rs → List Lf → Prop) → Prop} {CK : Nat → Rs → List Lf → Cont → Prop} {Dn : Nat → List Bool → List AItem → Nat → List Bool → List AV → List ABlk → Prop} {EV RR : Nat → Rs → List Lf → Prop} (W : Wk Try.prog Try.f33 I33a L33a Q A sg CE CK Dn EV RR) : V33a EV Q := by
  have hA := W.hA
  refine ⟨?_, ?_, ?_, ?_⟩
  · intro R0 R1 t10 t11 h
    refine W.step 80 fun hp => ?_
    have h := h hp.1 hp.2.1
    cbv
    refine ⟨imI hA fun e0 => have c0 : t11 < t10 := (by have q := (cmpE (op := .lss) hA e0); subst hA; exact q); ⟨ndI hA (And.intro (by subst hA; exact (h.1 c0).1) (And.intro (by subst hA; exact (h.1 c0).2.1) rfl)), ⟨ndI hA (And.intro rfl (by subst hA; show R0[(0 + (Int.toNat t11))]? = some [(AV.int .i64 (cIS R0 (0 + (Int.toNat t11)) 0)), (AV.int .i64 (cIS R0 (0 + (Int.toNat t11)) 1))]; (try simp only [rappS_end, Nat.zero_add, Int.toNat_natCast]); exact (h.1 c0).2.2.1)), ⟨?_, trivial⟩⟩⟩, imI hA fun e0 => have c0 : t11 ≥ t10 := (by have q := (cmpE (op := .lss) hA e0); subst hA; exact q); ⟨ndI hA (And.intro rfl (And.intro rfl rfl)), ⟨ndI hA (by subst hA; exact hp.1), ⟨ndI hA (by subst hA; exact hp.2.1), (by rw [W.rr]; exact (by subst hA; exact (h.2 c0)))⟩⟩⟩⟩
    · refine W.callD (by rfl) (h.1 c0).2.2.2 (by subst hA; show [] = []; (try simp only [rappS_end, Nat.zero_add, Int.toNat_natCast])) (by subst hA; show [(Lf.i (cIS R0 (0 + (Int.toNat t11)) 0))] = [(Lf.i (cIS R0 (Int.toNat t11) 0))]; (try simp only [rappS_end, Nat.zero_add, Int.toNat_natCast])) ?_
      rintro x rs vs hp1 hq1
      rcases hq1 with ⟨rfl, y1_0, rfl, rfl, k1⟩
      · cbv
        refine ?_
        · refine W.draw 80 (by rfl) ?_
          cbv
          refine ⟨?_, trivial⟩
          · refine W.callD (by rfl) k1 (by subst hA; show [] = []; (try simp only [rappS_end, Nat.zero_add, Int.toNat_natCast])) (by subst hA; show [(Lf.i (cIS R0 (0 + (Int.toNat t11)) 1))] = [(Lf.i (cIS R0 (Int.toNat t11) 1))]; (try simp only [rappS_end, Nat.zero_add, Int.toNat_natCast])) ?_
            rintro x rs vs hp2 hq2
            rcases hq2 with ⟨rfl, y2_0, rfl, rfl, k2⟩
            · cbv
              refine ?_
              · refine W.draw 80 (by rfl) ?_
                cbv
                refine ⟨⟨ndI hA (And.intro rfl (And.intro rfl rfl)), ⟨ndI hA (And.intro rfl (And.intro rfl rfl)), ⟨ndI hA (by subst hA; exact hp.1), ⟨ndI hA (by subst hA; exact hp.2.1), (by subst hA; exact k2)⟩⟩⟩⟩, trivial⟩
  · intro R0 R1 t10 t11 t21 t22 t23 h
    refine W.step 80 fun hp => ?_
    have h := h hp.1 hp.2.1
    cbv
    refine ⟨ndI hA (And.intro rfl (And.intro rfl rfl)), ⟨ndI hA (And.intro rfl (And.intro rfl rfl)), ⟨ndI hA (by subst hA; exact hp.1), ⟨ndI hA (by subst hA; exact hp.2.1), (by subst hA; exact h)⟩⟩⟩⟩
  · intro R0 R1 t10 t11 t21 t22 t23 h
    refine W.step 80 fun hp => ?_
    have h := h hp.1 hp.2.1
    cbv
    refine ⟨imI hA fun e0 => have c0 : t23 < t22 := (by have q := (cmpE (op := .lss) hA e0); subst hA; exact q); ⟨ndI hA (And.intro (by subst hA; exact (h.1 c0).1) (by subst hA; exact (h.1 c0).2.1)), ⟨ndI hA (And.intro rfl (And.intro rfl rfl)), ⟨ndI hA (And.intro rfl (And.intro rfl rfl)), ⟨ndI hA (by subst hA; exact hp.1), ⟨ndI hA (by subst hA; exact hp.2.1), (by subst hA; exact (h.1 c0).2.2)⟩⟩⟩⟩⟩, imI hA fun e0 => have c0 : t23 ≥ t22 := (by have q := (cmpE (op := .lss) hA e0); subst hA; exact q); ⟨ndI hA (And.intro rfl (And.intro rfl rfl)), ⟨ndI hA (And.intro rfl (And.intro rfl rfl)), ⟨ndI hA (by subst hA; exact hp.1), ⟨ndI hA (by subst hA; exact hp.2.1), (by subst hA; exact (h.2 c0))⟩⟩⟩⟩⟩
  · intro R0 R1 t7 t8 t10 t11 t21 t22 t23 h
    refine W.step 80 fun hp => ?_
    have h := h hp.1 hp.2.1
    cbv
    refine ⟨ndI hA rfl, ⟨imI hA fun e0 => have c0 : t8 < (((List.length R1) : Nat) : Int) := (by have q := (cmpE (op := .lss) hA e0); subst hA; exact q); ⟨ndI hA (And.intro (by subst hA; exact (h.1 c0).1) (And.intro (by subst hA; exact (h.1 c0).2.1) rfl)), ⟨ndI hA (And.intro rfl (by subst hA; show R1[(0 + (Int.toNat t8))]? = some [(AV.int .i64 (cIS R1 (0 + (Int.toNat t8)) 0))]; (try simp only [rappS_end, Nat.zero_add, Int.toNat_natCast]); exact (h.1 c0).2.2.1)), ⟨imI hA fun e1 => have c1 : (cIS R1 (Int.toNat t8) 0) < t7 := (by have q := (cmpE (op := .lss) hA e1); subst hA; have q : (cIS R1 (0 + (Int.toNat t8)) 0) < t7 := q; simpa only [rappS_end, Nat.zero_add, Int.toNat_natCast] using q); ⟨ndI hA (And.intro rfl (And.intro rfl rfl)), ⟨ndI hA (And.intro rfl (And.intro rfl rfl)), ⟨ndI hA (by subst hA; exact hp.1), ⟨ndI hA (by subst hA; exact hp.2.1), (by subst hA; exact ((h.1 c0).2.2.2.1 c1))⟩⟩⟩⟩, imI hA fun e1 => have c1 : (cIS R1 (Int.toNat t8) 0) ≥ t7 := (by have q := (cmpE (op := .lss) hA e1); subst hA; have q : (cIS R1 (0 + (Int.toNat t8)) 0) ≥ t7 := q; simpa only [rappS_end, Nat.zero_add, Int.toNat_natCast] using q); ⟨ndI hA rfl, ⟨imI hA fun e2 => have c2 : t8 ≠ (((List.length R1) : Nat) : Int) := (by have q := (cmpE (op := .eql) hA e2); subst hA; exact q); ⟨ndI hA (And.intro (by subst hA; exact (((h.1 c0).2.2.2.2 c1).1 c2).1) (And.intro (by subst hA; exact (((h.1 c0).2.2.2.2 c1).1 c2).2.1) rfl)), ⟨ndI hA (And.intro rfl (by subst hA; show R1[(0 + (Int.toNat t8))]? = some [(AV.int .i64 (cIS R1 (0 + (Int.toNat t8)) 0))]; (try simp only [rappS_end, Nat.zero_add, Int.toNat_natCast]); exact (((h.1 c0).2.2.2.2 c1).1 c2).2.2.1)), ⟨imI hA fun e3 => have c3 : (cIS R1 (Int.toNat t8) 0) ≠ t7 := (by have q := (cmpE (op := .neq) hA e3); subst hA; have q : (cIS R1 (0 + (Int.toNat t8)) 0) ≠ t7 := q; simpa only [rappS_end, Nat.zero_add, Int.toNat_natCast] using q); ⟨ndI hA (And.intro (by subst hA; exact ((((h.1 c0).2.2.2.2 c1).1 c2).2.2.2.1 c3).1) (And.intro (by subst hA; exact ((((h.1 c0).2.2.2.2 c1).1 c2).2.2.2.1 c3).2.1) rfl)), ⟨ndI hA (And.intro (by subst hA; exact ((((h.1 c0).2.2.2.2 c1).1 c2).2.2.2.1 c3).1) (And.intro (by subst hA; exact ((((h.1 c0).2.2.2.2 c1).1 c2).2.2.2.1 c3).2.1) rfl)), ⟨⟨⟨ndI hA (And.intro rfl (by subst hA; show (0 + (Int.toNat t8)) ≤ (List.length R1); (try simp only [rappS_end, Nat.zero_add, Int.toNat_natCast]); exact ((((h.1 c0).2.2.2.2 c1).1 c2).2.2.2.1 c3).2.2.1)), ⟨ndI hA (And.intro (by subst hA; exact ((((h.1 c0).2.2.2.2 c1).1 c2).2.2.2.1 c3).2.2.2.1) (by subst hA; exact ((((h.1 c0).2.2.2.2 c1).1 c2).2.2.2.1 c3).2.2.2.2.1)), ?_⟩⟩, ⟨⟨⟨ndI hA (And.intro rfl (by subst hA; show (0 + (Int.toNat t8)) ≤ (List.length R1); (try simp only [rappS_end, Nat.zero_add, Int.toNat_natCast]); exact ((((h.1 c0).2.2.2.2 c1).1 c2).2.2.2.1 c3).2.2.1)), ⟨ndI hA (And.intro (by subst hA; exact ((((h.1 c0).2.2.2.2 c1).1 c2).2.2.2.1 c3).2.2.2.1) (by subst hA; exact ((((h.1 c0).2.2.2.2 c1).1 c2).2.2.2.1 c3).2.2.2.2.1)), ?_⟩⟩, trivial⟩, trivial⟩⟩, ⟨⟨⟨⟨ndI hA (And.intro rfl (by subst hA; show (0 + (Int.toNat t8)) ≤ (List.length R1); (try simp only [rappS_end, Nat.zero_add, Int.toNat_natCast]); exact ((((h.1 c0).2.2.2.2 c1).1 c2).2.2.2.1 c3).2.2.1)), ⟨ndI hA (And.intro (by subst hA; exact ((((h.1 c0).2.2.2.2 c1).1 c2).2.2.2.1 c3).2.2.2.1) (by subst hA; exact ((((h.1 c0).2.2.2.2 c1).1 c2).2.2.2.1 c3).2.2.2.2.1)), ?_⟩⟩, trivial⟩, trivial⟩, trivial⟩⟩⟩⟩, imI hA fun e3 => have c3 : (cIS R1 (Int.toNat t8) 0) = t7 := (by have q := (cmpE (op := .neq) hA e3); subst hA; have q : (cIS R1 (0 + (Int.toNat t8)) 0) = t7 := q; simpa only [rappS_end, Nat.zero_add, Int.toNat_natCast] using q); ⟨ndI hA (And.intro rfl (And.intro rfl rfl)), ⟨ndI hA (And.intro rfl (And.intro rfl rfl)), ⟨ndI hA (by subst hA; exact hp.1), ⟨ndI hA (by subst hA; exact hp.2.1), (by subst hA; exact ((((h.1 c0).2.2.2.2 c1).1 c2).2.2.2.2 c3))⟩⟩⟩⟩⟩⟩⟩, imI hA fun e2 => have c2 : t8 = (((List.length R1) : Nat) : Int) := (by have q := (cmpE (op := .eql) hA e2); subst hA; exact q); ⟨ndI hA (And.intro (by subst hA; exact (((h.1 c0).2.2.2.2 c1).2 c2).1) (And.intro (by subst hA; exact (((h.1 c0).2.2.2.2 c1).2 c2).2.1) rfl)), ⟨ndI hA (And.intro (by subst hA; exact (((h.1 c0).2.2.2.2 c1).2 c2).1) (And.intro (by subst hA; exact (((h.1 c0).2.2.2.2 c1).2 c2).2.1) rfl)), ⟨⟨⟨ndI hA (And.intro rfl (by subst hA; show (0 + (Int.toNat t8)) ≤ (List.length R1); (try simp only [rappS_end, Nat.zero_add, Int.toNat_natCast]); exact (((h.1 c0).2.2.2.2 c1).2 c2).2.2.1)), ⟨ndI hA (And.intro (by subst hA; exact (((h.1 c0).2.2.2.2 c1).2 c2).2.2.2.1) (by subst hA; exact (((h.1 c0).2.2.2.2 c1).2 c2).2.2.2.2.1)), ?_⟩⟩, ⟨⟨⟨ndI hA (And.intro rfl (by subst hA; show (0 + (Int.toNat t8)) ≤ (List.length R1); (try simp only [rappS_end, Nat.zero_add, Int.toNat_natCast]); exact (((h.1 c0).2.2.2.2 c1).2 c2).2.2.1)), ⟨ndI hA (And.intro (by subst hA; exact (((h.1 c0).2.2.2.2 c1).2 c2).2.2.2.1) (by subst hA; exact (((h.1 c0).2.2.2.2 c1).2 c2).2.2.2.2.1)), ?_⟩⟩, trivial⟩, trivial⟩⟩, ⟨⟨⟨⟨ndI hA (And.intro rfl (by subst hA; show (0 + (Int.toNat t8)) ≤ (List.length R1); (try simp only [rappS_end, Nat.zero_add, Int.toNat_natCast]); exact (((h.1 c0).2.2.2.2 c1).2 c2).2.2.1)), ⟨ndI hA (And.intro (by subst hA; exact (((h.1 c0).2.2.2.2 c1).2 c2).2.2.2.1) (by subst hA; exact (((h.1 c0).2.2.2.2 c1).2 c2).2.2.2.2.1)), ?_⟩⟩, trivial⟩, trivial⟩, trivial⟩⟩⟩⟩⟩⟩⟩⟩⟩, imI hA fun e0 => have c0 : t8 ≥ (((List.length R1) : Nat) : Int) := (by have q := (cmpE (op := .lss) hA e0); subst hA; exact q); ⟨ndI hA rfl, ⟨imI hA fun e1 => have c1 : t8 ≠ (((List.length R1) : Nat) : Int) := (by have q := (cmpE (op := .eql) hA e1); subst hA; exact q); ⟨ndI hA (And.intro (by subst hA; exact ((h.2 c0).1 c1).1) (And.intro (by subst hA; exact ((h.2 c0).1 c1).2.1) rfl)), ⟨ndI hA (And.intro rfl (by subst hA; show R1[(0 + (Int.toNat t8))]? = some [(AV.int .i64 (cIS R1 (0 + (Int.toNat t8)) 0))]; (try simp only [rappS_end, Nat.zero_add, Int.toNat_natCast]); exact ((h.2 c0).1 c1).2.2.1)), ⟨imI hA fun e2 => have c2 : (cIS R1 (Int.toNat t8) 0) ≠ t7 := (by have q := (cmpE (op := .neq) hA e2); subst hA; have q : (cIS R1 (0 + (Int.toNat t8)) 0) ≠ t7 := q; simpa only [rappS_end, Nat.zero_add, Int.toNat_natCast] using q); ⟨ndI hA (And.intro (by subst hA; exact (((h.2 c0).1 c1).2.2.2.1 c2).1) (And.intro (by subst hA; exact (((h.2 c0).1 c1).2.2.2.1 c2).2.1) rfl)), ⟨ndI hA (And.intro (by subst hA; exact (((h.2 c0).1 c1).2.2.2.1 c2).1) (And.intro (by subst hA; exact (((h.2 c0).1 c1).2.2.2.1 c2).2.1) rfl)), ⟨⟨⟨ndI hA (And.intro rfl (by subst hA; show (0 + (Int.toNat t8)) ≤ (List.length R1); (try simp only [rappS_end, Nat.zero_add, Int.toNat_natCast]); exact (((h.2 c0).1 c1).2.2.2.1 c2).2.2.1)), ⟨ndI hA (And.intro (by subst hA; exact (((h.2 c0).1 c1).2.2.2.1 c2).2.2.2.1) (by subst hA; exact (((h.2 c0).1 c1).2.2.2.1 c2).2.2.2.2.1)), ?_⟩⟩, ⟨⟨⟨ndI hA (And.intro rfl (by subst hA; show (0 + (Int.toNat t8)) ≤ (List.length R1); (try simp only [rappS_end, Nat.zero_add, Int.toNat_natCast]); exact (((h.2 c0).1 c1).2.2.2.1 c2).2.2.1)), ⟨ndI hA (And.intro (by subst hA; exact (((h.2 c0).1 c1).2.2.2.1 c2).2.2.2.1) (by subst hA; exact (((h.2 c0).1 c1).2.2.2.1 c2).2.2.2.2.1)), ?_⟩⟩, trivial⟩, trivial⟩⟩, ⟨⟨⟨⟨ndI hA (And.intro rfl (by subst hA; show (0 + (Int.toNat t8)) ≤ (List.length R1); (try simp only [rappS_end, Nat.zero_add, Int.toNat_natCast]); exact (((h.2 c0).1 c1).2.2.2.1 c2).2.2.1)), ⟨ndI hA (And.intro (by subst hA; exact (((h.2 c0).1 c1).2.2.2.1 c2).2.2.2.1) (by subst hA; exact (((h.2 c0).1 c1).2.2.2.1 c2).2.2.2.2.1)), ?_⟩⟩, trivial⟩, trivial⟩, trivial⟩⟩⟩⟩, imI hA fun e2 => have c2 : (cIS R1 (Int.toNat t8) 0) = t7 := (by have q := (cmpE (op := .neq) hA e2); subst hA; have q : (cIS R1 (0 + (Int.toNat t8)) 0) = t7 := q; simpa only [rappS_end, Nat.zero_add, Int.toNat_natCast] using q); ⟨ndI hA (And.intro rfl (And.intro rfl rfl)), ⟨ndI hA (And.intro rfl (And.intro rfl rfl)), ⟨ndI hA (by subst hA; exact hp.1), ⟨ndI hA (by subst hA; exact hp.2.1), (by subst hA; exact (((h.2 c0).1 c1).2.2.2.2 c2))⟩⟩⟩⟩⟩⟩⟩, imI hA fun e1 => have c1 : t8 = (((List.length R1) : Nat) : Int) := (by have q := (cmpE (op := .eql) hA e1); subst hA; exact q); ⟨ndI hA (And.intro (by subst hA; exact ((h.2 c0).2 c1).1) (And.intro (by subst hA; exact ((h.2 c0).2 c1).2.1) rfl)), ⟨ndI hA (And.intro (by subst hA; exact ((h.2 c0).2 c1).1) (And.intro (by subst hA; exact ((h.2 c0).2 c1).2.1) rfl)), ⟨⟨⟨ndI hA (And.intro rfl (by subst hA; show (0 + (Int.toNat t8)) ≤ (List.length R1); (try simp only [rappS_end, Nat.zero_add, Int.toNat_natCast]); exact ((h.2 c0).2 c1).2.2.1)), ⟨ndI hA (And.intro (by subst hA; exact ((h.2 c0).2 c1).2.2.2.1) (by subst hA; exact ((h.2 c0).2 c1).2.2.2.2.1)), ?_⟩⟩, ⟨⟨⟨ndI hA (And.intro rfl (by subst hA; show (0 + (Int.toNat t8)) ≤ (List.length R1); (try simp only [rappS_end, Nat.zero_add, Int.toNat_natCast]); exact ((h.2 c0).2 c1).2.2.1)), ⟨ndI hA (And.intro (by subst hA; exact ((h.2 c0).2 c1).2.2.2.1) (by subst hA; exact ((h.2 c0).2 c1).2.2.2.2.1)), ?_⟩⟩, trivial⟩, trivial⟩⟩, ⟨⟨⟨⟨ndI hA (And.intro rfl (by subst hA; show (0 + (Int.toNat t8)) ≤ (List.length R1); (try simp only [rappS_end, Nat.zero_add, Int.toNat_natCast]); exact ((h.2 c0).2 c1).2.2.1)), ⟨ndI hA (And.intro (by subst hA; exact ((h.2 c0).2 c1).2.2.2.1) (by subst hA; exact ((h.2 c0).2 c1).2.2.2.2.1)), ?_⟩⟩, trivial⟩, trivial⟩, trivial⟩⟩⟩⟩⟩⟩⟩⟩
    · refine W.draw 80 (by rfl) ?_
      cbv
      refine ⟨⟨⟨ndI hA (And.intro rfl (And.intro (Nat.le_refl _) (And.intro (by subst hA; exact ((((h.1 c0).2.2.2.2 c1).1 c2).2.2.2.1 c3).2.2.2.2.2.1) (by subst hA; exact ((((h.1 c0).2.2.2.2 c1).1 c2).2.2.2.1 c3).2.2.2.2.2.2.1)))), ⟨⟨ndI hA (And.intro rfl (by subst hA; show ((0 + (Int.toNat t8)) + ((List.length R1) - (Int.toNat t8))) ≤ (List.length R1); (try simp only [rappS_end, Nat.zero_add, Int.toNat_natCast]); exact ((((h.1 c0).2.2.2.2 c1).1 c2).2.2.2.1 c3).2.2.2.2.2.2.2.1)), ⟨ndI hA (And.intro rfl (And.intro (by subst hA; show ((List.length (List.take (Int.toNat t8) (List.drop 0 R1))) + 1) ≤ (List.length (rappS (List.take (Int.toNat t8) (List.drop 0 R1)) (List.length (List.take (Int.toNat t8) (List.drop 0 R1))) [[(AV.int .i64 t7)]])); (try simp only [rappS_end, Nat.zero_add, Int.toNat_natCast]); exact ((((h.1 c0).2.2.2.2 c1).1 c2).2.2.2.1 c3).2.2.2.2.2.2.2.2.1) (And.intro (by subst hA; show (((List.length (List.take (Int.toNat t8) (List.drop 0 R1))) + 1) + (List.length (List.take ((List.length R1) - (Int.toNat t8)) (List.drop (0 + (Int.toNat t8)) R1)))) ≤ 140737488355328; (try simp only [rappS_end, Nat.zero_add, Int.toNat_natCast]); exact ((((h.1 c0).2.2.2.2 c1).1 c2).2.2.2.1 c3).2.2.2.2.2.2.2.2.2.1) (by subst hA; show ((((List.length (List.take (Int.toNat t8) (List.drop 0 R1))) + 1) + (List.length (List.take ((List.length R1) - (Int.toNat t8)) (List.drop (0 + (Int.toNat t8)) R1)))) * 8) ≤ 140737488355328; (try simp only [rappS_end, Nat.zero_add, Int.toNat_natCast]); exact ((((h.1 c0).2.2.2.2 c1).1 c2).2.2.2.1 c3).2.2.2.2.2.2.2.2.2.2.1)))), ?_⟩⟩, trivial⟩⟩, trivial⟩, trivial⟩
      · refine W.draw 80 (by rfl) ?_
        cbv
        refine ⟨ndI hA (And.intro rfl (And.intro rfl (by subst hA; show (((List.length (List.take (Int.toNat t8) (List.drop 0 R1))) + 1) + (List.length (List.take ((List.length R1) - (Int.toNat t8)) (List.drop (0 + (Int.toNat t8)) R1)))) = (List.length (rappS (rappS (List.take (Int.toNat t8) (List.drop 0 R1)) (List.length (List.take (Int.toNat t8) (List.drop 0 R1))) [[(AV.int .i64 t7)]]) ((List.length (List.take (Int.toNat t8) (List.drop 0 R1))) + 1) (List.take ((List.length R1) - (Int.toNat t8)) (List.drop (0 + (Int.toNat t8)) R1)))); (try simp only [rappS_end, Nat.zero_add, Int.toNat_natCast]); exact ((((h.1 c0).2.2.2.2 c1).1 c2).2.2.2.1 c3).2.2.2.2.2.2.2.2.2.2.2.1))), ⟨ndI hA (And.intro rfl (And.intro rfl rfl)), ⟨ndI hA (by subst hA; exact hp.1), ⟨ndI hA (by subst hA; exact (vapp (vapp (vtake (vdrop hp.2.1)) vpur) (vtake (vdrop hp.2.1)))), (by subst hA; show EV 23 [R0, (rappS (rappS (List.take (Int.toNat t8) (List.drop 0 R1)) (List.length (List.take (Int.toNat t8) (List.drop 0 R1))) [[(AV.int .i64 t7)]]) ((List.length (List.take (Int.toNat t8) (List.drop 0 R1))) + 1) (List.take ((List.length R1) - (Int.toNat t8)) (List.drop (0 + (Int.toNat t8)) R1)))] [(Lf.i t10), (Lf.i t11), (Lf.r t21), (Lf.i t22), (Lf.i (IntKind.wrap .i64 (t23 + (1 : Int))))]; (try simp only [rappS_end, Nat.zero_add, Int.toNat_natCast]); exact ((((h.1 c0).2.2.2.2 c1).1 c2).2.2.2.1 c3).2.2.2.2.2.2.2.2.2.2.2.2)⟩⟩⟩⟩
    · refine W.draw 80 (by rfl) ?_
      cbv
      refine ⟨⟨ndI hA (And.intro rfl (And.intro (Nat.le_refl _) (And.intro (by subst hA; exact ((((h.1 c0).2.2.2.2 c1).1 c2).2.2.2.1 c3).2.2.2.2.2.1) (by subst hA; exact ((((h.1 c0).2.2.2.2 c1).1 c2).2.2.2.1 c3).2.2.2.2.2.2.1)))), ⟨⟨ndI hA (And.intro rfl (by subst hA; show ((0 + (Int.toNat t8)) + ((List.length R1) - (Int.toNat t8))) ≤ (List.length R1); (try simp only [rappS_end, Nat.zero_add, Int.toNat_natCast]); exact ((((h.1 c0).2.2.2.2 c1).1 c2).2.2.2.1 c3).2.2.2.2.2.2.2.1)), ⟨ndI hA (And.intro rfl (And.intro (by subst hA; show ((List.length (List.take (Int.toNat t8) (List.drop 0 R1))) + 1) ≤ (List.length (rappS (List.take (Int.toNat t8) (List.drop 0 R1)) (List.length (List.take (Int.toNat t8) (List.drop 0 R1))) [[(AV.int .i64 t7)]])); (try simp only [rappS_end, Nat.zero_add, Int.toNat_natCast]); exact ((((h.1 c0).2.2.2.2 c1).1 c2).2.2.2.1 c3).2.2.2.2.2.2.2.2.1) (And.intro (by subst hA; show (((List.length (List.take (Int.toNat t8) (List.drop 0 R1))) + 1) + (List.length (List.take ((List.length R1) - (Int.toNat t8)) (List.drop (0 + (Int.toNat t8)) R1)))) ≤ 140737488355328; (try simp only [rappS_end, Nat.zero_add, Int.toNat_natCast]); exact ((((h.1 c0).2.2.2.2 c1).1 c2).2.2.2.1 c3).2.2.2.2.2.2.2.2.2.1) (by subst hA; show ((((List.length (List.take (Int.toNat t8) (List.drop 0 R1))) + 1) + (List.length (List.take ((List.length R1) - (Int.toNat t8)) (List.drop (0 + (Int.toNat t8)) R1)))) * 8) ≤ 140737488355328; (try simp only [rappS_end, Nat.zero_add, Int.toNat_natCast]); exact ((((h.1 c0).2.2.2.2 c1).1 c2).2.2.2.1 c3).2.2.2.2.2.2.2.2.2.2.1)))), ?_⟩⟩, trivial⟩⟩, trivial⟩
      · refine W.draw 80 (by rfl) ?_
        cbv
        refine ⟨ndI hA (And.intro rfl (And.intro rfl (by subst hA; show (((List.length (List.take (Int.toNat t8) (List.drop 0 R1))) + 1) + (List.length (List.take ((List.length R1) - (Int.toNat t8)) (List.drop (0 + (Int.toNat t8)) R1)))) = (List.length (rappS (rappS (List.take (Int.toNat t8) (List.drop 0 R1)) (List.length (List.take (Int.toNat t8) (List.drop 0 R1))) [[(AV.int .i64 t7)]]) ((List.length (List.take (Int.toNat t8) (List.drop 0 R1))) + 1) (List.take ((List.length R1) - (Int.toNat t8)) (List.drop (0 + (Int.toNat t8)) R1)))); (try simp only [rappS_end, Nat.zero_add, Int.toNat_natCast]); exact ((((h.1 c0).2.2.2.2 c1).1 c2).2.2.2.1 c3).2.2.2.2.2.2.2.2.2.2.2.1))), ⟨ndI hA (And.intro rfl (And.intro rfl rfl)), ⟨ndI hA (by subst hA; exact hp.1), ⟨ndI hA (by subst hA; exact (vapp (vapp (vtake (vdrop hp.2.1)) vpur) (vtake (vdrop hp.2.1)))), (by subst hA; show EV 23 [R0, (rappS (rappS (List.take (Int.toNat t8) (List.drop 0 R1)) (List.length (List.take (Int.toNat t8) (List.drop 0 R1))) [[(AV.int .i64 t7)]]) ((List.length (List.take (Int.toNat t8) (List.drop 0 R1))) + 1) (List.take ((List.length R1) - (Int.toNat t8)) (List.drop (0 + (Int.toNat t8)) R1)))] [(Lf.i t10), (Lf.i t11), (Lf.r t21), (Lf.i t22), (Lf.i (IntKind.wrap .i64 (t23 + (1 : Int))))]; (try simp only [rappS_end, Nat.zero_add, Int.toNat_natCast]); exact ((((h.1 c0).2.2.2.2 c1).1 c2).2.2.2.1 c3).2.2.2.2.2.2.2.2.2.2.2.2)⟩⟩⟩⟩
    · refine W.draw 80 (by rfl) ?_
      cbv
      refine ⟨⟨ndI hA (And.intro rfl (And.intro (Nat.le_refl _) (And.intro (by subst hA; exact ((((h.1 c0).2.2.2.2 c1).1 c2).2.2.2.1 c3).2.2.2.2.2.1) (by subst hA; exact ((((h.1 c0).2.2.2.2 c1).1 c2).2.2.2.1 c3).2.2.2.2.2.2.1)))), ⟨⟨ndI hA (And.intro rfl (by subst hA; show ((0 + (Int.toNat t8)) + ((List.length R1) - (Int.toNat t8))) ≤ (List.length R1); (try simp only [rappS_end, Nat.zero_add, Int.toNat_natCast]); exact ((((h.1 c0).2.2.2.2 c1).1 c2).2.2.2.1 c3).2.2.2.2.2.2.2.1)), ⟨ndI hA (And.intro rfl (And.intro (by subst hA; show ((List.length (List.take (Int.toNat t8) (List.drop 0 R1))) + 1) ≤ (List.length (rappS (List.take (Int.toNat t8) (List.drop 0 R1)) (List.length (List.take (Int.toNat t8) (List.drop 0 R1))) [[(AV.int .i64 t7)]])); (try simp only [rappS_end, Nat.zero_add, Int.toNat_natCast]); exact ((((h.1 c0).2.2.2.2 c1).1 c2).2.2.2.1 c3).2.2.2.2.2.2.2.2.1) (And.intro (by subst hA; show (((List.length (List.take (Int.toNat t8) (List.drop 0 R1))) + 1) + (List.length (List.take ((List.length R1) - (Int.toNat t8)) (List.drop (0 + (Int.toNat t8)) R1)))) ≤ 140737488355328; (try simp only [rappS_end, Nat.zero_add, Int.toNat_natCast]); exact ((((h.1 c0).2.2.2.2 c1).1 c2).2.2.2.1 c3).2.2.2.2.2.2.2.2.2.1) (by subst hA; show ((((List.length (List.take (Int.toNat t8) (List.drop 0 R1))) + 1) + (List.length (List.take ((List.length R1) - (Int.toNat t8)) (List.drop (0 + (Int.toNat t8)) R1)))) * 8) ≤ 140737488355328; (try simp only [rappS_end, Nat.zero_add, Int.toNat_natCast]); exact ((((h.1 c0).2.2.2.2 c1).1 c2).2.2.2.1 c3).2.2.2.2.2.2.2.2.2.2.1)))), ?_⟩⟩, trivial⟩⟩, trivial⟩
      · refine W.draw 80 (by rfl) ?_
        cbv
        refine ⟨ndI hA (And.intro rfl (And.intro rfl (by subst hA; show (((List.length (List.take (Int.toNat t8) (List.drop 0 R1))) + 1) + (List.length (List.take ((List.length R1) - (Int.toNat t8)) (List.drop (0 + (Int.toNat t8)) R1)))) = (List.length (rappS (rappS (List.take (Int.toNat t8) (List.drop 0 R1)) (List.length (List.take (Int.toNat t8) (List.drop 0 R1))) [[(AV.int .i64 t7)]]) ((List.length (List.take (Int.toNat t8) (List.drop 0 R1))) + 1) (List.take ((List.length R1) - (Int.toNat t8)) (List.drop (0 + (Int.toNat t8)) R1)))); (try simp only [rappS_end, Nat.zero_add, Int.toNat_natCast]); exact ((((h.1 c0).2.2.2.2 c1).1 c2).2.2.2.1 c3).2.2.2.2.2.2.2.2.2.2.2.1))), ⟨ndI hA (And.intro rfl (And.intro rfl rfl)), ⟨ndI hA (by subst hA; exact hp.1), ⟨ndI hA (by subst hA; exact (vapp (vapp (vtake (vdrop hp.2.1)) vpur) (vtake (vdrop hp.2.1)))), (by subst hA; show EV 23 [R0, (rappS (rappS (List.take (Int.toNat t8) (List.drop 0 R1)) (List.length (List.take (Int.toNat t8) (List.drop 0 R1))) [[(AV.int .i64 t7)]]) ((List.length (List.take (Int.toNat t8) (List.drop 0 R1))) + 1) (List.take ((List.length R1) - (Int.toNat t8)) (List.drop (0 + (Int.toNat t8)) R1)))] [(Lf.i t10), (Lf.i t11), (Lf.r t21), (Lf.i t22), (Lf.i (IntKind.wrap .i64 (t23 + (1 : Int))))]; (try simp only [rappS_end, Nat.zero_add, Int.toNat_natCast]); exact ((((h.1 c0).2.2.2.2 c1).1 c2).2.2.2.1 c3).2.2.2.2.2.2.2.2.2.2.2.2)⟩⟩⟩⟩
    · refine W.draw 80 (by rfl) ?_
      cbv
      refine ⟨⟨⟨ndI hA (And.intro rfl (And.intro (Nat.le_refl _) (And.intro (by subst hA; exact (((h.1 c0).2.2.2.2 c1).2 c2).2.2.2.2.2.1) (by subst hA; exact (((h.1 c0).2.2.2.2 c1).2 c2).2.2.2.2.2.2.1)))), ⟨⟨ndI hA (And.intro rfl (by subst hA; show ((0 + (Int.toNat t8)) + ((List.length R1) - (Int.toNat t8))) ≤ (List.length R1); (try simp only [rappS_end, Nat.zero_add, Int.toNat_natCast]); exact (((h.1 c0).2.2.2.2 c1).2 c2).2.2.2.2.2.2.2.1)), ⟨ndI hA (And.intro rfl (And.intro (by subst hA; show ((List.length (List.take (Int.toNat t8) (List.drop 0 R1))) + 1) ≤ (List.length (rappS (List.take (Int.toNat t8) (List.drop 0 R1)) (List.length (List.take (Int.toNat t8) (List.drop 0 R1))) [[(AV.int .i64 t7)]])); (try simp only [rappS_end, Nat.zero_add, Int.toNat_natCast]); exact (((h.1 c0).2.2.2.2 c1).2 c2).2.2.2.2.2.2.2.2.1) (And.intro (by subst hA; show (((List.length (List.take (Int.toNat t8) (List.drop 0 R1))) + 1) + (List.length (List.take ((List.length R1) - (Int.toNat t8)) (List.drop (0 + (Int.toNat t8)) R1)))) ≤ 140737488355328; (try simp only [rappS_end, Nat.zero_add, Int.toNat_natCast]); exact (((h.1 c0).2.2.2.2 c1).2 c2).2.2.2.2.2.2.2.2.2.1) (by subst hA; show ((((List.length (List.take (Int.toNat t8) (List.drop 0 R1))) + 1) + (List.length (List.take ((List.length R1) - (Int.toNat t8)) (List.drop (0 + (Int.toNat t8)) R1)))) * 8) ≤ 140737488355328; (try simp only [rappS_end, Nat.zero_add, Int.toNat_natCast]); exact (((h.1 c0).2.2.2.2 c1).2 c2).2.2.2.2.2.2.2.2.2.2.1)))), ?_⟩⟩, trivial⟩⟩, trivial⟩, trivial⟩
      · refine W.draw 80 (by rfl) ?_
        cbv
        refine ⟨ndI hA (And.intro rfl (And.intro rfl (by subst hA; show (((List.length (List.take (Int.toNat t8) (List.drop 0 R1))) + 1) + (List.length (List.take ((List.length R1) - (Int.toNat t8)) (List.drop (0 + (Int.toNat t8)) R1)))) = (List.length (rappS (rappS (List.take (Int.toNat t8) (List.drop 0 R1)) (List.length (List.take (Int.toNat t8) (List.drop 0 R1))) [[(AV.int .i64 t7)]]) ((List.length (List.take (Int.toNat t8) (List.drop 0 R1))) + 1) (List.take ((List.length R1) - (Int.toNat t8)) (List.drop (0 + (Int.toNat t8)) R1)))); (try simp only [rappS_end, Nat.zero_add, Int.toNat_natCast]); exact (((h.1 c0).2.2.2.2 c1).2 c2).2.2.2.2.2.2.2.2.2.2.2.1))), ⟨ndI hA (And.intro rfl (And.intro rfl rfl)), ⟨ndI hA (by subst hA; exact hp.1), ⟨ndI hA (by subst hA; exact (vapp (vapp (vtake (vdrop hp.2.1)) vpur) (vtake (vdrop hp.2.1)))), (by subst hA; show EV 23 [R0, (rappS (rappS (List.take (Int.toNat t8) (List.drop 0 R1)) (List.length (List.take (Int.toNat t8) (List.drop 0 R1))) [[(AV.int .i64 t7)]]) ((List.length (List.take (Int.toNat t8) (List.drop 0 R1))) + 1) (List.take ((List.length R1) - (Int.toNat t8)) (List.drop (0 + (Int.toNat t8)) R1)))] [(Lf.i t10), (Lf.i t11), (Lf.r t21), (Lf.i t22), (Lf.i (IntKind.wrap .i64 (t23 + (1 : Int))))]; (try simp only [rappS_end, Nat.zero_add, Int.toNat_natCast]); exact (((h.1 c0).2.2.2.2 c1).2 c2).2.2.2.2.2.2.2.2.2.2.2.2)⟩⟩⟩⟩
    · refine W.draw 80 (by rfl) ?_
      cbv
      refine ⟨⟨ndI hA (And.intro rfl (And.intro (Nat.le_refl _) (And.intro (by subst hA; exact (((h.1 c0).2.2.2.2 c1).2 c2).2.2.2.2.2.1) (by subst hA; exact (((h.1 c0).2.2.2.2 c1).2 c2).2.2.2.2.2.2.1)))), ⟨⟨ndI hA (And.intro rfl (by subst hA; show ((0 + (Int.toNat t8)) + ((List.length R1) - (Int.toNat t8))) ≤ (List.length R1); (try simp only [rappS_end, Nat.zero_add, Int.toNat_natCast]); exact (((h.1 c0).2.2.2.2 c1).2 c2).2.2.2.2.2.2.2.1)), ⟨ndI hA (And.intro rfl (And.intro (by subst hA; show ((List.length (List.take (Int.toNat t8) (List.drop 0 R1))) + 1) ≤ (List.length (rappS (List.take (Int.toNat t8) (List.drop 0 R1)) (List.length (List.take (Int.toNat t8) (List.drop 0 R1))) [[(AV.int .i64 t7)]])); (try simp only [rappS_end, Nat.zero_add, Int.toNat_natCast]); exact (((h.1 c0).2.2.2.2 c1).2 c2).2.2.2.2.2.2.2.2.1) (And.intro (by subst hA; show (((List.length (List.take (Int.toNat t8) (List.drop 0 R1))) + 1) + (List.length (List.take ((List.length R1) - (Int.toNat t8)) (List.drop (0 + (Int.toNat t8)) R1)))) ≤ 140737488355328; (try simp only [rappS_end, Nat.zero_add, Int.toNat_natCast]); exact (((h.1 c0).2.2.2.2 c1).2 c2).2.2.2.2.2.2.2.2.2.1) (by subst hA; show ((((List.length (List.take (Int.toNat t8) (List.drop 0 R1))) + 1) + (List.length (List.take ((List.length R1) - (Int.toNat t8)) (List.drop (0 + (Int.toNat t8)) R1)))) * 8) ≤ 140737488355328; (try simp only [rappS_end, Nat.zero_add, Int.toNat_natCast]); exact (((h.1 c0).2.2.2.2 c1).2 c2).2.2.2.2.2.2.2.2.2.2.1)))), ?_⟩⟩, trivial⟩⟩, trivial⟩
      · refine W.draw 80 (by rfl) ?_
        cbv
        refine ⟨ndI hA (And.intro rfl (And.intro rfl (by subst hA; show (((List.length (List.take (Int.toNat t8) (List.drop 0 R1))) + 1) + (List.length (List.take ((List.length R1) - (Int.toNat t8)) (List.drop (0 + (Int.toNat t8)) R1)))) = (List.length (rappS (rappS (List.take (Int.toNat t8) (List.drop 0 R1)) (List.length (List.take (Int.toNat t8) (List.drop 0 R1))) [[(AV.int .i64 t7)]]) ((List.length (List.take (Int.toNat t8) (List.drop 0 R1))) + 1) (List.take ((List.length R1) - (Int.toNat t8)) (List.drop (0 + (Int.toNat t8)) R1)))); (try simp only [rappS_end, Nat.zero_add, Int.toNat_natCast]); exact (((h.1 c0).2.2.2.2 c1).2 c2).2.2.2.2.2.2.2.2.2.2.2.1))), ⟨ndI hA (And.intro rfl (And.intro rfl rfl)), ⟨ndI hA (by subst hA; exact hp.1), ⟨ndI hA (by subst hA; exact (vapp (vapp (vtake (vdrop hp.2.1)) vpur) (vtake (vdrop hp.2.1)))), (by subst hA; show EV 23 [R0, (rappS (rappS (List.take (Int.toNat t8) (List.drop 0 R1)) (List.length (List.take (Int.toNat t8) (List.drop 0 R1))) [[(AV.int .i64 t7)]]) ((List.length (List.take (Int.toNat t8) (List.drop 0 R1))) + 1) (List.take ((List.length R1) - (Int.toNat t8)) (List.drop (0 + (Int.toNat t8)) R1)))] [(Lf.i t10), (Lf.i t11), (Lf.r t21), (Lf.i t22), (Lf.i (IntKind.wrap .i64 (t23 + (1 : Int))))]; (try simp only [rappS_end, Nat.zero_add, Int.toNat_natCast]); exact (((h.1 c0).2.2.2.2 c1).2 c2).2.2.2.2.2.2.2.2.2.2.2.2)⟩⟩⟩⟩
    · refine W.draw 80 (by rfl) ?_
      cbv
      refine ⟨⟨ndI hA (And.intro rfl (And.intro (Nat.le_refl _) (And.intro (by subst hA; exact (((h.1 c0).2.2.2.2 c1).2 c2).2.2.2.2.2.1) (by subst hA; exact (((h.1 c0).2.2.2.2 c1).2 c2).2.2.2.2.2.2.1)))), ⟨⟨ndI hA (And.intro rfl (by subst hA; show ((0 + (Int.toNat t8)) + ((List.length R1) - (Int.toNat t8))) ≤ (List.length R1); (try simp only [rappS_end, Nat.zero_add, Int.toNat_natCast]); exact (((h.1 c0).2.2.2.2 c1).2 c2).2.2.2.2.2.2.2.1)), ⟨ndI hA (And.intro rfl (And.intro (by subst hA; show ((List.length (List.take (Int.toNat t8) (List.drop 0 R1))) + 1) ≤ (List.length (rappS (List.take (Int.toNat t8) (List.drop 0 R1)) (List.length (List.take (Int.toNat t8) (List.drop 0 R1))) [[(AV.int .i64 t7)]])); (try simp only [rappS_end, Nat.zero_add, Int.toNat_natCast]); exact (((h.1 c0).2.2.2.2 c1).2 c2).2.2.2.2.2.2.2.2.1) (And.intro (by subst hA; show (((List.length (List.take (Int.toNat t8) (List.drop 0 R1))) + 1) + (List.length (List.take ((List.length R1) - (Int.toNat t8)) (List.drop (0 + (Int.toNat t8)) R1)))) ≤ 140737488355328; (try simp only [rappS_end, Nat.zero_add, Int.toNat_natCast]); exact (((h.1 c0).2.2.2.2 c1).2 c2).2.2.2.2.2.2.2.2.2.1) (by subst hA; show ((((List.length (List.take (Int.toNat t8) (List.drop 0 R1))) + 1) + (List.length (List.take ((List.length R1) - (Int.toNat t8)) (List.drop (0 + (Int.toNat t8)) R1)))) * 8) ≤ 140737488355328; (try simp only [rappS_end, Nat.zero_add, Int.toNat_natCast]); exact (((h.1 c0).2.2.2.2 c1).2 c2).2.2.2.2.2.2.2.2.2.2.1)))), ?_⟩⟩, trivial⟩⟩, trivial⟩
      · refine W.draw 80 (by rfl) ?_
        cbv
        refine ⟨ndI hA (And.intro rfl (And.intro rfl (by subst hA; show (((List.length (List.take (Int.toNat t8) (List.drop 0 R1))) + 1) + (List.length (List.take ((List.length R1) - (Int.toNat t8)) (List.drop (0 + (Int.toNat t8)) R1)))) = (List.length (rappS (rappS (List.take (Int.toNat t8) (List.drop 0 R1)) (List.length (List.take (Int.toNat t8) (List.drop 0 R1))) [[(AV.int .i64 t7)]]) ((List.length (List.take (Int.toNat t8) (List.drop 0 R1))) + 1) (List.take ((List.length R1) - (Int.toNat t8)) (List.drop (0 + (Int.toNat t8)) R1)))); (try simp only [rappS_end, Nat.zero_add, Int.toNat_natCast]); exact (((h.1 c0).2.2.2.2 c1).2 c2).2.2.2.2.2.2.2.2.2.2.2.1))), ⟨ndI hA (And.intro rfl (And.intro rfl rfl)), ⟨ndI hA (by subst hA; exact hp.1), ⟨ndI hA (by subst hA; exact (vapp (vapp (vtake (vdrop hp.2.1)) vpur) (vtake (vdrop hp.2.1)))), (by subst hA; show EV 23 [R0, (rappS (rappS (List.take (Int.toNat t8) (List.drop 0 R1)) (List.length (List.take (Int.toNat t8) (List.drop 0 R1))) [[(AV.int .i64 t7)]]) ((List.length (List.take (Int.toNat t8) (List.drop 0 R1))) + 1) (List.take ((List.length R1) - (Int.toNat t8)) (List.drop (0 + (Int.toNat t8)) R1)))] [(Lf.i t10), (Lf.i t11), (Lf.r t21), (Lf.i t22), (Lf.i (IntKind.wrap .i64 (t23 + (1 : Int))))]; (try simp only [rappS_end, Nat.zero_add, Int.toNat_natCast]); exact (((h.1 c0).2.2.2.2 c1).2 c2).2.2.2.2.2.2.2.2.2.2.2.2)⟩⟩⟩⟩
    · refine W.draw 80 (by rfl) ?_
      cbv
      refine ⟨⟨⟨ndI hA (And.intro rfl (And.intro (Nat.le_refl _) (And.intro (by subst hA; exact (((h.2 c0).1 c1).2.2.2.1 c2).2.2.2.2.2.1) (by subst hA; exact (((h.2 c0).1 c1).2.2.2.1 c2).2.2.2.2.2.2.1)))), ⟨⟨ndI hA (And.intro rfl (by subst hA; show ((0 + (Int.toNat t8)) + ((List.length R1) - (Int.toNat t8))) ≤ (List.length R1); (try simp only [rappS_end, Nat.zero_add, Int.toNat_natCast]); exact (((h.2 c0).1 c1).2.2.2.1 c2).2.2.2.2.2.2.2.1)), ⟨ndI hA (And.intro rfl (And.intro (by subst hA; show ((List.length (List.take (Int.toNat t8) (List.drop 0 R1))) + 1) ≤ (List.length (rappS (List.take (Int.toNat t8) (List.drop 0 R1)) (List.length (List.take (Int.toNat t8) (List.drop 0 R1))) [[(AV.int .i64 t7)]])); (try simp only [rappS_end, Nat.zero_add, Int.toNat_natCast]); exact (((h.2 c0).1 c1).2.2.2.1 c2).2.2.2.2.2.2.2.2.1) (And.intro (by subst hA; show (((List.length (List.take (Int.toNat t8) (List.drop 0 R1))) + 1) + (List.length (List.take ((List.length R1) - (Int.toNat t8)) (List.drop (0 + (Int.toNat t8)) R1)))) ≤ 140737488355328; (try simp only [rappS_end, Nat.zero_add, Int.toNat_natCast]); exact (((h.2 c0).1 c1).2.2.2.1 c2).2.2.2.2.2.2.2.2.2.1) (by subst hA; show ((((List.length (List.take (Int.toNat t8) (List.drop 0 R1))) + 1) + (List.length (List.take ((List.length R1) - (Int.toNat t8)) (List.drop (0 + (Int.toNat t8)) R1)))) * 8) ≤ 140737488355328; (try simp only [rappS_end, Nat.zero_add, Int.toNat_natCast]); exact (((h.2 c0).1 c1).2.2.2.1 c2).2.2.2.2.2.2.2.2.2.2.1)))), ?_⟩⟩, trivial⟩⟩, trivial⟩, trivial⟩
      · refine W.draw 80 (by rfl) ?_
        cbv
        refine ⟨ndI hA (And.intro rfl (And.intro rfl (by subst hA; show (((List.length (List.take (Int.toNat t8) (List.drop 0 R1))) + 1) + (List.length (List.take ((List.length R1) - (Int.toNat t8)) (List.drop (0 + (Int.toNat t8)) R1)))) = (List.length (rappS (rappS (List.take (Int.toNat t8) (List.drop 0 R1)) (List.length (List.take (Int.toNat t8) (List.drop 0 R1))) [[(AV.int .i64 t7)]]) ((List.length (List.take (Int.toNat t8) (List.drop 0 R1))) + 1) (List.take ((List.length R1) - (Int.toNat t8)) (List.drop (0 + (Int.toNat t8)) R1)))); (try simp only [rappS_end, Nat.zero_add, Int.toNat_natCast]); exact (((h.2 c0).1 c1).2.2.2.1 c2).2.2.2.2.2.2.2.2.2.2.2.1))), ⟨ndI hA (And.intro rfl (And.intro rfl rfl)), ⟨ndI hA (by subst hA; exact hp.1), ⟨ndI hA (by subst hA; exact (vapp (vapp (vtake (vdrop hp.2.1)) vpur) (vtake (vdrop hp.2.1)))), (by subst hA; show EV 23 [R0, (rappS (rappS (List.take (Int.toNat t8) (List.drop 0 R1)) (List.length (List.take (Int.toNat t8) (List.drop 0 R1))) [[(AV.int .i64 t7)]]) ((List.length (List.take (Int.toNat t8) (List.drop 0 R1))) + 1) (List.take ((List.length R1) - (Int.toNat t8)) (List.drop (0 + (Int.toNat t8)) R1)))] [(Lf.i t10), (Lf.i t11), (Lf.r t21), (Lf.i t22), (Lf.i (IntKind.wrap .i64 (t23 + (1 : Int))))]; (try simp only [rappS_end, Nat.zero_add, Int.toNat_natCast]); exact (((h.2 c0).1 c1).2.2.2.1 c2).2.2.2.2.2.2.2.2.2.2.2.2)⟩⟩⟩⟩
    · refine W.draw 80 (by rfl) ?_
      cbv
      refine ⟨⟨ndI hA (And.intro rfl (And.intro (Nat.le_refl _) (And.intro (by subst hA; exact (((h.2 c0).1 c1).2.2.2.1 c2).2.2.2.2.2.1) (by subst hA; exact (((h.2 c0).1 c1).2.2.2.1 c2).2.2.2.2.2.2.1)))), ⟨⟨ndI hA (And.intro rfl (by subst hA; show ((0 + (Int.toNat t8)) + ((List.length R1) - (Int.toNat t8))) ≤ (List.length R1); (try simp only [rappS_end, Nat.zero_add, Int.toNat_natCast]); exact (((h.2 c0).1 c1).2.2.2.1 c2).2.2.2.2.2.2.2.1)), ⟨ndI hA (And.intro rfl (And.intro (by subst hA; show ((List.length (List.take (Int.toNat t8) (List.drop 0 R1))) + 1) ≤ (List.length (rappS (List.take (Int.toNat t8) (List.drop 0 R1)) (List.length (List.take (Int.toNat t8) (List.drop 0 R1))) [[(AV.int .i64 t7)]])); (try simp only [rappS_end, Nat.zero_add, Int.toNat_natCast]); exact (((h.2 c0).1 c1).2.2.2.1 c2).2.2.2.2.2.2.2.2.1) (And.intro (by subst hA; show (((List.length (List.take (Int.toNat t8) (List.drop 0 R1))) + 1) + (List.length (List.take ((List.length R1) - (Int.toNat t8)) (List.drop (0 + (Int.toNat t8)) R1)))) ≤ 140737488355328; (try simp only [rappS_end, Nat.zero_add, Int.toNat_natCast]); exact (((h.2 c0).1 c1).2.2.2.1 c2).2.2.2.2.2.2.2.2.2.1) (by subst hA; show ((((List.length (List.take (Int.toNat t8) (List.drop 0 R1))) + 1) + (List.length (List.take ((List.length R1) - (Int.toNat t8)) (List.drop (0 + (Int.toNat t8)) R1)))) * 8) ≤ 140737488355328; (try simp only [rappS_end, Nat.zero_add, Int.toNat_natCast]); exact (((h.2 c0).1 c1).2.2.2.1 c2).2.2.2.2.2.2.2.2.2.2.1)))), ?_⟩⟩, trivial⟩⟩, trivial⟩
      · refine W.draw 80 (by rfl) ?_
        cbv
        refine ⟨ndI hA (And.intro rfl (And.intro rfl (by subst hA; show (((List.length (List.take (Int.toNat t8) (List.drop 0 R1))) + 1) + (List.length (List.take ((List.length R1) - (Int.toNat t8)) (List.drop (0 + (Int.toNat t8)) R1)))) = (List.length (rappS (rappS (List.take (Int.toNat t8) (List.drop 0 R1)) (List.length (List.take (Int.toNat t8) (List.drop 0 R1))) [[(AV.int .i64 t7)]]) ((List.length (List.take (Int.toNat t8) (List.drop 0 R1))) + 1) (List.take ((List.length R1) - (Int.toNat t8)) (List.drop (0 + (Int.toNat t8)) R1)))); (try simp only [rappS_end, Nat.zero_add, Int.toNat_natCast]); exact (((h.2 c0).1 c1).2.2.2.1 c2).2.2.2.2.2.2.2.2.2.2.2.1))), ⟨ndI hA (And.intro rfl (And.intro rfl rfl)), ⟨ndI hA (by subst hA; exact hp.1), ⟨ndI hA (by subst hA; exact (vapp (vapp (vtake (vdrop hp.2.1)) vpur) (vtake (vdrop hp.2.1)))), (by subst hA; show EV 23 [R0, (rappS (rappS (List.take (Int.toNat t8) (List.drop 0 R1)) (List.length (List.take (Int.toNat t8) (List.drop 0 R1))) [[(AV.int .i64 t7)]]) ((List.length (List.take (Int.toNat t8) (List.drop 0 R1))) + 1) (List.take ((List.length R1) - (Int.toNat t8)) (List.drop (0 + (Int.toNat t8)) R1)))] [(Lf.i t10), (Lf.i t11), (Lf.r t21), (Lf.i t22), (Lf.i (IntKind.wrap .i64 (t23 + (1 : Int))))]; (try simp only [rappS_end, Nat.zero_add, Int.toNat_natCast]); exact (((h.2 c0).1 c1).2.2.2.1 c2).2.2.2.2.2.2.2.2.2.2.2.2)⟩⟩⟩⟩
    · refine W.draw 80 (by rfl) ?_
      cbv
      refine ⟨⟨ndI hA (And.intro rfl (And.intro (Nat.le_refl _) (And.intro (by subst hA; exact (((h.2 c0).1 c1).2.2.2.1 c2).2.2.2.2.2.1) (by subst hA; exact (((h.2 c0).1 c1).2.2.2.1 c2).2.2.2.2.2.2.1)))), ⟨⟨ndI hA (And.intro rfl (by subst hA; show ((0 + (Int.toNat t8)) + ((List.length R1) - (Int.toNat t8))) ≤ (List.length R1); (try simp only [rappS_end, Nat.zero_add, Int.toNat_natCast]); exact (((h.2 c0).1 c1).2.2.2.1 c2).2.2.2.2.2.2.2.1)), ⟨ndI hA (And.intro rfl (And.intro (by subst hA; show ((List.length (List.take (Int.toNat t8) (List.drop 0 R1))) + 1) ≤ (List.length (rappS (List.take (Int.toNat t8) (List.drop 0 R1)) (List.length (List.take (Int.toNat t8) (List.drop 0 R1))) [[(AV.int .i64 t7)]])); (try simp only [rappS_end, Nat.zero_add, Int.toNat_natCast]); exact (((h.2 c0).1 c1).2.2.2.1 c2).2.2.2.2.2.2.2.2.1) (And.intro (by subst hA; show (((List.length (List.take (Int.toNat t8) (List.drop 0 R1))) + 1) + (List.length (List.take ((List.length R1) - (Int.toNat t8)) (List.drop (0 + (Int.toNat t8)) R1)))) ≤ 140737488355328; (try simp only [rappS_end, Nat.zero_add, Int.toNat_natCast]); exact (((h.2 c0).1 c1).2.2.2.1 c2).2.2.2.2.2.2.2.2.2.1) (by subst hA; show ((((List.length (List.take (Int.toNat t8) (List.drop 0 R1))) + 1) + (List.length (List.take ((List.length R1) - (Int.toNat t8)) (List.drop (0 + (Int.toNat t8)) R1)))) * 8) ≤ 140737488355328; (try simp only [rappS_end, Nat.zero_add, Int.toNat_natCast]); exact (((h.2 c0).1 c1).2.2.2.1 c2).2.2.2.2.2.2.2.2.2.2.1)))), ?_⟩⟩, trivial⟩⟩, trivial⟩
      · refine W.draw 80 (by rfl) ?_
        cbv
        refine ⟨ndI hA (And.intro rfl (And.intro rfl (by subst hA; show (((List.length (List.take (Int.toNat t8) (List.drop 0 R1))) + 1) + (List.length (List.take ((List.length R1) - (Int.toNat t8)) (List.drop (0 + (Int.toNat t8)) R1)))) = (List.length (rappS (rappS (List.take (Int.toNat t8) (List.drop 0 R1)) (List.length (List.take (Int.toNat t8) (List.drop 0 R1))) [[(AV.int .i64 t7)]]) ((List.length (List.take (Int.toNat t8) (List.drop 0 R1))) + 1) (List.take ((List.length R1) - (Int.toNat t8)) (List.drop (0 + (Int.toNat t8)) R1)))); (try simp only [rappS_end, Nat.zero_add, Int.toNat_natCast]); exact (((h.2 c0).1 c1).2.2.2.1 c2).2.2.2.2.2.2.2.2.2.2.2.1))), ⟨ndI hA (And.intro rfl (And.intro rfl rfl)), ⟨ndI hA (by subst hA; exact hp.1), ⟨ndI hA (by subst hA; exact (vapp (vapp (vtake (vdrop hp.2.1)) vpur) (vtake (vdrop hp.2.1)))), (by subst hA; show EV 23 [R0, (rappS (rappS (List.take (Int.toNat t8) (List.drop 0 R1)) (List.length (List.take (Int.toNat t8) (List.drop 0 R1))) [[(AV.int .i64 t7)]]) ((List.length (List.take (Int.toNat t8) (List.drop 0 R1))) + 1) (List.take ((List.length R1) - (Int.toNat t8)) (List.drop (0 + (Int.toNat t8)) R1)))] [(Lf.i t10), (Lf.i t11), (Lf.r t21), (Lf.i t22), (Lf.i (IntKind.wrap .i64 (t23 + (1 : Int))))]; (try simp only [rappS_end, Nat.zero_add, Int.toNat_natCast]); exact (((h.2 c0).1 c1).2.2.2.1 c2).2.2.2.2.2.2.2.2.2.2.2.2)⟩⟩⟩⟩
    · refine W.draw 80 (by rfl) ?_
      cbv
      refine ⟨⟨⟨ndI hA (And.intro rfl (And.intro (Nat.le_refl _) (And.intro (by subst hA; exact ((h.2 c0).2 c1).2.2.2.2.2.1) (by subst hA; exact ((h.2 c0).2 c1).2.2.2.2.2.2.1)))), ⟨⟨ndI hA (And.intro rfl (by subst hA; show ((0 + (Int.toNat t8)) + ((List.length R1) - (Int.toNat t8))) ≤ (List.length R1); (try simp only [rappS_end, Nat.zero_add, Int.toNat_natCast]); exact ((h.2 c0).2 c1).2.2.2.2.2.2.2.1)), ⟨ndI hA (And.intro rfl (And.intro (by subst hA; show ((List.length (List.take (Int.toNat t8) (List.drop 0 R1))) + 1) ≤ (List.length (rappS (List.take (Int.toNat t8) (List.drop 0 R1)) (List.length (List.take (Int.toNat t8) (List.drop 0 R1))) [[(AV.int .i64 t7)]])); (try simp only [rappS_end, Nat.zero_add, Int.toNat_natCast]); exact ((h.2 c0).2 c1).2.2.2.2.2.2.2.2.1) (And.intro (by subst hA; show (((List.length (List.take (Int.toNat t8) (List.drop 0 R1))) + 1) + (List.length (List.take ((List.length R1) - (Int.toNat t8)) (List.drop (0 + (Int.toNat t8)) R1)))) ≤ 140737488355328; (try simp only [rappS_end, Nat.zero_add, Int.toNat_natCast]); exact ((h.2 c0).2 c1).2.2.2.2.2.2.2.2.2.1) (by subst hA; show ((((List.length (List.take (Int.toNat t8) (List.drop 0 R1))) + 1) + (List.length (List.take ((List.length R1) - (Int.toNat t8)) (List.drop (0 + (Int.toNat t8)) R1)))) * 8) ≤ 140737488355328; (try simp only [rappS_end, Nat.zero_add, Int.toNat_natCast]); exact ((h.2 c0).2 c1).2.2.2.2.2.2.2.2.2.2.1)))), ?_⟩⟩, trivial⟩⟩, trivial⟩, trivial⟩
      · refine W.draw 80 (by rfl) ?_
        cbv
        refine ⟨ndI hA (And.intro rfl (And.intro rfl (by subst hA; show (((List.length (List.take (Int.toNat t8) (List.drop 0 R1))) + 1) + (List.length (List.take ((List.length R1) - (Int.toNat t8)) (List.drop (0 + (Int.toNat t8)) R1)))) = (List.length (rappS (rappS (List.take (Int.toNat t8) (List.drop 0 R1)) (List.length (List.take (Int.toNat t8) (List.drop 0 R1))) [[(AV.int .i64 t7)]]) ((List.length (List.take (Int.toNat t8) (List.drop 0 R1))) + 1) (List.take ((List.length R1) - (Int.toNat t8)) (List.drop (0 + (Int.toNat t8)) R1)))); (try simp only [rappS_end, Nat.zero_add, Int.toNat_natCast]); exact ((h.2 c0).2 c1).2.2.2.2.2.2.2.2.2.2.2.1))), ⟨ndI hA (And.intro rfl (And.intro rfl rfl)), ⟨ndI hA (by subst hA; exact hp.1), ⟨ndI hA (by subst hA; exact (vapp (vapp (vtake (vdrop hp.2.1)) vpur) (vtake (vdrop hp.2.1)))), (by subst hA; show EV 23 [R0, (rappS (rappS (List.take (Int.toNat t8) (List.drop 0 R1)) (List.length (List.take (Int.toNat t8) (List.drop 0 R1))) [[(AV.int .i64 t7)]]) ((List.length (List.take (Int.toNat t8) (List.drop 0 R1))) + 1) (List.take ((List.length R1) - (Int.toNat t8)) (List.drop (0 + (Int.toNat t8)) R1)))] [(Lf.i t10), (Lf.i t11), (Lf.r t21), (Lf.i t22), (Lf.i (IntKind.wrap .i64 (t23 + (1 : Int))))]; (try simp only [rappS_end, Nat.zero_add, Int.toNat_natCast]); exact ((h.2 c0).2 c1).2.2.2.2.2.2.2.2.2.2.2.2)⟩⟩⟩⟩
    · refine W.draw 80 (by rfl) ?_
      cbv
      refine ⟨⟨ndI hA (And.intro rfl (And.intro (Nat.le_refl _) (And.intro (by subst hA; exact ((h.2 c0).2 c1).2.2.2.2.2.1) (by subst hA; exact ((h.2 c0).2 c1).2.2.2.2.2.2.1)))), ⟨⟨ndI hA (And.intro rfl (by subst hA; show ((0 + (Int.toNat t8)) + ((List.length R1) - (Int.toNat t8))) ≤ (List.length R1); (try simp only [rappS_end, Nat.zero_add, Int.toNat_natCast]); exact ((h.2 c0).2 c1).2.2.2.2.2.2.2.1)), ⟨ndI hA (And.intro rfl (And.intro (by subst hA; show ((List.length (List.take (Int.toNat t8) (List.drop 0 R1))) + 1) ≤ (List.length (rappS (List.take (Int.toNat t8) (List.drop 0 R1)) (List.length (List.take (Int.toNat t8) (List.drop 0 R1))) [[(AV.int .i64 t7)]])); (try simp only [rappS_end, Nat.zero_add, Int.toNat_natCast]); exact ((h.2 c0).2 c1).2.2.2.2.2.2.2.2.1) (And.intro (by subst hA; show (((List.length (List.take (Int.toNat t8) (List.drop 0 R1))) + 1) + (List.length (List.take ((List.length R1) - (Int.toNat t8)) (List.drop (0 + (Int.toNat t8)) R1)))) ≤ 140737488355328; (try simp only [rappS_end, Nat.zero_add, Int.toNat_natCast]); exact ((h.2 c0).2 c1).2.2.2.2.2.2.2.2.2.1) (by subst hA; show ((((List.length (List.take (Int.toNat t8) (List.drop 0 R1))) + 1) + (List.length (List.take ((List.length R1) - (Int.toNat t8)) (List.drop (0 + (Int.toNat t8)) R1)))) * 8) ≤ 140737488355328; (try simp only [rappS_end, Nat.zero_add, Int.toNat_natCast]); exact ((h.2 c0).2 c1).2.2.2.2.2.2.2.2.2.2.1)))), ?_⟩⟩, trivial⟩⟩, trivial⟩
      · refine W.draw 80 (by rfl) ?_
        cbv
        refine ⟨ndI hA (And.intro rfl (And.intro rfl (by subst hA; show (((List.length (List.take (Int.toNat t8) (List.drop 0 R1))) + 1) + (List.length (List.take ((List.length R1) - (Int.toNat t8)) (List.drop (0 + (Int.toNat t8)) R1)))) = (List.length (rappS (rappS (List.take (Int.toNat t8) (List.drop 0 R1)) (List.length (List.take (Int.toNat t8) (List.drop 0 R1))) [[(AV.int .i64 t7)]]) ((List.length (List.take (Int.toNat t8) (List.drop 0 R1))) + 1) (List.take ((List.length R1) - (Int.toNat t8)) (List.drop (0 + (Int.toNat t8)) R1)))); (try simp only [rappS_end, Nat.zero_add, Int.toNat_natCast]); exact ((h.2 c0).2 c1).2.2.2.2.2.2.2.2.2.2.2.1))), ⟨ndI hA (And.intro rfl (And.intro rfl rfl)), ⟨ndI hA (by subst hA; exact hp.1), ⟨ndI hA (by subst hA; exact (vapp (vapp (vtake (vdrop hp.2.1)) vpur) (vtake (vdrop hp.2.1)))), (by subst hA; show EV 23 [R0, (rappS (rappS (List.take (Int.toNat t8) (List.drop 0 R1)) (List.length (List.take (Int.toNat t8) (List.drop 0 R1))) [[(AV.int .i64 t7)]]) ((List.length (List.take (Int.toNat t8) (List.drop 0 R1))) + 1) (List.take ((List.length R1) - (Int.toNat t8)) (List.drop (0 + (Int.toNat t8)) R1)))] [(Lf.i t10), (Lf.i t11), (Lf.r t21), (Lf.i t22), (Lf.i (IntKind.wrap .i64 (t23 + (1 : Int))))]; (try simp only [rappS_end, Nat.zero_add, Int.toNat_natCast]); exact ((h.2 c0).2 c1).2.2.2.2.2.2.2.2.2.2.2.2)⟩⟩⟩⟩
    · refine W.draw 80 (by rfl) ?_
      cbv
      refine ⟨⟨ndI hA (And.intro rfl (And.intro (Nat.le_refl _) (And.intro (by subst hA; exact ((h.2 c0).2 c1).2.2.2.2.2.1) (by subst hA; exact ((h.2 c0).2 c1).2.2.2.2.2.2.1)))), ⟨⟨ndI hA (And.intro rfl (by subst hA; show ((0 + (Int.toNat t8)) + ((List.length R1) - (Int.toNat t8))) ≤ (List.length R1); (try simp only [rappS_end, Nat.zero_add, Int.toNat_natCast]); exact ((h.2 c0).2 c1).2.2.2.2.2.2.2.1)), ⟨ndI hA (And.intro rfl (And.intro (by subst hA; show ((List.length (List.take (Int.toNat t8) (List.drop 0 R1))) + 1) ≤ (List.length (rappS (List.take (Int.toNat t8) (List.drop 0 R1)) (List.length (List.take (Int.toNat t8) (List.drop 0 R1))) [[(AV.int .i64 t7)]])); (try simp only [rappS_end, Nat.zero_add, Int.toNat_natCast]); exact ((h.2 c0).2 c1).2.2.2.2.2.2.2.2.1) (And.intro (by subst hA; show (((List.length (List.take (Int.toNat t8) (List.drop 0 R1))) + 1) + (List.length (List.take ((List.length R1) - (Int.toNat t8)) (List.drop (0 + (Int.toNat t8)) R1)))) ≤ 140737488355328; (try simp only [rappS_end, Nat.zero_add, Int.toNat_natCast]); exact ((h.2 c0).2 c1).2.2.2.2.2.2.2.2.2.1) (by subst hA; show ((((List.length (List.take (Int.toNat t8) (List.drop 0 R1))) + 1) + (List.length (List.take ((List.length R1) - (Int.toNat t8)) (List.drop (0 + (Int.toNat t8)) R1)))) * 8) ≤ 140737488355328; (try simp only [rappS_end, Nat.zero_add, Int.toNat_natCast]); exact ((h.2 c0).2 c1).2.2.2.2.2.2.2.2.2.2.1)))), ?_⟩⟩, trivial⟩⟩, trivial⟩
      · refine W.draw 80 (by rfl) ?_
        cbv
        refine ⟨ndI hA (And.intro rfl (And.intro rfl (by subst hA; show (((List.length (List.take (Int.toNat t8) (List.drop 0 R1))) + 1) + (List.length (List.take ((List.length R1) - (Int.toNat t8)) (List.drop (0 + (Int.toNat t8)) R1)))) = (List.length (rappS (rappS (List.take (Int.toNat t8) (List.drop 0 R1)) (List.length (List.take (Int.toNat t8) (List.drop 0 R1))) [[(AV.int .i64 t7)]]) ((List.length (List.take (Int.toNat t8) (List.drop 0 R1))) + 1) (List.take ((List.length R1) - (Int.toNat t8)) (List.drop (0 + (Int.toNat t8)) R1)))); (try simp only [rappS_end, Nat.zero_add, Int.toNat_natCast]); exact ((h.2 c0).2 c1).2.2.2.2.2.2.2.2.2.2.2.1))), ⟨ndI hA (And.intro rfl (And.intro rfl rfl)), ⟨ndI hA (by subst hA; exact hp.1), ⟨ndI hA (by subst hA; exact (vapp (vapp (vtake (vdrop hp.2.1)) vpur) (vtake (vdrop hp.2.1)))), (by subst hA; show EV 23 [R0, (rappS (rappS (List.take (Int.toNat t8) (List.drop 0 R1)) (List.length (List.take (Int.toNat t8) (List.drop 0 R1))) [[(AV.int .i64 t7)]]) ((List.length (List.take (Int.toNat t8) (List.drop 0 R1))) + 1) (List.take ((List.length R1) - (Int.toNat t8)) (List.drop (0 + (Int.toNat t8)) R1)))] [(Lf.i t10), (Lf.i t11), (Lf.r t21), (Lf.i t22), (Lf.i (IntKind.wrap .i64 (t23 + (1 : Int))))]; (try simp only [rappS_end, Nat.zero_add, Int.toNat_natCast]); exact ((h.2 c0).2 c1).2.2.2.2.2.2.2.2.2.2.2.2)⟩⟩⟩⟩

end
set_option maxHeartbeats 0 in
/-- To enter. -/
theorem E33a {Q : Nat → Rs → List Lf → Prop} {R0 : List (List AV)} (h : pursS R0 = true → ∀ EV : Nat → Rs → List Lf → Prop, V33a EV Q →
    EV 9 [R0, []] [(Lf.i (((List.length R0) : Nat) : Int)), (Lf.i (0 : Int))]) :
    EC Try.prog G33a [R0] [] Q := by
  obtain ⟨A, hA⟩ : ∃ A, A = arS := ⟨_, rfl⟩
  refine Inst.enter (I := I33a) hA mixed F33_at sg L33a 80 rfl fun CE CK Dn EV RR W hp => ?_
  have h := h hp.1 EV (V33a.of W)
  cbv
  refine ⟨ndI hA rfl, ⟨ndI hA (And.intro (by subst hA; show 0 = 0; (first | rfl | simp [rappS_end] | (simp only [rappS_end, List.length_append, List.length_set, List.length_cons, List.length_nil]; omega))) (And.intro rfl (by subst hA; show 0 = 0; (first | rfl | simp [rappS_end] | (simp only [rappS_end, List.length_append, List.length_set, List.length_cons, List.length_nil]; omega))))), ⟨ndI hA (And.intro rfl (And.intro rfl rfl)), ⟨ndI hA (by subst hA; exact hp.1), ⟨ndI hA (by subst hA; exact vpur), (by subst hA; exact h)⟩⟩⟩⟩⟩

-- 30: signalbox/signalboxref50.Gaps DRAWN
section
structure V30 (EV Q : Nat → Rs → List Lf → Prop) : Prop where
  p8 : ∀ {R0 : List (List AV)} {t0 : List (List AV)} {tb0_0 : Int} {tb0_1 : Int}, (pursS R0 = true → 
    EV 13 [[], R0] [(Lf.r t0), (Lf.i (0 : Int)), (Lf.i tb0_0), (Lf.i tb0_1)]) →
    EV 8 [R0] [.r t0, .i tb0_0, .i tb0_1]
  p13 : ∀ {R0 : List (List AV)} {R1 : List (List AV)} {t0 : List (List AV)} {t10 : Int} {tb1_0 : Int} {tb1_1 : Int}, (pursS R0 = true → pursS R1 = true → 
    ((IntKind.wrap .i64 (t10 + (1 : Int))) < (((List.length R1) : Nat) : Int) →
      ((0 : Int) ≤ t10) ∧
      (t10 < (((List.length R1) : Nat) : Int)) ∧
      (R1[(Int.toNat t10)]? = some [(AV.int .i64 (cIS R1 (Int.toNat t10) 0))]) ∧
      ((cIS R1 (Int.toNat t10) 0) ≥ tb1_0 →
        ((0 : Int) ≤ t10) ∧
        (t10 < (((List.length R1) : Nat) : Int)) ∧
        (R1[(Int.toNat t10)]? = some [(AV.int .i64 (cIS R1 (Int.toNat t10) 0))]) ∧
        ((cIS R1 (Int.toNat t10) 0) < tb1_1 →
          ((0 : Int) ≤ t10) ∧
          (t10 < (((List.length R1) : Nat) : Int)) ∧
          (R1[(Int.toNat t10)]? = some [(AV.int .i64 (cIS R1 (Int.toNat t10) 0))]) ∧
          (EC Try.prog G34 [] [(Lf.r t0), (Lf.i (cIS R1 (Int.toNat t10) 0))] (fun x rs vs => (x = 0 ∧ ∃ (y3_0 : Int), rs = [] ∧ vs = [.i y3_0] ∧
            ((y3_0 = (0 : Int) →
                ((0 : Int) ≤ t10) ∧
                (t10 < (((List.length R1) : Nat) : Int)) ∧
                (R1[(Int.toNat t10)]? = some [(AV.int .i64 (cIS R1 (Int.toNat t10) 0))]) ∧
                ((0 : Int) ≤ (IntKind.wrap .i64 (t10 + (1 : Int)))) ∧
                ((IntKind.wrap .i64 (t10 + (1 : Int))) < (((List.length R1) : Nat) : Int)) ∧
                (R1[(Int.toNat (IntKind.wrap .i64 (t10 + (1 : Int))))]? = some [(AV.int .i64 (cIS R1 (Int.toNat (IntKind.wrap .i64 (t10 + (1 : Int)))) 0))]) ∧
                (EC Try.prog G49a [R0] [(Lf.i (cIS R1 (Int.toNat t10) 0)), (Lf.i (cIS R1 (Int.toNat (IntKind.wrap .i64 (t10 + (1 : Int)))) 0))] (fun x rs vs => (x = 0 ∧ ∃ (Y5_0 : List (List AV)) (Y5_1 : List (List AV)), rs = [Y5_0, Y5_1] ∧ vs = [] ∧
                  (EV 13 [Y5_1, R1] [(Lf.r t0), (Lf.i (IntKind.wrap .i64 (t10 + (1 : Int)))), (Lf.i tb1_0), (Lf.i tb1_1)]))))) ∧
              (y3_0 ≠ (0 : Int) →
                EV 13 [R0, R1] [(Lf.r t0), (Lf.i (IntKind.wrap .i64 (t10 + (1 : Int)))), (Lf.i tb1_0), (Lf.i tb1_1)])))))) ∧
        ((cIS R1 (Int.toNat t10) 0) ≥ tb1_1 →
          EV 13 [R0, R1] [(Lf.r t0), (Lf.i (IntKind.wrap .i64 (t10 + (1 : Int)))), (Lf.i tb1_0), (Lf.i tb1_1)])) ∧
      ((cIS R1 (Int.toNat t10) 0) < tb1_0 →
        EV 13 [R0, R1] [(Lf.r t0), (Lf.i (IntKind.wrap .i64 (t10 + (1 : Int)))), (Lf.i tb1_0), (Lf.i tb1_1)])) ∧
    ((IntKind.wrap .i64 (t10 + (1 : Int))) ≥ (((List.length R1) : Nat) : Int) →
      Q 0 [R0] [])) →
    EV 13 [R0, R1] [.r t0, .i t10, .i tb1_0, .i tb1_1]

set_option maxHeartbeats 0 in
theorem V30.of {Q : Nat → Rs → List Lf → Prop} {A : Ar} {CE : Nat → Rs → List Lf → (Nat → Rs → List Lf → Prop) → Prop} {CK : Nat → Rs → List Lf → Cont → Prop} {Dn : Nat → List Bool → List AItem → Nat → List Bool → List AV → List ABlk → Prop} {EV RR : Nat → Rs → List Lf → Prop} (W : Wk Try.prog Try.f30 I30 L30 Q A sg CE CK Dn EV RR) : V30 EV Q := by
  have hA := W.hA
  refine ⟨?_, ?_⟩
  · intro R0 t0 tb0_0 tb0_1 h
    refine W.step 80 fun hp => ?_
    have h := h hp.1
    cbv
    refine ⟨ndI hA (And.intro (by subst hA; show 0 = 0; (first | rfl | simp [rappS_end] | (simp only [rappS_end, List.length_append, List.length_set, List.length_cons, List.length_nil]; omega))) (And.intro rfl (by subst hA; show 0 = 0; (first | rfl | simp [rappS_end] | (simp only [rappS_end, List.length_append, List.length_set, List.length_cons, List.length_nil]; omega))))), ⟨ndI hA (And.intro rfl (And.intro rfl rfl)), ⟨ndI hA (by subst hA; exact vpur), ⟨ndI hA (by subst hA; exact hp.1), (by subst hA; exact h)⟩⟩⟩⟩
  · intro R0 R1 t0 t10 tb1_0 tb1_1 h
    refine W.step 80 fun hp => ?_
    have h := h hp.1 hp.2.1
    cbv
    refine ⟨ndI hA rfl, ⟨imI hA fun e0 => have c0 : (IntKind.wrap .i64 (t10 + (1 : Int))) < (((List.length R1) : Nat) : Int) := (by have q := (cmpE (op := .lss) hA e0); subst hA; exact q); ⟨ndI hA (And.intro (by subst hA; exact (h.1 c0).1) (And.intro (by subst hA; exact (h.1 c0).2.1) rfl)), ⟨ndI hA (And.intro rfl (by subst hA; show R1[(0 + (Int.toNat t10))]? = some [(AV.int .i64 (cIS R1 (0 + (Int.toNat t10)) 0))]; (try simp only [rappS_end, Nat.zero_add, Int.toNat_natCast]); exact (h.1 c0).2.2.1)), ⟨fun e1 => have c1 : (cIS R1 (Int.toNat t10) 0) ≥ tb1_0 := (by have q := (cmpE (op := .geq) hA e1); subst hA; have q : (cIS R1 (0 + (Int.toNat t10)) 0) ≥ tb1_0 := q; simpa only [rappS_end, Nat.zero_add, Int.toNat_natCast] using q); ?_, fun e1 => have c1 : (cIS R1 (Int.toNat t10) 0) < tb1_0 := (by have q := (cmpE (op := .geq) hA e1); subst hA; have q : (cIS R1 (0 + (Int.toNat t10)) 0) < tb1_0 := q; simpa only [rappS_end, Nat.zero_add, Int.toNat_natCast] using q); ?_⟩⟩⟩, imI hA fun e0 => have c0 : (IntKind.wrap .i64 (t10 + (1 : Int))) ≥ (((List.length R1) : Nat) : Int) := (by have q := (cmpE (op := .lss) hA e0); subst hA; exact q); ⟨ndI hA (And.intro rfl (And.intro rfl rfl)), ⟨ndI hA (by subst hA; exact hp.1), (by rw [W.rr]; exact (by subst hA; exact (h.2 c0)))⟩⟩⟩⟩
    · refine W.draw 80 (by rfl) ?_
      cbv
      refine ⟨ndI hA (And.intro (by subst hA; exact ((h.1 c0).2.2.2.1 c1).1) (And.intro (by subst hA; exact ((h.1 c0).2.2.2.1 c1).2.1) rfl)), ⟨ndI hA (And.intro rfl (by subst hA; show R1[(0 + (Int.toNat t10))]? = some [(AV.int .i64 (cIS R1 (0 + (Int.toNat t10)) 0))]; (try simp only [rappS_end, Nat.zero_add, Int.toNat_natCast]); exact ((h.1 c0).2.2.2.1 c1).2.2.1)), ⟨fun e2 => have c2 : (cIS R1 (Int.toNat t10) 0) < tb1_1 := (by have q := (cmpE (op := .lss) hA e2); subst hA; have q : (cIS R1 (0 + (Int.toNat t10)) 0) < tb1_1 := q; simpa only [rappS_end, Nat.zero_add, Int.toNat_natCast] using q); ?_, fun e2 => have c2 : (cIS R1 (Int.toNat t10) 0) ≥ tb1_1 := (by have q := (cmpE (op := .lss) hA e2); subst hA; have q : (cIS R1 (0 + (Int.toNat t10)) 0) ≥ tb1_1 := q; simpa only [rappS_end, Nat.zero_add, Int.toNat_natCast] using q); ?_⟩⟩⟩
      · refine W.draw 80 (by rfl) ?_
        cbv
        refine ⟨ndI hA (And.intro (by subst hA; exact (((h.1 c0).2.2.2.1 c1).2.2.2.1 c2).1) (And.intro (by subst hA; exact (((h.1 c0).2.2.2.1 c1).2.2.2.1 c2).2.1) rfl)), ⟨ndI hA (And.intro rfl (by subst hA; show R1[(0 + (Int.toNat t10))]? = some [(AV.int .i64 (cIS R1 (0 + (Int.toNat t10)) 0))]; (try simp only [rappS_end, Nat.zero_add, Int.toNat_natCast]); exact (((h.1 c0).2.2.2.1 c1).2.2.2.1 c2).2.2.1)), ⟨?_, trivial⟩⟩⟩
        · refine W.callD (by rfl) (((h.1 c0).2.2.2.1 c1).2.2.2.1 c2).2.2.2 (by subst hA; show [] = []; (try simp only [rappS_end, Nat.zero_add, Int.toNat_natCast])) (by subst hA; show [(Lf.r t0), (Lf.i (cIS R1 (0 + (Int.toNat t10)) 0))] = [(Lf.r t0), (Lf.i (cIS R1 (Int.toNat t10) 0))]; (try simp only [rappS_end, Nat.zero_add, Int.toNat_natCast])) ?_
          rintro x rs vs hp3 hq3
          rcases hq3 with ⟨rfl, y3_0, rfl, rfl, k3⟩
          · cbv
            refine ?_
            · refine W.draw 80 (by rfl) ?_
              cbv
              refine ⟨imI hA fun e4 => have c4 : y3_0 = (0 : Int) := (by have q := (cmpE (op := .eql) hA e4); subst hA; exact q); ⟨ndI hA (And.intro (by subst hA; exact (k3.1 c4).1) (And.intro (by subst hA; exact (k3.1 c4).2.1) rfl)), ⟨ndI hA (And.intro rfl (by subst hA; show R1[(0 + (Int.toNat t10))]? = some [(AV.int .i64 (cIS R1 (0 + (Int.toNat t10)) 0))]; (try simp only [rappS_end, Nat.zero_add, Int.toNat_natCast]); exact (k3.1 c4).2.2.1)), ⟨ndI hA (And.intro (by subst hA; exact (k3.1 c4).2.2.2.1) (And.intro (by subst hA; exact (k3.1 c4).2.2.2.2.1) rfl)), ⟨ndI hA (And.intro rfl (by subst hA; show R1[(0 + (Int.toNat (IntKind.wrap .i64 (t10 + (1 : Int)))))]? = some [(AV.int .i64 (cIS R1 (0 + (Int.toNat (IntKind.wrap .i64 (t10 + (1 : Int))))) 0))]; (try simp only [rappS_end, Nat.zero_add, Int.toNat_natCast]); exact (k3.1 c4).2.2.2.2.2.1)), ⟨⟨ndI hA (And.intro rfl (And.intro rfl rfl)), ⟨ndI hA (by subst hA; exact hp.1), ?_⟩⟩, trivial⟩⟩⟩⟩⟩, imI hA fun e4 => have c4 : y3_0 ≠ (0 : Int) := (by have q := (cmpE (op := .eql) hA e4); subst hA; exact q); ⟨ndI hA (And.intro rfl (And.intro rfl rfl)), ⟨ndI hA (And.intro rfl (And.intro rfl rfl)), ⟨ndI hA (by subst hA; exact hp.1), ⟨ndI hA (by subst hA; exact hp.2.1), (by subst hA; exact (k3.2 c4))⟩⟩⟩⟩⟩
              · refine W.callD (by rfl) (k3.1 c4).2.2.2.2.2.2 (by subst hA; show [R0] = [R0]; (try simp only [rappS_end, Nat.zero_add, Int.toNat_natCast])) (by subst hA; show [(Lf.i (cIS R1 (0 + (Int.toNat t10)) 0)), (Lf.i (cIS R1 (0 + (Int.toNat (IntKind.wrap .i64 (t10 + (1 : Int))))) 0))] = [(Lf.i (cIS R1 (Int.toNat t10) 0)), (Lf.i (cIS R1 (Int.toNat (IntKind.wrap .i64 (t10 + (1 : Int)))) 0))]; (try simp only [rappS_end, Nat.zero_add, Int.toNat_natCast])) ?_
                rintro x rs vs hp5 hq5
                rcases hq5 with ⟨rfl, Y5_0, Y5_1, rfl, rfl, k5⟩
                · cbv
                  refine ?_
                  · refine W.draw 80 (by rfl) ?_
                    cbv
                    refine ⟨ndI hA (And.intro rfl (And.intro rfl rfl)), ⟨ndI hA (And.intro rfl (And.intro rfl rfl)), ⟨ndI hA (by subst hA; exact hp5.2.1), ⟨ndI hA (by subst hA; exact hp.2.1), (by subst hA; exact k5)⟩⟩⟩⟩
      · refine W.draw 80 (by rfl) ?_
        cbv
        refine ⟨⟨ndI hA (And.intro rfl (And.intro rfl rfl)), ⟨ndI hA (And.intro rfl (And.intro rfl rfl)), ⟨ndI hA (by subst hA; exact hp.1), ⟨ndI hA (by subst hA; exact hp.2.1), (by subst hA; exact (((h.1 c0).2.2.2.1 c1).2.2.2.2 c2))⟩⟩⟩⟩, trivial⟩
    · refine W.draw 80 (by rfl) ?_
      cbv
      refine ⟨⟨ndI hA (And.intro rfl (And.intro rfl rfl)), ⟨ndI hA (And.intro rfl (And.intro rfl rfl)), ⟨ndI hA (by subst hA; exact hp.1), ⟨ndI hA (by subst hA; exact hp.2.1), (by subst hA; exact ((h.1 c0).2.2.2.2 c1))⟩⟩⟩⟩, trivial⟩

end
set_option maxHeartbeats 0 in
/-- To enter. -/
theorem E30 {Q : Nat → Rs → List Lf → Prop} {a0 : List (List AV)} {a1 : Int} {a2 : Int} (h : ∀ EV : Nat → Rs → List Lf → Prop, V30 EV Q →
    EC Try.prog G52 [] [(Lf.i a1)] (fun x rs vs => (x = 0 ∧ ∃ (y0_0 : Int), rs = [] ∧ vs = [.i y0_0] ∧
      (EC Try.prog G52 [] [(Lf.i a2)] (fun x rs vs => (x = 0 ∧ ∃ (y1_0 : Int), rs = [] ∧ vs = [.i y1_0] ∧
          (((List.length a0) ≤ 140737488355328) ∧
            (((List.length a0) * 16) ≤ 140737488355328) ∧
            (((List.length a0) + 1) ≤ 140737488355328) ∧
            ((((List.length a0) + 1) * 16) ≤ 140737488355328) ∧
            (pursS (a0 ++ [[(AV.int .i64 y0_0), (AV.int .i64 y1_0)]]) = true) ∧
            (EC Try.prog G33a [(a0 ++ [[(AV.int .i64 y0_0), (AV.int .i64 y1_0)]])] [] (fun x rs vs => (x = 0 ∧ ∃ (Y2_0 : List (List AV)) (Y2_1 : List (List AV)), rs = [Y2_0, Y2_1] ∧ vs = [] ∧
              (EV 8 [Y2_1] [(Lf.r a0), (Lf.i y0_0), (Lf.i y1_0)]))))))))))) :
    EC Try.prog G30 [] [.r a0, .i a1, .i a2] Q := by
  obtain ⟨A, hA⟩ : ∃ A, A = arS := ⟨_, rfl⟩
  refine Inst.enter (I := I30) hA mixed F30_at sg L30 80 rfl fun CE CK Dn EV RR W hp => ?_
  have h := h  EV (V30.of W)
  cbv
  refine ?_
  · refine W.call 80 (by rfl) h (by subst hA; rfl) (by subst hA; rfl) ?_
    rintro x rs vs hp0 hq0
    rcases hq0 with ⟨rfl, y0_0, rfl, rfl, k0⟩
    · cbv
      refine ?_
      · refine W.call 80 (by rfl) k0 (by subst hA; rfl) (by subst hA; rfl) ?_
        rintro x rs vs hp1 hq1
        rcases hq1 with ⟨rfl, y1_0, rfl, rfl, k1⟩
        · cbv
          refine ⟨⟨⟨ndI hA (And.intro (by subst hA; exact k1.1) (by subst hA; exact k1.2.1)), ⟨⟨⟨ndI hA (And.intro rfl (And.intro (Nat.le_refl _) (And.intro (by subst hA; exact k1.2.2.1) (by subst hA; exact k1.2.2.2.1)))), ⟨⟨ndI hA (And.intro rfl (And.intro rfl (by subst hA; show ((List.length a0) + 1) = (List.length (rappS a0 (List.length a0) [[(AV.int .i64 y0_0), (AV.int .i64 y1_0)]])); (first | rfl | simp [rappS_end] | (simp only [rappS_end, List.length_append, List.length_set, List.length_cons, List.length_nil]; omega))))), ⟨ndI hA (by subst hA; show pursS (rappS a0 (List.length a0) [[(AV.int .i64 y0_0), (AV.int .i64 y1_0)]]) = true; (try simp only [rappS_end, Nat.zero_add, Int.toNat_natCast]); exact k1.2.2.2.2.1), ?_⟩⟩, trivial⟩⟩, trivial⟩, trivial⟩⟩, ⟨⟨⟨ndI hA (And.intro (by subst hA; exact k1.1) (by subst hA; exact k1.2.1)), ⟨⟨ndI hA (And.intro rfl (And.intro (Nat.le_refl _) (And.intro (by subst hA; exact k1.2.2.1) (by subst hA; exact k1.2.2.2.1)))), ⟨⟨ndI hA (And.intro rfl (And.intro rfl (by subst hA; show ((List.length a0) + 1) = (List.length (rappS a0 (List.length a0) [[(AV.int .i64 y0_0), (AV.int .i64 y1_0)]])); (first | rfl | simp [rappS_end] | (simp only [rappS_end, List.length_append, List.length_set, List.length_cons, List.length_nil]; omega))))), ⟨ndI hA (by subst hA; show pursS (rappS a0 (List.length a0) [[(AV.int .i64 y0_0), (AV.int .i64 y1_0)]]) = true; (try simp only [rappS_end, Nat.zero_add, Int.toNat_natCast]); exact k1.2.2.2.2.1), ?_⟩⟩, trivial⟩⟩, trivial⟩⟩, trivial⟩, trivial⟩⟩, ⟨⟨⟨⟨ndI hA (And.intro (by subst hA; exact k1.1) (by subst hA; exact k1.2.1)), ⟨⟨ndI hA (And.intro rfl (And.intro (Nat.le_refl _) (And.intro (by subst hA; exact k1.2.2.1) (by subst hA; exact k1.2.2.2.1)))), ⟨⟨ndI hA (And.intro rfl (And.intro rfl (by subst hA; show ((List.length a0) + 1) = (List.length (rappS a0 (List.length a0) [[(AV.int .i64 y0_0), (AV.int .i64 y1_0)]])); (first | rfl | simp [rappS_end] | (simp only [rappS_end, List.length_append, List.length_set, List.length_cons, List.length_nil]; omega))))), ⟨ndI hA (by subst hA; show pursS (rappS a0 (List.length a0) [[(AV.int .i64 y0_0), (AV.int .i64 y1_0)]]) = true; (try simp only [rappS_end, Nat.zero_add, Int.toNat_natCast]); exact k1.2.2.2.2.1), ?_⟩⟩, trivial⟩⟩, trivial⟩⟩, trivial⟩, trivial⟩, trivial⟩⟩
          · refine W.callD (by rfl) k1.2.2.2.2.2 (by subst hA; show [(rappS a0 (List.length a0) [[(AV.int .i64 y0_0), (AV.int .i64 y1_0)]])] = [(a0 ++ [[(AV.int .i64 y0_0), (AV.int .i64 y1_0)]])]; (try simp only [rappS_end, Nat.zero_add, Int.toNat_natCast])) (by subst hA; show [] = []; (try simp only [rappS_end, Nat.zero_add, Int.toNat_natCast])) ?_
            rintro x rs vs hp2 hq2
            rcases hq2 with ⟨rfl, Y2_0, Y2_1, rfl, rfl, k2⟩
            · cbv
              refine ?_
              · refine W.draw 80 (by rfl) ?_
                cbv
                refine ⟨ndI hA (And.intro rfl (And.intro rfl rfl)), ⟨ndI hA (by subst hA; exact hp2.2.1), (by subst hA; exact k2)⟩⟩
          · refine W.callD (by rfl) k1.2.2.2.2.2 (by subst hA; show [(rappS a0 (List.length a0) [[(AV.int .i64 y0_0), (AV.int .i64 y1_0)]])] = [(a0 ++ [[(AV.int .i64 y0_0), (AV.int .i64 y1_0)]])]; (try simp only [rappS_end, Nat.zero_add, Int.toNat_natCast])) (by subst hA; show [] = []; (try simp only [rappS_end, Nat.zero_add, Int.toNat_natCast])) ?_
            rintro x rs vs hp2 hq2
            rcases hq2 with ⟨rfl, Y2_0, Y2_1, rfl, rfl, k2⟩
            · cbv
              refine ?_
              · refine W.draw 80 (by rfl) ?_
                cbv
                refine ⟨ndI hA (And.intro rfl (And.intro rfl rfl)), ⟨ndI hA (by subst hA; exact hp2.2.1), (by subst hA; exact k2)⟩⟩
          · refine W.callD (by rfl) k1.2.2.2.2.2 (by subst hA; show [(rappS a0 (List.length a0) [[(AV.int .i64 y0_0), (AV.int .i64 y1_0)]])] = [(a0 ++ [[(AV.int .i64 y0_0), (AV.int .i64 y1_0)]])]; (try simp only [rappS_end, Nat.zero_add, Int.toNat_natCast])) (by subst hA; show [] = []; (try simp only [rappS_end, Nat.zero_add, Int.toNat_natCast])) ?_
            rintro x rs vs hp2 hq2
            rcases hq2 with ⟨rfl, Y2_0, Y2_1, rfl, rfl, k2⟩
            · cbv
              refine ?_
              · refine W.draw 80 (by rfl) ?_
                cbv
                refine ⟨ndI hA (And.intro rfl (And.intro rfl rfl)), ⟨ndI hA (by subst hA; exact hp2.2.1), (by subst hA; exact k2)⟩⟩

-- 32: signalbox/signalboxref50.Meet DRAWN
section
structure V32 (EV Q : Nat → Rs → List Lf → Prop) : Prop where
  p11 : ∀ {R0 : List (List AV)} {R1 : List (List AV)} {t0 : List (List AV)} {t1 : List (List AV)} {t7 : Int}, (pursS R0 = true → pursS R1 = true → 
    ((IntKind.wrap .i64 (t7 + (1 : Int))) < (((List.length R1) : Nat) : Int) →
      ((0 : Int) ≤ t7) ∧
      (t7 < (((List.length R1) : Nat) : Int)) ∧
      (R1[(Int.toNat t7)]? = some [(AV.int .i64 (cIS R1 (Int.toNat t7) 0))]) ∧
      (EC Try.prog G34 [] [(Lf.r t0), (Lf.i (cIS R1 (Int.toNat t7) 0))] (fun x rs vs => (x = 0 ∧ ∃ (y1_0 : Int), rs = [] ∧ vs = [.i y1_0] ∧
        ((y1_0 > (0 : Int) →
            ((0 : Int) ≤ t7) ∧
            (t7 < (((List.length R1) : Nat) : Int)) ∧
            (R1[(Int.toNat t7)]? = some [(AV.int .i64 (cIS R1 (Int.toNat t7) 0))]) ∧
            (EC Try.prog G34 [] [(Lf.r t1), (Lf.i (cIS R1 (Int.toNat t7) 0))] (fun x rs vs => (x = 0 ∧ ∃ (y3_0 : Int), rs = [] ∧ vs = [.i y3_0] ∧
              ((y3_0 > (0 : Int) →
                  ((0 : Int) ≤ t7) ∧
                  (t7 < (((List.length R1) : Nat) : Int)) ∧
                  (R1[(Int.toNat t7)]? = some [(AV.int .i64 (cIS R1 (Int.toNat t7) 0))]) ∧
                  ((0 : Int) ≤ (IntKind.wrap .i64 (t7 + (1 : Int)))) ∧
                  ((IntKind.wrap .i64 (t7 + (1 : Int))) < (((List.length R1) : Nat) : Int)) ∧
                  (R1[(Int.toNat (IntKind.wrap .i64 (t7 + (1 : Int))))]? = some [(AV.int .i64 (cIS R1 (Int.toNat (IntKind.wrap .i64 (t7 + (1 : Int)))) 0))]) ∧
                  (EC Try.prog G49a [R0] [(Lf.i (cIS R1 (Int.toNat t7) 0)), (Lf.i (cIS R1 (Int.toNat (IntKind.wrap .i64 (t7 + (1 : Int)))) 0))] (fun x rs vs => (x = 0 ∧ ∃ (Y5_0 : List (List AV)) (Y5_1 : List (List AV)), rs = [Y5_0, Y5_1] ∧ vs = [] ∧
                    (EV 11 [Y5_1, R1] [(Lf.r t0), (Lf.r t1), (Lf.i (IntKind.wrap .i64 (t7 + (1 : Int))))]))))) ∧
                (y3_0 ≤ (0 : Int) →
                  EV 11 [R0, R1] [(Lf.r t0), (Lf.r t1), (Lf.i (IntKind.wrap .i64 (t7 + (1 : Int))))])))))) ∧
          (y1_0 ≤ (0 : Int) →
            EV 11 [R0, R1] [(Lf.r t0), (Lf.r t1), (Lf.i (IntKind.wrap .i64 (t7 + (1 : Int))))])))))) ∧
    ((IntKind.wrap .i64 (t7 + (1 : Int))) ≥ (((List.length R1) : Nat) : Int) →
      Q 0 [R0] [])) →
    EV 11 [R0, R1] [.r t0, .r t1, .i t7]

set_option maxHeartbeats 0 in
theorem V32.of {Q : Nat → Rs → List Lf → Prop} {A : Ar} {CE : Nat → Rs → List Lf → (Nat → Rs → List Lf → Prop) → Prop} {CK : Nat → Rs → List Lf → Cont → Prop} {Dn : Nat → List Bool → List AItem → Nat → List Bool → List AV → List ABlk → Prop} {EV RR : Nat → Rs → List Lf → Prop} (W : Wk Try.prog Try.f32 I32 L32 Q A sg CE CK Dn EV RR) : V32 EV Q := by
  have hA := W.hA
  refine ⟨?_⟩
  · intro R0 R1 t0 t1 t7 h
    refine W.step 80 fun hp => ?_
    have h := h hp.1 hp.2.1
    cbv
    refine ⟨ndI hA rfl, ⟨imI hA fun e0 => have c0 : (IntKind.wrap .i64 (t7 + (1 : Int))) < (((List.length R1) : Nat) : Int) := (by have q := (cmpE (op := .lss) hA e0); subst hA; exact q); ⟨ndI hA (And.intro (by subst hA; exact (h.1 c0).1) (And.intro (by subst hA; exact (h.1 c0).2.1) rfl)), ⟨ndI hA (And.intro rfl (by subst hA; show R1[(0 + (Int.toNat t7))]? = some [(AV.int .i64 (cIS R1 (0 + (Int.toNat t7)) 0))]; (try simp only [rappS_end, Nat.zero_add, Int.toNat_natCast]); exact (h.1 c0).2.2.1)), ?_⟩⟩, imI hA fun e0 => have c0 : (IntKind.wrap .i64 (t7 + (1 : Int))) ≥ (((List.length R1) : Nat) : Int) := (by have q := (cmpE (op := .lss) hA e0); subst hA; exact q); ⟨ndI hA (And.intro rfl (And.intro rfl rfl)), ⟨ndI hA (by subst hA; exact hp.1), (by rw [W.rr]; exact (by subst hA; exact (h.2 c0)))⟩⟩⟩⟩
    · refine W.call 80 (by rfl) (h.1 c0).2.2.2 (by subst hA; show [] = []; (try simp only [rappS_end, Nat.zero_add, Int.toNat_natCast])) (by subst hA; show [(Lf.r t0), (Lf.i (cIS R1 (0 + (Int.toNat t7)) 0))] = [(Lf.r t0), (Lf.i (cIS R1 (Int.toNat t7) 0))]; (try simp only [rappS_end, Nat.zero_add, Int.toNat_natCast])) ?_
      rintro x rs vs hp1 hq1
      rcases hq1 with ⟨rfl, y1_0, rfl, rfl, k1⟩
      · cbv
        refine ⟨imI hA fun e2 => have c2 : y1_0 > (0 : Int) := (by have q := (cmpE (op := .gtr) hA e2); subst hA; exact q); ⟨ndI hA (And.intro (by subst hA; exact (k1.1 c2).1) (And.intro (by subst hA; exact (k1.1 c2).2.1) rfl)), ⟨ndI hA (And.intro rfl (by subst hA; show R1[(0 + (Int.toNat t7))]? = some [(AV.int .i64 (cIS R1 (0 + (Int.toNat t7)) 0))]; (try simp only [rappS_end, Nat.zero_add, Int.toNat_natCast]); exact (k1.1 c2).2.2.1)), ?_⟩⟩, imI hA fun e2 => have c2 : y1_0 ≤ (0 : Int) := (by have q := (cmpE (op := .gtr) hA e2); subst hA; exact q); ⟨ndI hA (And.intro rfl (And.intro rfl rfl)), ⟨ndI hA (And.intro rfl (And.intro rfl rfl)), ⟨ndI hA (by subst hA; exact hp.1), ⟨ndI hA (by subst hA; exact hp.2.1), (by subst hA; exact (k1.2 c2))⟩⟩⟩⟩⟩
        · refine W.call 80 (by rfl) (k1.1 c2).2.2.2 (by subst hA; show [] = []; (try simp only [rappS_end, Nat.zero_add, Int.toNat_natCast])) (by subst hA; show [(Lf.r t1), (Lf.i (cIS R1 (0 + (Int.toNat t7)) 0))] = [(Lf.r t1), (Lf.i (cIS R1 (Int.toNat t7) 0))]; (try simp only [rappS_end, Nat.zero_add, Int.toNat_natCast])) ?_
          rintro x rs vs hp3 hq3
          rcases hq3 with ⟨rfl, y3_0, rfl, rfl, k3⟩
          · cbv
            refine ⟨imI hA fun e4 => have c4 : y3_0 > (0 : Int) := (by have q := (cmpE (op := .gtr) hA e4); subst hA; exact q); ⟨ndI hA (And.intro (by subst hA; exact (k3.1 c4).1) (And.intro (by subst hA; exact (k3.1 c4).2.1) rfl)), ⟨ndI hA (And.intro rfl (by subst hA; show R1[(0 + (Int.toNat t7))]? = some [(AV.int .i64 (cIS R1 (0 + (Int.toNat t7)) 0))]; (try simp only [rappS_end, Nat.zero_add, Int.toNat_natCast]); exact (k3.1 c4).2.2.1)), ⟨ndI hA (And.intro (by subst hA; exact (k3.1 c4).2.2.2.1) (And.intro (by subst hA; exact (k3.1 c4).2.2.2.2.1) rfl)), ⟨ndI hA (And.intro rfl (by subst hA; show R1[(0 + (Int.toNat (IntKind.wrap .i64 (t7 + (1 : Int)))))]? = some [(AV.int .i64 (cIS R1 (0 + (Int.toNat (IntKind.wrap .i64 (t7 + (1 : Int))))) 0))]; (try simp only [rappS_end, Nat.zero_add, Int.toNat_natCast]); exact (k3.1 c4).2.2.2.2.2.1)), ⟨⟨ndI hA (And.intro rfl (And.intro rfl rfl)), ⟨ndI hA (by subst hA; exact hp.1), ?_⟩⟩, trivial⟩⟩⟩⟩⟩, imI hA fun e4 => have c4 : y3_0 ≤ (0 : Int) := (by have q := (cmpE (op := .gtr) hA e4); subst hA; exact q); ⟨ndI hA (And.intro rfl (And.intro rfl rfl)), ⟨ndI hA (And.intro rfl (And.intro rfl rfl)), ⟨ndI hA (by subst hA; exact hp.1), ⟨ndI hA (by subst hA; exact hp.2.1), (by subst hA; exact (k3.2 c4))⟩⟩⟩⟩⟩
            · refine W.callD (by rfl) (k3.1 c4).2.2.2.2.2.2 (by subst hA; show [R0] = [R0]; (try simp only [rappS_end, Nat.zero_add, Int.toNat_natCast])) (by subst hA; show [(Lf.i (cIS R1 (0 + (Int.toNat t7)) 0)), (Lf.i (cIS R1 (0 + (Int.toNat (IntKind.wrap .i64 (t7 + (1 : Int))))) 0))] = [(Lf.i (cIS R1 (Int.toNat t7) 0)), (Lf.i (cIS R1 (Int.toNat (IntKind.wrap .i64 (t7 + (1 : Int)))) 0))]; (try simp only [rappS_end, Nat.zero_add, Int.toNat_natCast])) ?_
              rintro x rs vs hp5 hq5
              rcases hq5 with ⟨rfl, Y5_0, Y5_1, rfl, rfl, k5⟩
              · cbv
                refine ?_
                · refine W.draw 80 (by rfl) ?_
                  cbv
                  refine ⟨ndI hA (And.intro rfl (And.intro rfl rfl)), ⟨ndI hA (And.intro rfl (And.intro rfl rfl)), ⟨ndI hA (by subst hA; exact hp5.2.1), ⟨ndI hA (by subst hA; exact hp.2.1), (by subst hA; exact k5)⟩⟩⟩⟩

end
set_option maxHeartbeats 0 in
/-- To enter. -/
theorem E32 {Q : Nat → Rs → List Lf → Prop} {a0 : List (List AV)} {a1 : List (List AV)} (h : ∀ EV : Nat → Rs → List Lf → Prop, V32 EV Q →
    ((List.length a0) ≤ 140737488355328) ∧
    (((List.length a0) * 16) ≤ 140737488355328) ∧
    (((List.length a0) + (List.length a1)) ≤ 140737488355328) ∧
    ((((List.length a0) + (List.length a1)) * 16) ≤ 140737488355328) ∧
    (pursS (a0 ++ a1) = true) ∧
    (EC Try.prog G33 [] [(Lf.r (List.take ((List.length a0) + (List.length a1)) (List.drop 0 (a0 ++ a1))))] (fun x rs vs => (x = 0 ∧ ∃ (Y0_0 : List (List AV)), rs = [Y0_0] ∧ vs = [] ∧
      (EV 11 [[], Y0_0] [(Lf.r a0), (Lf.r a1), (Lf.i (0 : Int))]))))) :
    EC Try.prog G32 [] [.r a0, .r a1] Q := by
  obtain ⟨A, hA⟩ : ∃ A, A = arS := ⟨_, rfl⟩
  refine Inst.enter (I := I32) hA mixed F32_at sg L32 80 rfl fun CE CK Dn EV RR W hp => ?_
  have h := h  EV (V32.of W)
  cbv
  refine ⟨ndI hA (And.intro (by subst hA; exact h.1) (by subst hA; exact h.2.1)), ⟨ndI hA (And.intro rfl (And.intro (Nat.le_refl _) (And.intro (by subst hA; exact h.2.2.1) (by subst hA; exact h.2.2.2.1)))), ⟨ndI hA (And.intro (And.intro (by subst hA; show pursS (rappS a0 (List.length a0) a1) = true; (try simp only [rappS_end, Nat.zero_add, Int.toNat_natCast]); exact h.2.2.2.2.1) trivial) (And.intro rfl trivial)), ?_⟩⟩⟩
  · refine W.call 80 (by rfl) h.2.2.2.2.2 (by subst hA; show [] = []; (try simp only [rappS_end, Nat.zero_add, Int.toNat_natCast])) (by subst hA; show [(Lf.r (List.take ((List.length a0) + (List.length a1)) (List.drop 0 (rappS a0 (List.length a0) a1))))] = [(Lf.r (List.take ((List.length a0) + (List.length a1)) (List.drop 0 (a0 ++ a1))))]; (try simp only [rappS_end, Nat.zero_add, Int.toNat_natCast])) ?_
    rintro x rs vs hp0 hq0
    rcases hq0 with ⟨rfl, Y0_0, rfl, rfl, k0⟩
    · cbv
      refine ⟨ndI hA (And.intro (by subst hA; show 0 = 0; (first | rfl | simp [rappS_end] | (simp only [rappS_end, List.length_append, List.length_set, List.length_cons, List.length_nil]; omega))) (And.intro rfl (by subst hA; show 0 = 0; (first | rfl | simp [rappS_end] | (simp only [rappS_end, List.length_append, List.length_set, List.length_cons, List.length_nil]; omega))))), ⟨ndI hA (And.intro rfl (And.intro rfl rfl)), ⟨ndI hA (by subst hA; exact vpur), ⟨ndI hA (by subst hA; exact hp0.1), (by subst hA; exact k0)⟩⟩⟩⟩

-- 8: signalbox/signalboxlaw50.SpansSets
section
structure V8 (EV Q : Nat → Rs → List Lf → Prop) : Prop where
  none : True

end
set_option maxHeartbeats 0 in
/-- To enter. -/
theorem E8 {Q : Nat → Rs → List Lf → Prop} {a0 : List (List AV)} {a1 : List (List AV)} {a2 : Int} {a3 : Int} (h : ∀ EV : Nat → Rs → List Lf → Prop, V8 EV Q →
    EC Try.prog G24 [] [] (fun x rs vs => (x = 0 ∧ ∃ (y0_0 : Bool), rs = [] ∧ vs = [.b y0_0] ∧
      ((y0_0 = false →
          Q 0 [] [(Lf.b false)]) ∧
        (y0_0 = true →
          ((((List.length a0) : Nat) : Int) ≤ (20 : Int) →
            ((((List.length a1) : Nat) : Int) > (20 : Int) →
              Q 0 [] [(Lf.b true)]) ∧
            ((((List.length a1) : Nat) : Int) ≤ (20 : Int) →
              EC Try.prog G26 [] [(Lf.r a0)] (fun x rs vs => (x = 0 ∧ ∃ (Y4_0 : List (List AV)), rs = [Y4_0] ∧ vs = [] ∧
                (EC Try.prog G28 [] [(Lf.r a0)] (fun x rs vs => (x = 0 ∧ ∃ (Y5_0 : List (List AV)), rs = [Y5_0] ∧ vs = [] ∧
                    (EC Try.prog G27 [] [(Lf.r (List.take (List.length Y5_0) (List.drop 0 Y5_0)))] (fun x rs vs => (x = 0 ∧ ∃ (Y6_0 : List (List AV)), rs = [Y6_0] ∧ vs = [] ∧
                        (EC Try.prog G25 [] [(Lf.r (List.take (List.length Y4_0) (List.drop 0 Y4_0))), (Lf.r (List.take (List.length Y6_0) (List.drop 0 Y6_0)))] (fun x rs vs => (x = 0 ∧ ∃ (y7_0 : Bool), rs = [] ∧ vs = [.b y7_0] ∧
                            ((y7_0 = true →
                                EC Try.prog G29 [] [(Lf.r a0), (Lf.i a2), (Lf.i a3)] (fun x rs vs => (x = 0 ∧ ∃ (Y9_0 : List (List AV)), rs = [Y9_0] ∧ vs = [] ∧
                                  (EC Try.prog G28 [] [(Lf.r a0)] (fun x rs vs => (x = 0 ∧ ∃ (Y10_0 : List (List AV)), rs = [Y10_0] ∧ vs = [] ∧
                                      (EC Try.prog G30 [] [(Lf.r (List.take (List.length Y10_0) (List.drop 0 Y10_0))), (Lf.i a2), (Lf.i a3)] (fun x rs vs => (x = 0 ∧ ∃ (Y11_0 : List (List AV)), rs = [Y11_0] ∧ vs = [] ∧
                                          (EC Try.prog G25 [] [(Lf.r (List.take (List.length Y9_0) (List.drop 0 Y9_0))), (Lf.r (List.take (List.length Y11_0) (List.drop 0 Y11_0)))] (fun x rs vs => (x = 0 ∧ ∃ (y12_0 : Bool), rs = [] ∧ vs = [.b y12_0] ∧
                                              ((y12_0 = true →
                                                  EC Try.prog G31 [] [(Lf.r a0), (Lf.r a1)] (fun x rs vs => (x = 0 ∧ ∃ (Y14_0 : List (List AV)), rs = [Y14_0] ∧ vs = [] ∧
                                                    (EC Try.prog G28 [] [(Lf.r a0)] (fun x rs vs => (x = 0 ∧ ∃ (Y15_0 : List (List AV)), rs = [Y15_0] ∧ vs = [] ∧
                                                        (EC Try.prog G28 [] [(Lf.r a1)] (fun x rs vs => (x = 0 ∧ ∃ (Y16_0 : List (List AV)), rs = [Y16_0] ∧ vs = [] ∧
                                                            (EC Try.prog G32 [] [(Lf.r (List.take (List.length Y15_0) (List.drop 0 Y15_0))), (Lf.r (List.take (List.length Y16_0) (List.drop 0 Y16_0)))] (fun x rs vs => (x = 0 ∧ ∃ (Y17_0 : List (List AV)), rs = [Y17_0] ∧ vs = [] ∧
                                                                (EC Try.prog G25 [] [(Lf.r (List.take (List.length Y14_0) (List.drop 0 Y14_0))), (Lf.r (List.take (List.length Y17_0) (List.drop 0 Y17_0)))] (fun x rs vs => (x = 0 ∧ ∃ (y18_0 : Bool), rs = [] ∧ vs = [.b y18_0] ∧
                                                                    (Q 0 [] [(Lf.b y18_0)])))))))))))))))) ∧
                                                (y12_0 = false →
                                                  Q 0 [] [(Lf.b false)])))))))))))))) ∧
                              (y7_0 = false →
                                Q 0 [] [(Lf.b false)]))))))))))))))) ∧
          ((((List.length a0) : Nat) : Int) > (20 : Int) →
            Q 0 [] [(Lf.b true)])))))) :
    EC Try.prog G8 [] [.r a0, .r a1, .i a2, .i a3] Q := by
  obtain ⟨A, hA⟩ : ∃ A, A = arS := ⟨_, rfl⟩
  refine Inst.enter (I := I8) hA mixed F8_at sg L8 80 rfl fun CE CK Dn EV RR W hp => ?_
  have h := h  EV ⟨trivial⟩
  cbv
  refine ?_
  · refine W.call 80 (by rfl) h (by subst hA; rfl) (by subst hA; rfl) ?_
    rintro x rs vs hp0 hq0
    rcases hq0 with ⟨rfl, y0_0, rfl, rfl, k0⟩
    · cbv
      refine ⟨imI hA fun e1 => have c1 : y0_0 = false := (by have q := (notE hA e1); subst hA; exact q); (by rw [W.rr]; exact (by subst hA; exact (k0.1 c1))), imI hA fun e1 => have c1 : y0_0 = true := (by have q := (notE hA e1); subst hA; exact q); ⟨imI hA fun e2 => have c2 : (((List.length a0) : Nat) : Int) ≤ (20 : Int) := (by have q := (cmpE (op := .gtr) hA e2); subst hA; exact q); ⟨imI hA fun e3 => have c3 : (((List.length a1) : Nat) : Int) > (20 : Int) := (by have q := (cmpE (op := .gtr) hA e3); subst hA; exact q); (by rw [W.rr]; exact (by subst hA; exact (((k0.2 c1).1 c2).1 c3))), imI hA fun e3 => have c3 : (((List.length a1) : Nat) : Int) ≤ (20 : Int) := (by have q := (cmpE (op := .gtr) hA e3); subst hA; exact q); ?_⟩, imI hA fun e2 => have c2 : (((List.length a0) : Nat) : Int) > (20 : Int) := (by have q := (cmpE (op := .gtr) hA e2); subst hA; exact q); (by rw [W.rr]; exact (by subst hA; exact ((k0.2 c1).2 c2)))⟩⟩
      · refine W.call 80 (by rfl) (((k0.2 c1).1 c2).2 c3) (by subst hA; rfl) (by subst hA; rfl) ?_
        rintro x rs vs hp4 hq4
        rcases hq4 with ⟨rfl, Y4_0, rfl, rfl, k4⟩
        · cbv
          refine ?_
          · refine W.call 80 (by rfl) k4 (by subst hA; rfl) (by subst hA; rfl) ?_
            rintro x rs vs hp5 hq5
            rcases hq5 with ⟨rfl, Y5_0, rfl, rfl, k5⟩
            · cbv
              refine ⟨ndI hA (And.intro (And.intro (by subst hA; exact hp4.1) (And.intro (by subst hA; exact hp5.1) trivial)) (And.intro rfl trivial)), ?_⟩
              · refine W.call 80 (by rfl) k5 (by subst hA; rfl) (by subst hA; rfl) ?_
                rintro x rs vs hp6 hq6
                rcases hq6 with ⟨rfl, Y6_0, rfl, rfl, k6⟩
                · cbv
                  refine ⟨ndI hA (And.intro (And.intro (by subst hA; exact hp4.1) (And.intro (by subst hA; exact hp6.1) trivial)) (And.intro rfl trivial)), ⟨ndI hA (And.intro (And.intro (by subst hA; exact hp6.1) trivial) (And.intro rfl trivial)), ?_⟩⟩
                  · refine W.call 80 (by rfl) k6 (by subst hA; rfl) (by subst hA; rfl) ?_
                    rintro x rs vs hp7 hq7
                    rcases hq7 with ⟨rfl, y7_0, rfl, rfl, k7⟩
                    · cbv
                      refine ⟨imI hA fun e8 => have c8 : y7_0 = true := (by have q := e8; subst hA; exact q); ?_, imI hA fun e8 => have c8 : y7_0 = false := (by have q := e8; subst hA; exact q); (by rw [W.rr]; exact (by subst hA; exact (k7.2 c8)))⟩
                      · refine W.call 80 (by rfl) (k7.1 c8) (by subst hA; rfl) (by subst hA; rfl) ?_
                        rintro x rs vs hp9 hq9
                        rcases hq9 with ⟨rfl, Y9_0, rfl, rfl, k9⟩
                        · cbv
                          refine ?_
                          · refine W.call 80 (by rfl) k9 (by subst hA; rfl) (by subst hA; rfl) ?_
                            rintro x rs vs hp10 hq10
                            rcases hq10 with ⟨rfl, Y10_0, rfl, rfl, k10⟩
                            · cbv
                              refine ⟨ndI hA (And.intro (And.intro (by subst hA; exact hp9.1) (And.intro (by subst hA; exact hp10.1) trivial)) (And.intro rfl trivial)), ?_⟩
                              · refine W.call 80 (by rfl) k10 (by subst hA; rfl) (by subst hA; rfl) ?_
                                rintro x rs vs hp11 hq11
                                rcases hq11 with ⟨rfl, Y11_0, rfl, rfl, k11⟩
                                · cbv
                                  refine ⟨ndI hA (And.intro (And.intro (by subst hA; exact hp9.1) (And.intro (by subst hA; exact hp11.1) trivial)) (And.intro rfl trivial)), ⟨ndI hA (And.intro (And.intro (by subst hA; exact hp11.1) trivial) (And.intro rfl trivial)), ?_⟩⟩
                                  · refine W.call 80 (by rfl) k11 (by subst hA; rfl) (by subst hA; rfl) ?_
                                    rintro x rs vs hp12 hq12
                                    rcases hq12 with ⟨rfl, y12_0, rfl, rfl, k12⟩
                                    · cbv
                                      refine ⟨imI hA fun e13 => have c13 : y12_0 = true := (by have q := e13; subst hA; exact q); ?_, imI hA fun e13 => have c13 : y12_0 = false := (by have q := e13; subst hA; exact q); (by rw [W.rr]; exact (by subst hA; exact (k12.2 c13)))⟩
                                      · refine W.call 80 (by rfl) (k12.1 c13) (by subst hA; rfl) (by subst hA; rfl) ?_
                                        rintro x rs vs hp14 hq14
                                        rcases hq14 with ⟨rfl, Y14_0, rfl, rfl, k14⟩
                                        · cbv
                                          refine ?_
                                          · refine W.call 80 (by rfl) k14 (by subst hA; rfl) (by subst hA; rfl) ?_
                                            rintro x rs vs hp15 hq15
                                            rcases hq15 with ⟨rfl, Y15_0, rfl, rfl, k15⟩
                                            · cbv
                                              refine ?_
                                              · refine W.call 80 (by rfl) k15 (by subst hA; rfl) (by subst hA; rfl) ?_
                                                rintro x rs vs hp16 hq16
                                                rcases hq16 with ⟨rfl, Y16_0, rfl, rfl, k16⟩
                                                · cbv
                                                  refine ⟨ndI hA (And.intro (And.intro (by subst hA; exact hp14.1) (And.intro (by subst hA; exact hp15.1) (And.intro (by subst hA; exact hp16.1) trivial))) (And.intro rfl trivial)), ⟨ndI hA (And.intro (And.intro (by subst hA; exact hp14.1) (And.intro (by subst hA; exact hp16.1) trivial)) (And.intro rfl trivial)), ?_⟩⟩
                                                  · refine W.call 80 (by rfl) k16 (by subst hA; rfl) (by subst hA; rfl) ?_
                                                    rintro x rs vs hp17 hq17
                                                    rcases hq17 with ⟨rfl, Y17_0, rfl, rfl, k17⟩
                                                    · cbv
                                                      refine ⟨ndI hA (And.intro (And.intro (by subst hA; exact hp14.1) (And.intro (by subst hA; exact hp17.1) trivial)) (And.intro rfl trivial)), ⟨ndI hA (And.intro (And.intro (by subst hA; exact hp17.1) trivial) (And.intro rfl trivial)), ?_⟩⟩
                                                      · refine W.call 80 (by rfl) k17 (by subst hA; rfl) (by subst hA; rfl) ?_
                                                        rintro x rs vs hp18 hq18
                                                        rcases hq18 with ⟨rfl, y18_0, rfl, rfl, k18⟩
                                                        · cbv
                                                          refine (by rw [W.rr]; exact (by subst hA; exact k18))

-- 9: signalbox/signalboxlaw50.SpansNumbers
section
structure V9 (EV Q : Nat → Rs → List Lf → Prop) : Prop where
  p27 : ∀ {R0 : List (List AV)} {t0 : List (List AV)} {t3 : Int} {t4 : Int} {t5 : Int} {t7 : Bool} {t26 : Int} {t27 : Int} {tb0_0 : Int} {tb0_1 : Int}, (pursS R0 = true → 
    (t27 < t26 →
      ((0 : Int) ≤ t27) ∧
      (t27 < (((List.length R0) : Nat) : Int)) ∧
      (R0[(Int.toNat t27)]? = some [(AV.int .i64 (cIS R0 (Int.toNat t27) 0)), (AV.int .i64 (cIS R0 (Int.toNat t27) 1))]) ∧
      (t7 = true →
        ((IntKind.wrap .i64 ((cIS R0 (Int.toNat t27) 1) - (cIS R0 (Int.toNat t27) 0))) > (IntKind.wrap .i64 (tb0_1 - tb0_0)) →
          EV 27 [R0] [(Lf.r t0), (Lf.i (IntKind.wrap .i64 (t3 + (IntKind.wrap .i64 ((cIS R0 (Int.toNat t27) 1) - (cIS R0 (Int.toNat t27) 0)))))), (Lf.i t4), (Lf.i t5), (Lf.b true), (Lf.i t26), (Lf.i (IntKind.wrap .i64 (t27 + (1 : Int)))), (Lf.i (cIS R0 (Int.toNat t27) 0)), (Lf.i (cIS R0 (Int.toNat t27) 1))]) ∧
        ((IntKind.wrap .i64 ((cIS R0 (Int.toNat t27) 1) - (cIS R0 (Int.toNat t27) 0))) ≤ (IntKind.wrap .i64 (tb0_1 - tb0_0)) →
          EV 27 [R0] [(Lf.r t0), (Lf.i (IntKind.wrap .i64 (t3 + (IntKind.wrap .i64 ((cIS R0 (Int.toNat t27) 1) - (cIS R0 (Int.toNat t27) 0)))))), (Lf.i t4), (Lf.i t5), (Lf.b t7), (Lf.i t26), (Lf.i (IntKind.wrap .i64 (t27 + (1 : Int)))), (Lf.i tb0_0), (Lf.i tb0_1)])) ∧
      (t7 = false →
        EV 27 [R0] [(Lf.r t0), (Lf.i (IntKind.wrap .i64 (t3 + (IntKind.wrap .i64 ((cIS R0 (Int.toNat t27) 1) - (cIS R0 (Int.toNat t27) 0)))))), (Lf.i t4), (Lf.i t5), (Lf.b true), (Lf.i t26), (Lf.i (IntKind.wrap .i64 (t27 + (1 : Int)))), (Lf.i (cIS R0 (Int.toNat t27) 0)), (Lf.i (cIS R0 (Int.toNat t27) 1))])) ∧
    (t27 ≥ t26 →
      EC Try.prog G28 [] [(Lf.r t0)] (fun x rs vs => (x = 0 ∧ ∃ (Y1_0 : List (List AV)), rs = [Y1_0] ∧ vs = [] ∧
        (EC Try.prog G33 [] [(Lf.r (List.take (List.length Y1_0) (List.drop 0 Y1_0)))] (fun x rs vs => (x = 0 ∧ ∃ (Y2_0 : List (List AV)), rs = [Y2_0] ∧ vs = [] ∧
            (EV 50 [Y2_0] [(Lf.r t0), (Lf.i t3), (Lf.i t4), (Lf.i t5), (Lf.b t7), (Lf.i (((List.length Y2_0) : Nat) : Int)), (Lf.i (0 : Int)), (Lf.i tb0_0), (Lf.i tb0_1)])))))))) →
    EV 27 [R0] [.r t0, .i t3, .i t4, .i t5, .b t7, .i t26, .i t27, .i tb0_0, .i tb0_1]
  p50 : ∀ {R0 : List (List AV)} {t0 : List (List AV)} {t3 : Int} {t4 : Int} {t5 : Int} {t7 : Bool} {t58 : Int} {t59 : Int} {tb0_0 : Int} {tb0_1 : Int}, (pursS R0 = true → 
    (t59 < t58 →
      ((0 : Int) ≤ t59) ∧
      (t59 < (((List.length R0) : Nat) : Int)) ∧
      (R0[(Int.toNat t59)]? = some [(AV.int .i64 (cIS R0 (Int.toNat t59) 0))]) ∧
      (EC Try.prog G28 [] [(Lf.r t0)] (fun x rs vs => (x = 0 ∧ ∃ (Y1_0 : List (List AV)), rs = [Y1_0] ∧ vs = [] ∧
        (EC Try.prog G34 [] [(Lf.r (List.take (List.length Y1_0) (List.drop 0 Y1_0))), (Lf.i (cIS R0 (Int.toNat t59) 0))] (fun x rs vs => (x = 0 ∧ ∃ (y2_0 : Int), rs = [] ∧ vs = [.i y2_0] ∧
            ((y2_0 > t4 →
                EV 50 [R0] [(Lf.r t0), (Lf.i t3), (Lf.i y2_0), (Lf.i (cIS R0 (Int.toNat t59) 0)), (Lf.b t7), (Lf.i t58), (Lf.i (IntKind.wrap .i64 (t59 + (1 : Int)))), (Lf.i tb0_0), (Lf.i tb0_1)]) ∧
              (y2_0 ≤ t4 →
                EV 50 [R0] [(Lf.r t0), (Lf.i t3), (Lf.i t4), (Lf.i t5), (Lf.b t7), (Lf.i t58), (Lf.i (IntKind.wrap .i64 (t59 + (1 : Int)))), (Lf.i tb0_0), (Lf.i tb0_1)]))))))))) ∧
    (t59 ≥ t58 →
      EC Try.prog G35 [] [(Lf.r t0)] (fun x rs vs => (x = 0 ∧ ∃ (y1_0_0 : Int) (y1_0_1 : Int) (y1_1 : Bool), rs = [] ∧ vs = [.i y1_0_0, .i y1_0_1, .b y1_1] ∧
        (EC Try.prog G36 [] [(Lf.r t0)] (fun x rs vs => (x = 0 ∧ ∃ (y2_0 : Int) (y2_1 : Int), rs = [] ∧ vs = [.i y2_0, .i y2_1] ∧
            (EC Try.prog G37 [] [(Lf.r t0)] (fun x rs vs => (x = 0 ∧ ∃ (y3_0 : Int), rs = [] ∧ vs = [.i y3_0] ∧
                ((y3_0 = t3 →
                    ((y1_1 == t7) = true →
                      (y1_0_0 = tb0_0 →
                        (y1_0_1 = tb0_1 →
                          (y2_0 = t4 →
                            Q 0 [] [(Lf.b (y2_1 == t5))]) ∧
                          (y2_0 ≠ t4 →
                            Q 0 [] [(Lf.b false)])) ∧
                        (y1_0_1 ≠ tb0_1 →
                          Q 0 [] [(Lf.b false)])) ∧
                      (y1_0_0 ≠ tb0_0 →
                        Q 0 [] [(Lf.b false)])) ∧
                    ((y1_1 == t7) = false →
                      Q 0 [] [(Lf.b false)])) ∧
                  (y3_0 ≠ t3 →
                    Q 0 [] [(Lf.b false)])))))))))))) →
    EV 50 [R0] [.r t0, .i t3, .i t4, .i t5, .b t7, .i t58, .i t59, .i tb0_0, .i tb0_1]

set_option maxHeartbeats 0 in
theorem V9.of {Q : Nat → Rs → List Lf → Prop} {A : Ar} {CE : Nat → Rs → List Lf → (Nat → Rs → List Lf → Prop) → Prop} {CK : Nat → Rs → List Lf → Cont → Prop} {Dn : Nat → List Bool → List AItem → Nat → List Bool → List AV → List ABlk → Prop} {EV RR : Nat → Rs → List Lf → Prop} (W : Wk Try.prog Try.f9 I9 L9 Q A sg CE CK Dn EV RR) : V9 EV Q := by
  have hA := W.hA
  refine ⟨?_, ?_⟩
  · intro R0 t0 t3 t4 t5 t7 t26 t27 tb0_0 tb0_1 h
    refine W.step 80 fun hp => ?_
    have h := h hp.1
    cbv
    refine ⟨imI hA fun e0 => have c0 : t27 < t26 := (by have q := (cmpE (op := .lss) hA e0); subst hA; exact q); ⟨ndI hA (And.intro (by subst hA; exact (h.1 c0).1) (And.intro (by subst hA; exact (h.1 c0).2.1) rfl)), ⟨ndI hA (And.intro rfl (by subst hA; show R0[(0 + (Int.toNat t27))]? = some [(AV.int .i64 (cIS R0 (0 + (Int.toNat t27)) 0)), (AV.int .i64 (cIS R0 (0 + (Int.toNat t27)) 1))]; (try simp only [rappS_end, Nat.zero_add, Int.toNat_natCast]); exact (h.1 c0).2.2.1)), ⟨imI hA fun e1 => have c1 : t7 = true := (by have q := (notE hA e1); subst hA; exact q); ⟨imI hA fun e2 => have c2 : (IntKind.wrap .i64 ((cIS R0 (Int.toNat t27) 1) - (cIS R0 (Int.toNat t27) 0))) > (IntKind.wrap .i64 (tb0_1 - tb0_0)) := (by have q := (cmpE (op := .gtr) hA e2); subst hA; have q : (IntKind.wrap .i64 ((cIS R0 (0 + (Int.toNat t27)) 1) - (cIS R0 (0 + (Int.toNat t27)) 0))) > (IntKind.wrap .i64 (tb0_1 - tb0_0)) := q; simpa only [rappS_end, Nat.zero_add, Int.toNat_natCast] using q); ⟨ndI hA (And.intro rfl (And.intro rfl rfl)), ⟨ndI hA (by subst hA; exact hp.1), (by subst hA; show EV 27 [R0] [(Lf.r t0), (Lf.i (IntKind.wrap .i64 (t3 + (IntKind.wrap .i64 ((cIS R0 (0 + (Int.toNat t27)) 1) - (cIS R0 (0 + (Int.toNat t27)) 0)))))), (Lf.i t4), (Lf.i t5), (Lf.b true), (Lf.i t26), (Lf.i (IntKind.wrap .i64 (t27 + (1 : Int)))), (Lf.i (cIS R0 (0 + (Int.toNat t27)) 0)), (Lf.i (cIS R0 (0 + (Int.toNat t27)) 1))]; (try simp only [rappS_end, Nat.zero_add, Int.toNat_natCast]); exact (((h.1 c0).2.2.2.1 c1).1 c2))⟩⟩, imI hA fun e2 => have c2 : (IntKind.wrap .i64 ((cIS R0 (Int.toNat t27) 1) - (cIS R0 (Int.toNat t27) 0))) ≤ (IntKind.wrap .i64 (tb0_1 - tb0_0)) := (by have q := (cmpE (op := .gtr) hA e2); subst hA; have q : (IntKind.wrap .i64 ((cIS R0 (0 + (Int.toNat t27)) 1) - (cIS R0 (0 + (Int.toNat t27)) 0))) ≤ (IntKind.wrap .i64 (tb0_1 - tb0_0)) := q; simpa only [rappS_end, Nat.zero_add, Int.toNat_natCast] using q); ⟨ndI hA (And.intro rfl (And.intro rfl rfl)), ⟨ndI hA (by subst hA; exact hp.1), (by subst hA; show EV 27 [R0] [(Lf.r t0), (Lf.i (IntKind.wrap .i64 (t3 + (IntKind.wrap .i64 ((cIS R0 (0 + (Int.toNat t27)) 1) - (cIS R0 (0 + (Int.toNat t27)) 0)))))), (Lf.i t4), (Lf.i t5), (Lf.b t7), (Lf.i t26), (Lf.i (IntKind.wrap .i64 (t27 + (1 : Int)))), (Lf.i tb0_0), (Lf.i tb0_1)]; (try simp only [rappS_end, Nat.zero_add, Int.toNat_natCast]); exact (((h.1 c0).2.2.2.1 c1).2 c2))⟩⟩⟩, imI hA fun e1 => have c1 : t7 = false := (by have q := (notE hA e1); subst hA; exact q); ⟨ndI hA (And.intro rfl (And.intro rfl rfl)), ⟨ndI hA (by subst hA; exact hp.1), (by subst hA; show EV 27 [R0] [(Lf.r t0), (Lf.i (IntKind.wrap .i64 (t3 + (IntKind.wrap .i64 ((cIS R0 (0 + (Int.toNat t27)) 1) - (cIS R0 (0 + (Int.toNat t27)) 0)))))), (Lf.i t4), (Lf.i t5), (Lf.b true), (Lf.i t26), (Lf.i (IntKind.wrap .i64 (t27 + (1 : Int)))), (Lf.i (cIS R0 (0 + (Int.toNat t27)) 0)), (Lf.i (cIS R0 (0 + (Int.toNat t27)) 1))]; (try simp only [rappS_end, Nat.zero_add, Int.toNat_natCast]); exact ((h.1 c0).2.2.2.2 c1))⟩⟩⟩⟩⟩, imI hA fun e0 => have c0 : t27 ≥ t26 := (by have q := (cmpE (op := .lss) hA e0); subst hA; exact q); ?_⟩
    · refine W.call 80 (by rfl) (h.2 c0) (by subst hA; rfl) (by subst hA; rfl) ?_
      rintro x rs vs hp1 hq1
      rcases hq1 with ⟨rfl, Y1_0, rfl, rfl, k1⟩
      · cbv
        refine ⟨ndI hA (And.intro (And.intro (by subst hA; exact hp.1) (And.intro (by subst hA; exact hp1.1) trivial)) (And.intro rfl trivial)), ?_⟩
        · refine W.call 80 (by rfl) k1 (by subst hA; rfl) (by subst hA; rfl) ?_
          rintro x rs vs hp2 hq2
          rcases hq2 with ⟨rfl, Y2_0, rfl, rfl, k2⟩
          · cbv
            refine ⟨ndI hA rfl, ⟨ndI hA (And.intro rfl (And.intro rfl rfl)), ⟨ndI hA (by subst hA; exact hp2.1), (by subst hA; exact k2)⟩⟩⟩
  · intro R0 t0 t3 t4 t5 t7 t58 t59 tb0_0 tb0_1 h
    refine W.step 80 fun hp => ?_
    have h := h hp.1
    cbv
    refine ⟨imI hA fun e0 => have c0 : t59 < t58 := (by have q := (cmpE (op := .lss) hA e0); subst hA; exact q); ⟨ndI hA (And.intro (by subst hA; exact (h.1 c0).1) (And.intro (by subst hA; exact (h.1 c0).2.1) rfl)), ⟨ndI hA (And.intro rfl (by subst hA; show R0[(0 + (Int.toNat t59))]? = some [(AV.int .i64 (cIS R0 (0 + (Int.toNat t59)) 0))]; (try simp only [rappS_end, Nat.zero_add, Int.toNat_natCast]); exact (h.1 c0).2.2.1)), ?_⟩⟩, imI hA fun e0 => have c0 : t59 ≥ t58 := (by have q := (cmpE (op := .lss) hA e0); subst hA; exact q); ?_⟩
    · refine W.call 80 (by rfl) (h.1 c0).2.2.2 (by subst hA; rfl) (by subst hA; rfl) ?_
      rintro x rs vs hp1 hq1
      rcases hq1 with ⟨rfl, Y1_0, rfl, rfl, k1⟩
      · cbv
        refine ⟨ndI hA (And.intro (And.intro (by subst hA; exact hp.1) (And.intro (by subst hA; exact hp1.1) trivial)) (And.intro rfl trivial)), ?_⟩
        · refine W.call 80 (by rfl) k1 (by subst hA; show [] = []; (try simp only [rappS_end, Nat.zero_add, Int.toNat_natCast])) (by subst hA; show [(Lf.r (List.take (List.length Y1_0) (List.drop 0 Y1_0))), (Lf.i (cIS R0 (0 + (Int.toNat t59)) 0))] = [(Lf.r (List.take (List.length Y1_0) (List.drop 0 Y1_0))), (Lf.i (cIS R0 (Int.toNat t59) 0))]; (try simp only [rappS_end, Nat.zero_add, Int.toNat_natCast])) ?_
          rintro x rs vs hp2 hq2
          rcases hq2 with ⟨rfl, y2_0, rfl, rfl, k2⟩
          · cbv
            refine ⟨imI hA fun e3 => have c3 : y2_0 > t4 := (by have q := (cmpE (op := .gtr) hA e3); subst hA; exact q); ⟨ndI hA (And.intro rfl (And.intro rfl rfl)), ⟨ndI hA (by subst hA; exact hp.1), (by subst hA; show EV 50 [R0] [(Lf.r t0), (Lf.i t3), (Lf.i y2_0), (Lf.i (cIS R0 (0 + (Int.toNat t59)) 0)), (Lf.b t7), (Lf.i t58), (Lf.i (IntKind.wrap .i64 (t59 + (1 : Int)))), (Lf.i tb0_0), (Lf.i tb0_1)]; (try simp only [rappS_end, Nat.zero_add, Int.toNat_natCast]); exact (k2.1 c3))⟩⟩, imI hA fun e3 => have c3 : y2_0 ≤ t4 := (by have q := (cmpE (op := .gtr) hA e3); subst hA; exact q); ⟨ndI hA (And.intro rfl (And.intro rfl rfl)), ⟨ndI hA (by subst hA; exact hp.1), (by subst hA; exact (k2.2 c3))⟩⟩⟩
    · refine W.call 80 (by rfl) (h.2 c0) (by subst hA; rfl) (by subst hA; rfl) ?_
      rintro x rs vs hp1 hq1
      rcases hq1 with ⟨rfl, y1_0_0, y1_0_1, y1_1, rfl, rfl, k1⟩
      · cbv
        refine ?_
        · refine W.call 80 (by rfl) k1 (by subst hA; rfl) (by subst hA; rfl) ?_
          rintro x rs vs hp2 hq2
          rcases hq2 with ⟨rfl, y2_0, y2_1, rfl, rfl, k2⟩
          · cbv
            refine ?_
            · refine W.call 80 (by rfl) k2 (by subst hA; rfl) (by subst hA; rfl) ?_
              rintro x rs vs hp3 hq3
              rcases hq3 with ⟨rfl, y3_0, rfl, rfl, k3⟩
              · cbv
                refine ⟨imI hA fun e4 => have c4 : y3_0 = t3 := (by have q := (cmpE (op := .eql) hA e4); subst hA; exact q); ⟨imI hA fun e5 => have c5 : (y1_1 == t7) = true := (by have q := e5; subst hA; exact q); ⟨imI hA fun e6 => have c6 : y1_0_0 = tb0_0 := (by have q := (cmpE (op := .eql) hA e6); subst hA; exact q); ⟨imI hA fun e7 => have c7 : y1_0_1 = tb0_1 := (by have q := (cmpE (op := .eql) hA e7); subst hA; exact q); ⟨imI hA fun e8 => have c8 : y2_0 = t4 := (by have q := (cmpE (op := .eql) hA e8); subst hA; exact q); (by rw [W.rr]; exact (by subst hA; exact (((((k3.1 c4).1 c5).1 c6).1 c7).1 c8))), imI hA fun e8 => have c8 : y2_0 ≠ t4 := (by have q := (cmpE (op := .eql) hA e8); subst hA; exact q); (by rw [W.rr]; exact (by subst hA; exact (((((k3.1 c4).1 c5).1 c6).1 c7).2 c8)))⟩, imI hA fun e7 => have c7 : y1_0_1 ≠ tb0_1 := (by have q := (cmpE (op := .eql) hA e7); subst hA; exact q); (by rw [W.rr]; exact (by subst hA; exact ((((k3.1 c4).1 c5).1 c6).2 c7)))⟩, imI hA fun e6 => have c6 : y1_0_0 ≠ tb0_0 := (by have q := (cmpE (op := .eql) hA e6); subst hA; exact q); (by rw [W.rr]; exact (by subst hA; exact (((k3.1 c4).1 c5).2 c6)))⟩, imI hA fun e5 => have c5 : (y1_1 == t7) = false := (by have q := e5; subst hA; exact q); (by rw [W.rr]; exact (by subst hA; exact ((k3.1 c4).2 c5)))⟩, imI hA fun e4 => have c4 : y3_0 ≠ t3 := (by have q := (cmpE (op := .eql) hA e4); subst hA; exact q); (by rw [W.rr]; exact (by subst hA; exact (k3.2 c4)))⟩

end
set_option maxHeartbeats 0 in
/-- To enter. -/
theorem E9 {Q : Nat → Rs → List Lf → Prop} {a0 : List (List AV)} (h : ∀ EV : Nat → Rs → List Lf → Prop, V9 EV Q →
    EC Try.prog G24 [] [] (fun x rs vs => (x = 0 ∧ ∃ (y0_0 : Bool), rs = [] ∧ vs = [.b y0_0] ∧
      ((y0_0 = false →
          Q 0 [] [(Lf.b false)]) ∧
        (y0_0 = true →
          ((((List.length a0) : Nat) : Int) > (20 : Int) →
            Q 0 [] [(Lf.b true)]) ∧
          ((((List.length a0) : Nat) : Int) ≤ (20 : Int) →
            EC Try.prog G28 [] [(Lf.r a0)] (fun x rs vs => (x = 0 ∧ ∃ (Y3_0 : List (List AV)), rs = [Y3_0] ∧ vs = [] ∧
              (EC Try.prog G27 [] [(Lf.r (List.take (List.length Y3_0) (List.drop 0 Y3_0)))] (fun x rs vs => (x = 0 ∧ ∃ (Y4_0 : List (List AV)), rs = [Y4_0] ∧ vs = [] ∧
                  (EV 27 [Y4_0] [(Lf.r a0), (Lf.i (0 : Int)), (Lf.i (0 : Int)), (Lf.i (0 : Int)), (Lf.b false), (Lf.i (((List.length Y4_0) : Nat) : Int)), (Lf.i (0 : Int)), (Lf.i (0 : Int)), (Lf.i (0 : Int))])))))))))))) :
    EC Try.prog G9 [] [.r a0] Q := by
  obtain ⟨A, hA⟩ : ∃ A, A = arS := ⟨_, rfl⟩
  refine Inst.enter (I := I9) hA mixed F9_at sg L9 80 rfl fun CE CK Dn EV RR W hp => ?_
  have h := h  EV (V9.of W)
  cbv
  refine ?_
  · refine W.call 80 (by rfl) h (by subst hA; rfl) (by subst hA; rfl) ?_
    rintro x rs vs hp0 hq0
    rcases hq0 with ⟨rfl, y0_0, rfl, rfl, k0⟩
    · cbv
      refine ⟨imI hA fun e1 => have c1 : y0_0 = false := (by have q := (notE hA e1); subst hA; exact q); (by rw [W.rr]; exact (by subst hA; exact (k0.1 c1))), imI hA fun e1 => have c1 : y0_0 = true := (by have q := (notE hA e1); subst hA; exact q); ⟨imI hA fun e2 => have c2 : (((List.length a0) : Nat) : Int) > (20 : Int) := (by have q := (cmpE (op := .gtr) hA e2); subst hA; exact q); (by rw [W.rr]; exact (by subst hA; exact ((k0.2 c1).1 c2))), imI hA fun e2 => have c2 : (((List.length a0) : Nat) : Int) ≤ (20 : Int) := (by have q := (cmpE (op := .gtr) hA e2); subst hA; exact q); ?_⟩⟩
      · refine W.call 80 (by rfl) ((k0.2 c1).2 c2) (by subst hA; rfl) (by subst hA; rfl) ?_
        rintro x rs vs hp3 hq3
        rcases hq3 with ⟨rfl, Y3_0, rfl, rfl, k3⟩
        · cbv
          refine ⟨ndI hA (And.intro (And.intro (by subst hA; exact hp3.1) trivial) (And.intro rfl trivial)), ?_⟩
          · refine W.call 80 (by rfl) k3 (by subst hA; rfl) (by subst hA; rfl) ?_
            rintro x rs vs hp4 hq4
            rcases hq4 with ⟨rfl, Y4_0, rfl, rfl, k4⟩
            · cbv
              refine ⟨ndI hA rfl, ⟨ndI hA (And.intro rfl (And.intro rfl rfl)), ⟨ndI hA (by subst hA; exact hp4.1), (by subst hA; exact k4)⟩⟩⟩

end Go.Ab
