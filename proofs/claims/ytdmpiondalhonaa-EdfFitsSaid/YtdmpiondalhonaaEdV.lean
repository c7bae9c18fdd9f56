/- PRINTED BY A PROGRAM (wip/tools/vc.py, AbVc.lean): what is to be shown of each function, from place to place, and that it is enough. -/
import Derived.Test.YtdmpiondalhonaaEdS
import Derived.Test.YtdmpiondalhonaaAbV0
namespace Go.Ab
open Go Go.Proofs
set_option linter.unusedVariables false
set_option linter.unusedSimpArgs false
set_option maxRecDepth 100000

-- 52: signalbox/signalboxref33.Clamp
section
structure V52 (EV Q : Nat → Rs → List Lf → Prop) : Prop where
  none : True

end
set_option maxHeartbeats 0 in
/-- To enter. -/
theorem E52 {Q : Nat → Rs → List Lf → Prop} {a0 : Int} (h : ∀ EV : Nat → Rs → List Lf → Prop, V52 EV Q →
    (a0 < (0 : Int) →
      Q 0 [] [(Lf.i (0 : Int))]) ∧
    (a0 ≥ (0 : Int) →
      (a0 > (1048576 : Int) →
        Q 0 [] [(Lf.i (1048576 : Int))]) ∧
      (a0 ≤ (1048576 : Int) →
        Q 0 [] [(Lf.i a0)]))) :
    EC Try.prog G52 [] [.i a0] Q := by
  obtain ⟨A, hA⟩ : ∃ A, A = arS := ⟨_, rfl⟩
  refine Inst.enter (I := I52) hA mixed F52_at sg L52 80 rfl fun CE CK Dn EV RR W hp => ?_
  have h := h  EV ⟨trivial⟩
  cbv
  refine ⟨imI hA fun e0 => have c0 : a0 < (0 : Int) := (by have q := (cmpE (op := .lss) hA e0); subst hA; exact q); (by rw [W.rr]; exact (by subst hA; exact (h.1 c0))), imI hA fun e0 => have c0 : a0 ≥ (0 : Int) := (by have q := (cmpE (op := .lss) hA e0); subst hA; exact q); ⟨imI hA fun e1 => have c1 : a0 > (1048576 : Int) := (by have q := (cmpE (op := .gtr) hA e1); subst hA; exact q); (by rw [W.rr]; exact (by subst hA; exact ((h.2 c0).1 c1))), imI hA fun e1 => have c1 : a0 ≤ (1048576 : Int) := (by have q := (cmpE (op := .gtr) hA e1); subst hA; exact q); (by rw [W.rr]; exact (by subst hA; exact ((h.2 c0).2 c1)))⟩⟩

-- 23: signalbox/signalboxlaw33.works DRAWN
section
structure V23 (EV Q : Nat → Rs → List Lf → Prop) : Prop where
  p11 : ∀ {R0 : List (List AV)} {t0 : List (List AV)} {t5 : Int} {t9 : List (List AV)} {t10 : Int} {t11 : Int}, (pursS R0 = true → 
    (t11 < t10 →
      ((0 : Int) ≤ t11) ∧
      (t9[(Int.toNat t11)]? = some [(AV.int .i64 (cIS t9 (Int.toNat t11) 0)), (AV.int .i64 (cIS t9 (Int.toNat t11) 1)), (AV.int .i64 (cIS t9 (Int.toNat t11) 2))]) ∧
      (∃ (y1_0 : Int), EC Try.prog G52 [] [(Lf.i (cIS t9 (Int.toNat t11) 0))] (fun x rs vs => x = 0 ∧ rs = [] ∧ vs = [.i y1_0]) ∧
        (∃ (y2_0 : Int), EC Try.prog G52 [] [(Lf.i (cIS t9 (Int.toNat t11) 1))] (fun x rs vs => x = 0 ∧ rs = [] ∧ vs = [.i y2_0]) ∧
          (∃ (y3_0 : Int), EC Try.prog G52 [] [(Lf.i (cIS t9 (Int.toNat t11) 2))] (fun x rs vs => x = 0 ∧ rs = [] ∧ vs = [.i y3_0]) ∧
            (EV 23 [R0] [(Lf.r t0), (Lf.i t5), (Lf.r t9), (Lf.i t10), (Lf.i t11), (Lf.i y1_0), (Lf.i y2_0), (Lf.i y3_0)]))))) ∧
    (t11 ≥ t10 →
      Q 0 [R0] [(Lf.b (decide ((((List.length t0) : Nat) : Int) ≤ (30 : Int))))])) →
    EV 11 [R0] [.r t0, .i t5, .r t9, .i t10, .i t11]
  p23 : ∀ {R0 : List (List AV)} {t0 : List (List AV)} {t5 : Int} {t9 : List (List AV)} {t10 : Int} {t11 : Int} {tb1_0 : Int} {tb1_1 : Int} {tb1_2 : Int}, (pursS R0 = true → 
    (tb1_0 ≤ (500 : Int) →
      ((IntKind.wrap .i64 (t5 + tb1_1)) > (600 : Int) →
        Q 0 [[]] [(Lf.b false)]) ∧
      ((IntKind.wrap .i64 (t5 + tb1_1)) ≤ (600 : Int) →
        (((List.length R0) + 1) ≤ 140737488355328) ∧
        ((((List.length R0) + 1) * 24) ≤ 140737488355328) ∧
        (EV 11 [(R0 ++ [[(AV.int .i64 tb1_0), (AV.int .i64 tb1_1), (AV.int .i64 tb1_2)]])] [(Lf.r t0), (Lf.i (IntKind.wrap .i64 (t5 + tb1_1))), (Lf.r t9), (Lf.i t10), (Lf.i (IntKind.wrap .i64 (t11 + (1 : Int))))]))) ∧
    (tb1_0 > (500 : Int) →
      Q 0 [[]] [(Lf.b false)])) →
    EV 23 [R0] [.r t0, .i t5, .r t9, .i t10, .i t11, .i tb1_0, .i tb1_1, .i tb1_2]

set_option maxHeartbeats 0 in
theorem V23.of {Q : Nat → Rs → List Lf → Prop} {A : Ar} {CE : Nat → Rs → List Lf → (Nat → Rs → List Lf → Prop) → Prop} {CK : Nat → Rs → List Lf → Cont → Prop} {Dn : Nat → List Bool → List AItem → Nat → List Bool → List AV → List ABlk → Prop} {EV RR : Nat → Rs → List Lf → Prop} (W : Wk Try.prog Try.f23 I23 L23 Q A sg CE CK Dn EV RR) : V23 EV Q := by
  have hA := W.hA
  refine ⟨?_, ?_⟩
  · intro R0 t0 t5 t9 t10 t11 h
    refine W.step 80 fun hp => ?_
    have h := h hp.1
    cbv
    refine ⟨imI hA fun e0 => have c0 : t11 < t10 := (by have q := (cmpE (op := .lss) hA e0); subst hA; exact q); ⟨ndI hA (And.intro (by subst hA; exact (h.1 c0).1) (by subst hA; exact (h.1 c0).2.1)), ?_⟩, imI hA fun e0 => have c0 : t11 ≥ t10 := (by have q := (cmpE (op := .lss) hA e0); subst hA; exact q); ⟨ndI hA (And.intro rfl (And.intro rfl rfl)), ⟨ndI hA (by subst hA; exact hp.1), (by rw [W.rr]; exact (by subst hA; exact (h.2 c0)))⟩⟩⟩
    · obtain ⟨y1_0, he1, hk1⟩ := (h.1 c0).2.2
      refine ⟨(AV.int .i64 y1_0), ?_⟩
      cbv
      refine ⟨?_, ?_⟩
      · refine W.callD (by rfl) he1 (by subst hA; rfl) (by subst hA; rfl) ?_
        rintro _ _ _ _ ⟨rfl, rfl, rfl⟩
        cbv
        try first | exact ⟨rfl, rfl⟩ | rfl
      · refine ?_
        · refine W.draw 80 (by rfl) ?_
          cbv
          refine ?_
          · obtain ⟨y2_0, he2, hk2⟩ := hk1
            refine ⟨(AV.int .i64 y2_0), ?_⟩
            cbv
            refine ⟨?_, ?_⟩
            · refine W.callD (by rfl) he2 (by subst hA; rfl) (by subst hA; rfl) ?_
              rintro _ _ _ _ ⟨rfl, rfl, rfl⟩
              cbv
              try first | exact ⟨rfl, rfl⟩ | rfl
            · refine ?_
              · refine W.draw 80 (by rfl) ?_
                cbv
                refine ?_
                · obtain ⟨y3_0, he3, hk3⟩ := hk2
                  refine ⟨(AV.int .i64 y3_0), ?_⟩
                  cbv
                  refine ⟨?_, ?_⟩
                  · refine W.callD (by rfl) he3 (by subst hA; rfl) (by subst hA; rfl) ?_
                    rintro _ _ _ _ ⟨rfl, rfl, rfl⟩
                    cbv
                    try first | exact ⟨rfl, rfl⟩ | rfl
                  · refine ?_
                    · refine W.draw 80 (by rfl) ?_
                      cbv
                      refine ⟨⟨⟨ndI hA (And.intro rfl (And.intro rfl rfl)), ⟨ndI hA (by subst hA; exact hp.1), (by subst hA; exact hk3)⟩⟩, trivial⟩, trivial⟩
  · intro R0 t0 t5 t9 t10 t11 tb1_0 tb1_1 tb1_2 h
    refine W.step 80 fun hp => ?_
    have h := h hp.1
    cbv
    refine ⟨imI hA fun e0 => have c0 : tb1_0 ≤ (500 : Int) := (by have q := (cmpE (op := .gtr) hA e0); subst hA; exact q); ⟨imI hA fun e1 => have c1 : (IntKind.wrap .i64 (t5 + tb1_1)) > (600 : Int) := (by have q := (cmpE (op := .gtr) hA e1); subst hA; exact q); ⟨ndI hA (And.intro (by subst hA; show 0 = 0; (first | rfl | simp [rappS_end] | (simp only [rappS_end, List.length_append, List.length_set, List.length_cons, List.length_nil]; omega))) (And.intro rfl (by subst hA; show 0 = 0; (first | rfl | simp [rappS_end] | (simp only [rappS_end, List.length_append, List.length_set, List.length_cons, List.length_nil]; omega))))), ⟨ndI hA (by subst hA; exact vpur), (by rw [W.rr]; exact (by subst hA; exact ((h.1 c0).1 c1)))⟩⟩, imI hA fun e1 => have c1 : (IntKind.wrap .i64 (t5 + tb1_1)) ≤ (600 : Int) := (by have q := (cmpE (op := .gtr) hA e1); subst hA; exact q); ⟨ndI hA (And.intro rfl (And.intro (Nat.le_refl _) (And.intro (by subst hA; exact ((h.1 c0).2 c1).1) (by subst hA; exact ((h.1 c0).2 c1).2.1)))), ⟨ndI hA (And.intro rfl (And.intro rfl (by subst hA; show ((List.length R0) + 1) = (List.length (rappS R0 (List.length R0) [[(AV.int .i64 tb1_0), (AV.int .i64 tb1_1), (AV.int .i64 tb1_2)]])); (first | rfl | simp [rappS_end] | (simp only [rappS_end, List.length_append, List.length_set, List.length_cons, List.length_nil]; omega))))), ⟨ndI hA (by subst hA; exact (vapp hp.1 vpur)), (by subst hA; show EV 11 [(rappS R0 (List.length R0) [[(AV.int .i64 tb1_0), (AV.int .i64 tb1_1), (AV.int .i64 tb1_2)]])] [(Lf.r t0), (Lf.i (IntKind.wrap .i64 (t5 + tb1_1))), (Lf.r t9), (Lf.i t10), (Lf.i (IntKind.wrap .i64 (t11 + (1 : Int))))]; (try simp only [rappS_end, Nat.zero_add, Int.toNat_natCast]); exact ((h.1 c0).2 c1).2.2)⟩⟩⟩⟩, imI hA fun e0 => have c0 : tb1_0 > (500 : Int) := (by have q := (cmpE (op := .gtr) hA e0); subst hA; exact q); ⟨ndI hA (And.intro (by subst hA; show 0 = 0; (first | rfl | simp [rappS_end] | (simp only [rappS_end, List.length_append, List.length_set, List.length_cons, List.length_nil]; omega))) (And.intro rfl (by subst hA; show 0 = 0; (first | rfl | simp [rappS_end] | (simp only [rappS_end, List.length_append, List.length_set, List.length_cons, List.length_nil]; omega))))), ⟨ndI hA (by subst hA; exact vpur), (by rw [W.rr]; exact (by subst hA; exact (h.2 c0)))⟩⟩⟩

end
set_option maxHeartbeats 0 in
/-- To enter. -/
theorem E23 {Q : Nat → Rs → List Lf → Prop} {a0 : List (List AV)} (h : ∀ EV : Nat → Rs → List Lf → Prop, V23 EV Q →
    EV 11 [[]] [(Lf.r a0), (Lf.i (0 : Int)), (Lf.r a0), (Lf.i (((List.length a0) : Nat) : Int)), (Lf.i (0 : Int))]) :
    EC Try.prog G23 [] [.r a0] Q := by
  obtain ⟨A, hA⟩ : ∃ A, A = arS := ⟨_, rfl⟩
  refine Inst.enter (I := I23) hA mixed F23_at sg L23 80 rfl fun CE CK Dn EV RR W hp => ?_
  have h := h  EV (V23.of W)
  cbv
  refine ⟨ndI hA (And.intro (by subst hA; show 0 = 0; (first | rfl | simp [rappS_end] | (simp only [rappS_end, List.length_append, List.length_set, List.length_cons, List.length_nil]; omega))) (And.intro rfl (by subst hA; show 0 = 0; (first | rfl | simp [rappS_end] | (simp only [rappS_end, List.length_append, List.length_set, List.length_cons, List.length_nil]; omega))))), ⟨ndI hA (by subst hA; exact vpur), (by subst hA; exact h)⟩⟩

-- 53: signalbox/edf.clamp
section
structure V53 (EV Q : Nat → Rs → List Lf → Prop) : Prop where
  none : True

end
set_option maxHeartbeats 0 in
/-- To enter. -/
theorem E53 {Q : Nat → Rs → List Lf → Prop} {a0 : Int} (h : ∀ EV : Nat → Rs → List Lf → Prop, V53 EV Q →
    Q 0 [] [(Lf.i (arS.mn (arS.mx a0 (0 : Int)) (1048576 : Int)))]) :
    EC Try.prog G53 [] [.i a0] Q := by
  obtain ⟨A, hA⟩ : ∃ A, A = arS := ⟨_, rfl⟩
  refine Inst.enter (I := I53) hA mixed F53_at sg L53 80 rfl fun CE CK Dn EV RR W hp => ?_
  have h := h  EV ⟨trivial⟩
  cbv
  refine (by rw [W.rr]; exact (by subst hA; exact h))

-- 69: signalbox/edf.run$1 DRAWN
section
structure V69 (EV Q : Nat → Rs → List Lf → Prop) : Prop where
  none : True

end
set_option maxHeartbeats 0 in
/-- To enter. -/
theorem E69 {Q : Nat → Rs → List Lf → Prop} {a0 : Int} {a1 : Int} {ab0 : List (List AV)} (h : ∀ EV : Nat → Rs → List Lf → Prop, V69 EV Q →
    ((0 : Int) ≤ a0) ∧
    (ab0[(Int.toNat a0)]? = some [(AV.int .i64 (cIS ab0 (Int.toNat a0) 0)), (AV.int .i64 (cIS ab0 (Int.toNat a0) 1)), (AV.int .i64 (cIS ab0 (Int.toNat a0) 2))]) ∧
    ((0 : Int) ≤ a1) ∧
    (ab0[(Int.toNat a1)]? = some [(AV.int .i64 (cIS ab0 (Int.toNat a1) 0)), (AV.int .i64 (cIS ab0 (Int.toNat a1) 1)), (AV.int .i64 (cIS ab0 (Int.toNat a1) 2))]) ∧
    (EC Try.prog G53 [] [(Lf.i (cIS ab0 (Int.toNat a0) 0))] (fun x rs vs => (x = 0 ∧ ∃ (y0_0 : Int), rs = [] ∧ vs = [.i y0_0] ∧
      (EC Try.prog G53 [] [(Lf.i (cIS ab0 (Int.toNat a1) 0))] (fun x rs vs => (x = 0 ∧ ∃ (y1_0 : Int), rs = [] ∧ vs = [.i y1_0] ∧
          (Q 0 [] [(Lf.i (IntKind.wrap .i64 (y0_0 - y1_0))), (Lf.r ab0)])))))))) :
    EC Try.prog G69 [] [.i a0, .i a1, .r ab0] Q := by
  obtain ⟨A, hA⟩ : ∃ A, A = arS := ⟨_, rfl⟩
  refine Inst.enter (I := I69) hA mixed F69_at sg L69 80 rfl fun CE CK Dn EV RR W hp => ?_
  have h := h  EV ⟨trivial⟩
  cbv
  refine ⟨ndI hA (And.intro (by subst hA; exact h.1) (by subst hA; exact h.2.1)), ⟨ndI hA (And.intro (by subst hA; exact h.2.2.1) (by subst hA; exact h.2.2.2.1)), ⟨?_, trivial⟩⟩⟩
  · refine W.callD (by rfl) h.2.2.2.2 (by subst hA; rfl) (by subst hA; rfl) ?_
    rintro x rs vs hp0 hq0
    rcases hq0 with ⟨rfl, y0_0, rfl, rfl, k0⟩
    · cbv
      refine ?_
      · refine W.draw 80 (by rfl) ?_
        cbv
        refine ⟨?_, trivial⟩
        · refine W.callD (by rfl) k0 (by subst hA; rfl) (by subst hA; rfl) ?_
          rintro x rs vs hp1 hq1
          rcases hq1 with ⟨rfl, y1_0, rfl, rfl, k1⟩
          · cbv
            refine ?_
            · refine W.draw 80 (by rfl) ?_
              cbv
              refine (by rw [W.rr]; exact (by subst hA; exact k1))

-- 82a: slices.insertionSortCmpFunc[int] DRAWN
section
structure V82a (EV Q : Nat → Rs → List Lf → Prop) : Prop where
  p4 : ∀ {R0 : List (List AV)} {t1 : Int} {t2 : Int} {t8 : Int} {tb1 : List (List AV)}, (pursS R0 = true → 
    (t8 < t2 →
      EV 16 [R0] [(Lf.i t1), (Lf.i t2), (Lf.i t8), (Lf.i t8), (Lf.r tb1)]) ∧
    (t8 ≥ t2 →
      Q 0 [R0] [(Lf.r tb1)])) →
    EV 4 [R0] [.i t1, .i t2, .i t8, .r tb1]
  p16 : ∀ {R0 : List (List AV)} {t1 : Int} {t2 : Int} {t8 : Int} {t9 : Int} {tb1 : List (List AV)}, (pursS R0 = true → 
    (t9 > t1 →
      ((0 : Int) ≤ t9) ∧
      (t9 < (((List.length R0) : Nat) : Int)) ∧
      (R0[(Int.toNat t9)]? = some [(AV.int .i64 (cIS R0 (Int.toNat t9) 0))]) ∧
      ((0 : Int) ≤ (IntKind.wrap .i64 (t9 - (1 : Int)))) ∧
      ((IntKind.wrap .i64 (t9 - (1 : Int))) < (((List.length R0) : Nat) : Int)) ∧
      (R0[(Int.toNat (IntKind.wrap .i64 (t9 - (1 : Int))))]? = some [(AV.int .i64 (cIS R0 (Int.toNat (IntKind.wrap .i64 (t9 - (1 : Int)))) 0))]) ∧
      (EC Try.prog G69 [] [(Lf.i (cIS R0 (Int.toNat t9) 0)), (Lf.i (cIS R0 (Int.toNat (IntKind.wrap .i64 (t9 - (1 : Int)))) 0)), (Lf.r tb1)] (fun x rs vs => (x = 0 ∧ ∃ (y1_0 : Int) (y1_b0 : List (List AV)), rs = [] ∧ vs = [.i y1_0, .r y1_b0] ∧
        ((y1_0 < (0 : Int) →
            ((0 : Int) ≤ (IntKind.wrap .i64 (t9 - (1 : Int)))) ∧
            ((IntKind.wrap .i64 (t9 - (1 : Int))) < (((List.length R0) : Nat) : Int)) ∧
            (R0[(Int.toNat (IntKind.wrap .i64 (t9 - (1 : Int))))]? = some [(AV.int .i64 (cIS R0 (Int.toNat (IntKind.wrap .i64 (t9 - (1 : Int)))) 0))]) ∧
            ((0 : Int) ≤ t9) ∧
            (t9 < (((List.length R0) : Nat) : Int)) ∧
            (R0[(Int.toNat t9)]? = some [(AV.int .i64 (cIS R0 (Int.toNat t9) 0))]) ∧
            ((List.set R0 (Int.toNat t9) [(AV.int .i64 (cIS R0 (Int.toNat (IntKind.wrap .i64 (t9 - (1 : Int)))) 0))])[(Int.toNat (IntKind.wrap .i64 (t9 - (1 : Int))))]? = some [(AV.int .i64 (cIS (List.set R0 (Int.toNat t9) [(AV.int .i64 (cIS R0 (Int.toNat (IntKind.wrap .i64 (t9 - (1 : Int)))) 0))]) (Int.toNat (IntKind.wrap .i64 (t9 - (1 : Int)))) 0))]) ∧
            (EV 16 [(List.set (List.set R0 (Int.toNat t9) [(AV.int .i64 (cIS R0 (Int.toNat (IntKind.wrap .i64 (t9 - (1 : Int)))) 0))]) (Int.toNat (IntKind.wrap .i64 (t9 - (1 : Int)))) [(AV.int .i64 (cIS R0 (Int.toNat t9) 0))])] [(Lf.i t1), (Lf.i t2), (Lf.i t8), (Lf.i (IntKind.wrap .i64 (t9 - (1 : Int)))), (Lf.r y1_b0)])) ∧
          (y1_0 ≥ (0 : Int) →
            EV 4 [R0] [(Lf.i t1), (Lf.i t2), (Lf.i (IntKind.wrap .i64 (t8 + (1 : Int)))), (Lf.r y1_b0)])))))) ∧
    (t9 ≤ t1 →
      EV 4 [R0] [(Lf.i t1), (Lf.i t2), (Lf.i (IntKind.wrap .i64 (t8 + (1 : Int)))), (Lf.r tb1)])) →
    EV 16 [R0] [.i t1, .i t2, .i t8, .i t9, .r tb1]

set_option maxHeartbeats 0 in
theorem V82a.of {Q : Nat → Rs → List Lf → Prop} {A : Ar} {CE : Nat → Rs → List Lf → (Nat → Rs → List Lf → Prop) → Prop} {CK : Nat → Rs → List Lf → Cont → Prop} {Dn : Nat → List Bool → List AItem → Nat → List Bool → List AV → List ABlk → Prop} {EV RR : Nat → Rs → List Lf → Prop} (W : Wk Try.prog Try.f82 I82a L82a Q A sg CE CK Dn EV RR) : V82a EV Q := by
  have hA := W.hA
  refine ⟨?_, ?_⟩
  · intro R0 t1 t2 t8 tb1 h
    refine W.step 80 fun hp => ?_
    have h := h hp.1
    cbv
    refine ⟨imI hA fun e0 => have c0 : t8 < t2 := (by have q := (cmpE (op := .lss) hA e0); subst hA; exact q); ⟨ndI hA (And.intro rfl (And.intro rfl rfl)), ⟨ndI hA (by subst hA; exact hp.1), (by subst hA; exact (h.1 c0))⟩⟩, imI hA fun e0 => have c0 : t8 ≥ t2 := (by have q := (cmpE (op := .lss) hA e0); subst hA; exact q); ⟨ndI hA (by subst hA; exact hp.1), (by rw [W.rr]; exact (by subst hA; exact (h.2 c0)))⟩⟩
  · intro R0 t1 t2 t8 t9 tb1 h
    refine W.step 80 fun hp => ?_
    have h := h hp.1
    cbv
    refine ⟨fun e0 => have c0 : t9 > t1 := (by have q := (cmpE (op := .gtr) hA e0); subst hA; exact q); ?_, fun e0 => have c0 : t9 ≤ t1 := (by have q := (cmpE (op := .gtr) hA e0); subst hA; exact q); ?_⟩
    · refine W.draw 80 (by rfl) ?_
      cbv
      refine ⟨ndI hA (And.intro (by subst hA; exact (h.1 c0).1) (And.intro (by subst hA; exact (h.1 c0).2.1) rfl)), ⟨ndI hA (And.intro rfl (by subst hA; show R0[(0 + (Int.toNat t9))]? = some [(AV.int .i64 (cIS R0 (0 + (Int.toNat t9)) 0))]; (try simp only [rappS_end, Nat.zero_add, Int.toNat_natCast]); exact (h.1 c0).2.2.1)), ⟨ndI hA (And.intro (by subst hA; exact (h.1 c0).2.2.2.1) (And.intro (by subst hA; exact (h.1 c0).2.2.2.2.1) rfl)), ⟨ndI hA (And.intro rfl (by subst hA; show R0[(0 + (Int.toNat (IntKind.wrap .i64 (t9 - (1 : Int)))))]? = some [(AV.int .i64 (cIS R0 (0 + (Int.toNat (IntKind.wrap .i64 (t9 - (1 : Int))))) 0))]; (try simp only [rappS_end, Nat.zero_add, Int.toNat_natCast]); exact (h.1 c0).2.2.2.2.2.1)), ⟨?_, trivial⟩⟩⟩⟩⟩
      · refine W.callD (by rfl) (h.1 c0).2.2.2.2.2.2 (by subst hA; show [] = []; (try simp only [rappS_end, Nat.zero_add, Int.toNat_natCast])) (by subst hA; show [(Lf.i (cIS R0 (0 + (Int.toNat t9)) 0)), (Lf.i (cIS R0 (0 + (Int.toNat (IntKind.wrap .i64 (t9 - (1 : Int))))) 0)), (Lf.r tb1)] = [(Lf.i (cIS R0 (Int.toNat t9) 0)), (Lf.i (cIS R0 (Int.toNat (IntKind.wrap .i64 (t9 - (1 : Int)))) 0)), (Lf.r tb1)]; (try simp only [rappS_end, Nat.zero_add, Int.toNat_natCast])) ?_
        rintro x rs vs hp1 hq1
        rcases hq1 with ⟨rfl, y1_0, y1_b0, rfl, rfl, k1⟩
        · cbv
          refine ?_
          · refine W.draw 80 (by rfl) ?_
            cbv
            refine ⟨imI hA fun e2 => have c2 : y1_0 < (0 : Int) := (by have q := (cmpE (op := .lss) hA e2); subst hA; exact q); ⟨⟨ndI hA (And.intro (by subst hA; exact (k1.1 c2).1) (And.intro (by subst hA; exact (k1.1 c2).2.1) rfl)), ⟨⟨ndI hA (And.intro rfl (by subst hA; show R0[(0 + (Int.toNat (IntKind.wrap .i64 (t9 - (1 : Int)))))]? = some [(AV.int .i64 (cIS R0 (0 + (Int.toNat (IntKind.wrap .i64 (t9 - (1 : Int))))) 0))]; (try simp only [rappS_end, Nat.zero_add, Int.toNat_natCast]); exact (k1.1 c2).2.2.1)), ⟨⟨ndI hA (And.intro (by subst hA; exact (k1.1 c2).2.2.2.1) (And.intro (by subst hA; exact (k1.1 c2).2.2.2.2.1) rfl)), ⟨⟨ndI hA (And.intro rfl (by subst hA; show R0[(0 + (Int.toNat t9))]? = some [(AV.int .i64 (cIS R0 (0 + (Int.toNat t9)) 0))]; (try simp only [rappS_end, Nat.zero_add, Int.toNat_natCast]); exact (k1.1 c2).2.2.2.2.2.1)), ⟨⟨ndI hA (And.intro (by subst hA; exact (k1.1 c2).2.2.2.1) (And.intro (by subst hA; exact (k1.1 c2).2.2.2.2.1) rfl)), ⟨⟨ndI hA (And.intro rfl (by subst hA; show R0[(0 + (Int.toNat t9))]? = some [(AV.int .i64 (cIS R0 (0 + (Int.toNat t9)) 0))]; (try simp only [rappS_end, Nat.zero_add, Int.toNat_natCast]); exact (k1.1 c2).2.2.2.2.2.1)), ⟨⟨ndI hA (And.intro (by subst hA; exact (k1.1 c2).1) (And.intro (by subst hA; exact (k1.1 c2).2.1) (by subst hA; show (List.length R0) = (List.length (List.set R0 (0 + (Int.toNat t9)) [(AV.int .i64 (cIS R0 (0 + (Int.toNat (IntKind.wrap .i64 (t9 - (1 : Int))))) 0))])); (first | rfl | simp [rappS_end] | (simp only [rappS_end, List.length_append, List.length_set, List.length_cons, List.length_nil]; omega))))), ⟨⟨ndI hA (And.intro (by subst hA; show (List.length R0) = (List.length (List.set R0 (0 + (Int.toNat t9)) [(AV.int .i64 (cIS R0 (0 + (Int.toNat (IntKind.wrap .i64 (t9 - (1 : Int))))) 0))])); (first | rfl | simp [rappS_end] | (simp only [rappS_end, List.length_append, List.length_set, List.length_cons, List.length_nil]; omega))) (by subst hA; show (List.set R0 (0 + (Int.toNat t9)) [(AV.int .i64 (cIS R0 (0 + (Int.toNat (IntKind.wrap .i64 (t9 - (1 : Int))))) 0))])[(0 + (Int.toNat (IntKind.wrap .i64 (t9 - (1 : Int)))))]? = some [(AV.int .i64 (cIS (List.set R0 (0 + (Int.toNat t9)) [(AV.int .i64 (cIS R0 (0 + (Int.toNat (IntKind.wrap .i64 (t9 - (1 : Int))))) 0))]) (0 + (Int.toNat (IntKind.wrap .i64 (t9 - (1 : Int))))) 0))]; (try simp only [rappS_end, Nat.zero_add, Int.toNat_natCast]); exact (k1.1 c2).2.2.2.2.2.2.1)), ⟨ndI hA (And.intro (by subst hA; show (List.length R0) = (List.length (List.set (List.set R0 (0 + (Int.toNat t9)) [(AV.int .i64 (cIS R0 (0 + (Int.toNat (IntKind.wrap .i64 (t9 - (1 : Int))))) 0))]) (0 + (Int.toNat (IntKind.wrap .i64 (t9 - (1 : Int))))) [(AV.int .i64 (cIS R0 (0 + (Int.toNat t9)) 0))])); (first | rfl | simp [rappS_end] | (simp only [rappS_end, List.length_append, List.length_set, List.length_cons, List.length_nil]; omega))) (And.intro rfl (by subst hA; show (List.length R0) = (List.length (List.set (List.set R0 (0 + (Int.toNat t9)) [(AV.int .i64 (cIS R0 (0 + (Int.toNat (IntKind.wrap .i64 (t9 - (1 : Int))))) 0))]) (0 + (Int.toNat (IntKind.wrap .i64 (t9 - (1 : Int))))) [(AV.int .i64 (cIS R0 (0 + (Int.toNat t9)) 0))])); (first | rfl | simp [rappS_end] | (simp only [rappS_end, List.length_append, List.length_set, List.length_cons, List.length_nil]; omega))))), ⟨ndI hA (by subst hA; exact (vset (vset hp.1 rfl) rfl)), (by subst hA; show EV 16 [(List.set (List.set R0 (0 + (Int.toNat t9)) [(AV.int .i64 (cIS R0 (0 + (Int.toNat (IntKind.wrap .i64 (t9 - (1 : Int))))) 0))]) (0 + (Int.toNat (IntKind.wrap .i64 (t9 - (1 : Int))))) [(AV.int .i64 (cIS R0 (0 + (Int.toNat t9)) 0))])] [(Lf.i t1), (Lf.i t2), (Lf.i t8), (Lf.i (IntKind.wrap .i64 (t9 - (1 : Int)))), (Lf.r y1_b0)]; (try simp only [rappS_end, Nat.zero_add, Int.toNat_natCast]); exact (k1.1 c2).2.2.2.2.2.2.2)⟩⟩⟩, trivial⟩⟩, trivial⟩⟩, trivial⟩⟩, trivial⟩⟩, trivial⟩⟩, trivial⟩⟩, ⟨⟨ndI hA (And.intro (by subst hA; exact (k1.1 c2).2.2.2.1) (And.intro (by subst hA; exact (k1.1 c2).2.2.2.2.1) rfl)), ⟨⟨ndI hA (And.intro rfl (by subst hA; show R0[(0 + (Int.toNat (IntKind.wrap .i64 (t9 - (1 : Int)))))]? = some [(AV.int .i64 (cIS R0 (0 + (Int.toNat (IntKind.wrap .i64 (t9 - (1 : Int))))) 0))]; (try simp only [rappS_end, Nat.zero_add, Int.toNat_natCast]); exact (k1.1 c2).2.2.1)), ⟨⟨ndI hA (And.intro rfl (by subst hA; show R0[(0 + (Int.toNat t9))]? = some [(AV.int .i64 (cIS R0 (0 + (Int.toNat t9)) 0))]; (try simp only [rappS_end, Nat.zero_add, Int.toNat_natCast]); exact (k1.1 c2).2.2.2.2.2.1)), ⟨⟨ndI hA (And.intro (by subst hA; exact (k1.1 c2).2.2.2.1) (And.intro (by subst hA; exact (k1.1 c2).2.2.2.2.1) rfl)), ⟨⟨ndI hA (And.intro rfl (by subst hA; show R0[(0 + (Int.toNat t9))]? = some [(AV.int .i64 (cIS R0 (0 + (Int.toNat t9)) 0))]; (try simp only [rappS_end, Nat.zero_add, Int.toNat_natCast]); exact (k1.1 c2).2.2.2.2.2.1)), ⟨⟨ndI hA (And.intro (by subst hA; exact (k1.1 c2).1) (And.intro (by subst hA; exact (k1.1 c2).2.1) (by subst hA; show (List.length R0) = (List.length (List.set R0 (0 + (Int.toNat t9)) [(AV.int .i64 (cIS R0 (0 + (Int.toNat (IntKind.wrap .i64 (t9 - (1 : Int))))) 0))])); (first | rfl | simp [rappS_end] | (simp only [rappS_end, List.length_append, List.length_set, List.length_cons, List.length_nil]; omega))))), ⟨⟨ndI hA (And.intro (by subst hA; show (List.length R0) = (List.length (List.set R0 (0 + (Int.toNat t9)) [(AV.int .i64 (cIS R0 (0 + (Int.toNat (IntKind.wrap .i64 (t9 - (1 : Int))))) 0))])); (first | rfl | simp [rappS_end] | (simp only [rappS_end, List.length_append, List.length_set, List.length_cons, List.length_nil]; omega))) (by subst hA; show (List.set R0 (0 + (Int.toNat t9)) [(AV.int .i64 (cIS R0 (0 + (Int.toNat (IntKind.wrap .i64 (t9 - (1 : Int))))) 0))])[(0 + (Int.toNat (IntKind.wrap .i64 (t9 - (1 : Int)))))]? = some [(AV.int .i64 (cIS (List.set R0 (0 + (Int.toNat t9)) [(AV.int .i64 (cIS R0 (0 + (Int.toNat (IntKind.wrap .i64 (t9 - (1 : Int))))) 0))]) (0 + (Int.toNat (IntKind.wrap .i64 (t9 - (1 : Int))))) 0))]; (try simp only [rappS_end, Nat.zero_add, Int.toNat_natCast]); exact (k1.1 c2).2.2.2.2.2.2.1)), ⟨ndI hA (And.intro (by subst hA; show (List.length R0) = (List.length (List.set (List.set R0 (0 + (Int.toNat t9)) [(AV.int .i64 (cIS R0 (0 + (Int.toNat (IntKind.wrap .i64 (t9 - (1 : Int))))) 0))]) (0 + (Int.toNat (IntKind.wrap .i64 (t9 - (1 : Int))))) [(AV.int .i64 (cIS R0 (0 + (Int.toNat t9)) 0))])); (first | rfl | simp [rappS_end] | (simp only [rappS_end, List.length_append, List.length_set, List.length_cons, List.length_nil]; omega))) (And.intro rfl (by subst hA; show (List.length R0) = (List.length (List.set (List.set R0 (0 + (Int.toNat t9)) [(AV.int .i64 (cIS R0 (0 + (Int.toNat (IntKind.wrap .i64 (t9 - (1 : Int))))) 0))]) (0 + (Int.toNat (IntKind.wrap .i64 (t9 - (1 : Int))))) [(AV.int .i64 (cIS R0 (0 + (Int.toNat t9)) 0))])); (first | rfl | simp [rappS_end] | (simp only [rappS_end, List.length_append, List.length_set, List.length_cons, List.length_nil]; omega))))), ⟨ndI hA (by subst hA; exact (vset (vset hp.1 rfl) rfl)), (by subst hA; show EV 16 [(List.set (List.set R0 (0 + (Int.toNat t9)) [(AV.int .i64 (cIS R0 (0 + (Int.toNat (IntKind.wrap .i64 (t9 - (1 : Int))))) 0))]) (0 + (Int.toNat (IntKind.wrap .i64 (t9 - (1 : Int))))) [(AV.int .i64 (cIS R0 (0 + (Int.toNat t9)) 0))])] [(Lf.i t1), (Lf.i t2), (Lf.i t8), (Lf.i (IntKind.wrap .i64 (t9 - (1 : Int)))), (Lf.r y1_b0)]; (try simp only [rappS_end, Nat.zero_add, Int.toNat_natCast]); exact (k1.1 c2).2.2.2.2.2.2.2)⟩⟩⟩, trivial⟩⟩, trivial⟩⟩, trivial⟩⟩, trivial⟩⟩, trivial⟩⟩, ⟨⟨ndI hA (And.intro rfl (by subst hA; show R0[(0 + (Int.toNat t9))]? = some [(AV.int .i64 (cIS R0 (0 + (Int.toNat t9)) 0))]; (try simp only [rappS_end, Nat.zero_add, Int.toNat_natCast]); exact (k1.1 c2).2.2.2.2.2.1)), ⟨⟨ndI hA (And.intro rfl (by subst hA; show R0[(0 + (Int.toNat (IntKind.wrap .i64 (t9 - (1 : Int)))))]? = some [(AV.int .i64 (cIS R0 (0 + (Int.toNat (IntKind.wrap .i64 (t9 - (1 : Int))))) 0))]; (try simp only [rappS_end, Nat.zero_add, Int.toNat_natCast]); exact (k1.1 c2).2.2.1)), ⟨⟨ndI hA (And.intro (by subst hA; exact (k1.1 c2).2.2.2.1) (And.intro (by subst hA; exact (k1.1 c2).2.2.2.2.1) rfl)), ⟨⟨ndI hA (And.intro rfl (by subst hA; show R0[(0 + (Int.toNat t9))]? = some [(AV.int .i64 (cIS R0 (0 + (Int.toNat t9)) 0))]; (try simp only [rappS_end, Nat.zero_add, Int.toNat_natCast]); exact (k1.1 c2).2.2.2.2.2.1)), ⟨⟨ndI hA (And.intro (by subst hA; exact (k1.1 c2).1) (And.intro (by subst hA; exact (k1.1 c2).2.1) (by subst hA; show (List.length R0) = (List.length (List.set R0 (0 + (Int.toNat t9)) [(AV.int .i64 (cIS R0 (0 + (Int.toNat (IntKind.wrap .i64 (t9 - (1 : Int))))) 0))])); (first | rfl | simp [rappS_end] | (simp only [rappS_end, List.length_append, List.length_set, List.length_cons, List.length_nil]; omega))))), ⟨⟨ndI hA (And.intro (by subst hA; show (List.length R0) = (List.length (List.set R0 (0 + (Int.toNat t9)) [(AV.int .i64 (cIS R0 (0 + (Int.toNat (IntKind.wrap .i64 (t9 - (1 : Int))))) 0))])); (first | rfl | simp [rappS_end] | (simp only [rappS_end, List.length_append, List.length_set, List.length_cons, List.length_nil]; omega))) (by subst hA; show (List.set R0 (0 + (Int.toNat t9)) [(AV.int .i64 (cIS R0 (0 + (Int.toNat (IntKind.wrap .i64 (t9 - (1 : Int))))) 0))])[(0 + (Int.toNat (IntKind.wrap .i64 (t9 - (1 : Int)))))]? = some [(AV.int .i64 (cIS (List.set R0 (0 + (Int.toNat t9)) [(AV.int .i64 (cIS R0 (0 + (Int.toNat (IntKind.wrap .i64 (t9 - (1 : Int))))) 0))]) (0 + (Int.toNat (IntKind.wrap .i64 (t9 - (1 : Int))))) 0))]; (try simp only [rappS_end, Nat.zero_add, Int.toNat_natCast]); exact (k1.1 c2).2.2.2.2.2.2.1)), ⟨ndI hA (And.intro (by subst hA; show (List.length R0) = (List.length (List.set (List.set R0 (0 + (Int.toNat t9)) [(AV.int .i64 (cIS R0 (0 + (Int.toNat (IntKind.wrap .i64 (t9 - (1 : Int))))) 0))]) (0 + (Int.toNat (IntKind.wrap .i64 (t9 - (1 : Int))))) [(AV.int .i64 (cIS R0 (0 + (Int.toNat t9)) 0))])); (first | rfl | simp [rappS_end] | (simp only [rappS_end, List.length_append, List.length_set, List.length_cons, List.length_nil]; omega))) (And.intro rfl (by subst hA; show (List.length R0) = (List.length (List.set (List.set R0 (0 + (Int.toNat t9)) [(AV.int .i64 (cIS R0 (0 + (Int.toNat (IntKind.wrap .i64 (t9 - (1 : Int))))) 0))]) (0 + (Int.toNat (IntKind.wrap .i64 (t9 - (1 : Int))))) [(AV.int .i64 (cIS R0 (0 + (Int.toNat t9)) 0))])); (first | rfl | simp [rappS_end] | (simp only [rappS_end, List.length_append, List.length_set, List.length_cons, List.length_nil]; omega))))), ⟨ndI hA (by subst hA; exact (vset (vset hp.1 rfl) rfl)), (by subst hA; show EV 16 [(List.set (List.set R0 (0 + (Int.toNat t9)) [(AV.int .i64 (cIS R0 (0 + (Int.toNat (IntKind.wrap .i64 (t9 - (1 : Int))))) 0))]) (0 + (Int.toNat (IntKind.wrap .i64 (t9 - (1 : Int))))) [(AV.int .i64 (cIS R0 (0 + (Int.toNat t9)) 0))])] [(Lf.i t1), (Lf.i t2), (Lf.i t8), (Lf.i (IntKind.wrap .i64 (t9 - (1 : Int)))), (Lf.r y1_b0)]; (try simp only [rappS_end, Nat.zero_add, Int.toNat_natCast]); exact (k1.1 c2).2.2.2.2.2.2.2)⟩⟩⟩, trivial⟩⟩, trivial⟩⟩, trivial⟩⟩, trivial⟩⟩, trivial⟩⟩, trivial⟩⟩⟩, trivial⟩⟩⟩, ⟨⟨ndI hA (And.intro (by subst hA; exact (k1.1 c2).2.2.2.1) (And.intro (by subst hA; exact (k1.1 c2).2.2.2.2.1) rfl)), ⟨⟨ndI hA (And.intro (by subst hA; exact (k1.1 c2).1) (And.intro (by subst hA; exact (k1.1 c2).2.1) rfl)), ⟨⟨ndI hA (And.intro rfl (by subst hA; show R0[(0 + (Int.toNat (IntKind.wrap .i64 (t9 - (1 : Int)))))]? = some [(AV.int .i64 (cIS R0 (0 + (Int.toNat (IntKind.wrap .i64 (t9 - (1 : Int))))) 0))]; (try simp only [rappS_end, Nat.zero_add, Int.toNat_natCast]); exact (k1.1 c2).2.2.1)), ⟨⟨ndI hA (And.intro rfl (by subst hA; show R0[(0 + (Int.toNat t9))]? = some [(AV.int .i64 (cIS R0 (0 + (Int.toNat t9)) 0))]; (try simp only [rappS_end, Nat.zero_add, Int.toNat_natCast]); exact (k1.1 c2).2.2.2.2.2.1)), ⟨⟨ndI hA (And.intro (by subst hA; exact (k1.1 c2).2.2.2.1) (And.intro (by subst hA; exact (k1.1 c2).2.2.2.2.1) rfl)), ⟨⟨ndI hA (And.intro rfl (by subst hA; show R0[(0 + (Int.toNat t9))]? = some [(AV.int .i64 (cIS R0 (0 + (Int.toNat t9)) 0))]; (try simp only [rappS_end, Nat.zero_add, Int.toNat_natCast]); exact (k1.1 c2).2.2.2.2.2.1)), ⟨⟨ndI hA (And.intro (by subst hA; exact (k1.1 c2).1) (And.intro (by subst hA; exact (k1.1 c2).2.1) (by subst hA; show (List.length R0) = (List.length (List.set R0 (0 + (Int.toNat t9)) [(AV.int .i64 (cIS R0 (0 + (Int.toNat (IntKind.wrap .i64 (t9 - (1 : Int))))) 0))])); (first | rfl | simp [rappS_end] | (simp only [rappS_end, List.length_append, List.length_set, List.length_cons, List.length_nil]; omega))))), ⟨⟨ndI hA (And.intro (by subst hA; show (List.length R0) = (List.length (List.set R0 (0 + (Int.toNat t9)) [(AV.int .i64 (cIS R0 (0 + (Int.toNat (IntKind.wrap .i64 (t9 - (1 : Int))))) 0))])); (first | rfl | simp [rappS_end] | (simp only [rappS_end, List.length_append, List.length_set, List.length_cons, List.length_nil]; omega))) (by subst hA; show (List.set R0 (0 + (Int.toNat t9)) [(AV.int .i64 (cIS R0 (0 + (Int.toNat (IntKind.wrap .i64 (t9 - (1 : Int))))) 0))])[(0 + (Int.toNat (IntKind.wrap .i64 (t9 - (1 : Int)))))]? = some [(AV.int .i64 (cIS (List.set R0 (0 + (Int.toNat t9)) [(AV.int .i64 (cIS R0 (0 + (Int.toNat (IntKind.wrap .i64 (t9 - (1 : Int))))) 0))]) (0 + (Int.toNat (IntKind.wrap .i64 (t9 - (1 : Int))))) 0))]; (try simp only [rappS_end, Nat.zero_add, Int.toNat_natCast]); exact (k1.1 c2).2.2.2.2.2.2.1)), ⟨ndI hA (And.intro (by subst hA; show (List.length R0) = (List.length (List.set (List.set R0 (0 + (Int.toNat t9)) [(AV.int .i64 (cIS R0 (0 + (Int.toNat (IntKind.wrap .i64 (t9 - (1 : Int))))) 0))]) (0 + (Int.toNat (IntKind.wrap .i64 (t9 - (1 : Int))))) [(AV.int .i64 (cIS R0 (0 + (Int.toNat t9)) 0))])); (first | rfl | simp [rappS_end] | (simp only [rappS_end, List.length_append, List.length_set, List.length_cons, List.length_nil]; omega))) (And.intro rfl (by subst hA; show (List.length R0) = (List.length (List.set (List.set R0 (0 + (Int.toNat t9)) [(AV.int .i64 (cIS R0 (0 + (Int.toNat (IntKind.wrap .i64 (t9 - (1 : Int))))) 0))]) (0 + (Int.toNat (IntKind.wrap .i64 (t9 - (1 : Int))))) [(AV.int .i64 (cIS R0 (0 + (Int.toNat t9)) 0))])); (first | rfl | simp [rappS_end] | (simp only [rappS_end, List.length_append, List.length_set, List.length_cons, List.length_nil]; omega))))), ⟨ndI hA (by subst hA; exact (vset (vset hp.1 rfl) rfl)), (by subst hA; show EV 16 [(List.set (List.set R0 (0 + (Int.toNat t9)) [(AV.int .i64 (cIS R0 (0 + (Int.toNat (IntKind.wrap .i64 (t9 - (1 : Int))))) 0))]) (0 + (Int.toNat (IntKind.wrap .i64 (t9 - (1 : Int))))) [(AV.int .i64 (cIS R0 (0 + (Int.toNat t9)) 0))])] [(Lf.i t1), (Lf.i t2), (Lf.i t8), (Lf.i (IntKind.wrap .i64 (t9 - (1 : Int)))), (Lf.r y1_b0)]; (try simp only [rappS_end, Nat.zero_add, Int.toNat_natCast]); exact (k1.1 c2).2.2.2.2.2.2.2)⟩⟩⟩, trivial⟩⟩, trivial⟩⟩, trivial⟩⟩, trivial⟩⟩, trivial⟩⟩, ⟨⟨ndI hA (And.intro rfl (by subst hA; show R0[(0 + (Int.toNat t9))]? = some [(AV.int .i64 (cIS R0 (0 + (Int.toNat t9)) 0))]; (try simp only [rappS_end, Nat.zero_add, Int.toNat_natCast]); exact (k1.1 c2).2.2.2.2.2.1)), ⟨⟨ndI hA (And.intro rfl (by subst hA; show R0[(0 + (Int.toNat (IntKind.wrap .i64 (t9 - (1 : Int)))))]? = some [(AV.int .i64 (cIS R0 (0 + (Int.toNat (IntKind.wrap .i64 (t9 - (1 : Int))))) 0))]; (try simp only [rappS_end, Nat.zero_add, Int.toNat_natCast]); exact (k1.1 c2).2.2.1)), ⟨⟨ndI hA (And.intro (by subst hA; exact (k1.1 c2).2.2.2.1) (And.intro (by subst hA; exact (k1.1 c2).2.2.2.2.1) rfl)), ⟨⟨ndI hA (And.intro rfl (by subst hA; show R0[(0 + (Int.toNat t9))]? = some [(AV.int .i64 (cIS R0 (0 + (Int.toNat t9)) 0))]; (try simp only [rappS_end, Nat.zero_add, Int.toNat_natCast]); exact (k1.1 c2).2.2.2.2.2.1)), ⟨⟨ndI hA (And.intro (by subst hA; exact (k1.1 c2).1) (And.intro (by subst hA; exact (k1.1 c2).2.1) (by subst hA; show (List.length R0) = (List.length (List.set R0 (0 + (Int.toNat t9)) [(AV.int .i64 (cIS R0 (0 + (Int.toNat (IntKind.wrap .i64 (t9 - (1 : Int))))) 0))])); (first | rfl | simp [rappS_end] | (simp only [rappS_end, List.length_append, List.length_set, List.length_cons, List.length_nil]; omega))))), ⟨⟨ndI hA (And.intro (by subst hA; show (List.length R0) = (List.length (List.set R0 (0 + (Int.toNat t9)) [(AV.int .i64 (cIS R0 (0 + (Int.toNat (IntKind.wrap .i64 (t9 - (1 : Int))))) 0))])); (first | rfl | simp [rappS_end] | (simp only [rappS_end, List.length_append, List.length_set, List.length_cons, List.length_nil]; omega))) (by subst hA; show (List.set R0 (0 + (Int.toNat t9)) [(AV.int .i64 (cIS R0 (0 + (Int.toNat (IntKind.wrap .i64 (t9 - (1 : Int))))) 0))])[(0 + (Int.toNat (IntKind.wrap .i64 (t9 - (1 : Int)))))]? = some [(AV.int .i64 (cIS (List.set R0 (0 + (Int.toNat t9)) [(AV.int .i64 (cIS R0 (0 + (Int.toNat (IntKind.wrap .i64 (t9 - (1 : Int))))) 0))]) (0 + (Int.toNat (IntKind.wrap .i64 (t9 - (1 : Int))))) 0))]; (try simp only [rappS_end, Nat.zero_add, Int.toNat_natCast]); exact (k1.1 c2).2.2.2.2.2.2.1)), ⟨ndI hA (And.intro (by subst hA; show (List.length R0) = (List.length (List.set (List.set R0 (0 + (Int.toNat t9)) [(AV.int .i64 (cIS R0 (0 + (Int.toNat (IntKind.wrap .i64 (t9 - (1 : Int))))) 0))]) (0 + (Int.toNat (IntKind.wrap .i64 (t9 - (1 : Int))))) [(AV.int .i64 (cIS R0 (0 + (Int.toNat t9)) 0))])); (first | rfl | simp [rappS_end] | (simp only [rappS_end, List.length_append, List.length_set, List.length_cons, List.length_nil]; omega))) (And.intro rfl (by subst hA; show (List.length R0) = (List.length (List.set (List.set R0 (0 + (Int.toNat t9)) [(AV.int .i64 (cIS R0 (0 + (Int.toNat (IntKind.wrap .i64 (t9 - (1 : Int))))) 0))]) (0 + (Int.toNat (IntKind.wrap .i64 (t9 - (1 : Int))))) [(AV.int .i64 (cIS R0 (0 + (Int.toNat t9)) 0))])); (first | rfl | simp [rappS_end] | (simp only [rappS_end, List.length_append, List.length_set, List.length_cons, List.length_nil]; omega))))), ⟨ndI hA (by subst hA; exact (vset (vset hp.1 rfl) rfl)), (by subst hA; show EV 16 [(List.set (List.set R0 (0 + (Int.toNat t9)) [(AV.int .i64 (cIS R0 (0 + (Int.toNat (IntKind.wrap .i64 (t9 - (1 : Int))))) 0))]) (0 + (Int.toNat (IntKind.wrap .i64 (t9 - (1 : Int))))) [(AV.int .i64 (cIS R0 (0 + (Int.toNat t9)) 0))])] [(Lf.i t1), (Lf.i t2), (Lf.i t8), (Lf.i (IntKind.wrap .i64 (t9 - (1 : Int)))), (Lf.r y1_b0)]; (try simp only [rappS_end, Nat.zero_add, Int.toNat_natCast]); exact (k1.1 c2).2.2.2.2.2.2.2)⟩⟩⟩, trivial⟩⟩, trivial⟩⟩, trivial⟩⟩, trivial⟩⟩, trivial⟩⟩, trivial⟩⟩⟩, ⟨⟨ndI hA (And.intro rfl (by subst hA; show R0[(0 + (Int.toNat t9))]? = some [(AV.int .i64 (cIS R0 (0 + (Int.toNat t9)) 0))]; (try simp only [rappS_end, Nat.zero_add, Int.toNat_natCast]); exact (k1.1 c2).2.2.2.2.2.1)), ⟨⟨ndI hA (And.intro (by subst hA; exact (k1.1 c2).1) (And.intro (by subst hA; exact (k1.1 c2).2.1) rfl)), ⟨⟨ndI hA (And.intro rfl (by subst hA; show R0[(0 + (Int.toNat (IntKind.wrap .i64 (t9 - (1 : Int)))))]? = some [(AV.int .i64 (cIS R0 (0 + (Int.toNat (IntKind.wrap .i64 (t9 - (1 : Int))))) 0))]; (try simp only [rappS_end, Nat.zero_add, Int.toNat_natCast]); exact (k1.1 c2).2.2.1)), ⟨⟨ndI hA (And.intro (by subst hA; exact (k1.1 c2).2.2.2.1) (And.intro (by subst hA; exact (k1.1 c2).2.2.2.2.1) rfl)), ⟨⟨ndI hA (And.intro rfl (by subst hA; show R0[(0 + (Int.toNat t9))]? = some [(AV.int .i64 (cIS R0 (0 + (Int.toNat t9)) 0))]; (try simp only [rappS_end, Nat.zero_add, Int.toNat_natCast]); exact (k1.1 c2).2.2.2.2.2.1)), ⟨⟨ndI hA (And.intro (by subst hA; exact (k1.1 c2).1) (And.intro (by subst hA; exact (k1.1 c2).2.1) (by subst hA; show (List.length R0) = (List.length (List.set R0 (0 + (Int.toNat t9)) [(AV.int .i64 (cIS R0 (0 + (Int.toNat (IntKind.wrap .i64 (t9 - (1 : Int))))) 0))])); (first | rfl | simp [rappS_end] | (simp only [rappS_end, List.length_append, List.length_set, List.length_cons, List.length_nil]; omega))))), ⟨⟨ndI hA (And.intro (by subst hA; show (List.length R0) = (List.length (List.set R0 (0 + (Int.toNat t9)) [(AV.int .i64 (cIS R0 (0 + (Int.toNat (IntKind.wrap .i64 (t9 - (1 : Int))))) 0))])); (first | rfl | simp [rappS_end] | (simp only [rappS_end, List.length_append, List.length_set, List.length_cons, List.length_nil]; omega))) (by subst hA; show (List.set R0 (0 + (Int.toNat t9)) [(AV.int .i64 (cIS R0 (0 + (Int.toNat (IntKind.wrap .i64 (t9 - (1 : Int))))) 0))])[(0 + (Int.toNat (IntKind.wrap .i64 (t9 - (1 : Int)))))]? = some [(AV.int .i64 (cIS (List.set R0 (0 + (Int.toNat t9)) [(AV.int .i64 (cIS R0 (0 + (Int.toNat (IntKind.wrap .i64 (t9 - (1 : Int))))) 0))]) (0 + (Int.toNat (IntKind.wrap .i64 (t9 - (1 : Int))))) 0))]; (try simp only [rappS_end, Nat.zero_add, Int.toNat_natCast]); exact (k1.1 c2).2.2.2.2.2.2.1)), ⟨ndI hA (And.intro (by subst hA; show (List.length R0) = (List.length (List.set (List.set R0 (0 + (Int.toNat t9)) [(AV.int .i64 (cIS R0 (0 + (Int.toNat (IntKind.wrap .i64 (t9 - (1 : Int))))) 0))]) (0 + (Int.toNat (IntKind.wrap .i64 (t9 - (1 : Int))))) [(AV.int .i64 (cIS R0 (0 + (Int.toNat t9)) 0))])); (first | rfl | simp [rappS_end] | (simp only [rappS_end, List.length_append, List.length_set, List.length_cons, List.length_nil]; omega))) (And.intro rfl (by subst hA; show (List.length R0) = (List.length (List.set (List.set R0 (0 + (Int.toNat t9)) [(AV.int .i64 (cIS R0 (0 + (Int.toNat (IntKind.wrap .i64 (t9 - (1 : Int))))) 0))]) (0 + (Int.toNat (IntKind.wrap .i64 (t9 - (1 : Int))))) [(AV.int .i64 (cIS R0 (0 + (Int.toNat t9)) 0))])); (first | rfl | simp [rappS_end] | (simp only [rappS_end, List.length_append, List.length_set, List.length_cons, List.length_nil]; omega))))), ⟨ndI hA (by subst hA; exact (vset (vset hp.1 rfl) rfl)), (by subst hA; show EV 16 [(List.set (List.set R0 (0 + (Int.toNat t9)) [(AV.int .i64 (cIS R0 (0 + (Int.toNat (IntKind.wrap .i64 (t9 - (1 : Int))))) 0))]) (0 + (Int.toNat (IntKind.wrap .i64 (t9 - (1 : Int))))) [(AV.int .i64 (cIS R0 (0 + (Int.toNat t9)) 0))])] [(Lf.i t1), (Lf.i t2), (Lf.i t8), (Lf.i (IntKind.wrap .i64 (t9 - (1 : Int)))), (Lf.r y1_b0)]; (try simp only [rappS_end, Nat.zero_add, Int.toNat_natCast]); exact (k1.1 c2).2.2.2.2.2.2.2)⟩⟩⟩, trivial⟩⟩, trivial⟩⟩, trivial⟩⟩, trivial⟩⟩, trivial⟩⟩, trivial⟩⟩, trivial⟩⟩⟩, trivial⟩⟩, imI hA fun e2 => have c2 : y1_0 ≥ (0 : Int) := (by have q := (cmpE (op := .lss) hA e2); subst hA; exact q); ⟨ndI hA (And.intro rfl (And.intro rfl rfl)), ⟨ndI hA (by subst hA; exact hp.1), (by subst hA; exact (k1.2 c2))⟩⟩⟩
    · refine W.draw 80 (by rfl) ?_
      cbv
      refine ⟨⟨ndI hA (And.intro rfl (And.intro rfl rfl)), ⟨ndI hA (by subst hA; exact hp.1), (by subst hA; exact (h.2 c0))⟩⟩, trivial⟩

end
set_option maxHeartbeats 0 in
/-- To enter. -/
theorem E82a {Q : Nat → Rs → List Lf → Prop} {R0 : List (List AV)} {a1 : Int} {a2 : Int} {ab1 : List (List AV)} (h : pursS R0 = true → ∀ EV : Nat → Rs → List Lf → Prop, V82a EV Q →
    EV 4 [R0] [(Lf.i a1), (Lf.i a2), (Lf.i (IntKind.wrap .i64 (a1 + (1 : Int)))), (Lf.r ab1)]) :
    EC Try.prog G82a [R0] [.i a1, .i a2, .r ab1] Q := by
  obtain ⟨A, hA⟩ : ∃ A, A = arS := ⟨_, rfl⟩
  refine Inst.enter (I := I82a) hA mixed F82_at sg L82a 80 rfl fun CE CK Dn EV RR W hp => ?_
  have h := h hp.1 EV (V82a.of W)
  cbv
  refine ⟨ndI hA (And.intro rfl (And.intro rfl rfl)), ⟨ndI hA (by subst hA; exact hp.1), (by subst hA; exact h)⟩⟩

-- 99a: slices.swapRangeCmpFunc[int] DRAWN
section
structure V99a (EV Q : Nat → Rs → List Lf → Prop) : Prop where
  p4 : ∀ {R0 : List (List AV)} {t1 : Int} {t2 : Int} {t3 : Int} {t10 : Int} {tb1 : List (List AV)}, (pursS R0 = true → 
    (t10 < t3 →
      ((0 : Int) ≤ (IntKind.wrap .i64 (t2 + t10))) ∧
      ((IntKind.wrap .i64 (t2 + t10)) < (((List.length R0) : Nat) : Int)) ∧
      (R0[(Int.toNat (IntKind.wrap .i64 (t2 + t10)))]? = some [(AV.int .i64 (cIS R0 (Int.toNat (IntKind.wrap .i64 (t2 + t10))) 0))]) ∧
      ((0 : Int) ≤ (IntKind.wrap .i64 (t1 + t10))) ∧
      ((IntKind.wrap .i64 (t1 + t10)) < (((List.length R0) : Nat) : Int)) ∧
      (R0[(Int.toNat (IntKind.wrap .i64 (t1 + t10)))]? = some [(AV.int .i64 (cIS R0 (Int.toNat (IntKind.wrap .i64 (t1 + t10))) 0))]) ∧
      ((List.set R0 (Int.toNat (IntKind.wrap .i64 (t1 + t10))) [(AV.int .i64 (cIS R0 (Int.toNat (IntKind.wrap .i64 (t2 + t10))) 0))])[(Int.toNat (IntKind.wrap .i64 (t2 + t10)))]? = some [(AV.int .i64 (cIS (List.set R0 (Int.toNat (IntKind.wrap .i64 (t1 + t10))) [(AV.int .i64 (cIS R0 (Int.toNat (IntKind.wrap .i64 (t2 + t10))) 0))]) (Int.toNat (IntKind.wrap .i64 (t2 + t10))) 0))]) ∧
      (EV 4 [(List.set (List.set R0 (Int.toNat (IntKind.wrap .i64 (t1 + t10))) [(AV.int .i64 (cIS R0 (Int.toNat (IntKind.wrap .i64 (t2 + t10))) 0))]) (Int.toNat (IntKind.wrap .i64 (t2 + t10))) [(AV.int .i64 (cIS R0 (Int.toNat (IntKind.wrap .i64 (t1 + t10))) 0))])] [(Lf.i t1), (Lf.i t2), (Lf.i t3), (Lf.i (IntKind.wrap .i64 (t10 + (1 : Int)))), (Lf.r tb1)])) ∧
    (t10 ≥ t3 →
      Q 0 [R0] [(Lf.r tb1)])) →
    EV 4 [R0] [.i t1, .i t2, .i t3, .i t10, .r tb1]

set_option maxHeartbeats 0 in
theorem V99a.of {Q : Nat → Rs → List Lf → Prop} {A : Ar} {CE : Nat → Rs → List Lf → (Nat → Rs → List Lf → Prop) → Prop} {CK : Nat → Rs → List Lf → Cont → Prop} {Dn : Nat → List Bool → List AItem → Nat → List Bool → List AV → List ABlk → Prop} {EV RR : Nat → Rs → List Lf → Prop} (W : Wk Try.prog Try.f99 I99a L99a Q A sg CE CK Dn EV RR) : V99a EV Q := by
  have hA := W.hA
  refine ⟨?_⟩
  · intro R0 t1 t2 t3 t10 tb1 h
    refine W.step 80 fun hp => ?_
    have h := h hp.1
    cbv
    refine ⟨imI hA fun e0 => have c0 : t10 < t3 := (by have q := (cmpE (op := .lss) hA e0); subst hA; exact q); ⟨⟨ndI hA (And.intro (by subst hA; exact (h.1 c0).1) (And.intro (by subst hA; exact (h.1 c0).2.1) rfl)), ⟨⟨ndI hA (And.intro rfl (by subst hA; show R0[(0 + (Int.toNat (IntKind.wrap .i64 (t2 + t10))))]? = some [(AV.int .i64 (cIS R0 (0 + (Int.toNat (IntKind.wrap .i64 (t2 + t10)))) 0))]; (try simp only [rappS_end, Nat.zero_add, Int.toNat_natCast]); exact (h.1 c0).2.2.1)), ⟨⟨ndI hA (And.intro (by subst hA; exact (h.1 c0).2.2.2.1) (And.intro (by subst hA; exact (h.1 c0).2.2.2.2.1) rfl)), ⟨⟨ndI hA (And.intro rfl (by subst hA; show R0[(0 + (Int.toNat (IntKind.wrap .i64 (t1 + t10))))]? = some [(AV.int .i64 (cIS R0 (0 + (Int.toNat (IntKind.wrap .i64 (t1 + t10)))) 0))]; (try simp only [rappS_end, Nat.zero_add, Int.toNat_natCast]); exact (h.1 c0).2.2.2.2.2.1)), ⟨⟨ndI hA (And.intro (by subst hA; exact (h.1 c0).2.2.2.1) (And.intro (by subst hA; exact (h.1 c0).2.2.2.2.1) rfl)), ⟨⟨ndI hA (And.intro rfl (by subst hA; show R0[(0 + (Int.toNat (IntKind.wrap .i64 (t1 + t10))))]? = some [(AV.int .i64 (cIS R0 (0 + (Int.toNat (IntKind.wrap .i64 (t1 + t10)))) 0))]; (try simp only [rappS_end, Nat.zero_add, Int.toNat_natCast]); exact (h.1 c0).2.2.2.2.2.1)), ⟨⟨ndI hA (And.intro (by subst hA; exact (h.1 c0).1) (And.intro (by subst hA; exact (h.1 c0).2.1) (by subst hA; show (List.length R0) = (List.length (List.set R0 (0 + (Int.toNat (IntKind.wrap .i64 (t1 + t10)))) [(AV.int .i64 (cIS R0 (0 + (Int.toNat (IntKind.wrap .i64 (t2 + t10)))) 0))])); (first | rfl | simp [rappS_end] | (simp only [rappS_end, List.length_append, List.length_set, List.length_cons, List.length_nil]; omega))))), ⟨⟨ndI hA (And.intro (by subst hA; show (List.length R0) = (List.length (List.set R0 (0 + (Int.toNat (IntKind.wrap .i64 (t1 + t10)))) [(AV.int .i64 (cIS R0 (0 + (Int.toNat (IntKind.wrap .i64 (t2 + t10)))) 0))])); (first | rfl | simp [rappS_end] | (simp only [rappS_end, List.length_append, List.length_set, List.length_cons, List.length_nil]; omega))) (by subst hA; show (List.set R0 (0 + (Int.toNat (IntKind.wrap .i64 (t1 + t10)))) [(AV.int .i64 (cIS R0 (0 + (Int.toNat (IntKind.wrap .i64 (t2 + t10)))) 0))])[(0 + (Int.toNat (IntKind.wrap .i64 (t2 + t10))))]? = some [(AV.int .i64 (cIS (List.set R0 (0 + (Int.toNat (IntKind.wrap .i64 (t1 + t10)))) [(AV.int .i64 (cIS R0 (0 + (Int.toNat (IntKind.wrap .i64 (t2 + t10)))) 0))]) (0 + (Int.toNat (IntKind.wrap .i64 (t2 + t10)))) 0))]; (try simp only [rappS_end, Nat.zero_add, Int.toNat_natCast]); exact (h.1 c0).2.2.2.2.2.2.1)), ⟨ndI hA (And.intro (by subst hA; show (List.length R0) = (List.length (List.set (List.set R0 (0 + (Int.toNat (IntKind.wrap .i64 (t1 + t10)))) [(AV.int .i64 (cIS R0 (0 + (Int.toNat (IntKind.wrap .i64 (t2 + t10)))) 0))]) (0 + (Int.toNat (IntKind.wrap .i64 (t2 + t10)))) [(AV.int .i64 (cIS R0 (0 + (Int.toNat (IntKind.wrap .i64 (t1 + t10)))) 0))])); (first | rfl | simp [rappS_end] | (simp only [rappS_end, List.length_append, List.length_set, List.length_cons, List.length_nil]; omega))) (And.intro rfl (by subst hA; show (List.length R0) = (List.length (List.set (List.set R0 (0 + (Int.toNat (IntKind.wrap .i64 (t1 + t10)))) [(AV.int .i64 (cIS R0 (0 + (Int.toNat (IntKind.wrap .i64 (t2 + t10)))) 0))]) (0 + (Int.toNat (IntKind.wrap .i64 (t2 + t10)))) [(AV.int .i64 (cIS R0 (0 + (Int.toNat (IntKind.wrap .i64 (t1 + t10)))) 0))])); (first | rfl | simp [rappS_end] | (simp only [rappS_end, List.length_append, List.length_set, List.length_cons, List.length_nil]; omega))))), ⟨ndI hA (by subst hA; exact (vset (vset hp.1 rfl) rfl)), (by subst hA; show EV 4 [(List.set (List.set R0 (0 + (Int.toNat (IntKind.wrap .i64 (t1 + t10)))) [(AV.int .i64 (cIS R0 (0 + (Int.toNat (IntKind.wrap .i64 (t2 + t10)))) 0))]) (0 + (Int.toNat (IntKind.wrap .i64 (t2 + t10)))) [(AV.int .i64 (cIS R0 (0 + (Int.toNat (IntKind.wrap .i64 (t1 + t10)))) 0))])] [(Lf.i t1), (Lf.i t2), (Lf.i t3), (Lf.i (IntKind.wrap .i64 (t10 + (1 : Int)))), (Lf.r tb1)]; (try simp only [rappS_end, Nat.zero_add, Int.toNat_natCast]); exact (h.1 c0).2.2.2.2.2.2.2)⟩⟩⟩, trivial⟩⟩, trivial⟩⟩, trivial⟩⟩, trivial⟩⟩, trivial⟩⟩, trivial⟩⟩, ⟨⟨ndI hA (And.intro (by subst hA; exact (h.1 c0).2.2.2.1) (And.intro (by subst hA; exact (h.1 c0).2.2.2.2.1) rfl)), ⟨⟨ndI hA (And.intro rfl (by subst hA; show R0[(0 + (Int.toNat (IntKind.wrap .i64 (t2 + t10))))]? = some [(AV.int .i64 (cIS R0 (0 + (Int.toNat (IntKind.wrap .i64 (t2 + t10)))) 0))]; (try simp only [rappS_end, Nat.zero_add, Int.toNat_natCast]); exact (h.1 c0).2.2.1)), ⟨⟨ndI hA (And.intro rfl (by subst hA; show R0[(0 + (Int.toNat (IntKind.wrap .i64 (t1 + t10))))]? = some [(AV.int .i64 (cIS R0 (0 + (Int.toNat (IntKind.wrap .i64 (t1 + t10)))) 0))]; (try simp only [rappS_end, Nat.zero_add, Int.toNat_natCast]); exact (h.1 c0).2.2.2.2.2.1)), ⟨⟨ndI hA (And.intro (by subst hA; exact (h.1 c0).2.2.2.1) (And.intro (by subst hA; exact (h.1 c0).2.2.2.2.1) rfl)), ⟨⟨ndI hA (And.intro rfl (by subst hA; show R0[(0 + (Int.toNat (IntKind.wrap .i64 (t1 + t10))))]? = some [(AV.int .i64 (cIS R0 (0 + (Int.toNat (IntKind.wrap .i64 (t1 + t10)))) 0))]; (try simp only [rappS_end, Nat.zero_add, Int.toNat_natCast]); exact (h.1 c0).2.2.2.2.2.1)), ⟨⟨ndI hA (And.intro (by subst hA; exact (h.1 c0).1) (And.intro (by subst hA; exact (h.1 c0).2.1) (by subst hA; show (List.length R0) = (List.length (List.set R0 (0 + (Int.toNat (IntKind.wrap .i64 (t1 + t10)))) [(AV.int .i64 (cIS R0 (0 + (Int.toNat (IntKind.wrap .i64 (t2 + t10)))) 0))])); (first | rfl | simp [rappS_end] | (simp only [rappS_end, List.length_append, List.length_set, List.length_cons, List.length_nil]; omega))))), ⟨⟨ndI hA (And.intro (by subst hA; show (List.length R0) = (List.length (List.set R0 (0 + (Int.toNat (IntKind.wrap .i64 (t1 + t10)))) [(AV.int .i64 (cIS R0 (0 + (Int.toNat (IntKind.wrap .i64 (t2 + t10)))) 0))])); (first | rfl | simp [rappS_end] | (simp only [rappS_end, List.length_append, List.length_set, List.length_cons, List.length_nil]; omega))) (by subst hA; show (List.set R0 (0 + (Int.toNat (IntKind.wrap .i64 (t1 + t10)))) [(AV.int .i64 (cIS R0 (0 + (Int.toNat (IntKind.wrap .i64 (t2 + t10)))) 0))])[(0 + (Int.toNat (IntKind.wrap .i64 (t2 + t10))))]? = some [(AV.int .i64 (cIS (List.set R0 (0 + (Int.toNat (IntKind.wrap .i64 (t1 + t10)))) [(AV.int .i64 (cIS R0 (0 + (Int.toNat (IntKind.wrap .i64 (t2 + t10)))) 0))]) (0 + (Int.toNat (IntKind.wrap .i64 (t2 + t10)))) 0))]; (try simp only [rappS_end, Nat.zero_add, Int.toNat_natCast]); exact (h.1 c0).2.2.2.2.2.2.1)), ⟨ndI hA (And.intro (by subst hA; show (List.length R0) = (List.length (List.set (List.set R0 (0 + (Int.toNat (IntKind.wrap .i64 (t1 + t10)))) [(AV.int .i64 (cIS R0 (0 + (Int.toNat (IntKind.wrap .i64 (t2 + t10)))) 0))]) (0 + (Int.toNat (IntKind.wrap .i64 (t2 + t10)))) [(AV.int .i64 (cIS R0 (0 + (Int.toNat (IntKind.wrap .i64 (t1 + t10)))) 0))])); (first | rfl | simp [rappS_end] | (simp only [rappS_end, List.length_append, List.length_set, List.length_cons, List.length_nil]; omega))) (And.intro rfl (by subst hA; show (List.length R0) = (List.length (List.set (List.set R0 (0 + (Int.toNat (IntKind.wrap .i64 (t1 + t10)))) [(AV.int .i64 (cIS R0 (0 + (Int.toNat (IntKind.wrap .i64 (t2 + t10)))) 0))]) (0 + (Int.toNat (IntKind.wrap .i64 (t2 + t10)))) [(AV.int .i64 (cIS R0 (0 + (Int.toNat (IntKind.wrap .i64 (t1 + t10)))) 0))])); (first | rfl | simp [rappS_end] | (simp only [rappS_end, List.length_append, List.length_set, List.length_cons, List.length_nil]; omega))))), ⟨ndI hA (by subst hA; exact (vset (vset hp.1 rfl) rfl)), (by subst hA; show EV 4 [(List.set (List.set R0 (0 + (Int.toNat (IntKind.wrap .i64 (t1 + t10)))) [(AV.int .i64 (cIS R0 (0 + (Int.toNat (IntKind.wrap .i64 (t2 + t10)))) 0))]) (0 + (Int.toNat (IntKind.wrap .i64 (t2 + t10)))) [(AV.int .i64 (cIS R0 (0 + (Int.toNat (IntKind.wrap .i64 (t1 + t10)))) 0))])] [(Lf.i t1), (Lf.i t2), (Lf.i t3), (Lf.i (IntKind.wrap .i64 (t10 + (1 : Int)))), (Lf.r tb1)]; (try simp only [rappS_end, Nat.zero_add, Int.toNat_natCast]); exact (h.1 c0).2.2.2.2.2.2.2)⟩⟩⟩, trivial⟩⟩, trivial⟩⟩, trivial⟩⟩, trivial⟩⟩, trivial⟩⟩, ⟨⟨ndI hA (And.intro rfl (by subst hA; show R0[(0 + (Int.toNat (IntKind.wrap .i64 (t1 + t10))))]? = some [(AV.int .i64 (cIS R0 (0 + (Int.toNat (IntKind.wrap .i64 (t1 + t10)))) 0))]; (try simp only [rappS_end, Nat.zero_add, Int.toNat_natCast]); exact (h.1 c0).2.2.2.2.2.1)), ⟨⟨ndI hA (And.intro rfl (by subst hA; show R0[(0 + (Int.toNat (IntKind.wrap .i64 (t2 + t10))))]? = some [(AV.int .i64 (cIS R0 (0 + (Int.toNat (IntKind.wrap .i64 (t2 + t10)))) 0))]; (try simp only [rappS_end, Nat.zero_add, Int.toNat_natCast]); exact (h.1 c0).2.2.1)), ⟨⟨ndI hA (And.intro (by subst hA; exact (h.1 c0).2.2.2.1) (And.intro (by subst hA; exact (h.1 c0).2.2.2.2.1) rfl)), ⟨⟨ndI hA (And.intro rfl (by subst hA; show R0[(0 + (Int.toNat (IntKind.wrap .i64 (t1 + t10))))]? = some [(AV.int .i64 (cIS R0 (0 + (Int.toNat (IntKind.wrap .i64 (t1 + t10)))) 0))]; (try simp only [rappS_end, Nat.zero_add, Int.toNat_natCast]); exact (h.1 c0).2.2.2.2.2.1)), ⟨⟨ndI hA (And.intro (by subst hA; exact (h.1 c0).1) (And.intro (by subst hA; exact (h.1 c0).2.1) (by subst hA; show (List.length R0) = (List.length (List.set R0 (0 + (Int.toNat (IntKind.wrap .i64 (t1 + t10)))) [(AV.int .i64 (cIS R0 (0 + (Int.toNat (IntKind.wrap .i64 (t2 + t10)))) 0))])); (first | rfl | simp [rappS_end] | (simp only [rappS_end, List.length_append, List.length_set, List.length_cons, List.length_nil]; omega))))), ⟨⟨ndI hA (And.intro (by subst hA; show (List.length R0) = (List.length (List.set R0 (0 + (Int.toNat (IntKind.wrap .i64 (t1 + t10)))) [(AV.int .i64 (cIS R0 (0 + (Int.toNat (IntKind.wrap .i64 (t2 + t10)))) 0))])); (first | rfl | simp [rappS_end] | (simp only [rappS_end, List.length_append, List.length_set, List.length_cons, List.length_nil]; omega))) (by subst hA; show (List.set R0 (0 + (Int.toNat (IntKind.wrap .i64 (t1 + t10)))) [(AV.int .i64 (cIS R0 (0 + (Int.toNat (IntKind.wrap .i64 (t2 + t10)))) 0))])[(0 + (Int.toNat (IntKind.wrap .i64 (t2 + t10))))]? = some [(AV.int .i64 (cIS (List.set R0 (0 + (Int.toNat (IntKind.wrap .i64 (t1 + t10)))) [(AV.int .i64 (cIS R0 (0 + (Int.toNat (IntKind.wrap .i64 (t2 + t10)))) 0))]) (0 + (Int.toNat (IntKind.wrap .i64 (t2 + t10)))) 0))]; (try simp only [rappS_end, Nat.zero_add, Int.toNat_natCast]); exact (h.1 c0).2.2.2.2.2.2.1)), ⟨ndI hA (And.intro (by subst hA; show (List.length R0) = (List.length (List.set (List.set R0 (0 + (Int.toNat (IntKind.wrap .i64 (t1 + t10)))) [(AV.int .i64 (cIS R0 (0 + (Int.toNat (IntKind.wrap .i64 (t2 + t10)))) 0))]) (0 + (Int.toNat (IntKind.wrap .i64 (t2 + t10)))) [(AV.int .i64 (cIS R0 (0 + (Int.toNat (IntKind.wrap .i64 (t1 + t10)))) 0))])); (first | rfl | simp [rappS_end] | (simp only [rappS_end, List.length_append, List.length_set, List.length_cons, List.length_nil]; omega))) (And.intro rfl (by subst hA; show (List.length R0) = (List.length (List.set (List.set R0 (0 + (Int.toNat (IntKind.wrap .i64 (t1 + t10)))) [(AV.int .i64 (cIS R0 (0 + (Int.toNat (IntKind.wrap .i64 (t2 + t10)))) 0))]) (0 + (Int.toNat (IntKind.wrap .i64 (t2 + t10)))) [(AV.int .i64 (cIS R0 (0 + (Int.toNat (IntKind.wrap .i64 (t1 + t10)))) 0))])); (first | rfl | simp [rappS_end] | (simp only [rappS_end, List.length_append, List.length_set, List.length_cons, List.length_nil]; omega))))), ⟨ndI hA (by subst hA; exact (vset (vset hp.1 rfl) rfl)), (by subst hA; show EV 4 [(List.set (List.set R0 (0 + (Int.toNat (IntKind.wrap .i64 (t1 + t10)))) [(AV.int .i64 (cIS R0 (0 + (Int.toNat (IntKind.wrap .i64 (t2 + t10)))) 0))]) (0 + (Int.toNat (IntKind.wrap .i64 (t2 + t10)))) [(AV.int .i64 (cIS R0 (0 + (Int.toNat (IntKind.wrap .i64 (t1 + t10)))) 0))])] [(Lf.i t1), (Lf.i t2), (Lf.i t3), (Lf.i (IntKind.wrap .i64 (t10 + (1 : Int)))), (Lf.r tb1)]; (try simp only [rappS_end, Nat.zero_add, Int.toNat_natCast]); exact (h.1 c0).2.2.2.2.2.2.2)⟩⟩⟩, trivial⟩⟩, trivial⟩⟩, trivial⟩⟩, trivial⟩⟩, trivial⟩⟩, trivial⟩⟩⟩, trivial⟩⟩⟩, ⟨⟨ndI hA (And.intro (by subst hA; exact (h.1 c0).2.2.2.1) (And.intro (by subst hA; exact (h.1 c0).2.2.2.2.1) rfl)), ⟨⟨ndI hA (And.intro (by subst hA; exact (h.1 c0).1) (And.intro (by subst hA; exact (h.1 c0).2.1) rfl)), ⟨⟨ndI hA (And.intro rfl (by subst hA; show R0[(0 + (Int.toNat (IntKind.wrap .i64 (t2 + t10))))]? = some [(AV.int .i64 (cIS R0 (0 + (Int.toNat (IntKind.wrap .i64 (t2 + t10)))) 0))]; (try simp only [rappS_end, Nat.zero_add, Int.toNat_natCast]); exact (h.1 c0).2.2.1)), ⟨⟨ndI hA (And.intro rfl (by subst hA; show R0[(0 + (Int.toNat (IntKind.wrap .i64 (t1 + t10))))]? = some [(AV.int .i64 (cIS R0 (0 + (Int.toNat (IntKind.wrap .i64 (t1 + t10)))) 0))]; (try simp only [rappS_end, Nat.zero_add, Int.toNat_natCast]); exact (h.1 c0).2.2.2.2.2.1)), ⟨⟨ndI hA (And.intro (by subst hA; exact (h.1 c0).2.2.2.1) (And.intro (by subst hA; exact (h.1 c0).2.2.2.2.1) rfl)), ⟨⟨ndI hA (And.intro rfl (by subst hA; show R0[(0 + (Int.toNat (IntKind.wrap .i64 (t1 + t10))))]? = some [(AV.int .i64 (cIS R0 (0 + (Int.toNat (IntKind.wrap .i64 (t1 + t10)))) 0))]; (try simp only [rappS_end, Nat.zero_add, Int.toNat_natCast]); exact (h.1 c0).2.2.2.2.2.1)), ⟨⟨ndI hA (And.intro (by subst hA; exact (h.1 c0).1) (And.intro (by subst hA; exact (h.1 c0).2.1) (by subst hA; show (List.length R0) = (List.length (List.set R0 (0 + (Int.toNat (IntKind.wrap .i64 (t1 + t10)))) [(AV.int .i64 (cIS R0 (0 + (Int.toNat (IntKind.wrap .i64 (t2 + t10)))) 0))])); (first | rfl | simp [rappS_end] | (simp only [rappS_end, List.length_append, List.length_set, List.length_cons, List.length_nil]; omega))))), ⟨⟨ndI hA (And.intro (by subst hA; show (List.length R0) = (List.length (List.set R0 (0 + (Int.toNat (IntKind.wrap .i64 (t1 + t10)))) [(AV.int .i64 (cIS R0 (0 + (Int.toNat (IntKind.wrap .i64 (t2 + t10)))) 0))])); (first | rfl | simp [rappS_end] | (simp only [rappS_end, List.length_append, List.length_set, List.length_cons, List.length_nil]; omega))) (by subst hA; show (List.set R0 (0 + (Int.toNat (IntKind.wrap .i64 (t1 + t10)))) [(AV.int .i64 (cIS R0 (0 + (Int.toNat (IntKind.wrap .i64 (t2 + t10)))) 0))])[(0 + (Int.toNat (IntKind.wrap .i64 (t2 + t10))))]? = some [(AV.int .i64 (cIS (List.set R0 (0 + (Int.toNat (IntKind.wrap .i64 (t1 + t10)))) [(AV.int .i64 (cIS R0 (0 + (Int.toNat (IntKind.wrap .i64 (t2 + t10)))) 0))]) (0 + (Int.toNat (IntKind.wrap .i64 (t2 + t10)))) 0))]; (try simp only [rappS_end, Nat.zero_add, Int.toNat_natCast]); exact (h.1 c0).2.2.2.2.2.2.1)), ⟨ndI hA (And.intro (by subst hA; show (List.length R0) = (List.length (List.set (List.set R0 (0 + (Int.toNat (IntKind.wrap .i64 (t1 + t10)))) [(AV.int .i64 (cIS R0 (0 + (Int.toNat (IntKind.wrap .i64 (t2 + t10)))) 0))]) (0 + (Int.toNat (IntKind.wrap .i64 (t2 + t10)))) [(AV.int .i64 (cIS R0 (0 + (Int.toNat (IntKind.wrap .i64 (t1 + t10)))) 0))])); (first | rfl | simp [rappS_end] | (simp only [rappS_end, List.length_append, List.length_set, List.length_cons, List.length_nil]; omega))) (And.intro rfl (by subst hA; show (List.length R0) = (List.length (List.set (List.set R0 (0 + (Int.toNat (IntKind.wrap .i64 (t1 + t10)))) [(AV.int .i64 (cIS R0 (0 + (Int.toNat (IntKind.wrap .i64 (t2 + t10)))) 0))]) (0 + (Int.toNat (IntKind.wrap .i64 (t2 + t10)))) [(AV.int .i64 (cIS R0 (0 + (Int.toNat (IntKind.wrap .i64 (t1 + t10)))) 0))])); (first | rfl | simp [rappS_end] | (simp only [rappS_end, List.length_append, List.length_set, List.length_cons, List.length_nil]; omega))))), ⟨ndI hA (by subst hA; exact (vset (vset hp.1 rfl) rfl)), (by subst hA; show EV 4 [(List.set (List.set R0 (0 + (Int.toNat (IntKind.wrap .i64 (t1 + t10)))) [(AV.int .i64 (cIS R0 (0 + (Int.toNat (IntKind.wrap .i64 (t2 + t10)))) 0))]) (0 + (Int.toNat (IntKind.wrap .i64 (t2 + t10)))) [(AV.int .i64 (cIS R0 (0 + (Int.toNat (IntKind.wrap .i64 (t1 + t10)))) 0))])] [(Lf.i t1), (Lf.i t2), (Lf.i t3), (Lf.i (IntKind.wrap .i64 (t10 + (1 : Int)))), (Lf.r tb1)]; (try simp only [rappS_end, Nat.zero_add, Int.toNat_natCast]); exact (h.1 c0).2.2.2.2.2.2.2)⟩⟩⟩, trivial⟩⟩, trivial⟩⟩, trivial⟩⟩, trivial⟩⟩, trivial⟩⟩, ⟨⟨ndI hA (And.intro rfl (by subst hA; show R0[(0 + (Int.toNat (IntKind.wrap .i64 (t1 + t10))))]? = some [(AV.int .i64 (cIS R0 (0 + (Int.toNat (IntKind.wrap .i64 (t1 + t10)))) 0))]; (try simp only [rappS_end, Nat.zero_add, Int.toNat_natCast]); exact (h.1 c0).2.2.2.2.2.1)), ⟨⟨ndI hA (And.intro rfl (by subst hA; show R0[(0 + (Int.toNat (IntKind.wrap .i64 (t2 + t10))))]? = some [(AV.int .i64 (cIS R0 (0 + (Int.toNat (IntKind.wrap .i64 (t2 + t10)))) 0))]; (try simp only [rappS_end, Nat.zero_add, Int.toNat_natCast]); exact (h.1 c0).2.2.1)), ⟨⟨ndI hA (And.intro (by subst hA; exact (h.1 c0).2.2.2.1) (And.intro (by subst hA; exact (h.1 c0).2.2.2.2.1) rfl)), ⟨⟨ndI hA (And.intro rfl (by subst hA; show R0[(0 + (Int.toNat (IntKind.wrap .i64 (t1 + t10))))]? = some [(AV.int .i64 (cIS R0 (0 + (Int.toNat (IntKind.wrap .i64 (t1 + t10)))) 0))]; (try simp only [rappS_end, Nat.zero_add, Int.toNat_natCast]); exact (h.1 c0).2.2.2.2.2.1)), ⟨⟨ndI hA (And.intro (by subst hA; exact (h.1 c0).1) (And.intro (by subst hA; exact (h.1 c0).2.1) (by subst hA; show (List.length R0) = (List.length (List.set R0 (0 + (Int.toNat (IntKind.wrap .i64 (t1 + t10)))) [(AV.int .i64 (cIS R0 (0 + (Int.toNat (IntKind.wrap .i64 (t2 + t10)))) 0))])); (first | rfl | simp [rappS_end] | (simp only [rappS_end, List.length_append, List.length_set, List.length_cons, List.length_nil]; omega))))), ⟨⟨ndI hA (And.intro (by subst hA; show (List.length R0) = (List.length (List.set R0 (0 + (Int.toNat (IntKind.wrap .i64 (t1 + t10)))) [(AV.int .i64 (cIS R0 (0 + (Int.toNat (IntKind.wrap .i64 (t2 + t10)))) 0))])); (first | rfl | simp [rappS_end] | (simp only [rappS_end, List.length_append, List.length_set, List.length_cons, List.length_nil]; omega))) (by subst hA; show (List.set R0 (0 + (Int.toNat (IntKind.wrap .i64 (t1 + t10)))) [(AV.int .i64 (cIS R0 (0 + (Int.toNat (IntKind.wrap .i64 (t2 + t10)))) 0))])[(0 + (Int.toNat (IntKind.wrap .i64 (t2 + t10))))]? = some [(AV.int .i64 (cIS (List.set R0 (0 + (Int.toNat (IntKind.wrap .i64 (t1 + t10)))) [(AV.int .i64 (cIS R0 (0 + (Int.toNat (IntKind.wrap .i64 (t2 + t10)))) 0))]) (0 + (Int.toNat (IntKind.wrap .i64 (t2 + t10)))) 0))]; (try simp only [rappS_end, Nat.zero_add, Int.toNat_natCast]); exact (h.1 c0).2.2.2.2.2.2.1)), ⟨ndI hA (And.intro (by subst hA; show (List.length R0) = (List.length (List.set (List.set R0 (0 + (Int.toNat (IntKind.wrap .i64 (t1 + t10)))) [(AV.int .i64 (cIS R0 (0 + (Int.toNat (IntKind.wrap .i64 (t2 + t10)))) 0))]) (0 + (Int.toNat (IntKind.wrap .i64 (t2 + t10)))) [(AV.int .i64 (cIS R0 (0 + (Int.toNat (IntKind.wrap .i64 (t1 + t10)))) 0))])); (first | rfl | simp [rappS_end] | (simp only [rappS_end, List.length_append, List.length_set, List.length_cons, List.length_nil]; omega))) (And.intro rfl (by subst hA; show (List.length R0) = (List.length (List.set (List.set R0 (0 + (Int.toNat (IntKind.wrap .i64 (t1 + t10)))) [(AV.int .i64 (cIS R0 (0 + (Int.toNat (IntKind.wrap .i64 (t2 + t10)))) 0))]) (0 + (Int.toNat (IntKind.wrap .i64 (t2 + t10)))) [(AV.int .i64 (cIS R0 (0 + (Int.toNat (IntKind.wrap .i64 (t1 + t10)))) 0))])); (first | rfl | simp [rappS_end] | (simp only [rappS_end, List.length_append, List.length_set, List.length_cons, List.length_nil]; omega))))), ⟨ndI hA (by subst hA; exact (vset (vset hp.1 rfl) rfl)), (by subst hA; show EV 4 [(List.set (List.set R0 (0 + (Int.toNat (IntKind.wrap .i64 (t1 + t10)))) [(AV.int .i64 (cIS R0 (0 + (Int.toNat (IntKind.wrap .i64 (t2 + t10)))) 0))]) (0 + (Int.toNat (IntKind.wrap .i64 (t2 + t10)))) [(AV.int .i64 (cIS R0 (0 + (Int.toNat (IntKind.wrap .i64 (t1 + t10)))) 0))])] [(Lf.i t1), (Lf.i t2), (Lf.i t3), (Lf.i (IntKind.wrap .i64 (t10 + (1 : Int)))), (Lf.r tb1)]; (try simp only [rappS_end, Nat.zero_add, Int.toNat_natCast]); exact (h.1 c0).2.2.2.2.2.2.2)⟩⟩⟩, trivial⟩⟩, trivial⟩⟩, trivial⟩⟩, trivial⟩⟩, trivial⟩⟩, trivial⟩⟩⟩, ⟨⟨ndI hA (And.intro rfl (by subst hA; show R0[(0 + (Int.toNat (IntKind.wrap .i64 (t1 + t10))))]? = some [(AV.int .i64 (cIS R0 (0 + (Int.toNat (IntKind.wrap .i64 (t1 + t10)))) 0))]; (try simp only [rappS_end, Nat.zero_add, Int.toNat_natCast]); exact (h.1 c0).2.2.2.2.2.1)), ⟨⟨ndI hA (And.intro (by subst hA; exact (h.1 c0).1) (And.intro (by subst hA; exact (h.1 c0).2.1) rfl)), ⟨⟨ndI hA (And.intro rfl (by subst hA; show R0[(0 + (Int.toNat (IntKind.wrap .i64 (t2 + t10))))]? = some [(AV.int .i64 (cIS R0 (0 + (Int.toNat (IntKind.wrap .i64 (t2 + t10)))) 0))]; (try simp only [rappS_end, Nat.zero_add, Int.toNat_natCast]); exact (h.1 c0).2.2.1)), ⟨⟨ndI hA (And.intro (by subst hA; exact (h.1 c0).2.2.2.1) (And.intro (by subst hA; exact (h.1 c0).2.2.2.2.1) rfl)), ⟨⟨ndI hA (And.intro rfl (by subst hA; show R0[(0 + (Int.toNat (IntKind.wrap .i64 (t1 + t10))))]? = some [(AV.int .i64 (cIS R0 (0 + (Int.toNat (IntKind.wrap .i64 (t1 + t10)))) 0))]; (try simp only [rappS_end, Nat.zero_add, Int.toNat_natCast]); exact (h.1 c0).2.2.2.2.2.1)), ⟨⟨ndI hA (And.intro (by subst hA; exact (h.1 c0).1) (And.intro (by subst hA; exact (h.1 c0).2.1) (by subst hA; show (List.length R0) = (List.length (List.set R0 (0 + (Int.toNat (IntKind.wrap .i64 (t1 + t10)))) [(AV.int .i64 (cIS R0 (0 + (Int.toNat (IntKind.wrap .i64 (t2 + t10)))) 0))])); (first | rfl | simp [rappS_end] | (simp only [rappS_end, List.length_append, List.length_set, List.length_cons, List.length_nil]; omega))))), ⟨⟨ndI hA (And.intro (by subst hA; show (List.length R0) = (List.length (List.set R0 (0 + (Int.toNat (IntKind.wrap .i64 (t1 + t10)))) [(AV.int .i64 (cIS R0 (0 + (Int.toNat (IntKind.wrap .i64 (t2 + t10)))) 0))])); (first | rfl | simp [rappS_end] | (simp only [rappS_end, List.length_append, List.length_set, List.length_cons, List.length_nil]; omega))) (by subst hA; show (List.set R0 (0 + (Int.toNat (IntKind.wrap .i64 (t1 + t10)))) [(AV.int .i64 (cIS R0 (0 + (Int.toNat (IntKind.wrap .i64 (t2 + t10)))) 0))])[(0 + (Int.toNat (IntKind.wrap .i64 (t2 + t10))))]? = some [(AV.int .i64 (cIS (List.set R0 (0 + (Int.toNat (IntKind.wrap .i64 (t1 + t10)))) [(AV.int .i64 (cIS R0 (0 + (Int.toNat (IntKind.wrap .i64 (t2 + t10)))) 0))]) (0 + (Int.toNat (IntKind.wrap .i64 (t2 + t10)))) 0))]; (try simp only [rappS_end, Nat.zero_add, Int.toNat_natCast]); exact (h.1 c0).2.2.2.2.2.2.1)), ⟨ndI hA (And.intro (by subst hA; show (List.length R0) = (List.length (List.set (List.set R0 (0 + (Int.toNat (IntKind.wrap .i64 (t1 + t10)))) [(AV.int .i64 (cIS R0 (0 + (Int.toNat (IntKind.wrap .i64 (t2 + t10)))) 0))]) (0 + (Int.toNat (IntKind.wrap .i64 (t2 + t10)))) [(AV.int .i64 (cIS R0 (0 + (Int.toNat (IntKind.wrap .i64 (t1 + t10)))) 0))])); (first | rfl | simp [rappS_end] | (simp only [rappS_end, List.length_append, List.length_set, List.length_cons, List.length_nil]; omega))) (And.intro rfl (by subst hA; show (List.length R0) = (List.length (List.set (List.set R0 (0 + (Int.toNat (IntKind.wrap .i64 (t1 + t10)))) [(AV.int .i64 (cIS R0 (0 + (Int.toNat (IntKind.wrap .i64 (t2 + t10)))) 0))]) (0 + (Int.toNat (IntKind.wrap .i64 (t2 + t10)))) [(AV.int .i64 (cIS R0 (0 + (Int.toNat (IntKind.wrap .i64 (t1 + t10)))) 0))])); (first | rfl | simp [rappS_end] | (simp only [rappS_end, List.length_append, List.length_set, List.length_cons, List.length_nil]; omega))))), ⟨ndI hA (by subst hA; exact (vset (vset hp.1 rfl) rfl)), (by subst hA; show EV 4 [(List.set (List.set R0 (0 + (Int.toNat (IntKind.wrap .i64 (t1 + t10)))) [(AV.int .i64 (cIS R0 (0 + (Int.toNat (IntKind.wrap .i64 (t2 + t10)))) 0))]) (0 + (Int.toNat (IntKind.wrap .i64 (t2 + t10)))) [(AV.int .i64 (cIS R0 (0 + (Int.toNat (IntKind.wrap .i64 (t1 + t10)))) 0))])] [(Lf.i t1), (Lf.i t2), (Lf.i t3), (Lf.i (IntKind.wrap .i64 (t10 + (1 : Int)))), (Lf.r tb1)]; (try simp only [rappS_end, Nat.zero_add, Int.toNat_natCast]); exact (h.1 c0).2.2.2.2.2.2.2)⟩⟩⟩, trivial⟩⟩, trivial⟩⟩, trivial⟩⟩, trivial⟩⟩, trivial⟩⟩, trivial⟩⟩, trivial⟩⟩⟩, trivial⟩⟩, imI hA fun e0 => have c0 : t10 ≥ t3 := (by have q := (cmpE (op := .lss) hA e0); subst hA; exact q); ⟨ndI hA (by subst hA; exact hp.1), (by rw [W.rr]; exact (by subst hA; exact (h.2 c0)))⟩⟩

end
set_option maxHeartbeats 0 in
/-- To enter. -/
theorem E99a {Q : Nat → Rs → List Lf → Prop} {R0 : List (List AV)} {a1 : Int} {a2 : Int} {a3 : Int} {ab1 : List (List AV)} (h : pursS R0 = true → ∀ EV : Nat → Rs → List Lf → Prop, V99a EV Q →
    EV 4 [R0] [(Lf.i a1), (Lf.i a2), (Lf.i a3), (Lf.i (0 : Int)), (Lf.r ab1)]) :
    EC Try.prog G99a [R0] [.i a1, .i a2, .i a3, .r ab1] Q := by
  obtain ⟨A, hA⟩ : ∃ A, A = arS := ⟨_, rfl⟩
  refine Inst.enter (I := I99a) hA mixed F99_at sg L99a 80 rfl fun CE CK Dn EV RR W hp => ?_
  have h := h hp.1 EV (V99a.of W)
  cbv
  refine ⟨ndI hA (And.intro rfl (And.intro rfl rfl)), ⟨ndI hA (by subst hA; exact hp.1), (by subst hA; exact h)⟩⟩

-- 93a: slices.rotateCmpFunc[int]
section
structure V93a (EV Q : Nat → Rs → List Lf → Prop) : Prop where
  p7 : ∀ {R0 : List (List AV)} {t2 : Int} {t10 : Int} {t11 : Int} {tb1 : List (List AV)}, (pursS R0 = true → 
    (t10 ≠ t11 →
      (t10 > t11 →
        EC Try.prog G99a [R0] [(Lf.i (IntKind.wrap .i64 (t2 - t10))), (Lf.i t2), (Lf.i t11), (Lf.r tb1)] (fun x rs vs => (x = 0 ∧ ∃ (Y2_0 : List (List AV)) (y2_b1 : List (List AV)), rs = [Y2_0] ∧ vs = [.r y2_b1] ∧
          (((List.length R0) = (List.length Y2_0)) ∧
            (EV 7 [Y2_0] [(Lf.i t2), (Lf.i (IntKind.wrap .i64 (t10 - t11))), (Lf.i t11), (Lf.r y2_b1)]))))) ∧
      (t10 ≤ t11 →
        EC Try.prog G99a [R0] [(Lf.i (IntKind.wrap .i64 (t2 - t10))), (Lf.i (IntKind.wrap .i64 ((IntKind.wrap .i64 (t2 + t11)) - t10))), (Lf.i t10), (Lf.r tb1)] (fun x rs vs => (x = 0 ∧ ∃ (Y2_0 : List (List AV)) (y2_b1 : List (List AV)), rs = [Y2_0] ∧ vs = [.r y2_b1] ∧
          (((List.length R0) = (List.length Y2_0)) ∧
            (EV 7 [Y2_0] [(Lf.i t2), (Lf.i t10), (Lf.i (IntKind.wrap .i64 (t11 - t10))), (Lf.r y2_b1)])))))) ∧
    (t10 = t11 →
      EC Try.prog G99a [R0] [(Lf.i (IntKind.wrap .i64 (t2 - t10))), (Lf.i t2), (Lf.i t10), (Lf.r tb1)] (fun x rs vs => (x = 0 ∧ ∃ (Y1_0 : List (List AV)) (y1_b1 : List (List AV)), rs = [Y1_0] ∧ vs = [.r y1_b1] ∧
        (Q 0 [Y1_0] [(Lf.r y1_b1)]))))) →
    EV 7 [R0] [.i t2, .i t10, .i t11, .r tb1]

set_option maxHeartbeats 0 in
theorem V93a.of {Q : Nat → Rs → List Lf → Prop} {A : Ar} {CE : Nat → Rs → List Lf → (Nat → Rs → List Lf → Prop) → Prop} {CK : Nat → Rs → List Lf → Cont → Prop} {Dn : Nat → List Bool → List AItem → Nat → List Bool → List AV → List ABlk → Prop} {EV RR : Nat → Rs → List Lf → Prop} (W : Wk Try.prog Try.f93 I93a L93a Q A sg CE CK Dn EV RR) : V93a EV Q := by
  have hA := W.hA
  refine ⟨?_⟩
  · intro R0 t2 t10 t11 tb1 h
    refine W.step 80 fun hp => ?_
    have h := h hp.1
    cbv
    refine ⟨imI hA fun e0 => have c0 : t10 ≠ t11 := (by have q := (cmpE (op := .neq) hA e0); subst hA; exact q); ⟨imI hA fun e1 => have c1 : t10 > t11 := (by have q := (cmpE (op := .gtr) hA e1); subst hA; exact q); ⟨ndI hA (And.intro rfl (And.intro rfl rfl)), ⟨ndI hA (by subst hA; exact hp.1), ?_⟩⟩, imI hA fun e1 => have c1 : t10 ≤ t11 := (by have q := (cmpE (op := .gtr) hA e1); subst hA; exact q); ⟨ndI hA (And.intro rfl (And.intro rfl rfl)), ⟨ndI hA (by subst hA; exact hp.1), ?_⟩⟩⟩, imI hA fun e0 => have c0 : t10 = t11 := (by have q := (cmpE (op := .neq) hA e0); subst hA; exact q); ⟨ndI hA (And.intro rfl (And.intro rfl rfl)), ⟨ndI hA (by subst hA; exact hp.1), ?_⟩⟩⟩
    · refine W.call 80 (by rfl) ((h.1 c0).1 c1) (by subst hA; rfl) (by subst hA; rfl) ?_
      rintro x rs vs hp2 hq2
      rcases hq2 with ⟨rfl, Y2_0, y2_b1, rfl, rfl, k2⟩
      · cbv
        refine ⟨ndI hA (And.intro (by subst hA; exact k2.1) (And.intro rfl (by subst hA; exact k2.1))), ⟨ndI hA (by subst hA; exact hp2.1), (by subst hA; exact k2.2)⟩⟩
    · refine W.call 80 (by rfl) ((h.1 c0).2 c1) (by subst hA; rfl) (by subst hA; rfl) ?_
      rintro x rs vs hp2 hq2
      rcases hq2 with ⟨rfl, Y2_0, y2_b1, rfl, rfl, k2⟩
      · cbv
        refine ⟨ndI hA (And.intro (by subst hA; exact k2.1) (And.intro rfl (by subst hA; exact k2.1))), ⟨ndI hA (by subst hA; exact hp2.1), (by subst hA; exact k2.2)⟩⟩
    · refine W.call 80 (by rfl) (h.2 c0) (by subst hA; rfl) (by subst hA; rfl) ?_
      rintro x rs vs hp1 hq1
      rcases hq1 with ⟨rfl, Y1_0, y1_b1, rfl, rfl, k1⟩
      · cbv
        refine ⟨ndI hA (by subst hA; exact hp1.1), (by rw [W.rr]; exact (by subst hA; exact k1))⟩

end
set_option maxHeartbeats 0 in
/-- To enter. -/
theorem E93a {Q : Nat → Rs → List Lf → Prop} {R0 : List (List AV)} {a1 : Int} {a2 : Int} {a3 : Int} {ab1 : List (List AV)} (h : pursS R0 = true → ∀ EV : Nat → Rs → List Lf → Prop, V93a EV Q →
    EV 7 [R0] [(Lf.i a2), (Lf.i (IntKind.wrap .i64 (a2 - a1))), (Lf.i (IntKind.wrap .i64 (a3 - a2))), (Lf.r ab1)]) :
    EC Try.prog G93a [R0] [.i a1, .i a2, .i a3, .r ab1] Q := by
  obtain ⟨A, hA⟩ : ∃ A, A = arS := ⟨_, rfl⟩
  refine Inst.enter (I := I93a) hA mixed F93_at sg L93a 80 rfl fun CE CK Dn EV RR W hp => ?_
  have h := h hp.1 EV (V93a.of W)
  cbv
  refine ⟨ndI hA (And.intro rfl (And.intro rfl rfl)), ⟨ndI hA (by subst hA; exact hp.1), (by subst hA; exact h)⟩⟩

-- 83a: slices.symMergeCmpFunc[int] DRAWN
section
structure V83a (EV Q : Nat → Rs → List Lf → Prop) : Prop where
  p11 : ∀ {R0 : List (List AV)} {t1 : Int} {t10 : Int} {t11 : Int} {tb1 : List (List AV)}, (pursS R0 = true → 
    (t10 < t11 →
      ((0 : Int) ≤ (1 : Int)) ∧
      ((0 : Int) ≤ (IntKind.wrap .i64 (iopS .shr .u64 (IntKind.wrap .u64 (IntKind.wrap .i64 (t10 + t11))) (1 : Int)))) ∧
      ((IntKind.wrap .i64 (iopS .shr .u64 (IntKind.wrap .u64 (IntKind.wrap .i64 (t10 + t11))) (1 : Int))) < (((List.length R0) : Nat) : Int)) ∧
      (R0[(Int.toNat (IntKind.wrap .i64 (iopS .shr .u64 (IntKind.wrap .u64 (IntKind.wrap .i64 (t10 + t11))) (1 : Int))))]? = some [(AV.int .i64 (cIS R0 (Int.toNat (IntKind.wrap .i64 (iopS .shr .u64 (IntKind.wrap .u64 (IntKind.wrap .i64 (t10 + t11))) (1 : Int)))) 0))]) ∧
      ((0 : Int) ≤ t1) ∧
      (t1 < (((List.length R0) : Nat) : Int)) ∧
      (R0[(Int.toNat t1)]? = some [(AV.int .i64 (cIS R0 (Int.toNat t1) 0))]) ∧
      (EC Try.prog G69 [] [(Lf.i (cIS R0 (Int.toNat (IntKind.wrap .i64 (iopS .shr .u64 (IntKind.wrap .u64 (IntKind.wrap .i64 (t10 + t11))) (1 : Int)))) 0)), (Lf.i (cIS R0 (Int.toNat t1) 0)), (Lf.r tb1)] (fun x rs vs => (x = 0 ∧ ∃ (y1_0 : Int) (y1_b0 : List (List AV)), rs = [] ∧ vs = [.i y1_0, .r y1_b0] ∧
        ((y1_0 < (0 : Int) →
            EV 11 [R0] [(Lf.i t1), (Lf.i (IntKind.wrap .i64 ((IntKind.wrap .i64 (iopS .shr .u64 (IntKind.wrap .u64 (IntKind.wrap .i64 (t10 + t11))) (1 : Int))) + (1 : Int)))), (Lf.i t11), (Lf.r y1_b0)]) ∧
          (y1_0 ≥ (0 : Int) →
            EV 11 [R0] [(Lf.i t1), (Lf.i t10), (Lf.i (IntKind.wrap .i64 (iopS .shr .u64 (IntKind.wrap .u64 (IntKind.wrap .i64 (t10 + t11))) (1 : Int)))), (Lf.r y1_b0)])))))) ∧
    (t10 ≥ t11 →
      EV 30 [R0] [(Lf.i t10), (Lf.i t1), (Lf.r tb1)])) →
    EV 11 [R0] [.i t1, .i t10, .i t11, .r tb1]
  p30 : ∀ {R0 : List (List AV)} {t10 : Int} {t13 : Int} {tb1 : List (List AV)}, (pursS R0 = true → 
    (t13 < (IntKind.wrap .i64 (t10 - (1 : Int))) →
      ((0 : Int) ≤ (IntKind.wrap .i64 (t13 + (1 : Int)))) ∧
      ((IntKind.wrap .i64 (t13 + (1 : Int))) < (((List.length R0) : Nat) : Int)) ∧
      (R0[(Int.toNat (IntKind.wrap .i64 (t13 + (1 : Int))))]? = some [(AV.int .i64 (cIS R0 (Int.toNat (IntKind.wrap .i64 (t13 + (1 : Int)))) 0))]) ∧
      ((0 : Int) ≤ t13) ∧
      (t13 < (((List.length R0) : Nat) : Int)) ∧
      (R0[(Int.toNat t13)]? = some [(AV.int .i64 (cIS R0 (Int.toNat t13) 0))]) ∧
      ((List.set R0 (Int.toNat t13) [(AV.int .i64 (cIS R0 (Int.toNat (IntKind.wrap .i64 (t13 + (1 : Int)))) 0))])[(Int.toNat (IntKind.wrap .i64 (t13 + (1 : Int))))]? = some [(AV.int .i64 (cIS (List.set R0 (Int.toNat t13) [(AV.int .i64 (cIS R0 (Int.toNat (IntKind.wrap .i64 (t13 + (1 : Int)))) 0))]) (Int.toNat (IntKind.wrap .i64 (t13 + (1 : Int)))) 0))]) ∧
      (EV 30 [(List.set (List.set R0 (Int.toNat t13) [(AV.int .i64 (cIS R0 (Int.toNat (IntKind.wrap .i64 (t13 + (1 : Int)))) 0))]) (Int.toNat (IntKind.wrap .i64 (t13 + (1 : Int)))) [(AV.int .i64 (cIS R0 (Int.toNat t13) 0))])] [(Lf.i t10), (Lf.i (IntKind.wrap .i64 (t13 + (1 : Int)))), (Lf.r tb1)])) ∧
    (t13 ≥ (IntKind.wrap .i64 (t10 - (1 : Int))) →
      Q 0 [R0] [(Lf.r tb1)])) →
    EV 30 [R0] [.i t10, .i t13, .r tb1]
  p53 : ∀ {R0 : List (List AV)} {t2 : Int} {t14 : Int} {t15 : Int} {tb1 : List (List AV)}, (pursS R0 = true → 
    (t14 < t15 →
      ((0 : Int) ≤ (1 : Int)) ∧
      ((0 : Int) ≤ t2) ∧
      (t2 < (((List.length R0) : Nat) : Int)) ∧
      (R0[(Int.toNat t2)]? = some [(AV.int .i64 (cIS R0 (Int.toNat t2) 0))]) ∧
      ((0 : Int) ≤ (IntKind.wrap .i64 (iopS .shr .u64 (IntKind.wrap .u64 (IntKind.wrap .i64 (t14 + t15))) (1 : Int)))) ∧
      ((IntKind.wrap .i64 (iopS .shr .u64 (IntKind.wrap .u64 (IntKind.wrap .i64 (t14 + t15))) (1 : Int))) < (((List.length R0) : Nat) : Int)) ∧
      (R0[(Int.toNat (IntKind.wrap .i64 (iopS .shr .u64 (IntKind.wrap .u64 (IntKind.wrap .i64 (t14 + t15))) (1 : Int))))]? = some [(AV.int .i64 (cIS R0 (Int.toNat (IntKind.wrap .i64 (iopS .shr .u64 (IntKind.wrap .u64 (IntKind.wrap .i64 (t14 + t15))) (1 : Int)))) 0))]) ∧
      (EC Try.prog G69 [] [(Lf.i (cIS R0 (Int.toNat t2) 0)), (Lf.i (cIS R0 (Int.toNat (IntKind.wrap .i64 (iopS .shr .u64 (IntKind.wrap .u64 (IntKind.wrap .i64 (t14 + t15))) (1 : Int)))) 0)), (Lf.r tb1)] (fun x rs vs => (x = 0 ∧ ∃ (y1_0 : Int) (y1_b0 : List (List AV)), rs = [] ∧ vs = [.i y1_0, .r y1_b0] ∧
        ((y1_0 ≥ (0 : Int) →
            EV 53 [R0] [(Lf.i t2), (Lf.i (IntKind.wrap .i64 ((IntKind.wrap .i64 (iopS .shr .u64 (IntKind.wrap .u64 (IntKind.wrap .i64 (t14 + t15))) (1 : Int))) + (1 : Int)))), (Lf.i t15), (Lf.r y1_b0)]) ∧
          (y1_0 < (0 : Int) →
            EV 53 [R0] [(Lf.i t2), (Lf.i t14), (Lf.i (IntKind.wrap .i64 (iopS .shr .u64 (IntKind.wrap .u64 (IntKind.wrap .i64 (t14 + t15))) (1 : Int)))), (Lf.r y1_b0)])))))) ∧
    (t14 ≥ t15 →
      EV 72 [R0] [(Lf.i t14), (Lf.i t2), (Lf.r tb1)])) →
    EV 53 [R0] [.i t2, .i t14, .i t15, .r tb1]
  p72 : ∀ {R0 : List (List AV)} {t14 : Int} {t17 : Int} {tb1 : List (List AV)}, (pursS R0 = true → 
    (t17 > t14 →
      ((0 : Int) ≤ (IntKind.wrap .i64 (t17 - (1 : Int)))) ∧
      ((IntKind.wrap .i64 (t17 - (1 : Int))) < (((List.length R0) : Nat) : Int)) ∧
      (R0[(Int.toNat (IntKind.wrap .i64 (t17 - (1 : Int))))]? = some [(AV.int .i64 (cIS R0 (Int.toNat (IntKind.wrap .i64 (t17 - (1 : Int)))) 0))]) ∧
      ((0 : Int) ≤ t17) ∧
      (t17 < (((List.length R0) : Nat) : Int)) ∧
      (R0[(Int.toNat t17)]? = some [(AV.int .i64 (cIS R0 (Int.toNat t17) 0))]) ∧
      ((List.set R0 (Int.toNat t17) [(AV.int .i64 (cIS R0 (Int.toNat (IntKind.wrap .i64 (t17 - (1 : Int)))) 0))])[(Int.toNat (IntKind.wrap .i64 (t17 - (1 : Int))))]? = some [(AV.int .i64 (cIS (List.set R0 (Int.toNat t17) [(AV.int .i64 (cIS R0 (Int.toNat (IntKind.wrap .i64 (t17 - (1 : Int)))) 0))]) (Int.toNat (IntKind.wrap .i64 (t17 - (1 : Int)))) 0))]) ∧
      (EV 72 [(List.set (List.set R0 (Int.toNat t17) [(AV.int .i64 (cIS R0 (Int.toNat (IntKind.wrap .i64 (t17 - (1 : Int)))) 0))]) (Int.toNat (IntKind.wrap .i64 (t17 - (1 : Int)))) [(AV.int .i64 (cIS R0 (Int.toNat t17) 0))])] [(Lf.i t14), (Lf.i (IntKind.wrap .i64 (t17 - (1 : Int)))), (Lf.r tb1)])) ∧
    (t17 ≤ t14 →
      Q 0 [R0] [(Lf.r tb1)])) →
    EV 72 [R0] [.i t14, .i t17, .r tb1]
  p100 : ∀ {R0 : List (List AV)} {t1 : Int} {t2 : Int} {t3 : Int} {t18 : Int} {t19 : Int} {t20 : Int} {t21 : Int} {tb1 : List (List AV)}, (pursS R0 = true → 
    EV 105 [R0] [(Lf.i t1), (Lf.i t2), (Lf.i t3), (Lf.i t18), (Lf.i t19), (Lf.i t20), (Lf.i t21), (Lf.i (IntKind.wrap .i64 (t19 - (1 : Int)))), (Lf.r tb1)]) →
    EV 100 [R0] [.i t1, .i t2, .i t3, .i t18, .i t19, .i t20, .i t21, .r tb1]
  p105 : ∀ {R0 : List (List AV)} {t1 : Int} {t2 : Int} {t3 : Int} {t18 : Int} {t19 : Int} {t20 : Int} {t21 : Int} {t22 : Int} {tb1 : List (List AV)}, (pursS R0 = true → 
    (t20 < t21 →
      ((0 : Int) ≤ (1 : Int)) ∧
      ((0 : Int) ≤ (IntKind.wrap .i64 (t22 - (IntKind.wrap .i64 (iopS .shr .u64 (IntKind.wrap .u64 (IntKind.wrap .i64 (t20 + t21))) (1 : Int)))))) ∧
      ((IntKind.wrap .i64 (t22 - (IntKind.wrap .i64 (iopS .shr .u64 (IntKind.wrap .u64 (IntKind.wrap .i64 (t20 + t21))) (1 : Int))))) < (((List.length R0) : Nat) : Int)) ∧
      (R0[(Int.toNat (IntKind.wrap .i64 (t22 - (IntKind.wrap .i64 (iopS .shr .u64 (IntKind.wrap .u64 (IntKind.wrap .i64 (t20 + t21))) (1 : Int))))))]? = some [(AV.int .i64 (cIS R0 (Int.toNat (IntKind.wrap .i64 (t22 - (IntKind.wrap .i64 (iopS .shr .u64 (IntKind.wrap .u64 (IntKind.wrap .i64 (t20 + t21))) (1 : Int)))))) 0))]) ∧
      ((0 : Int) ≤ (IntKind.wrap .i64 (iopS .shr .u64 (IntKind.wrap .u64 (IntKind.wrap .i64 (t20 + t21))) (1 : Int)))) ∧
      ((IntKind.wrap .i64 (iopS .shr .u64 (IntKind.wrap .u64 (IntKind.wrap .i64 (t20 + t21))) (1 : Int))) < (((List.length R0) : Nat) : Int)) ∧
      (R0[(Int.toNat (IntKind.wrap .i64 (iopS .shr .u64 (IntKind.wrap .u64 (IntKind.wrap .i64 (t20 + t21))) (1 : Int))))]? = some [(AV.int .i64 (cIS R0 (Int.toNat (IntKind.wrap .i64 (iopS .shr .u64 (IntKind.wrap .u64 (IntKind.wrap .i64 (t20 + t21))) (1 : Int)))) 0))]) ∧
      (EC Try.prog G69 [] [(Lf.i (cIS R0 (Int.toNat (IntKind.wrap .i64 (t22 - (IntKind.wrap .i64 (iopS .shr .u64 (IntKind.wrap .u64 (IntKind.wrap .i64 (t20 + t21))) (1 : Int)))))) 0)), (Lf.i (cIS R0 (Int.toNat (IntKind.wrap .i64 (iopS .shr .u64 (IntKind.wrap .u64 (IntKind.wrap .i64 (t20 + t21))) (1 : Int)))) 0)), (Lf.r tb1)] (fun x rs vs => (x = 0 ∧ ∃ (y1_0 : Int) (y1_b0 : List (List AV)), rs = [] ∧ vs = [.i y1_0, .r y1_b0] ∧
        ((y1_0 ≥ (0 : Int) →
            EV 105 [R0] [(Lf.i t1), (Lf.i t2), (Lf.i t3), (Lf.i t18), (Lf.i t19), (Lf.i (IntKind.wrap .i64 ((IntKind.wrap .i64 (iopS .shr .u64 (IntKind.wrap .u64 (IntKind.wrap .i64 (t20 + t21))) (1 : Int))) + (1 : Int)))), (Lf.i t21), (Lf.i t22), (Lf.r y1_b0)]) ∧
          (y1_0 < (0 : Int) →
            EV 105 [R0] [(Lf.i t1), (Lf.i t2), (Lf.i t3), (Lf.i t18), (Lf.i t19), (Lf.i t20), (Lf.i (IntKind.wrap .i64 (iopS .shr .u64 (IntKind.wrap .u64 (IntKind.wrap .i64 (t20 + t21))) (1 : Int)))), (Lf.i t22), (Lf.r y1_b0)])))))) ∧
    (t20 ≥ t21 →
      (t20 < t2 →
        (t2 < (IntKind.wrap .i64 (t19 - t20)) →
          EC Try.prog G93a [R0] [(Lf.i t20), (Lf.i t2), (Lf.i (IntKind.wrap .i64 (t19 - t20))), (Lf.r tb1)] (fun x rs vs => (x = 0 ∧ ∃ (Y3_0 : List (List AV)) (y3_b1 : List (List AV)), rs = [Y3_0] ∧ vs = [.r y3_b1] ∧
            (((List.length R0) = (List.length Y3_0)) ∧
              (EV 127 [Y3_0] [(Lf.i t1), (Lf.i t3), (Lf.i t18), (Lf.i t20), (Lf.i (IntKind.wrap .i64 (t19 - t20))), (Lf.r y3_b1)]))))) ∧
        (t2 ≥ (IntKind.wrap .i64 (t19 - t20)) →
          EV 127 [R0] [(Lf.i t1), (Lf.i t3), (Lf.i t18), (Lf.i t20), (Lf.i (IntKind.wrap .i64 (t19 - t20))), (Lf.r tb1)])) ∧
      (t20 ≥ t2 →
        EV 127 [R0] [(Lf.i t1), (Lf.i t3), (Lf.i t18), (Lf.i t20), (Lf.i (IntKind.wrap .i64 (t19 - t20))), (Lf.r tb1)]))) →
    EV 105 [R0] [.i t1, .i t2, .i t3, .i t18, .i t19, .i t20, .i t21, .i t22, .r tb1]
  p127 : ∀ {R0 : List (List AV)} {t1 : Int} {t3 : Int} {t18 : Int} {t20 : Int} {t24 : Int} {tb1 : List (List AV)}, (pursS R0 = true → 
    (t1 < t20 →
      (t20 < t18 →
        EC Try.prog G83a [R0] [(Lf.i t1), (Lf.i t20), (Lf.i t18), (Lf.r tb1)] (fun x rs vs => (x = 0 ∧ ∃ (Y2_0 : List (List AV)) (y2_b1 : List (List AV)), rs = [Y2_0] ∧ vs = [.r y2_b1] ∧
          (((List.length R0) = (List.length Y2_0)) ∧
            (EV 133 [Y2_0] [(Lf.i t3), (Lf.i t18), (Lf.i t24), (Lf.r y2_b1)]))))) ∧
      (t20 ≥ t18 →
        EV 133 [R0] [(Lf.i t3), (Lf.i t18), (Lf.i t24), (Lf.r tb1)])) ∧
    (t1 ≥ t20 →
      EV 133 [R0] [(Lf.i t3), (Lf.i t18), (Lf.i t24), (Lf.r tb1)])) →
    EV 127 [R0] [.i t1, .i t3, .i t18, .i t20, .i t24, .r tb1]
  p133 : ∀ {R0 : List (List AV)} {t3 : Int} {t18 : Int} {t24 : Int} {tb1 : List (List AV)}, (pursS R0 = true → 
    (t18 < t24 →
      (t24 < t3 →
        EC Try.prog G83a [R0] [(Lf.i t18), (Lf.i t24), (Lf.i t3), (Lf.r tb1)] (fun x rs vs => (x = 0 ∧ ∃ (Y2_0 : List (List AV)) (y2_b1 : List (List AV)), rs = [Y2_0] ∧ vs = [.r y2_b1] ∧
          (Q 0 [Y2_0] [(Lf.r y2_b1)])))) ∧
      (t24 ≥ t3 →
        Q 0 [R0] [(Lf.r tb1)])) ∧
    (t18 ≥ t24 →
      Q 0 [R0] [(Lf.r tb1)])) →
    EV 133 [R0] [.i t3, .i t18, .i t24, .r tb1]

set_option maxHeartbeats 0 in
theorem V83a.of {Q : Nat → Rs → List Lf → Prop} {A : Ar} {CE : Nat → Rs → List Lf → (Nat → Rs → List Lf → Prop) → Prop} {CK : Nat → Rs → List Lf → Cont → Prop} {Dn : Nat → List Bool → List AItem → Nat → List Bool → List AV → List ABlk → Prop} {EV RR : Nat → Rs → List Lf → Prop} (W : Wk Try.prog Try.f83 I83a L83a Q A sg CE CK Dn EV RR) : V83a EV Q := by
  have hA := W.hA
  refine ⟨?_, ?_, ?_, ?_, ?_, ?_, ?_, ?_⟩
  · intro R0 t1 t10 t11 tb1 h
    refine W.step 80 fun hp => ?_
    have h := h hp.1
    cbv
    refine ⟨imI hA fun e0 => have c0 : t10 < t11 := (by have q := (cmpE (op := .lss) hA e0); subst hA; exact q); ⟨ndI hA (by subst hA; exact (h.1 c0).1), ⟨ndI hA (And.intro (by subst hA; exact (h.1 c0).2.1) (And.intro (by subst hA; exact (h.1 c0).2.2.1) rfl)), ⟨ndI hA (And.intro rfl (by subst hA; show R0[(0 + (Int.toNat (IntKind.wrap .i64 (iopS .shr .u64 (IntKind.wrap .u64 (IntKind.wrap .i64 (t10 + t11))) (1 : Int)))))]? = some [(AV.int .i64 (cIS R0 (0 + (Int.toNat (IntKind.wrap .i64 (iopS .shr .u64 (IntKind.wrap .u64 (IntKind.wrap .i64 (t10 + t11))) (1 : Int))))) 0))]; (try simp only [rappS_end, Nat.zero_add, Int.toNat_natCast]); exact (h.1 c0).2.2.2.1)), ⟨ndI hA (And.intro (by subst hA; exact (h.1 c0).2.2.2.2.1) (And.intro (by subst hA; exact (h.1 c0).2.2.2.2.2.1) rfl)), ⟨ndI hA (And.intro rfl (by subst hA; show R0[(0 + (Int.toNat t1))]? = some [(AV.int .i64 (cIS R0 (0 + (Int.toNat t1)) 0))]; (try simp only [rappS_end, Nat.zero_add, Int.toNat_natCast]); exact (h.1 c0).2.2.2.2.2.2.1)), ⟨?_, trivial⟩⟩⟩⟩⟩⟩, imI hA fun e0 => have c0 : t10 ≥ t11 := (by have q := (cmpE (op := .lss) hA e0); subst hA; exact q); ⟨ndI hA (And.intro rfl (And.intro rfl rfl)), ⟨ndI hA (by subst hA; exact hp.1), (by subst hA; exact (h.2 c0))⟩⟩⟩
    · refine W.callD (by rfl) (h.1 c0).2.2.2.2.2.2.2 (by subst hA; show [] = []; (try simp only [rappS_end, Nat.zero_add, Int.toNat_natCast])) (by subst hA; show [(Lf.i (cIS R0 (0 + (Int.toNat (IntKind.wrap .i64 (iopS .shr .u64 (IntKind.wrap .u64 (IntKind.wrap .i64 (t10 + t11))) (1 : Int))))) 0)), (Lf.i (cIS R0 (0 + (Int.toNat t1)) 0)), (Lf.r tb1)] = [(Lf.i (cIS R0 (Int.toNat (IntKind.wrap .i64 (iopS .shr .u64 (IntKind.wrap .u64 (IntKind.wrap .i64 (t10 + t11))) (1 : Int)))) 0)), (Lf.i (cIS R0 (Int.toNat t1) 0)), (Lf.r tb1)]; (try simp only [rappS_end, Nat.zero_add, Int.toNat_natCast])) ?_
      rintro x rs vs hp1 hq1
      rcases hq1 with ⟨rfl, y1_0, y1_b0, rfl, rfl, k1⟩
      · cbv
        refine ?_
        · refine W.draw 80 (by rfl) ?_
          cbv
          refine ⟨imI hA fun e2 => have c2 : y1_0 < (0 : Int) := (by have q := (cmpE (op := .lss) hA e2); subst hA; exact q); ⟨ndI hA (And.intro rfl (And.intro rfl rfl)), ⟨ndI hA (by subst hA; exact hp.1), (by subst hA; exact (k1.1 c2))⟩⟩, imI hA fun e2 => have c2 : y1_0 ≥ (0 : Int) := (by have q := (cmpE (op := .lss) hA e2); subst hA; exact q); ⟨ndI hA (And.intro rfl (And.intro rfl rfl)), ⟨ndI hA (by subst hA; exact hp.1), (by subst hA; exact (k1.2 c2))⟩⟩⟩
  · intro R0 t10 t13 tb1 h
    refine W.step 80 fun hp => ?_
    have h := h hp.1
    cbv
    refine ⟨imI hA fun e0 => have c0 : t13 < (IntKind.wrap .i64 (t10 - (1 : Int))) := (by have q := (cmpE (op := .lss) hA e0); subst hA; exact q); ⟨⟨ndI hA (And.intro (by subst hA; exact (h.1 c0).1) (And.intro (by subst hA; exact (h.1 c0).2.1) rfl)), ⟨⟨ndI hA (And.intro rfl (by subst hA; show R0[(0 + (Int.toNat (IntKind.wrap .i64 (t13 + (1 : Int)))))]? = some [(AV.int .i64 (cIS R0 (0 + (Int.toNat (IntKind.wrap .i64 (t13 + (1 : Int))))) 0))]; (try simp only [rappS_end, Nat.zero_add, Int.toNat_natCast]); exact (h.1 c0).2.2.1)), ⟨⟨ndI hA (And.intro (by subst hA; exact (h.1 c0).2.2.2.1) (And.intro (by subst hA; exact (h.1 c0).2.2.2.2.1) rfl)), ⟨⟨ndI hA (And.intro rfl (by subst hA; show R0[(0 + (Int.toNat t13))]? = some [(AV.int .i64 (cIS R0 (0 + (Int.toNat t13)) 0))]; (try simp only [rappS_end, Nat.zero_add, Int.toNat_natCast]); exact (h.1 c0).2.2.2.2.2.1)), ⟨⟨ndI hA (And.intro (by subst hA; exact (h.1 c0).2.2.2.1) (And.intro (by subst hA; exact (h.1 c0).2.2.2.2.1) rfl)), ⟨⟨ndI hA (And.intro rfl (by subst hA; show R0[(0 + (Int.toNat t13))]? = some [(AV.int .i64 (cIS R0 (0 + (Int.toNat t13)) 0))]; (try simp only [rappS_end, Nat.zero_add, Int.toNat_natCast]); exact (h.1 c0).2.2.2.2.2.1)), ⟨⟨ndI hA (And.intro (by subst hA; exact (h.1 c0).1) (And.intro (by subst hA; exact (h.1 c0).2.1) (by subst hA; show (List.length R0) = (List.length (List.set R0 (0 + (Int.toNat t13)) [(AV.int .i64 (cIS R0 (0 + (Int.toNat (IntKind.wrap .i64 (t13 + (1 : Int))))) 0))])); (first | rfl | simp [rappS_end] | (simp only [rappS_end, List.length_append, List.length_set, List.length_cons, List.length_nil]; omega))))), ⟨⟨ndI hA (And.intro (by subst hA; show (List.length R0) = (List.length (List.set R0 (0 + (Int.toNat t13)) [(AV.int .i64 (cIS R0 (0 + (Int.toNat (IntKind.wrap .i64 (t13 + (1 : Int))))) 0))])); (first | rfl | simp [rappS_end] | (simp only [rappS_end, List.length_append, List.length_set, List.length_cons, List.length_nil]; omega))) (by subst hA; show (List.set R0 (0 + (Int.toNat t13)) [(AV.int .i64 (cIS R0 (0 + (Int.toNat (IntKind.wrap .i64 (t13 + (1 : Int))))) 0))])[(0 + (Int.toNat (IntKind.wrap .i64 (t13 + (1 : Int)))))]? = some [(AV.int .i64 (cIS (List.set R0 (0 + (Int.toNat t13)) [(AV.int .i64 (cIS R0 (0 + (Int.toNat (IntKind.wrap .i64 (t13 + (1 : Int))))) 0))]) (0 + (Int.toNat (IntKind.wrap .i64 (t13 + (1 : Int))))) 0))]; (try simp only [rappS_end, Nat.zero_add, Int.toNat_natCast]); exact (h.1 c0).2.2.2.2.2.2.1)), ⟨ndI hA (And.intro (by subst hA; show (List.length R0) = (List.length (List.set (List.set R0 (0 + (Int.toNat t13)) [(AV.int .i64 (cIS R0 (0 + (Int.toNat (IntKind.wrap .i64 (t13 + (1 : Int))))) 0))]) (0 + (Int.toNat (IntKind.wrap .i64 (t13 + (1 : Int))))) [(AV.int .i64 (cIS R0 (0 + (Int.toNat t13)) 0))])); (first | rfl | simp [rappS_end] | (simp only [rappS_end, List.length_append, List.length_set, List.length_cons, List.length_nil]; omega))) (And.intro rfl (by subst hA; show (List.length R0) = (List.length (List.set (List.set R0 (0 + (Int.toNat t13)) [(AV.int .i64 (cIS R0 (0 + (Int.toNat (IntKind.wrap .i64 (t13 + (1 : Int))))) 0))]) (0 + (Int.toNat (IntKind.wrap .i64 (t13 + (1 : Int))))) [(AV.int .i64 (cIS R0 (0 + (Int.toNat t13)) 0))])); (first | rfl | simp [rappS_end] | (simp only [rappS_end, List.length_append, List.length_set, List.length_cons, List.length_nil]; omega))))), ⟨ndI hA (by subst hA; exact (vset (vset hp.1 rfl) rfl)), (by subst hA; show EV 30 [(List.set (List.set R0 (0 + (Int.toNat t13)) [(AV.int .i64 (cIS R0 (0 + (Int.toNat (IntKind.wrap .i64 (t13 + (1 : Int))))) 0))]) (0 + (Int.toNat (IntKind.wrap .i64 (t13 + (1 : Int))))) [(AV.int .i64 (cIS R0 (0 + (Int.toNat t13)) 0))])] [(Lf.i t10), (Lf.i (IntKind.wrap .i64 (t13 + (1 : Int)))), (Lf.r tb1)]; (try simp only [rappS_end, Nat.zero_add, Int.toNat_natCast]); exact (h.1 c0).2.2.2.2.2.2.2)⟩⟩⟩, trivial⟩⟩, trivial⟩⟩, trivial⟩⟩, trivial⟩⟩, trivial⟩⟩, trivial⟩⟩, ⟨⟨ndI hA (And.intro (by subst hA; exact (h.1 c0).2.2.2.1) (And.intro (by subst hA; exact (h.1 c0).2.2.2.2.1) rfl)), ⟨⟨ndI hA (And.intro rfl (by subst hA; show R0[(0 + (Int.toNat (IntKind.wrap .i64 (t13 + (1 : Int)))))]? = some [(AV.int .i64 (cIS R0 (0 + (Int.toNat (IntKind.wrap .i64 (t13 + (1 : Int))))) 0))]; (try simp only [rappS_end, Nat.zero_add, Int.toNat_natCast]); exact (h.1 c0).2.2.1)), ⟨⟨ndI hA (And.intro rfl (by subst hA; show R0[(0 + (Int.toNat t13))]? = some [(AV.int .i64 (cIS R0 (0 + (Int.toNat t13)) 0))]; (try simp only [rappS_end, Nat.zero_add, Int.toNat_natCast]); exact (h.1 c0).2.2.2.2.2.1)), ⟨⟨ndI hA (And.intro (by subst hA; exact (h.1 c0).2.2.2.1) (And.intro (by subst hA; exact (h.1 c0).2.2.2.2.1) rfl)), ⟨⟨ndI hA (And.intro rfl (by subst hA; show R0[(0 + (Int.toNat t13))]? = some [(AV.int .i64 (cIS R0 (0 + (Int.toNat t13)) 0))]; (try simp only [rappS_end, Nat.zero_add, Int.toNat_natCast]); exact (h.1 c0).2.2.2.2.2.1)), ⟨⟨ndI hA (And.intro (by subst hA; exact (h.1 c0).1) (And.intro (by subst hA; exact (h.1 c0).2.1) (by subst hA; show (List.length R0) = (List.length (List.set R0 (0 + (Int.toNat t13)) [(AV.int .i64 (cIS R0 (0 + (Int.toNat (IntKind.wrap .i64 (t13 + (1 : Int))))) 0))])); (first | rfl | simp [rappS_end] | (simp only [rappS_end, List.length_append, List.length_set, List.length_cons, List.length_nil]; omega))))), ⟨⟨ndI hA (And.intro (by subst hA; show (List.length R0) = (List.length (List.set R0 (0 + (Int.toNat t13)) [(AV.int .i64 (cIS R0 (0 + (Int.toNat (IntKind.wrap .i64 (t13 + (1 : Int))))) 0))])); (first | rfl | simp [rappS_end] | (simp only [rappS_end, List.length_append, List.length_set, List.length_cons, List.length_nil]; omega))) (by subst hA; show (List.set R0 (0 + (Int.toNat t13)) [(AV.int .i64 (cIS R0 (0 + (Int.toNat (IntKind.wrap .i64 (t13 + (1 : Int))))) 0))])[(0 + (Int.toNat (IntKind.wrap .i64 (t13 + (1 : Int)))))]? = some [(AV.int .i64 (cIS (List.set R0 (0 + (Int.toNat t13)) [(AV.int .i64 (cIS R0 (0 + (Int.toNat (IntKind.wrap .i64 (t13 + (1 : Int))))) 0))]) (0 + (Int.toNat (IntKind.wrap .i64 (t13 + (1 : Int))))) 0))]; (try simp only [rappS_end, Nat.zero_add, Int.toNat_natCast]); exact (h.1 c0).2.2.2.2.2.2.1)), ⟨ndI hA (And.intro (by subst hA; show (List.length R0) = (List.length (List.set (List.set R0 (0 + (Int.toNat t13)) [(AV.int .i64 (cIS R0 (0 + (Int.toNat (IntKind.wrap .i64 (t13 + (1 : Int))))) 0))]) (0 + (Int.toNat (IntKind.wrap .i64 (t13 + (1 : Int))))) [(AV.int .i64 (cIS R0 (0 + (Int.toNat t13)) 0))])); (first | rfl | simp [rappS_end] | (simp only [rappS_end, List.length_append, List.length_set, List.length_cons, List.length_nil]; omega))) (And.intro rfl (by subst hA; show (List.length R0) = (List.length (List.set (List.set R0 (0 + (Int.toNat t13)) [(AV.int .i64 (cIS R0 (0 + (Int.toNat (IntKind.wrap .i64 (t13 + (1 : Int))))) 0))]) (0 + (Int.toNat (IntKind.wrap .i64 (t13 + (1 : Int))))) [(AV.int .i64 (cIS R0 (0 + (Int.toNat t13)) 0))])); (first | rfl | simp [rappS_end] | (simp only [rappS_end, List.length_append, List.length_set, List.length_cons, List.length_nil]; omega))))), ⟨ndI hA (by subst hA; exact (vset (vset hp.1 rfl) rfl)), (by subst hA; show EV 30 [(List.set (List.set R0 (0 + (Int.toNat t13)) [(AV.int .i64 (cIS R0 (0 + (Int.toNat (IntKind.wrap .i64 (t13 + (1 : Int))))) 0))]) (0 + (Int.toNat (IntKind.wrap .i64 (t13 + (1 : Int))))) [(AV.int .i64 (cIS R0 (0 + (Int.toNat t13)) 0))])] [(Lf.i t10), (Lf.i (IntKind.wrap .i64 (t13 + (1 : Int)))), (Lf.r tb1)]; (try simp only [rappS_end, Nat.zero_add, Int.toNat_natCast]); exact (h.1 c0).2.2.2.2.2.2.2)⟩⟩⟩, trivial⟩⟩, trivial⟩⟩, trivial⟩⟩, trivial⟩⟩, trivial⟩⟩, ⟨⟨ndI hA (And.intro rfl (by subst hA; show R0[(0 + (Int.toNat t13))]? = some [(AV.int .i64 (cIS R0 (0 + (Int.toNat t13)) 0))]; (try simp only [rappS_end, Nat.zero_add, Int.toNat_natCast]); exact (h.1 c0).2.2.2.2.2.1)), ⟨⟨ndI hA (And.intro rfl (by subst hA; show R0[(0 + (Int.toNat (IntKind.wrap .i64 (t13 + (1 : Int)))))]? = some [(AV.int .i64 (cIS R0 (0 + (Int.toNat (IntKind.wrap .i64 (t13 + (1 : Int))))) 0))]; (try simp only [rappS_end, Nat.zero_add, Int.toNat_natCast]); exact (h.1 c0).2.2.1)), ⟨⟨ndI hA (And.intro (by subst hA; exact (h.1 c0).2.2.2.1) (And.intro (by subst hA; exact (h.1 c0).2.2.2.2.1) rfl)), ⟨⟨ndI hA (And.intro rfl (by subst hA; show R0[(0 + (Int.toNat t13))]? = some [(AV.int .i64 (cIS R0 (0 + (Int.toNat t13)) 0))]; (try simp only [rappS_end, Nat.zero_add, Int.toNat_natCast]); exact (h.1 c0).2.2.2.2.2.1)), ⟨⟨ndI hA (And.intro (by subst hA; exact (h.1 c0).1) (And.intro (by subst hA; exact (h.1 c0).2.1) (by subst hA; show (List.length R0) = (List.length (List.set R0 (0 + (Int.toNat t13)) [(AV.int .i64 (cIS R0 (0 + (Int.toNat (IntKind.wrap .i64 (t13 + (1 : Int))))) 0))])); (first | rfl | simp [rappS_end] | (simp only [rappS_end, List.length_append, List.length_set, List.length_cons, List.length_nil]; omega))))), ⟨⟨ndI hA (And.intro (by subst hA; show (List.length R0) = (List.length (List.set R0 (0 + (Int.toNat t13)) [(AV.int .i64 (cIS R0 (0 + (Int.toNat (IntKind.wrap .i64 (t13 + (1 : Int))))) 0))])); (first | rfl | simp [rappS_end] | (simp only [rappS_end, List.length_append, List.length_set, List.length_cons, List.length_nil]; omega))) (by subst hA; show (List.set R0 (0 + (Int.toNat t13)) [(AV.int .i64 (cIS R0 (0 + (Int.toNat (IntKind.wrap .i64 (t13 + (1 : Int))))) 0))])[(0 + (Int.toNat (IntKind.wrap .i64 (t13 + (1 : Int)))))]? = some [(AV.int .i64 (cIS (List.set R0 (0 + (Int.toNat t13)) [(AV.int .i64 (cIS R0 (0 + (Int.toNat (IntKind.wrap .i64 (t13 + (1 : Int))))) 0))]) (0 + (Int.toNat (IntKind.wrap .i64 (t13 + (1 : Int))))) 0))]; (try simp only [rappS_end, Nat.zero_add, Int.toNat_natCast]); exact (h.1 c0).2.2.2.2.2.2.1)), ⟨ndI hA (And.intro (by subst hA; show (List.length R0) = (List.length (List.set (List.set R0 (0 + (Int.toNat t13)) [(AV.int .i64 (cIS R0 (0 + (Int.toNat (IntKind.wrap .i64 (t13 + (1 : Int))))) 0))]) (0 + (Int.toNat (IntKind.wrap .i64 (t13 + (1 : Int))))) [(AV.int .i64 (cIS R0 (0 + (Int.toNat t13)) 0))])); (first | rfl | simp [rappS_end] | (simp only [rappS_end, List.length_append, List.length_set, List.length_cons, List.length_nil]; omega))) (And.intro rfl (by subst hA; show (List.length R0) = (List.length (List.set (List.set R0 (0 + (Int.toNat t13)) [(AV.int .i64 (cIS R0 (0 + (Int.toNat (IntKind.wrap .i64 (t13 + (1 : Int))))) 0))]) (0 + (Int.toNat (IntKind.wrap .i64 (t13 + (1 : Int))))) [(AV.int .i64 (cIS R0 (0 + (Int.toNat t13)) 0))])); (first | rfl | simp [rappS_end] | (simp only [rappS_end, List.length_append, List.length_set, List.length_cons, List.length_nil]; omega))))), ⟨ndI hA (by subst hA; exact (vset (vset hp.1 rfl) rfl)), (by subst hA; show EV 30 [(List.set (List.set R0 (0 + (Int.toNat t13)) [(AV.int .i64 (cIS R0 (0 + (Int.toNat (IntKind.wrap .i64 (t13 + (1 : Int))))) 0))]) (0 + (Int.toNat (IntKind.wrap .i64 (t13 + (1 : Int))))) [(AV.int .i64 (cIS R0 (0 + (Int.toNat t13)) 0))])] [(Lf.i t10), (Lf.i (IntKind.wrap .i64 (t13 + (1 : Int)))), (Lf.r tb1)]; (try simp only [rappS_end, Nat.zero_add, Int.toNat_natCast]); exact (h.1 c0).2.2.2.2.2.2.2)⟩⟩⟩, trivial⟩⟩, trivial⟩⟩, trivial⟩⟩, trivial⟩⟩, trivial⟩⟩, trivial⟩⟩⟩, trivial⟩⟩⟩, ⟨⟨ndI hA (And.intro (by subst hA; exact (h.1 c0).2.2.2.1) (And.intro (by subst hA; exact (h.1 c0).2.2.2.2.1) rfl)), ⟨⟨ndI hA (And.intro (by subst hA; exact (h.1 c0).1) (And.intro (by subst hA; exact (h.1 c0).2.1) rfl)), ⟨⟨ndI hA (And.intro rfl (by subst hA; show R0[(0 + (Int.toNat (IntKind.wrap .i64 (t13 + (1 : Int)))))]? = some [(AV.int .i64 (cIS R0 (0 + (Int.toNat (IntKind.wrap .i64 (t13 + (1 : Int))))) 0))]; (try simp only [rappS_end, Nat.zero_add, Int.toNat_natCast]); exact (h.1 c0).2.2.1)), ⟨⟨ndI hA (And.intro rfl (by subst hA; show R0[(0 + (Int.toNat t13))]? = some [(AV.int .i64 (cIS R0 (0 + (Int.toNat t13)) 0))]; (try simp only [rappS_end, Nat.zero_add, Int.toNat_natCast]); exact (h.1 c0).2.2.2.2.2.1)), ⟨⟨ndI hA (And.intro (by subst hA; exact (h.1 c0).2.2.2.1) (And.intro (by subst hA; exact (h.1 c0).2.2.2.2.1) rfl)), ⟨⟨ndI hA (And.intro rfl (by subst hA; show R0[(0 + (Int.toNat t13))]? = some [(AV.int .i64 (cIS R0 (0 + (Int.toNat t13)) 0))]; (try simp only [rappS_end, Nat.zero_add, Int.toNat_natCast]); exact (h.1 c0).2.2.2.2.2.1)), ⟨⟨ndI hA (And.intro (by subst hA; exact (h.1 c0).1) (And.intro (by subst hA; exact (h.1 c0).2.1) (by subst hA; show (List.length R0) = (List.length (List.set R0 (0 + (Int.toNat t13)) [(AV.int .i64 (cIS R0 (0 + (Int.toNat (IntKind.wrap .i64 (t13 + (1 : Int))))) 0))])); (first | rfl | simp [rappS_end] | (simp only [rappS_end, List.length_append, List.length_set, List.length_cons, List.length_nil]; omega))))), ⟨⟨ndI hA (And.intro (by subst hA; show (List.length R0) = (List.length (List.set R0 (0 + (Int.toNat t13)) [(AV.int .i64 (cIS R0 (0 + (Int.toNat (IntKind.wrap .i64 (t13 + (1 : Int))))) 0))])); (first | rfl | simp [rappS_end] | (simp only [rappS_end, List.length_append, List.length_set, List.length_cons, List.length_nil]; omega))) (by subst hA; show (List.set R0 (0 + (Int.toNat t13)) [(AV.int .i64 (cIS R0 (0 + (Int.toNat (IntKind.wrap .i64 (t13 + (1 : Int))))) 0))])[(0 + (Int.toNat (IntKind.wrap .i64 (t13 + (1 : Int)))))]? = some [(AV.int .i64 (cIS (List.set R0 (0 + (Int.toNat t13)) [(AV.int .i64 (cIS R0 (0 + (Int.toNat (IntKind.wrap .i64 (t13 + (1 : Int))))) 0))]) (0 + (Int.toNat (IntKind.wrap .i64 (t13 + (1 : Int))))) 0))]; (try simp only [rappS_end, Nat.zero_add, Int.toNat_natCast]); exact (h.1 c0).2.2.2.2.2.2.1)), ⟨ndI hA (And.intro (by subst hA; show (List.length R0) = (List.length (List.set (List.set R0 (0 + (Int.toNat t13)) [(AV.int .i64 (cIS R0 (0 + (Int.toNat (IntKind.wrap .i64 (t13 + (1 : Int))))) 0))]) (0 + (Int.toNat (IntKind.wrap .i64 (t13 + (1 : Int))))) [(AV.int .i64 (cIS R0 (0 + (Int.toNat t13)) 0))])); (first | rfl | simp [rappS_end] | (simp only [rappS_end, List.length_append, List.length_set, List.length_cons, List.length_nil]; omega))) (And.intro rfl (by subst hA; show (List.length R0) = (List.length (List.set (List.set R0 (0 + (Int.toNat t13)) [(AV.int .i64 (cIS R0 (0 + (Int.toNat (IntKind.wrap .i64 (t13 + (1 : Int))))) 0))]) (0 + (Int.toNat (IntKind.wrap .i64 (t13 + (1 : Int))))) [(AV.int .i64 (cIS R0 (0 + (Int.toNat t13)) 0))])); (first | rfl | simp [rappS_end] | (simp only [rappS_end, List.length_append, List.length_set, List.length_cons, List.length_nil]; omega))))), ⟨ndI hA (by subst hA; exact (vset (vset hp.1 rfl) rfl)), (by subst hA; show EV 30 [(List.set (List.set R0 (0 + (Int.toNat t13)) [(AV.int .i64 (cIS R0 (0 + (Int.toNat (IntKind.wrap .i64 (t13 + (1 : Int))))) 0))]) (0 + (Int.toNat (IntKind.wrap .i64 (t13 + (1 : Int))))) [(AV.int .i64 (cIS R0 (0 + (Int.toNat t13)) 0))])] [(Lf.i t10), (Lf.i (IntKind.wrap .i64 (t13 + (1 : Int)))), (Lf.r tb1)]; (try simp only [rappS_end, Nat.zero_add, Int.toNat_natCast]); exact (h.1 c0).2.2.2.2.2.2.2)⟩⟩⟩, trivial⟩⟩, trivial⟩⟩, trivial⟩⟩, trivial⟩⟩, trivial⟩⟩, ⟨⟨ndI hA (And.intro rfl (by subst hA; show R0[(0 + (Int.toNat t13))]? = some [(AV.int .i64 (cIS R0 (0 + (Int.toNat t13)) 0))]; (try simp only [rappS_end, Nat.zero_add, Int.toNat_natCast]); exact (h.1 c0).2.2.2.2.2.1)), ⟨⟨ndI hA (And.intro rfl (by subst hA; show R0[(0 + (Int.toNat (IntKind.wrap .i64 (t13 + (1 : Int)))))]? = some [(AV.int .i64 (cIS R0 (0 + (Int.toNat (IntKind.wrap .i64 (t13 + (1 : Int))))) 0))]; (try simp only [rappS_end, Nat.zero_add, Int.toNat_natCast]); exact (h.1 c0).2.2.1)), ⟨⟨ndI hA (And.intro (by subst hA; exact (h.1 c0).2.2.2.1) (And.intro (by subst hA; exact (h.1 c0).2.2.2.2.1) rfl)), ⟨⟨ndI hA (And.intro rfl (by subst hA; show R0[(0 + (Int.toNat t13))]? = some [(AV.int .i64 (cIS R0 (0 + (Int.toNat t13)) 0))]; (try simp only [rappS_end, Nat.zero_add, Int.toNat_natCast]); exact (h.1 c0).2.2.2.2.2.1)), ⟨⟨ndI hA (And.intro (by subst hA; exact (h.1 c0).1) (And.intro (by subst hA; exact (h.1 c0).2.1) (by subst hA; show (List.length R0) = (List.length (List.set R0 (0 + (Int.toNat t13)) [(AV.int .i64 (cIS R0 (0 + (Int.toNat (IntKind.wrap .i64 (t13 + (1 : Int))))) 0))])); (first | rfl | simp [rappS_end] | (simp only [rappS_end, List.length_append, List.length_set, List.length_cons, List.length_nil]; omega))))), ⟨⟨ndI hA (And.intro (by subst hA; show (List.length R0) = (List.length (List.set R0 (0 + (Int.toNat t13)) [(AV.int .i64 (cIS R0 (0 + (Int.toNat (IntKind.wrap .i64 (t13 + (1 : Int))))) 0))])); (first | rfl | simp [rappS_end] | (simp only [rappS_end, List.length_append, List.length_set, List.length_cons, List.length_nil]; omega))) (by subst hA; show (List.set R0 (0 + (Int.toNat t13)) [(AV.int .i64 (cIS R0 (0 + (Int.toNat (IntKind.wrap .i64 (t13 + (1 : Int))))) 0))])[(0 + (Int.toNat (IntKind.wrap .i64 (t13 + (1 : Int)))))]? = some [(AV.int .i64 (cIS (List.set R0 (0 + (Int.toNat t13)) [(AV.int .i64 (cIS R0 (0 + (Int.toNat (IntKind.wrap .i64 (t13 + (1 : Int))))) 0))]) (0 + (Int.toNat (IntKind.wrap .i64 (t13 + (1 : Int))))) 0))]; (try simp only [rappS_end, Nat.zero_add, Int.toNat_natCast]); exact (h.1 c0).2.2.2.2.2.2.1)), ⟨ndI hA (And.intro (by subst hA; show (List.length R0) = (List.length (List.set (List.set R0 (0 + (Int.toNat t13)) [(AV.int .i64 (cIS R0 (0 + (Int.toNat (IntKind.wrap .i64 (t13 + (1 : Int))))) 0))]) (0 + (Int.toNat (IntKind.wrap .i64 (t13 + (1 : Int))))) [(AV.int .i64 (cIS R0 (0 + (Int.toNat t13)) 0))])); (first | rfl | simp [rappS_end] | (simp only [rappS_end, List.length_append, List.length_set, List.length_cons, List.length_nil]; omega))) (And.intro rfl (by subst hA; show (List.length R0) = (List.length (List.set (List.set R0 (0 + (Int.toNat t13)) [(AV.int .i64 (cIS R0 (0 + (Int.toNat (IntKind.wrap .i64 (t13 + (1 : Int))))) 0))]) (0 + (Int.toNat (IntKind.wrap .i64 (t13 + (1 : Int))))) [(AV.int .i64 (cIS R0 (0 + (Int.toNat t13)) 0))])); (first | rfl | simp [rappS_end] | (simp only [rappS_end, List.length_append, List.length_set, List.length_cons, List.length_nil]; omega))))), ⟨ndI hA (by subst hA; exact (vset (vset hp.1 rfl) rfl)), (by subst hA; show EV 30 [(List.set (List.set R0 (0 + (Int.toNat t13)) [(AV.int .i64 (cIS R0 (0 + (Int.toNat (IntKind.wrap .i64 (t13 + (1 : Int))))) 0))]) (0 + (Int.toNat (IntKind.wrap .i64 (t13 + (1 : Int))))) [(AV.int .i64 (cIS R0 (0 + (Int.toNat t13)) 0))])] [(Lf.i t10), (Lf.i (IntKind.wrap .i64 (t13 + (1 : Int)))), (Lf.r tb1)]; (try simp only [rappS_end, Nat.zero_add, Int.toNat_natCast]); exact (h.1 c0).2.2.2.2.2.2.2)⟩⟩⟩, trivial⟩⟩, trivial⟩⟩, trivial⟩⟩, trivial⟩⟩, trivial⟩⟩, trivial⟩⟩⟩, ⟨⟨ndI hA (And.intro rfl (by subst hA; show R0[(0 + (Int.toNat t13))]? = some [(AV.int .i64 (cIS R0 (0 + (Int.toNat t13)) 0))]; (try simp only [rappS_end, Nat.zero_add, Int.toNat_natCast]); exact (h.1 c0).2.2.2.2.2.1)), ⟨⟨ndI hA (And.intro (by subst hA; exact (h.1 c0).1) (And.intro (by subst hA; exact (h.1 c0).2.1) rfl)), ⟨⟨ndI hA (And.intro rfl (by subst hA; show R0[(0 + (Int.toNat (IntKind.wrap .i64 (t13 + (1 : Int)))))]? = some [(AV.int .i64 (cIS R0 (0 + (Int.toNat (IntKind.wrap .i64 (t13 + (1 : Int))))) 0))]; (try simp only [rappS_end, Nat.zero_add, Int.toNat_natCast]); exact (h.1 c0).2.2.1)), ⟨⟨ndI hA (And.intro (by subst hA; exact (h.1 c0).2.2.2.1) (And.intro (by subst hA; exact (h.1 c0).2.2.2.2.1) rfl)), ⟨⟨ndI hA (And.intro rfl (by subst hA; show R0[(0 + (Int.toNat t13))]? = some [(AV.int .i64 (cIS R0 (0 + (Int.toNat t13)) 0))]; (try simp only [rappS_end, Nat.zero_add, Int.toNat_natCast]); exact (h.1 c0).2.2.2.2.2.1)), ⟨⟨ndI hA (And.intro (by subst hA; exact (h.1 c0).1) (And.intro (by subst hA; exact (h.1 c0).2.1) (by subst hA; show (List.length R0) = (List.length (List.set R0 (0 + (Int.toNat t13)) [(AV.int .i64 (cIS R0 (0 + (Int.toNat (IntKind.wrap .i64 (t13 + (1 : Int))))) 0))])); (first | rfl | simp [rappS_end] | (simp only [rappS_end, List.length_append, List.length_set, List.length_cons, List.length_nil]; omega))))), ⟨⟨ndI hA (And.intro (by subst hA; show (List.length R0) = (List.length (List.set R0 (0 + (Int.toNat t13)) [(AV.int .i64 (cIS R0 (0 + (Int.toNat (IntKind.wrap .i64 (t13 + (1 : Int))))) 0))])); (first | rfl | simp [rappS_end] | (simp only [rappS_end, List.length_append, List.length_set, List.length_cons, List.length_nil]; omega))) (by subst hA; show (List.set R0 (0 + (Int.toNat t13)) [(AV.int .i64 (cIS R0 (0 + (Int.toNat (IntKind.wrap .i64 (t13 + (1 : Int))))) 0))])[(0 + (Int.toNat (IntKind.wrap .i64 (t13 + (1 : Int)))))]? = some [(AV.int .i64 (cIS (List.set R0 (0 + (Int.toNat t13)) [(AV.int .i64 (cIS R0 (0 + (Int.toNat (IntKind.wrap .i64 (t13 + (1 : Int))))) 0))]) (0 + (Int.toNat (IntKind.wrap .i64 (t13 + (1 : Int))))) 0))]; (try simp only [rappS_end, Nat.zero_add, Int.toNat_natCast]); exact (h.1 c0).2.2.2.2.2.2.1)), ⟨ndI hA (And.intro (by subst hA; show (List.length R0) = (List.length (List.set (List.set R0 (0 + (Int.toNat t13)) [(AV.int .i64 (cIS R0 (0 + (Int.toNat (IntKind.wrap .i64 (t13 + (1 : Int))))) 0))]) (0 + (Int.toNat (IntKind.wrap .i64 (t13 + (1 : Int))))) [(AV.int .i64 (cIS R0 (0 + (Int.toNat t13)) 0))])); (first | rfl | simp [rappS_end] | (simp only [rappS_end, List.length_append, List.length_set, List.length_cons, List.length_nil]; omega))) (And.intro rfl (by subst hA; show (List.length R0) = (List.length (List.set (List.set R0 (0 + (Int.toNat t13)) [(AV.int .i64 (cIS R0 (0 + (Int.toNat (IntKind.wrap .i64 (t13 + (1 : Int))))) 0))]) (0 + (Int.toNat (IntKind.wrap .i64 (t13 + (1 : Int))))) [(AV.int .i64 (cIS R0 (0 + (Int.toNat t13)) 0))])); (first | rfl | simp [rappS_end] | (simp only [rappS_end, List.length_append, List.length_set, List.length_cons, List.length_nil]; omega))))), ⟨ndI hA (by subst hA; exact (vset (vset hp.1 rfl) rfl)), (by subst hA; show EV 30 [(List.set (List.set R0 (0 + (Int.toNat t13)) [(AV.int .i64 (cIS R0 (0 + (Int.toNat (IntKind.wrap .i64 (t13 + (1 : Int))))) 0))]) (0 + (Int.toNat (IntKind.wrap .i64 (t13 + (1 : Int))))) [(AV.int .i64 (cIS R0 (0 + (Int.toNat t13)) 0))])] [(Lf.i t10), (Lf.i (IntKind.wrap .i64 (t13 + (1 : Int)))), (Lf.r tb1)]; (try simp only [rappS_end, Nat.zero_add, Int.toNat_natCast]); exact (h.1 c0).2.2.2.2.2.2.2)⟩⟩⟩, trivial⟩⟩, trivial⟩⟩, trivial⟩⟩, trivial⟩⟩, trivial⟩⟩, trivial⟩⟩, trivial⟩⟩⟩, trivial⟩⟩, imI hA fun e0 => have c0 : t13 ≥ (IntKind.wrap .i64 (t10 - (1 : Int))) := (by have q := (cmpE (op := .lss) hA e0); subst hA; exact q); ⟨ndI hA (by subst hA; exact hp.1), (by rw [W.rr]; exact (by subst hA; exact (h.2 c0)))⟩⟩
  · intro R0 t2 t14 t15 tb1 h
    refine W.step 80 fun hp => ?_
    have h := h hp.1
    cbv
    refine ⟨imI hA fun e0 => have c0 : t14 < t15 := (by have q := (cmpE (op := .lss) hA e0); subst hA; exact q); ⟨ndI hA (by subst hA; exact (h.1 c0).1), ⟨ndI hA (And.intro (by subst hA; exact (h.1 c0).2.1) (And.intro (by subst hA; exact (h.1 c0).2.2.1) rfl)), ⟨ndI hA (And.intro rfl (by subst hA; show R0[(0 + (Int.toNat t2))]? = some [(AV.int .i64 (cIS R0 (0 + (Int.toNat t2)) 0))]; (try simp only [rappS_end, Nat.zero_add, Int.toNat_natCast]); exact (h.1 c0).2.2.2.1)), ⟨ndI hA (And.intro (by subst hA; exact (h.1 c0).2.2.2.2.1) (And.intro (by subst hA; exact (h.1 c0).2.2.2.2.2.1) rfl)), ⟨ndI hA (And.intro rfl (by subst hA; show R0[(0 + (Int.toNat (IntKind.wrap .i64 (iopS .shr .u64 (IntKind.wrap .u64 (IntKind.wrap .i64 (t14 + t15))) (1 : Int)))))]? = some [(AV.int .i64 (cIS R0 (0 + (Int.toNat (IntKind.wrap .i64 (iopS .shr .u64 (IntKind.wrap .u64 (IntKind.wrap .i64 (t14 + t15))) (1 : Int))))) 0))]; (try simp only [rappS_end, Nat.zero_add, Int.toNat_natCast]); exact (h.1 c0).2.2.2.2.2.2.1)), ⟨?_, trivial⟩⟩⟩⟩⟩⟩, imI hA fun e0 => have c0 : t14 ≥ t15 := (by have q := (cmpE (op := .lss) hA e0); subst hA; exact q); ⟨ndI hA (And.intro rfl (And.intro rfl rfl)), ⟨ndI hA (by subst hA; exact hp.1), (by subst hA; exact (h.2 c0))⟩⟩⟩
    · refine W.callD (by rfl) (h.1 c0).2.2.2.2.2.2.2 (by subst hA; show [] = []; (try simp only [rappS_end, Nat.zero_add, Int.toNat_natCast])) (by subst hA; show [(Lf.i (cIS R0 (0 + (Int.toNat t2)) 0)), (Lf.i (cIS R0 (0 + (Int.toNat (IntKind.wrap .i64 (iopS .shr .u64 (IntKind.wrap .u64 (IntKind.wrap .i64 (t14 + t15))) (1 : Int))))) 0)), (Lf.r tb1)] = [(Lf.i (cIS R0 (Int.toNat t2) 0)), (Lf.i (cIS R0 (Int.toNat (IntKind.wrap .i64 (iopS .shr .u64 (IntKind.wrap .u64 (IntKind.wrap .i64 (t14 + t15))) (1 : Int)))) 0)), (Lf.r tb1)]; (try simp only [rappS_end, Nat.zero_add, Int.toNat_natCast])) ?_
      rintro x rs vs hp1 hq1
      rcases hq1 with ⟨rfl, y1_0, y1_b0, rfl, rfl, k1⟩
      · cbv
        refine ?_
        · refine W.draw 80 (by rfl) ?_
          cbv
          refine ⟨imI hA fun e2 => have c2 : y1_0 ≥ (0 : Int) := (by have q := (cmpE (op := .lss) hA (notE hA e2)); subst hA; exact q); ⟨ndI hA (And.intro rfl (And.intro rfl rfl)), ⟨ndI hA (by subst hA; exact hp.1), (by subst hA; exact (k1.1 c2))⟩⟩, imI hA fun e2 => have c2 : y1_0 < (0 : Int) := (by have q := (cmpE (op := .lss) hA (notE hA e2)); subst hA; exact q); ⟨ndI hA (And.intro rfl (And.intro rfl rfl)), ⟨ndI hA (by subst hA; exact hp.1), (by subst hA; exact (k1.2 c2))⟩⟩⟩
  · intro R0 t14 t17 tb1 h
    refine W.step 80 fun hp => ?_
    have h := h hp.1
    cbv
    refine ⟨imI hA fun e0 => have c0 : t17 > t14 := (by have q := (cmpE (op := .gtr) hA e0); subst hA; exact q); ⟨⟨ndI hA (And.intro (by subst hA; exact (h.1 c0).1) (And.intro (by subst hA; exact (h.1 c0).2.1) rfl)), ⟨⟨ndI hA (And.intro rfl (by subst hA; show R0[(0 + (Int.toNat (IntKind.wrap .i64 (t17 - (1 : Int)))))]? = some [(AV.int .i64 (cIS R0 (0 + (Int.toNat (IntKind.wrap .i64 (t17 - (1 : Int))))) 0))]; (try simp only [rappS_end, Nat.zero_add, Int.toNat_natCast]); exact (h.1 c0).2.2.1)), ⟨⟨ndI hA (And.intro (by subst hA; exact (h.1 c0).2.2.2.1) (And.intro (by subst hA; exact (h.1 c0).2.2.2.2.1) rfl)), ⟨⟨ndI hA (And.intro rfl (by subst hA; show R0[(0 + (Int.toNat t17))]? = some [(AV.int .i64 (cIS R0 (0 + (Int.toNat t17)) 0))]; (try simp only [rappS_end, Nat.zero_add, Int.toNat_natCast]); exact (h.1 c0).2.2.2.2.2.1)), ⟨⟨ndI hA (And.intro (by subst hA; exact (h.1 c0).2.2.2.1) (And.intro (by subst hA; exact (h.1 c0).2.2.2.2.1) rfl)), ⟨⟨ndI hA (And.intro rfl (by subst hA; show R0[(0 + (Int.toNat t17))]? = some [(AV.int .i64 (cIS R0 (0 + (Int.toNat t17)) 0))]; (try simp only [rappS_end, Nat.zero_add, Int.toNat_natCast]); exact (h.1 c0).2.2.2.2.2.1)), ⟨⟨ndI hA (And.intro (by subst hA; exact (h.1 c0).1) (And.intro (by subst hA; exact (h.1 c0).2.1) (by subst hA; show (List.length R0) = (List.length (List.set R0 (0 + (Int.toNat t17)) [(AV.int .i64 (cIS R0 (0 + (Int.toNat (IntKind.wrap .i64 (t17 - (1 : Int))))) 0))])); (first | rfl | simp [rappS_end] | (simp only [rappS_end, List.length_append, List.length_set, List.length_cons, List.length_nil]; omega))))), ⟨⟨ndI hA (And.intro (by subst hA; show (List.length R0) = (List.length (List.set R0 (0 + (Int.toNat t17)) [(AV.int .i64 (cIS R0 (0 + (Int.toNat (IntKind.wrap .i64 (t17 - (1 : Int))))) 0))])); (first | rfl | simp [rappS_end] | (simp only [rappS_end, List.length_append, List.length_set, List.length_cons, List.length_nil]; omega))) (by subst hA; show (List.set R0 (0 + (Int.toNat t17)) [(AV.int .i64 (cIS R0 (0 + (Int.toNat (IntKind.wrap .i64 (t17 - (1 : Int))))) 0))])[(0 + (Int.toNat (IntKind.wrap .i64 (t17 - (1 : Int)))))]? = some [(AV.int .i64 (cIS (List.set R0 (0 + (Int.toNat t17)) [(AV.int .i64 (cIS R0 (0 + (Int.toNat (IntKind.wrap .i64 (t17 - (1 : Int))))) 0))]) (0 + (Int.toNat (IntKind.wrap .i64 (t17 - (1 : Int))))) 0))]; (try simp only [rappS_end, Nat.zero_add, Int.toNat_natCast]); exact (h.1 c0).2.2.2.2.2.2.1)), ⟨ndI hA (And.intro (by subst hA; show (List.length R0) = (List.length (List.set (List.set R0 (0 + (Int.toNat t17)) [(AV.int .i64 (cIS R0 (0 + (Int.toNat (IntKind.wrap .i64 (t17 - (1 : Int))))) 0))]) (0 + (Int.toNat (IntKind.wrap .i64 (t17 - (1 : Int))))) [(AV.int .i64 (cIS R0 (0 + (Int.toNat t17)) 0))])); (first | rfl | simp [rappS_end] | (simp only [rappS_end, List.length_append, List.length_set, List.length_cons, List.length_nil]; omega))) (And.intro rfl (by subst hA; show (List.length R0) = (List.length (List.set (List.set R0 (0 + (Int.toNat t17)) [(AV.int .i64 (cIS R0 (0 + (Int.toNat (IntKind.wrap .i64 (t17 - (1 : Int))))) 0))]) (0 + (Int.toNat (IntKind.wrap .i64 (t17 - (1 : Int))))) [(AV.int .i64 (cIS R0 (0 + (Int.toNat t17)) 0))])); (first | rfl | simp [rappS_end] | (simp only [rappS_end, List.length_append, List.length_set, List.length_cons, List.length_nil]; omega))))), ⟨ndI hA (by subst hA; exact (vset (vset hp.1 rfl) rfl)), (by subst hA; show EV 72 [(List.set (List.set R0 (0 + (Int.toNat t17)) [(AV.int .i64 (cIS R0 (0 + (Int.toNat (IntKind.wrap .i64 (t17 - (1 : Int))))) 0))]) (0 + (Int.toNat (IntKind.wrap .i64 (t17 - (1 : Int))))) [(AV.int .i64 (cIS R0 (0 + (Int.toNat t17)) 0))])] [(Lf.i t14), (Lf.i (IntKind.wrap .i64 (t17 - (1 : Int)))), (Lf.r tb1)]; (try simp only [rappS_end, Nat.zero_add, Int.toNat_natCast]); exact (h.1 c0).2.2.2.2.2.2.2)⟩⟩⟩, trivial⟩⟩, trivial⟩⟩, trivial⟩⟩, trivial⟩⟩, trivial⟩⟩, trivial⟩⟩, ⟨⟨ndI hA (And.intro (by subst hA; exact (h.1 c0).2.2.2.1) (And.intro (by subst hA; exact (h.1 c0).2.2.2.2.1) rfl)), ⟨⟨ndI hA (And.intro rfl (by subst hA; show R0[(0 + (Int.toNat (IntKind.wrap .i64 (t17 - (1 : Int)))))]? = some [(AV.int .i64 (cIS R0 (0 + (Int.toNat (IntKind.wrap .i64 (t17 - (1 : Int))))) 0))]; (try simp only [rappS_end, Nat.zero_add, Int.toNat_natCast]); exact (h.1 c0).2.2.1)), ⟨⟨ndI hA (And.intro rfl (by subst hA; show R0[(0 + (Int.toNat t17))]? = some [(AV.int .i64 (cIS R0 (0 + (Int.toNat t17)) 0))]; (try simp only [rappS_end, Nat.zero_add, Int.toNat_natCast]); exact (h.1 c0).2.2.2.2.2.1)), ⟨⟨ndI hA (And.intro (by subst hA; exact (h.1 c0).2.2.2.1) (And.intro (by subst hA; exact (h.1 c0).2.2.2.2.1) rfl)), ⟨⟨ndI hA (And.intro rfl (by subst hA; show R0[(0 + (Int.toNat t17))]? = some [(AV.int .i64 (cIS R0 (0 + (Int.toNat t17)) 0))]; (try simp only [rappS_end, Nat.zero_add, Int.toNat_natCast]); exact (h.1 c0).2.2.2.2.2.1)), ⟨⟨ndI hA (And.intro (by subst hA; exact (h.1 c0).1) (And.intro (by subst hA; exact (h.1 c0).2.1) (by subst hA; show (List.length R0) = (List.length (List.set R0 (0 + (Int.toNat t17)) [(AV.int .i64 (cIS R0 (0 + (Int.toNat (IntKind.wrap .i64 (t17 - (1 : Int))))) 0))])); (first | rfl | simp [rappS_end] | (simp only [rappS_end, List.length_append, List.length_set, List.length_cons, List.length_nil]; omega))))), ⟨⟨ndI hA (And.intro (by subst hA; show (List.length R0) = (List.length (List.set R0 (0 + (Int.toNat t17)) [(AV.int .i64 (cIS R0 (0 + (Int.toNat (IntKind.wrap .i64 (t17 - (1 : Int))))) 0))])); (first | rfl | simp [rappS_end] | (simp only [rappS_end, List.length_append, List.length_set, List.length_cons, List.length_nil]; omega))) (by subst hA; show (List.set R0 (0 + (Int.toNat t17)) [(AV.int .i64 (cIS R0 (0 + (Int.toNat (IntKind.wrap .i64 (t17 - (1 : Int))))) 0))])[(0 + (Int.toNat (IntKind.wrap .i64 (t17 - (1 : Int)))))]? = some [(AV.int .i64 (cIS (List.set R0 (0 + (Int.toNat t17)) [(AV.int .i64 (cIS R0 (0 + (Int.toNat (IntKind.wrap .i64 (t17 - (1 : Int))))) 0))]) (0 + (Int.toNat (IntKind.wrap .i64 (t17 - (1 : Int))))) 0))]; (try simp only [rappS_end, Nat.zero_add, Int.toNat_natCast]); exact (h.1 c0).2.2.2.2.2.2.1)), ⟨ndI hA (And.intro (by subst hA; show (List.length R0) = (List.length (List.set (List.set R0 (0 + (Int.toNat t17)) [(AV.int .i64 (cIS R0 (0 + (Int.toNat (IntKind.wrap .i64 (t17 - (1 : Int))))) 0))]) (0 + (Int.toNat (IntKind.wrap .i64 (t17 - (1 : Int))))) [(AV.int .i64 (cIS R0 (0 + (Int.toNat t17)) 0))])); (first | rfl | simp [rappS_end] | (simp only [rappS_end, List.length_append, List.length_set, List.length_cons, List.length_nil]; omega))) (And.intro rfl (by subst hA; show (List.length R0) = (List.length (List.set (List.set R0 (0 + (Int.toNat t17)) [(AV.int .i64 (cIS R0 (0 + (Int.toNat (IntKind.wrap .i64 (t17 - (1 : Int))))) 0))]) (0 + (Int.toNat (IntKind.wrap .i64 (t17 - (1 : Int))))) [(AV.int .i64 (cIS R0 (0 + (Int.toNat t17)) 0))])); (first | rfl | simp [rappS_end] | (simp only [rappS_end, List.length_append, List.length_set, List.length_cons, List.length_nil]; omega))))), ⟨ndI hA (by subst hA; exact (vset (vset hp.1 rfl) rfl)), (by subst hA; show EV 72 [(List.set (List.set R0 (0 + (Int.toNat t17)) [(AV.int .i64 (cIS R0 (0 + (Int.toNat (IntKind.wrap .i64 (t17 - (1 : Int))))) 0))]) (0 + (Int.toNat (IntKind.wrap .i64 (t17 - (1 : Int))))) [(AV.int .i64 (cIS R0 (0 + (Int.toNat t17)) 0))])] [(Lf.i t14), (Lf.i (IntKind.wrap .i64 (t17 - (1 : Int)))), (Lf.r tb1)]; (try simp only [rappS_end, Nat.zero_add, Int.toNat_natCast]); exact (h.1 c0).2.2.2.2.2.2.2)⟩⟩⟩, trivial⟩⟩, trivial⟩⟩, trivial⟩⟩, trivial⟩⟩, trivial⟩⟩, ⟨⟨ndI hA (And.intro rfl (by subst hA; show R0[(0 + (Int.toNat t17))]? = some [(AV.int .i64 (cIS R0 (0 + (Int.toNat t17)) 0))]; (try simp only [rappS_end, Nat.zero_add, Int.toNat_natCast]); exact (h.1 c0).2.2.2.2.2.1)), ⟨⟨ndI hA (And.intro rfl (by subst hA; show R0[(0 + (Int.toNat (IntKind.wrap .i64 (t17 - (1 : Int)))))]? = some [(AV.int .i64 (cIS R0 (0 + (Int.toNat (IntKind.wrap .i64 (t17 - (1 : Int))))) 0))]; (try simp only [rappS_end, Nat.zero_add, Int.toNat_natCast]); exact (h.1 c0).2.2.1)), ⟨⟨ndI hA (And.intro (by subst hA; exact (h.1 c0).2.2.2.1) (And.intro (by subst hA; exact (h.1 c0).2.2.2.2.1) rfl)), ⟨⟨ndI hA (And.intro rfl (by subst hA; show R0[(0 + (Int.toNat t17))]? = some [(AV.int .i64 (cIS R0 (0 + (Int.toNat t17)) 0))]; (try simp only [rappS_end, Nat.zero_add, Int.toNat_natCast]); exact (h.1 c0).2.2.2.2.2.1)), ⟨⟨ndI hA (And.intro (by subst hA; exact (h.1 c0).1) (And.intro (by subst hA; exact (h.1 c0).2.1) (by subst hA; show (List.length R0) = (List.length (List.set R0 (0 + (Int.toNat t17)) [(AV.int .i64 (cIS R0 (0 + (Int.toNat (IntKind.wrap .i64 (t17 - (1 : Int))))) 0))])); (first | rfl | simp [rappS_end] | (simp only [rappS_end, List.length_append, List.length_set, List.length_cons, List.length_nil]; omega))))), ⟨⟨ndI hA (And.intro (by subst hA; show (List.length R0) = (List.length (List.set R0 (0 + (Int.toNat t17)) [(AV.int .i64 (cIS R0 (0 + (Int.toNat (IntKind.wrap .i64 (t17 - (1 : Int))))) 0))])); (first | rfl | simp [rappS_end] | (simp only [rappS_end, List.length_append, List.length_set, List.length_cons, List.length_nil]; omega))) (by subst hA; show (List.set R0 (0 + (Int.toNat t17)) [(AV.int .i64 (cIS R0 (0 + (Int.toNat (IntKind.wrap .i64 (t17 - (1 : Int))))) 0))])[(0 + (Int.toNat (IntKind.wrap .i64 (t17 - (1 : Int)))))]? = some [(AV.int .i64 (cIS (List.set R0 (0 + (Int.toNat t17)) [(AV.int .i64 (cIS R0 (0 + (Int.toNat (IntKind.wrap .i64 (t17 - (1 : Int))))) 0))]) (0 + (Int.toNat (IntKind.wrap .i64 (t17 - (1 : Int))))) 0))]; (try simp only [rappS_end, Nat.zero_add, Int.toNat_natCast]); exact (h.1 c0).2.2.2.2.2.2.1)), ⟨ndI hA (And.intro (by subst hA; show (List.length R0) = (List.length (List.set (List.set R0 (0 + (Int.toNat t17)) [(AV.int .i64 (cIS R0 (0 + (Int.toNat (IntKind.wrap .i64 (t17 - (1 : Int))))) 0))]) (0 + (Int.toNat (IntKind.wrap .i64 (t17 - (1 : Int))))) [(AV.int .i64 (cIS R0 (0 + (Int.toNat t17)) 0))])); (first | rfl | simp [rappS_end] | (simp only [rappS_end, List.length_append, List.length_set, List.length_cons, List.length_nil]; omega))) (And.intro rfl (by subst hA; show (List.length R0) = (List.length (List.set (List.set R0 (0 + (Int.toNat t17)) [(AV.int .i64 (cIS R0 (0 + (Int.toNat (IntKind.wrap .i64 (t17 - (1 : Int))))) 0))]) (0 + (Int.toNat (IntKind.wrap .i64 (t17 - (1 : Int))))) [(AV.int .i64 (cIS R0 (0 + (Int.toNat t17)) 0))])); (first | rfl | simp [rappS_end] | (simp only [rappS_end, List.length_append, List.length_set, List.length_cons, List.length_nil]; omega))))), ⟨ndI hA (by subst hA; exact (vset (vset hp.1 rfl) rfl)), (by subst hA; show EV 72 [(List.set (List.set R0 (0 + (Int.toNat t17)) [(AV.int .i64 (cIS R0 (0 + (Int.toNat (IntKind.wrap .i64 (t17 - (1 : Int))))) 0))]) (0 + (Int.toNat (IntKind.wrap .i64 (t17 - (1 : Int))))) [(AV.int .i64 (cIS R0 (0 + (Int.toNat t17)) 0))])] [(Lf.i t14), (Lf.i (IntKind.wrap .i64 (t17 - (1 : Int)))), (Lf.r tb1)]; (try simp only [rappS_end, Nat.zero_add, Int.toNat_natCast]); exact (h.1 c0).2.2.2.2.2.2.2)⟩⟩⟩, trivial⟩⟩, trivial⟩⟩, trivial⟩⟩, trivial⟩⟩, trivial⟩⟩, trivial⟩⟩⟩, trivial⟩⟩⟩, ⟨⟨ndI hA (And.intro (by subst hA; exact (h.1 c0).2.2.2.1) (And.intro (by subst hA; exact (h.1 c0).2.2.2.2.1) rfl)), ⟨⟨ndI hA (And.intro (by subst hA; exact (h.1 c0).1) (And.intro (by subst hA; exact (h.1 c0).2.1) rfl)), ⟨⟨ndI hA (And.intro rfl (by subst hA; show R0[(0 + (Int.toNat (IntKind.wrap .i64 (t17 - (1 : Int)))))]? = some [(AV.int .i64 (cIS R0 (0 + (Int.toNat (IntKind.wrap .i64 (t17 - (1 : Int))))) 0))]; (try simp only [rappS_end, Nat.zero_add, Int.toNat_natCast]); exact (h.1 c0).2.2.1)), ⟨⟨ndI hA (And.intro rfl (by subst hA; show R0[(0 + (Int.toNat t17))]? = some [(AV.int .i64 (cIS R0 (0 + (Int.toNat t17)) 0))]; (try simp only [rappS_end, Nat.zero_add, Int.toNat_natCast]); exact (h.1 c0).2.2.2.2.2.1)), ⟨⟨ndI hA (And.intro (by subst hA; exact (h.1 c0).2.2.2.1) (And.intro (by subst hA; exact (h.1 c0).2.2.2.2.1) rfl)), ⟨⟨ndI hA (And.intro rfl (by subst hA; show R0[(0 + (Int.toNat t17))]? = some [(AV.int .i64 (cIS R0 (0 + (Int.toNat t17)) 0))]; (try simp only [rappS_end, Nat.zero_add, Int.toNat_natCast]); exact (h.1 c0).2.2.2.2.2.1)), ⟨⟨ndI hA (And.intro (by subst hA; exact (h.1 c0).1) (And.intro (by subst hA; exact (h.1 c0).2.1) (by subst hA; show (List.length R0) = (List.length (List.set R0 (0 + (Int.toNat t17)) [(AV.int .i64 (cIS R0 (0 + (Int.toNat (IntKind.wrap .i64 (t17 - (1 : Int))))) 0))])); (first | rfl | simp [rappS_end] | (simp only [rappS_end, List.length_append, List.length_set, List.length_cons, List.length_nil]; omega))))), ⟨⟨ndI hA (And.intro (by subst hA; show (List.length R0) = (List.length (List.set R0 (0 + (Int.toNat t17)) [(AV.int .i64 (cIS R0 (0 + (Int.toNat (IntKind.wrap .i64 (t17 - (1 : Int))))) 0))])); (first | rfl | simp [rappS_end] | (simp only [rappS_end, List.length_append, List.length_set, List.length_cons, List.length_nil]; omega))) (by subst hA; show (List.set R0 (0 + (Int.toNat t17)) [(AV.int .i64 (cIS R0 (0 + (Int.toNat (IntKind.wrap .i64 (t17 - (1 : Int))))) 0))])[(0 + (Int.toNat (IntKind.wrap .i64 (t17 - (1 : Int)))))]? = some [(AV.int .i64 (cIS (List.set R0 (0 + (Int.toNat t17)) [(AV.int .i64 (cIS R0 (0 + (Int.toNat (IntKind.wrap .i64 (t17 - (1 : Int))))) 0))]) (0 + (Int.toNat (IntKind.wrap .i64 (t17 - (1 : Int))))) 0))]; (try simp only [rappS_end, Nat.zero_add, Int.toNat_natCast]); exact (h.1 c0).2.2.2.2.2.2.1)), ⟨ndI hA (And.intro (by subst hA; show (List.length R0) = (List.length (List.set (List.set R0 (0 + (Int.toNat t17)) [(AV.int .i64 (cIS R0 (0 + (Int.toNat (IntKind.wrap .i64 (t17 - (1 : Int))))) 0))]) (0 + (Int.toNat (IntKind.wrap .i64 (t17 - (1 : Int))))) [(AV.int .i64 (cIS R0 (0 + (Int.toNat t17)) 0))])); (first | rfl | simp [rappS_end] | (simp only [rappS_end, List.length_append, List.length_set, List.length_cons, List.length_nil]; omega))) (And.intro rfl (by subst hA; show (List.length R0) = (List.length (List.set (List.set R0 (0 + (Int.toNat t17)) [(AV.int .i64 (cIS R0 (0 + (Int.toNat (IntKind.wrap .i64 (t17 - (1 : Int))))) 0))]) (0 + (Int.toNat (IntKind.wrap .i64 (t17 - (1 : Int))))) [(AV.int .i64 (cIS R0 (0 + (Int.toNat t17)) 0))])); (first | rfl | simp [rappS_end] | (simp only [rappS_end, List.length_append, List.length_set, List.length_cons, List.length_nil]; omega))))), ⟨ndI hA (by subst hA; exact (vset (vset hp.1 rfl) rfl)), (by subst hA; show EV 72 [(List.set (List.set R0 (0 + (Int.toNat t17)) [(AV.int .i64 (cIS R0 (0 + (Int.toNat (IntKind.wrap .i64 (t17 - (1 : Int))))) 0))]) (0 + (Int.toNat (IntKind.wrap .i64 (t17 - (1 : Int))))) [(AV.int .i64 (cIS R0 (0 + (Int.toNat t17)) 0))])] [(Lf.i t14), (Lf.i (IntKind.wrap .i64 (t17 - (1 : Int)))), (Lf.r tb1)]; (try simp only [rappS_end, Nat.zero_add, Int.toNat_natCast]); exact (h.1 c0).2.2.2.2.2.2.2)⟩⟩⟩, trivial⟩⟩, trivial⟩⟩, trivial⟩⟩, trivial⟩⟩, trivial⟩⟩, ⟨⟨ndI hA (And.intro rfl (by subst hA; show R0[(0 + (Int.toNat t17))]? = some [(AV.int .i64 (cIS R0 (0 + (Int.toNat t17)) 0))]; (try simp only [rappS_end, Nat.zero_add, Int.toNat_natCast]); exact (h.1 c0).2.2.2.2.2.1)), ⟨⟨ndI hA (And.intro rfl (by subst hA; show R0[(0 + (Int.toNat (IntKind.wrap .i64 (t17 - (1 : Int)))))]? = some [(AV.int .i64 (cIS R0 (0 + (Int.toNat (IntKind.wrap .i64 (t17 - (1 : Int))))) 0))]; (try simp only [rappS_end, Nat.zero_add, Int.toNat_natCast]); exact (h.1 c0).2.2.1)), ⟨⟨ndI hA (And.intro (by subst hA; exact (h.1 c0).2.2.2.1) (And.intro (by subst hA; exact (h.1 c0).2.2.2.2.1) rfl)), ⟨⟨ndI hA (And.intro rfl (by subst hA; show R0[(0 + (Int.toNat t17))]? = some [(AV.int .i64 (cIS R0 (0 + (Int.toNat t17)) 0))]; (try simp only [rappS_end, Nat.zero_add, Int.toNat_natCast]); exact (h.1 c0).2.2.2.2.2.1)), ⟨⟨ndI hA (And.intro (by subst hA; exact (h.1 c0).1) (And.intro (by subst hA; exact (h.1 c0).2.1) (by subst hA; show (List.length R0) = (List.length (List.set R0 (0 + (Int.toNat t17)) [(AV.int .i64 (cIS R0 (0 + (Int.toNat (IntKind.wrap .i64 (t17 - (1 : Int))))) 0))])); (first | rfl | simp [rappS_end] | (simp only [rappS_end, List.length_append, List.length_set, List.length_cons, List.length_nil]; omega))))), ⟨⟨ndI hA (And.intro (by subst hA; show (List.length R0) = (List.length (List.set R0 (0 + (Int.toNat t17)) [(AV.int .i64 (cIS R0 (0 + (Int.toNat (IntKind.wrap .i64 (t17 - (1 : Int))))) 0))])); (first | rfl | simp [rappS_end] | (simp only [rappS_end, List.length_append, List.length_set, List.length_cons, List.length_nil]; omega))) (by subst hA; show (List.set R0 (0 + (Int.toNat t17)) [(AV.int .i64 (cIS R0 (0 + (Int.toNat (IntKind.wrap .i64 (t17 - (1 : Int))))) 0))])[(0 + (Int.toNat (IntKind.wrap .i64 (t17 - (1 : Int)))))]? = some [(AV.int .i64 (cIS (List.set R0 (0 + (Int.toNat t17)) [(AV.int .i64 (cIS R0 (0 + (Int.toNat (IntKind.wrap .i64 (t17 - (1 : Int))))) 0))]) (0 + (Int.toNat (IntKind.wrap .i64 (t17 - (1 : Int))))) 0))]; (try simp only [rappS_end, Nat.zero_add, Int.toNat_natCast]); exact (h.1 c0).2.2.2.2.2.2.1)), ⟨ndI hA (And.intro (by subst hA; show (List.length R0) = (List.length (List.set (List.set R0 (0 + (Int.toNat t17)) [(AV.int .i64 (cIS R0 (0 + (Int.toNat (IntKind.wrap .i64 (t17 - (1 : Int))))) 0))]) (0 + (Int.toNat (IntKind.wrap .i64 (t17 - (1 : Int))))) [(AV.int .i64 (cIS R0 (0 + (Int.toNat t17)) 0))])); (first | rfl | simp [rappS_end] | (simp only [rappS_end, List.length_append, List.length_set, List.length_cons, List.length_nil]; omega))) (And.intro rfl (by subst hA; show (List.length R0) = (List.length (List.set (List.set R0 (0 + (Int.toNat t17)) [(AV.int .i64 (cIS R0 (0 + (Int.toNat (IntKind.wrap .i64 (t17 - (1 : Int))))) 0))]) (0 + (Int.toNat (IntKind.wrap .i64 (t17 - (1 : Int))))) [(AV.int .i64 (cIS R0 (0 + (Int.toNat t17)) 0))])); (first | rfl | simp [rappS_end] | (simp only [rappS_end, List.length_append, List.length_set, List.length_cons, List.length_nil]; omega))))), ⟨ndI hA (by subst hA; exact (vset (vset hp.1 rfl) rfl)), (by subst hA; show EV 72 [(List.set (List.set R0 (0 + (Int.toNat t17)) [(AV.int .i64 (cIS R0 (0 + (Int.toNat (IntKind.wrap .i64 (t17 - (1 : Int))))) 0))]) (0 + (Int.toNat (IntKind.wrap .i64 (t17 - (1 : Int))))) [(AV.int .i64 (cIS R0 (0 + (Int.toNat t17)) 0))])] [(Lf.i t14), (Lf.i (IntKind.wrap .i64 (t17 - (1 : Int)))), (Lf.r tb1)]; (try simp only [rappS_end, Nat.zero_add, Int.toNat_natCast]); exact (h.1 c0).2.2.2.2.2.2.2)⟩⟩⟩, trivial⟩⟩, trivial⟩⟩, trivial⟩⟩, trivial⟩⟩, trivial⟩⟩, trivial⟩⟩⟩, ⟨⟨ndI hA (And.intro rfl (by subst hA; show R0[(0 + (Int.toNat t17))]? = some [(AV.int .i64 (cIS R0 (0 + (Int.toNat t17)) 0))]; (try simp only [rappS_end, Nat.zero_add, Int.toNat_natCast]); exact (h.1 c0).2.2.2.2.2.1)), ⟨⟨ndI hA (And.intro (by subst hA; exact (h.1 c0).1) (And.intro (by subst hA; exact (h.1 c0).2.1) rfl)), ⟨⟨ndI hA (And.intro rfl (by subst hA; show R0[(0 + (Int.toNat (IntKind.wrap .i64 (t17 - (1 : Int)))))]? = some [(AV.int .i64 (cIS R0 (0 + (Int.toNat (IntKind.wrap .i64 (t17 - (1 : Int))))) 0))]; (try simp only [rappS_end, Nat.zero_add, Int.toNat_natCast]); exact (h.1 c0).2.2.1)), ⟨⟨ndI hA (And.intro (by subst hA; exact (h.1 c0).2.2.2.1) (And.intro (by subst hA; exact (h.1 c0).2.2.2.2.1) rfl)), ⟨⟨ndI hA (And.intro rfl (by subst hA; show R0[(0 + (Int.toNat t17))]? = some [(AV.int .i64 (cIS R0 (0 + (Int.toNat t17)) 0))]; (try simp only [rappS_end, Nat.zero_add, Int.toNat_natCast]); exact (h.1 c0).2.2.2.2.2.1)), ⟨⟨ndI hA (And.intro (by subst hA; exact (h.1 c0).1) (And.intro (by subst hA; exact (h.1 c0).2.1) (by subst hA; show (List.length R0) = (List.length (List.set R0 (0 + (Int.toNat t17)) [(AV.int .i64 (cIS R0 (0 + (Int.toNat (IntKind.wrap .i64 (t17 - (1 : Int))))) 0))])); (first | rfl | simp [rappS_end] | (simp only [rappS_end, List.length_append, List.length_set, List.length_cons, List.length_nil]; omega))))), ⟨⟨ndI hA (And.intro (by subst hA; show (List.length R0) = (List.length (List.set R0 (0 + (Int.toNat t17)) [(AV.int .i64 (cIS R0 (0 + (Int.toNat (IntKind.wrap .i64 (t17 - (1 : Int))))) 0))])); (first | rfl | simp [rappS_end] | (simp only [rappS_end, List.length_append, List.length_set, List.length_cons, List.length_nil]; omega))) (by subst hA; show (List.set R0 (0 + (Int.toNat t17)) [(AV.int .i64 (cIS R0 (0 + (Int.toNat (IntKind.wrap .i64 (t17 - (1 : Int))))) 0))])[(0 + (Int.toNat (IntKind.wrap .i64 (t17 - (1 : Int)))))]? = some [(AV.int .i64 (cIS (List.set R0 (0 + (Int.toNat t17)) [(AV.int .i64 (cIS R0 (0 + (Int.toNat (IntKind.wrap .i64 (t17 - (1 : Int))))) 0))]) (0 + (Int.toNat (IntKind.wrap .i64 (t17 - (1 : Int))))) 0))]; (try simp only [rappS_end, Nat.zero_add, Int.toNat_natCast]); exact (h.1 c0).2.2.2.2.2.2.1)), ⟨ndI hA (And.intro (by subst hA; show (List.length R0) = (List.length (List.set (List.set R0 (0 + (Int.toNat t17)) [(AV.int .i64 (cIS R0 (0 + (Int.toNat (IntKind.wrap .i64 (t17 - (1 : Int))))) 0))]) (0 + (Int.toNat (IntKind.wrap .i64 (t17 - (1 : Int))))) [(AV.int .i64 (cIS R0 (0 + (Int.toNat t17)) 0))])); (first | rfl | simp [rappS_end] | (simp only [rappS_end, List.length_append, List.length_set, List.length_cons, List.length_nil]; omega))) (And.intro rfl (by subst hA; show (List.length R0) = (List.length (List.set (List.set R0 (0 + (Int.toNat t17)) [(AV.int .i64 (cIS R0 (0 + (Int.toNat (IntKind.wrap .i64 (t17 - (1 : Int))))) 0))]) (0 + (Int.toNat (IntKind.wrap .i64 (t17 - (1 : Int))))) [(AV.int .i64 (cIS R0 (0 + (Int.toNat t17)) 0))])); (first | rfl | simp [rappS_end] | (simp only [rappS_end, List.length_append, List.length_set, List.length_cons, List.length_nil]; omega))))), ⟨ndI hA (by subst hA; exact (vset (vset hp.1 rfl) rfl)), (by subst hA; show EV 72 [(List.set (List.set R0 (0 + (Int.toNat t17)) [(AV.int .i64 (cIS R0 (0 + (Int.toNat (IntKind.wrap .i64 (t17 - (1 : Int))))) 0))]) (0 + (Int.toNat (IntKind.wrap .i64 (t17 - (1 : Int))))) [(AV.int .i64 (cIS R0 (0 + (Int.toNat t17)) 0))])] [(Lf.i t14), (Lf.i (IntKind.wrap .i64 (t17 - (1 : Int)))), (Lf.r tb1)]; (try simp only [rappS_end, Nat.zero_add, Int.toNat_natCast]); exact (h.1 c0).2.2.2.2.2.2.2)⟩⟩⟩, trivial⟩⟩, trivial⟩⟩, trivial⟩⟩, trivial⟩⟩, trivial⟩⟩, trivial⟩⟩, trivial⟩⟩⟩, trivial⟩⟩, imI hA fun e0 => have c0 : t17 ≤ t14 := (by have q := (cmpE (op := .gtr) hA e0); subst hA; exact q); ⟨ndI hA (by subst hA; exact hp.1), (by rw [W.rr]; exact (by subst hA; exact (h.2 c0)))⟩⟩
  · intro R0 t1 t2 t3 t18 t19 t20 t21 tb1 h
    refine W.step 80 fun hp => ?_
    have h := h hp.1
    cbv
    refine ⟨ndI hA (And.intro rfl (And.intro rfl rfl)), ⟨ndI hA (by subst hA; exact hp.1), (by subst hA; exact h)⟩⟩
  · intro R0 t1 t2 t3 t18 t19 t20 t21 t22 tb1 h
    refine W.step 80 fun hp => ?_
    have h := h hp.1
    cbv
    refine ⟨imI hA fun e0 => have c0 : t20 < t21 := (by have q := (cmpE (op := .lss) hA e0); subst hA; exact q); ⟨ndI hA (by subst hA; exact (h.1 c0).1), ⟨ndI hA (And.intro (by subst hA; exact (h.1 c0).2.1) (And.intro (by subst hA; exact (h.1 c0).2.2.1) rfl)), ⟨ndI hA (And.intro rfl (by subst hA; show R0[(0 + (Int.toNat (IntKind.wrap .i64 (t22 - (IntKind.wrap .i64 (iopS .shr .u64 (IntKind.wrap .u64 (IntKind.wrap .i64 (t20 + t21))) (1 : Int)))))))]? = some [(AV.int .i64 (cIS R0 (0 + (Int.toNat (IntKind.wrap .i64 (t22 - (IntKind.wrap .i64 (iopS .shr .u64 (IntKind.wrap .u64 (IntKind.wrap .i64 (t20 + t21))) (1 : Int))))))) 0))]; (try simp only [rappS_end, Nat.zero_add, Int.toNat_natCast]); exact (h.1 c0).2.2.2.1)), ⟨ndI hA (And.intro (by subst hA; exact (h.1 c0).2.2.2.2.1) (And.intro (by subst hA; exact (h.1 c0).2.2.2.2.2.1) rfl)), ⟨ndI hA (And.intro rfl (by subst hA; show R0[(0 + (Int.toNat (IntKind.wrap .i64 (iopS .shr .u64 (IntKind.wrap .u64 (IntKind.wrap .i64 (t20 + t21))) (1 : Int)))))]? = some [(AV.int .i64 (cIS R0 (0 + (Int.toNat (IntKind.wrap .i64 (iopS .shr .u64 (IntKind.wrap .u64 (IntKind.wrap .i64 (t20 + t21))) (1 : Int))))) 0))]; (try simp only [rappS_end, Nat.zero_add, Int.toNat_natCast]); exact (h.1 c0).2.2.2.2.2.2.1)), ⟨?_, trivial⟩⟩⟩⟩⟩⟩, imI hA fun e0 => have c0 : t20 ≥ t21 := (by have q := (cmpE (op := .lss) hA e0); subst hA; exact q); ⟨imI hA fun e1 => have c1 : t20 < t2 := (by have q := (cmpE (op := .lss) hA e1); subst hA; exact q); ⟨imI hA fun e2 => have c2 : t2 < (IntKind.wrap .i64 (t19 - t20)) := (by have q := (cmpE (op := .lss) hA e2); subst hA; exact q); ⟨ndI hA (And.intro rfl (And.intro rfl rfl)), ⟨ndI hA (by subst hA; exact hp.1), ?_⟩⟩, imI hA fun e2 => have c2 : t2 ≥ (IntKind.wrap .i64 (t19 - t20)) := (by have q := (cmpE (op := .lss) hA e2); subst hA; exact q); ⟨ndI hA (And.intro rfl (And.intro rfl rfl)), ⟨ndI hA (by subst hA; exact hp.1), (by subst hA; exact (((h.2 c0).1 c1).2 c2))⟩⟩⟩, imI hA fun e1 => have c1 : t20 ≥ t2 := (by have q := (cmpE (op := .lss) hA e1); subst hA; exact q); ⟨ndI hA (And.intro rfl (And.intro rfl rfl)), ⟨ndI hA (by subst hA; exact hp.1), (by subst hA; exact ((h.2 c0).2 c1))⟩⟩⟩⟩
    · refine W.callD (by rfl) (h.1 c0).2.2.2.2.2.2.2 (by subst hA; show [] = []; (try simp only [rappS_end, Nat.zero_add, Int.toNat_natCast])) (by subst hA; show [(Lf.i (cIS R0 (0 + (Int.toNat (IntKind.wrap .i64 (t22 - (IntKind.wrap .i64 (iopS .shr .u64 (IntKind.wrap .u64 (IntKind.wrap .i64 (t20 + t21))) (1 : Int))))))) 0)), (Lf.i (cIS R0 (0 + (Int.toNat (IntKind.wrap .i64 (iopS .shr .u64 (IntKind.wrap .u64 (IntKind.wrap .i64 (t20 + t21))) (1 : Int))))) 0)), (Lf.r tb1)] = [(Lf.i (cIS R0 (Int.toNat (IntKind.wrap .i64 (t22 - (IntKind.wrap .i64 (iopS .shr .u64 (IntKind.wrap .u64 (IntKind.wrap .i64 (t20 + t21))) (1 : Int)))))) 0)), (Lf.i (cIS R0 (Int.toNat (IntKind.wrap .i64 (iopS .shr .u64 (IntKind.wrap .u64 (IntKind.wrap .i64 (t20 + t21))) (1 : Int)))) 0)), (Lf.r tb1)]; (try simp only [rappS_end, Nat.zero_add, Int.toNat_natCast])) ?_
      rintro x rs vs hp1 hq1
      rcases hq1 with ⟨rfl, y1_0, y1_b0, rfl, rfl, k1⟩
      · cbv
        refine ?_
        · refine W.draw 80 (by rfl) ?_
          cbv
          refine ⟨imI hA fun e2 => have c2 : y1_0 ≥ (0 : Int) := (by have q := (cmpE (op := .lss) hA (notE hA e2)); subst hA; exact q); ⟨ndI hA (And.intro rfl (And.intro rfl rfl)), ⟨ndI hA (by subst hA; exact hp.1), (by subst hA; exact (k1.1 c2))⟩⟩, imI hA fun e2 => have c2 : y1_0 < (0 : Int) := (by have q := (cmpE (op := .lss) hA (notE hA e2)); subst hA; exact q); ⟨ndI hA (And.intro rfl (And.intro rfl rfl)), ⟨ndI hA (by subst hA; exact hp.1), (by subst hA; exact (k1.2 c2))⟩⟩⟩
    · refine W.call 80 (by rfl) (((h.2 c0).1 c1).1 c2) (by subst hA; rfl) (by subst hA; rfl) ?_
      rintro x rs vs hp3 hq3
      rcases hq3 with ⟨rfl, Y3_0, y3_b1, rfl, rfl, k3⟩
      · cbv
        refine ⟨ndI hA (And.intro (by subst hA; exact k3.1) (And.intro rfl (by subst hA; exact k3.1))), ⟨ndI hA (by subst hA; exact hp3.1), (by subst hA; exact k3.2)⟩⟩
  · intro R0 t1 t3 t18 t20 t24 tb1 h
    refine W.step 80 fun hp => ?_
    have h := h hp.1
    cbv
    refine ⟨imI hA fun e0 => have c0 : t1 < t20 := (by have q := (cmpE (op := .lss) hA e0); subst hA; exact q); ⟨imI hA fun e1 => have c1 : t20 < t18 := (by have q := (cmpE (op := .lss) hA e1); subst hA; exact q); ⟨ndI hA (And.intro rfl (And.intro rfl rfl)), ⟨ndI hA (by subst hA; exact hp.1), ?_⟩⟩, imI hA fun e1 => have c1 : t20 ≥ t18 := (by have q := (cmpE (op := .lss) hA e1); subst hA; exact q); ⟨ndI hA (And.intro rfl (And.intro rfl rfl)), ⟨ndI hA (by subst hA; exact hp.1), (by subst hA; exact ((h.1 c0).2 c1))⟩⟩⟩, imI hA fun e0 => have c0 : t1 ≥ t20 := (by have q := (cmpE (op := .lss) hA e0); subst hA; exact q); ⟨ndI hA (And.intro rfl (And.intro rfl rfl)), ⟨ndI hA (by subst hA; exact hp.1), (by subst hA; exact (h.2 c0))⟩⟩⟩
    · refine W.call 80 (by rfl) ((h.1 c0).1 c1) (by subst hA; rfl) (by subst hA; rfl) ?_
      rintro x rs vs hp2 hq2
      rcases hq2 with ⟨rfl, Y2_0, y2_b1, rfl, rfl, k2⟩
      · cbv
        refine ⟨ndI hA (And.intro (by subst hA; exact k2.1) (And.intro rfl (by subst hA; exact k2.1))), ⟨ndI hA (by subst hA; exact hp2.1), (by subst hA; exact k2.2)⟩⟩
  · intro R0 t3 t18 t24 tb1 h
    refine W.step 80 fun hp => ?_
    have h := h hp.1
    cbv
    refine ⟨imI hA fun e0 => have c0 : t18 < t24 := (by have q := (cmpE (op := .lss) hA e0); subst hA; exact q); ⟨imI hA fun e1 => have c1 : t24 < t3 := (by have q := (cmpE (op := .lss) hA e1); subst hA; exact q); ⟨ndI hA (And.intro rfl (And.intro rfl rfl)), ⟨ndI hA (by subst hA; exact hp.1), ?_⟩⟩, imI hA fun e1 => have c1 : t24 ≥ t3 := (by have q := (cmpE (op := .lss) hA e1); subst hA; exact q); ⟨ndI hA (by subst hA; exact hp.1), (by rw [W.rr]; exact (by subst hA; exact ((h.1 c0).2 c1)))⟩⟩, imI hA fun e0 => have c0 : t18 ≥ t24 := (by have q := (cmpE (op := .lss) hA e0); subst hA; exact q); ⟨ndI hA (by subst hA; exact hp.1), (by rw [W.rr]; exact (by subst hA; exact (h.2 c0)))⟩⟩
    · refine W.call 80 (by rfl) ((h.1 c0).1 c1) (by subst hA; rfl) (by subst hA; rfl) ?_
      rintro x rs vs hp2 hq2
      rcases hq2 with ⟨rfl, Y2_0, y2_b1, rfl, rfl, k2⟩
      · cbv
        refine ⟨ndI hA (by subst hA; exact hp2.1), (by rw [W.rr]; exact (by subst hA; exact k2))⟩

end
set_option maxHeartbeats 0 in
/-- To enter. -/
theorem E83a {Q : Nat → Rs → List Lf → Prop} {R0 : List (List AV)} {a1 : Int} {a2 : Int} {a3 : Int} {ab1 : List (List AV)} (h : pursS R0 = true → ∀ EV : Nat → Rs → List Lf → Prop, V83a EV Q →
    ((IntKind.wrap .i64 (a2 - a1)) = (1 : Int) →
      EV 11 [R0] [(Lf.i a1), (Lf.i a2), (Lf.i a3), (Lf.r ab1)]) ∧
    ((IntKind.wrap .i64 (a2 - a1)) ≠ (1 : Int) →
      ((IntKind.wrap .i64 (a3 - a2)) = (1 : Int) →
        EV 53 [R0] [(Lf.i a2), (Lf.i a1), (Lf.i a2), (Lf.r ab1)]) ∧
      ((IntKind.wrap .i64 (a3 - a2)) ≠ (1 : Int) →
        ((0 : Int) ≤ (1 : Int)) ∧
        (a2 > (IntKind.wrap .i64 (iopS .shr .u64 (IntKind.wrap .u64 (IntKind.wrap .i64 (a1 + a3))) (1 : Int))) →
          EV 100 [R0] [(Lf.i a1), (Lf.i a2), (Lf.i a3), (Lf.i (IntKind.wrap .i64 (iopS .shr .u64 (IntKind.wrap .u64 (IntKind.wrap .i64 (a1 + a3))) (1 : Int)))), (Lf.i (IntKind.wrap .i64 ((IntKind.wrap .i64 (iopS .shr .u64 (IntKind.wrap .u64 (IntKind.wrap .i64 (a1 + a3))) (1 : Int))) + a2))), (Lf.i (IntKind.wrap .i64 ((IntKind.wrap .i64 ((IntKind.wrap .i64 (iopS .shr .u64 (IntKind.wrap .u64 (IntKind.wrap .i64 (a1 + a3))) (1 : Int))) + a2)) - a3))), (Lf.i (IntKind.wrap .i64 (iopS .shr .u64 (IntKind.wrap .u64 (IntKind.wrap .i64 (a1 + a3))) (1 : Int)))), (Lf.r ab1)]) ∧
        (a2 ≤ (IntKind.wrap .i64 (iopS .shr .u64 (IntKind.wrap .u64 (IntKind.wrap .i64 (a1 + a3))) (1 : Int))) →
          EV 100 [R0] [(Lf.i a1), (Lf.i a2), (Lf.i a3), (Lf.i (IntKind.wrap .i64 (iopS .shr .u64 (IntKind.wrap .u64 (IntKind.wrap .i64 (a1 + a3))) (1 : Int)))), (Lf.i (IntKind.wrap .i64 ((IntKind.wrap .i64 (iopS .shr .u64 (IntKind.wrap .u64 (IntKind.wrap .i64 (a1 + a3))) (1 : Int))) + a2))), (Lf.i a1), (Lf.i a2), (Lf.r ab1)])))) :
    EC Try.prog G83a [R0] [.i a1, .i a2, .i a3, .r ab1] Q := by
  obtain ⟨A, hA⟩ : ∃ A, A = arS := ⟨_, rfl⟩
  refine Inst.enter (I := I83a) hA mixed F83_at sg L83a 80 rfl fun CE CK Dn EV RR W hp => ?_
  have h := h hp.1 EV (V83a.of W)
  cbv
  refine ⟨imI hA fun e0 => have c0 : (IntKind.wrap .i64 (a2 - a1)) = (1 : Int) := (by have q := (cmpE (op := .eql) hA e0); subst hA; exact q); ⟨ndI hA (And.intro rfl (And.intro rfl rfl)), ⟨ndI hA (by subst hA; exact hp.1), (by subst hA; exact (h.1 c0))⟩⟩, imI hA fun e0 => have c0 : (IntKind.wrap .i64 (a2 - a1)) ≠ (1 : Int) := (by have q := (cmpE (op := .eql) hA e0); subst hA; exact q); ⟨imI hA fun e1 => have c1 : (IntKind.wrap .i64 (a3 - a2)) = (1 : Int) := (by have q := (cmpE (op := .eql) hA e1); subst hA; exact q); ⟨ndI hA (And.intro rfl (And.intro rfl rfl)), ⟨ndI hA (by subst hA; exact hp.1), (by subst hA; exact ((h.2 c0).1 c1))⟩⟩, imI hA fun e1 => have c1 : (IntKind.wrap .i64 (a3 - a2)) ≠ (1 : Int) := (by have q := (cmpE (op := .eql) hA e1); subst hA; exact q); ⟨ndI hA (by subst hA; exact ((h.2 c0).2 c1).1), ⟨imI hA fun e2 => have c2 : a2 > (IntKind.wrap .i64 (iopS .shr .u64 (IntKind.wrap .u64 (IntKind.wrap .i64 (a1 + a3))) (1 : Int))) := (by have q := (cmpE (op := .gtr) hA e2); subst hA; exact q); ⟨ndI hA (And.intro rfl (And.intro rfl rfl)), ⟨ndI hA (by subst hA; exact hp.1), (by subst hA; exact (((h.2 c0).2 c1).2.1 c2))⟩⟩, imI hA fun e2 => have c2 : a2 ≤ (IntKind.wrap .i64 (iopS .shr .u64 (IntKind.wrap .u64 (IntKind.wrap .i64 (a1 + a3))) (1 : Int))) := (by have q := (cmpE (op := .gtr) hA e2); subst hA; exact q); ⟨ndI hA (And.intro rfl (And.intro rfl rfl)), ⟨ndI hA (by subst hA; exact hp.1), (by subst hA; exact (((h.2 c0).2 c1).2.2 c2))⟩⟩⟩⟩⟩⟩

-- 76a: slices.stableCmpFunc[int]
section
structure V76a (EV Q : Nat → Rs → List Lf → Prop) : Prop where
  p7 : ∀ {R0 : List (List AV)} {t1 : Int} {t6 : Int} {t7 : Int} {t8 : Int} {tb1 : List (List AV)}, (pursS R0 = true → 
    (t8 ≤ t1 →
      EC Try.prog G82a [R0] [(Lf.i t7), (Lf.i t8), (Lf.r tb1)] (fun x rs vs => (x = 0 ∧ ∃ (Y1_0 : List (List AV)) (y1_b1 : List (List AV)), rs = [Y1_0] ∧ vs = [.r y1_b1] ∧
        (((List.length R0) = (List.length Y1_0)) ∧
          (EV 7 [Y1_0] [(Lf.i t1), (Lf.i t6), (Lf.i t8), (Lf.i (IntKind.wrap .i64 (t8 + t6))), (Lf.r y1_b1)]))))) ∧
    (t8 > t1 →
      EC Try.prog G82a [R0] [(Lf.i t7), (Lf.i t1), (Lf.r tb1)] (fun x rs vs => (x = 0 ∧ ∃ (Y1_0 : List (List AV)) (y1_b1 : List (List AV)), rs = [Y1_0] ∧ vs = [.r y1_b1] ∧
        (((List.length R0) = (List.length Y1_0)) ∧
          (EV 23 [Y1_0] [(Lf.i t1), (Lf.i t6), (Lf.r y1_b1)])))))) →
    EV 7 [R0] [.i t1, .i t6, .i t7, .i t8, .r tb1]
  p23 : ∀ {R0 : List (List AV)} {t1 : Int} {t6 : Int} {tb1 : List (List AV)}, (pursS R0 = true → 
    (t6 < t1 →
      EV 35 [R0] [(Lf.i t1), (Lf.i t6), (Lf.i (0 : Int)), (Lf.i (IntKind.wrap .i64 ((2 : Int) * t6))), (Lf.r tb1)]) ∧
    (t6 ≥ t1 →
      Q 0 [R0] [(Lf.r tb1)])) →
    EV 23 [R0] [.i t1, .i t6, .r tb1]
  p35 : ∀ {R0 : List (List AV)} {t1 : Int} {t6 : Int} {t7 : Int} {t8 : Int} {tb1 : List (List AV)}, (pursS R0 = true → 
    (t8 ≤ t1 →
      EC Try.prog G83a [R0] [(Lf.i t7), (Lf.i (IntKind.wrap .i64 (t7 + t6))), (Lf.i t8), (Lf.r tb1)] (fun x rs vs => (x = 0 ∧ ∃ (Y1_0 : List (List AV)) (y1_b1 : List (List AV)), rs = [Y1_0] ∧ vs = [.r y1_b1] ∧
        (((List.length R0) = (List.length Y1_0)) ∧
          (EV 35 [Y1_0] [(Lf.i t1), (Lf.i t6), (Lf.i t8), (Lf.i (IntKind.wrap .i64 (t8 + (IntKind.wrap .i64 ((2 : Int) * t6))))), (Lf.r y1_b1)]))))) ∧
    (t8 > t1 →
      ((IntKind.wrap .i64 (t7 + t6)) < t1 →
        EC Try.prog G83a [R0] [(Lf.i t7), (Lf.i (IntKind.wrap .i64 (t7 + t6))), (Lf.i t1), (Lf.r tb1)] (fun x rs vs => (x = 0 ∧ ∃ (Y2_0 : List (List AV)) (y2_b1 : List (List AV)), rs = [Y2_0] ∧ vs = [.r y2_b1] ∧
          (((List.length R0) = (List.length Y2_0)) ∧
            (EV 23 [Y2_0] [(Lf.i t1), (Lf.i (IntKind.wrap .i64 (t6 * (2 : Int)))), (Lf.r y2_b1)]))))) ∧
      ((IntKind.wrap .i64 (t7 + t6)) ≥ t1 →
        EV 23 [R0] [(Lf.i t1), (Lf.i (IntKind.wrap .i64 (t6 * (2 : Int)))), (Lf.r tb1)]))) →
    EV 35 [R0] [.i t1, .i t6, .i t7, .i t8, .r tb1]

set_option maxHeartbeats 0 in
theorem V76a.of {Q : Nat → Rs → List Lf → Prop} {A : Ar} {CE : Nat → Rs → List Lf → (Nat → Rs → List Lf → Prop) → Prop} {CK : Nat → Rs → List Lf → Cont → Prop} {Dn : Nat → List Bool → List AItem → Nat → List Bool → List AV → List ABlk → Prop} {EV RR : Nat → Rs → List Lf → Prop} (W : Wk Try.prog Try.f76 I76a L76a Q A sg CE CK Dn EV RR) : V76a EV Q := by
  have hA := W.hA
  refine ⟨?_, ?_, ?_⟩
  · intro R0 t1 t6 t7 t8 tb1 h
    refine W.step 80 fun hp => ?_
    have h := h hp.1
    cbv
    refine ⟨imI hA fun e0 => have c0 : t8 ≤ t1 := (by have q := (cmpE (op := .leq) hA e0); subst hA; exact q); ⟨ndI hA (And.intro rfl (And.intro rfl rfl)), ⟨ndI hA (by subst hA; exact hp.1), ?_⟩⟩, imI hA fun e0 => have c0 : t8 > t1 := (by have q := (cmpE (op := .leq) hA e0); subst hA; exact q); ⟨ndI hA (And.intro rfl (And.intro rfl rfl)), ⟨ndI hA (by subst hA; exact hp.1), ?_⟩⟩⟩
    · refine W.call 80 (by rfl) (h.1 c0) (by subst hA; rfl) (by subst hA; rfl) ?_
      rintro x rs vs hp1 hq1
      rcases hq1 with ⟨rfl, Y1_0, y1_b1, rfl, rfl, k1⟩
      · cbv
        refine ⟨ndI hA (And.intro (by subst hA; exact k1.1) (And.intro rfl (by subst hA; exact k1.1))), ⟨ndI hA (by subst hA; exact hp1.1), (by subst hA; exact k1.2)⟩⟩
    · refine W.call 80 (by rfl) (h.2 c0) (by subst hA; rfl) (by subst hA; rfl) ?_
      rintro x rs vs hp1 hq1
      rcases hq1 with ⟨rfl, Y1_0, y1_b1, rfl, rfl, k1⟩
      · cbv
        refine ⟨ndI hA (And.intro (by subst hA; exact k1.1) (And.intro rfl (by subst hA; exact k1.1))), ⟨ndI hA (by subst hA; exact hp1.1), (by subst hA; exact k1.2)⟩⟩
  · intro R0 t1 t6 tb1 h
    refine W.step 80 fun hp => ?_
    have h := h hp.1
    cbv
    refine ⟨imI hA fun e0 => have c0 : t6 < t1 := (by have q := (cmpE (op := .lss) hA e0); subst hA; exact q); ⟨ndI hA (And.intro rfl (And.intro rfl rfl)), ⟨ndI hA (by subst hA; exact hp.1), (by subst hA; exact (h.1 c0))⟩⟩, imI hA fun e0 => have c0 : t6 ≥ t1 := (by have q := (cmpE (op := .lss) hA e0); subst hA; exact q); ⟨ndI hA (by subst hA; exact hp.1), (by rw [W.rr]; exact (by subst hA; exact (h.2 c0)))⟩⟩
  · intro R0 t1 t6 t7 t8 tb1 h
    refine W.step 80 fun hp => ?_
    have h := h hp.1
    cbv
    refine ⟨imI hA fun e0 => have c0 : t8 ≤ t1 := (by have q := (cmpE (op := .leq) hA e0); subst hA; exact q); ⟨ndI hA (And.intro rfl (And.intro rfl rfl)), ⟨ndI hA (by subst hA; exact hp.1), ?_⟩⟩, imI hA fun e0 => have c0 : t8 > t1 := (by have q := (cmpE (op := .leq) hA e0); subst hA; exact q); ⟨imI hA fun e1 => have c1 : (IntKind.wrap .i64 (t7 + t6)) < t1 := (by have q := (cmpE (op := .lss) hA e1); subst hA; exact q); ⟨ndI hA (And.intro rfl (And.intro rfl rfl)), ⟨ndI hA (by subst hA; exact hp.1), ?_⟩⟩, imI hA fun e1 => have c1 : (IntKind.wrap .i64 (t7 + t6)) ≥ t1 := (by have q := (cmpE (op := .lss) hA e1); subst hA; exact q); ⟨ndI hA (And.intro rfl (And.intro rfl rfl)), ⟨ndI hA (by subst hA; exact hp.1), (by subst hA; exact ((h.2 c0).2 c1))⟩⟩⟩⟩
    · refine W.call 80 (by rfl) (h.1 c0) (by subst hA; rfl) (by subst hA; rfl) ?_
      rintro x rs vs hp1 hq1
      rcases hq1 with ⟨rfl, Y1_0, y1_b1, rfl, rfl, k1⟩
      · cbv
        refine ⟨ndI hA (And.intro (by subst hA; exact k1.1) (And.intro rfl (by subst hA; exact k1.1))), ⟨ndI hA (by subst hA; exact hp1.1), (by subst hA; exact k1.2)⟩⟩
    · refine W.call 80 (by rfl) ((h.2 c0).1 c1) (by subst hA; rfl) (by subst hA; rfl) ?_
      rintro x rs vs hp2 hq2
      rcases hq2 with ⟨rfl, Y2_0, y2_b1, rfl, rfl, k2⟩
      · cbv
        refine ⟨ndI hA (And.intro (by subst hA; exact k2.1) (And.intro rfl (by subst hA; exact k2.1))), ⟨ndI hA (by subst hA; exact hp2.1), (by subst hA; exact k2.2)⟩⟩

end
set_option maxHeartbeats 0 in
/-- To enter. -/
theorem E76a {Q : Nat → Rs → List Lf → Prop} {R0 : List (List AV)} {a1 : Int} {ab1 : List (List AV)} (h : pursS R0 = true → ∀ EV : Nat → Rs → List Lf → Prop, V76a EV Q →
    EV 7 [R0] [(Lf.i a1), (Lf.i (20 : Int)), (Lf.i (0 : Int)), (Lf.i (20 : Int)), (Lf.r ab1)]) :
    EC Try.prog G76a [R0] [.i a1, .r ab1] Q := by
  obtain ⟨A, hA⟩ : ∃ A, A = arS := ⟨_, rfl⟩
  refine Inst.enter (I := I76a) hA mixed F76_at sg L76a 80 rfl fun CE CK Dn EV RR W hp => ?_
  have h := h hp.1 EV (V76a.of W)
  cbv
  refine ⟨ndI hA (And.intro rfl (And.intro rfl rfl)), ⟨ndI hA (by subst hA; exact hp.1), (by subst hA; exact h)⟩⟩

-- 61a: slices.SortStableFunc[[]int,int]
section
structure V61a (EV Q : Nat → Rs → List Lf → Prop) : Prop where
  none : True

end
set_option maxHeartbeats 0 in
/-- To enter. -/
theorem E61a {Q : Nat → Rs → List Lf → Prop} {R0 : List (List AV)} {ab1 : List (List AV)} (h : pursS R0 = true → ∀ EV : Nat → Rs → List Lf → Prop, V61a EV Q →
    EC Try.prog G76a [R0] [(Lf.i (((List.length R0) : Nat) : Int)), (Lf.r ab1)] (fun x rs vs => (x = 0 ∧ ∃ (Y0_0 : List (List AV)) (y0_b1 : List (List AV)), rs = [Y0_0] ∧ vs = [.r y0_b1] ∧
      (Q 0 [Y0_0] [(Lf.r y0_b1)])))) :
    EC Try.prog G61a [R0] [.r ab1] Q := by
  obtain ⟨A, hA⟩ : ∃ A, A = arS := ⟨_, rfl⟩
  refine Inst.enter (I := I61a) hA mixed F61_at sg L61a 80 rfl fun CE CK Dn EV RR W hp => ?_
  have h := h hp.1 EV ⟨trivial⟩
  cbv
  refine ⟨ndI hA rfl, ⟨ndI hA (And.intro rfl (And.intro rfl rfl)), ⟨ndI hA (by subst hA; exact hp.1), ?_⟩⟩⟩
  · refine W.call 80 (by rfl) h (by subst hA; rfl) (by subst hA; rfl) ?_
    rintro x rs vs hp0 hq0
    rcases hq0 with ⟨rfl, Y0_0, y0_b1, rfl, rfl, k0⟩
    · cbv
      refine ⟨ndI hA (by subst hA; exact hp0.1), (by rw [W.rr]; exact (by subst hA; exact k0))⟩

-- 70: (signalbox/edf.items).Len
section
structure V70 (EV Q : Nat → Rs → List Lf → Prop) : Prop where
  none : True

end
set_option maxHeartbeats 0 in
/-- To enter. -/
theorem E70 {Q : Nat → Rs → List Lf → Prop} {R0 : List (List AV)} {a0 : Nat} (h : pursS R0 = true → ∀ EV : Nat → Rs → List Lf → Prop, V70 EV Q →
    Q 0 [R0] [(Lf.i ((a0 : Nat) : Int))]) :
    EC Try.prog G70 [R0] [.n a0] Q := by
  obtain ⟨A, hA⟩ : ∃ A, A = arS := ⟨_, rfl⟩
  refine Inst.enter (I := I70) hA mixed F70_at sg L70 80 rfl fun CE CK Dn EV RR W hp => ?_
  have h := h hp.1 EV ⟨trivial⟩
  cbv
  refine ⟨ndI hA rfl, ⟨ndI hA (by subst hA; exact hp.1), (by rw [W.rr]; exact (by subst hA; exact h))⟩⟩

-- 122: (*signalbox/edf.items).Push DRAWN
section
structure V122 (EV Q : Nat → Rs → List Lf → Prop) : Prop where
  none : True

end
set_option maxHeartbeats 0 in
/-- To enter. -/
theorem E122 {Q : Nat → Rs → List Lf → Prop} {R0 : List (List AV)} {a1_0 : Int} {a1_1 : Int} {ab0 : Nat} (h : pursS R0 = true → ∀ EV : Nat → Rs → List Lf → Prop, V122 EV Q →
    (true = true →
      (ab0 ≤ (List.length R0)) ∧
      ((ab0 + 1) ≤ 140737488355328) ∧
      (((ab0 + 1) * 16) ≤ 140737488355328) ∧
      (Q 0 [(rappS R0 ab0 [[(AV.int .i64 a1_0), (AV.int .i64 a1_1)]])] [(Lf.n (ab0 + 1))])) ∧
    (true = false →
      Q 0 [R0] [(Lf.n ab0)])) :
    EC Try.prog G122 [R0] [.i a1_0, .i a1_1, .n ab0] Q := by
  obtain ⟨A, hA⟩ : ∃ A, A = arS := ⟨_, rfl⟩
  refine Inst.enter (I := I122) hA mixed F122_at sg L122 80 rfl fun CE CK Dn EV RR W hp => ?_
  have h := h hp.1 EV ⟨trivial⟩
  cbv
  refine ⟨imI hA fun e0 => have c0 : true = true := (by have q := e0; subst hA; exact q); ⟨⟨⟨⟨ndI hA (And.intro rfl (And.intro (by subst hA; exact (h.1 c0).1) (And.intro (by subst hA; exact (h.1 c0).2.1) (by subst hA; exact (h.1 c0).2.2.1)))), ⟨⟨ndI hA (And.intro rfl rfl), ⟨ndI hA (by subst hA; exact (vapp hp.1 vpur)), (by rw [W.rr]; exact (by subst hA; exact (h.1 c0).2.2.2))⟩⟩, trivial⟩⟩, trivial⟩, trivial⟩, ⟨⟨⟨⟨ndI hA (And.intro rfl (And.intro (by subst hA; exact (h.1 c0).1) (And.intro (by subst hA; exact (h.1 c0).2.1) (by subst hA; exact (h.1 c0).2.2.1)))), ⟨⟨ndI hA (And.intro rfl rfl), ⟨ndI hA (by subst hA; exact (vapp hp.1 vpur)), (by rw [W.rr]; exact (by subst hA; exact (h.1 c0).2.2.2))⟩⟩, trivial⟩⟩, trivial⟩, trivial⟩, trivial⟩⟩, imI hA fun e0 => have c0 : true = false := (by have q := e0; subst hA; exact q); ⟨ndI hA (And.intro rfl rfl), ⟨ndI hA (by subst hA; exact hp.1), (by rw [W.rr]; exact (by subst hA; exact (h.2 c0)))⟩⟩⟩

-- 120: (signalbox/edf.items).Less DRAWN
section
structure V120 (EV Q : Nat → Rs → List Lf → Prop) : Prop where
  none : True

end
set_option maxHeartbeats 0 in
/-- To enter. -/
theorem E120 {Q : Nat → Rs → List Lf → Prop} {R0 : List (List AV)} {a0 : Nat} {a1 : Int} {a2 : Int} (h : pursS R0 = true → ∀ EV : Nat → Rs → List Lf → Prop, V120 EV Q →
    ((0 : Int) ≤ a1) ∧
    (a1 < ((a0 : Nat) : Int)) ∧
    (R0[(Int.toNat a1)]? = some [(AV.int .i64 (cIS R0 (Int.toNat a1) 0)), (AV.int .i64 (cIS R0 (Int.toNat a1) 1))]) ∧
    ((0 : Int) ≤ a2) ∧
    (a2 < ((a0 : Nat) : Int)) ∧
    (R0[(Int.toNat a2)]? = some [(AV.int .i64 (cIS R0 (Int.toNat a2) 0)), (AV.int .i64 (cIS R0 (Int.toNat a2) 1))]) ∧
    ((cIS R0 (Int.toNat a1) 0) < (cIS R0 (Int.toNat a2) 0) →
      Q 0 [R0] [(Lf.b true)]) ∧
    ((cIS R0 (Int.toNat a1) 0) ≥ (cIS R0 (Int.toNat a2) 0) →
      ((0 : Int) ≤ a1) ∧
      (a1 < ((a0 : Nat) : Int)) ∧
      (R0[(Int.toNat a1)]? = some [(AV.int .i64 (cIS R0 (Int.toNat a1) 0)), (AV.int .i64 (cIS R0 (Int.toNat a1) 1))]) ∧
      ((0 : Int) ≤ a2) ∧
      (a2 < ((a0 : Nat) : Int)) ∧
      (R0[(Int.toNat a2)]? = some [(AV.int .i64 (cIS R0 (Int.toNat a2) 0)), (AV.int .i64 (cIS R0 (Int.toNat a2) 1))]) ∧
      ((cIS R0 (Int.toNat a1) 0) = (cIS R0 (Int.toNat a2) 0) →
        ((0 : Int) ≤ a1) ∧
        (a1 < ((a0 : Nat) : Int)) ∧
        (R0[(Int.toNat a1)]? = some [(AV.int .i64 (cIS R0 (Int.toNat a1) 0)), (AV.int .i64 (cIS R0 (Int.toNat a1) 1))]) ∧
        ((0 : Int) ≤ a2) ∧
        (a2 < ((a0 : Nat) : Int)) ∧
        (R0[(Int.toNat a2)]? = some [(AV.int .i64 (cIS R0 (Int.toNat a2) 0)), (AV.int .i64 (cIS R0 (Int.toNat a2) 1))]) ∧
        (Q 0 [R0] [(Lf.b (decide ((cIS R0 (Int.toNat a1) 1) < (cIS R0 (Int.toNat a2) 1))))])) ∧
      ((cIS R0 (Int.toNat a1) 0) ≠ (cIS R0 (Int.toNat a2) 0) →
        Q 0 [R0] [(Lf.b false)]))) :
    EC Try.prog G120 [R0] [.n a0, .i a1, .i a2] Q := by
  obtain ⟨A, hA⟩ : ∃ A, A = arS := ⟨_, rfl⟩
  refine Inst.enter (I := I120) hA mixed F120_at sg L120 80 rfl fun CE CK Dn EV RR W hp => ?_
  have h := h hp.1 EV ⟨trivial⟩
  cbv
  refine ⟨ndI hA (And.intro (by subst hA; exact h.1) (And.intro (by subst hA; exact h.2.1) rfl)), ⟨ndI hA (And.intro rfl (by subst hA; show R0[(0 + (Int.toNat a1))]? = some [(AV.int .i64 (cIS R0 (0 + (Int.toNat a1)) 0)), (AV.int .i64 (cIS R0 (0 + (Int.toNat a1)) 1))]; (try simp only [rappS_end, Nat.zero_add, Int.toNat_natCast]); exact h.2.2.1)), ⟨ndI hA (And.intro (by subst hA; exact h.2.2.2.1) (And.intro (by subst hA; exact h.2.2.2.2.1) rfl)), ⟨ndI hA (And.intro rfl (by subst hA; show R0[(0 + (Int.toNat a2))]? = some [(AV.int .i64 (cIS R0 (0 + (Int.toNat a2)) 0)), (AV.int .i64 (cIS R0 (0 + (Int.toNat a2)) 1))]; (try simp only [rappS_end, Nat.zero_add, Int.toNat_natCast]); exact h.2.2.2.2.2.1)), ⟨fun e0 => have c0 : (cIS R0 (Int.toNat a1) 0) < (cIS R0 (Int.toNat a2) 0) := (by have q := (cmpE (op := .lss) hA e0); subst hA; have q : (cIS R0 (0 + (Int.toNat a1)) 0) < (cIS R0 (0 + (Int.toNat a2)) 0) := q; simpa only [rappS_end, Nat.zero_add, Int.toNat_natCast] using q); ?_, fun e0 => have c0 : (cIS R0 (Int.toNat a1) 0) ≥ (cIS R0 (Int.toNat a2) 0) := (by have q := (cmpE (op := .lss) hA e0); subst hA; have q : (cIS R0 (0 + (Int.toNat a1)) 0) ≥ (cIS R0 (0 + (Int.toNat a2)) 0) := q; simpa only [rappS_end, Nat.zero_add, Int.toNat_natCast] using q); ?_⟩⟩⟩⟩⟩
  · refine W.draw 80 (by rfl) ?_
    cbv
    refine ⟨ndI hA (by subst hA; exact hp.1), (by rw [W.rr]; exact (by subst hA; exact (h.2.2.2.2.2.2.1 c0)))⟩
  · refine W.draw 80 (by rfl) ?_
    cbv
    refine ⟨ndI hA (And.intro (by subst hA; exact (h.2.2.2.2.2.2.2 c0).1) (And.intro (by subst hA; exact (h.2.2.2.2.2.2.2 c0).2.1) rfl)), ⟨ndI hA (And.intro rfl (by subst hA; show R0[(0 + (Int.toNat a1))]? = some [(AV.int .i64 (cIS R0 (0 + (Int.toNat a1)) 0)), (AV.int .i64 (cIS R0 (0 + (Int.toNat a1)) 1))]; (try simp only [rappS_end, Nat.zero_add, Int.toNat_natCast]); exact (h.2.2.2.2.2.2.2 c0).2.2.1)), ⟨ndI hA (And.intro (by subst hA; exact (h.2.2.2.2.2.2.2 c0).2.2.2.1) (And.intro (by subst hA; exact (h.2.2.2.2.2.2.2 c0).2.2.2.2.1) rfl)), ⟨ndI hA (And.intro rfl (by subst hA; show R0[(0 + (Int.toNat a2))]? = some [(AV.int .i64 (cIS R0 (0 + (Int.toNat a2)) 0)), (AV.int .i64 (cIS R0 (0 + (Int.toNat a2)) 1))]; (try simp only [rappS_end, Nat.zero_add, Int.toNat_natCast]); exact (h.2.2.2.2.2.2.2 c0).2.2.2.2.2.1)), ⟨fun e1 => have c1 : (cIS R0 (Int.toNat a1) 0) = (cIS R0 (Int.toNat a2) 0) := (by have q := (cmpE (op := .eql) hA e1); subst hA; have q : (cIS R0 (0 + (Int.toNat a1)) 0) = (cIS R0 (0 + (Int.toNat a2)) 0) := q; simpa only [rappS_end, Nat.zero_add, Int.toNat_natCast] using q); ?_, fun e1 => have c1 : (cIS R0 (Int.toNat a1) 0) ≠ (cIS R0 (Int.toNat a2) 0) := (by have q := (cmpE (op := .eql) hA e1); subst hA; have q : (cIS R0 (0 + (Int.toNat a1)) 0) ≠ (cIS R0 (0 + (Int.toNat a2)) 0) := q; simpa only [rappS_end, Nat.zero_add, Int.toNat_natCast] using q); ?_⟩⟩⟩⟩⟩
    · refine W.draw 80 (by rfl) ?_
      cbv
      refine ⟨ndI hA (And.intro (by subst hA; exact ((h.2.2.2.2.2.2.2 c0).2.2.2.2.2.2.1 c1).1) (And.intro (by subst hA; exact ((h.2.2.2.2.2.2.2 c0).2.2.2.2.2.2.1 c1).2.1) rfl)), ⟨ndI hA (And.intro rfl (by subst hA; show R0[(0 + (Int.toNat a1))]? = some [(AV.int .i64 (cIS R0 (0 + (Int.toNat a1)) 0)), (AV.int .i64 (cIS R0 (0 + (Int.toNat a1)) 1))]; (try simp only [rappS_end, Nat.zero_add, Int.toNat_natCast]); exact ((h.2.2.2.2.2.2.2 c0).2.2.2.2.2.2.1 c1).2.2.1)), ⟨ndI hA (And.intro (by subst hA; exact ((h.2.2.2.2.2.2.2 c0).2.2.2.2.2.2.1 c1).2.2.2.1) (And.intro (by subst hA; exact ((h.2.2.2.2.2.2.2 c0).2.2.2.2.2.2.1 c1).2.2.2.2.1) rfl)), ⟨ndI hA (And.intro rfl (by subst hA; show R0[(0 + (Int.toNat a2))]? = some [(AV.int .i64 (cIS R0 (0 + (Int.toNat a2)) 0)), (AV.int .i64 (cIS R0 (0 + (Int.toNat a2)) 1))]; (try simp only [rappS_end, Nat.zero_add, Int.toNat_natCast]); exact ((h.2.2.2.2.2.2.2 c0).2.2.2.2.2.2.1 c1).2.2.2.2.2.1)), ⟨ndI hA (by subst hA; exact hp.1), (by rw [W.rr]; exact (by subst hA; show Q 0 [R0] [(Lf.b (decide ((cIS R0 (0 + (Int.toNat a1)) 1) < (cIS R0 (0 + (Int.toNat a2)) 1))))]; (try simp only [rappS_end, Nat.zero_add, Int.toNat_natCast]); exact ((h.2.2.2.2.2.2.2 c0).2.2.2.2.2.2.1 c1).2.2.2.2.2.2))⟩⟩⟩⟩⟩
    · refine W.draw 80 (by rfl) ?_
      cbv
      refine ⟨ndI hA (by subst hA; exact hp.1), (by rw [W.rr]; exact (by subst hA; exact ((h.2.2.2.2.2.2.2 c0).2.2.2.2.2.2.2 c1)))⟩

-- 123: (signalbox/edf.items).Swap DRAWN
section
structure V123 (EV Q : Nat → Rs → List Lf → Prop) : Prop where
  none : True

end
set_option maxHeartbeats 0 in
/-- To enter. -/
theorem E123 {Q : Nat → Rs → List Lf → Prop} {R0 : List (List AV)} {a0 : Nat} {a1 : Int} {a2 : Int} (h : pursS R0 = true → ∀ EV : Nat → Rs → List Lf → Prop, V123 EV Q →
    ((0 : Int) ≤ a2) ∧
    (a2 < ((a0 : Nat) : Int)) ∧
    (R0[(Int.toNat a2)]? = some [(AV.int .i64 (cIS R0 (Int.toNat a2) 0)), (AV.int .i64 (cIS R0 (Int.toNat a2) 1))]) ∧
    ((0 : Int) ≤ a1) ∧
    (a1 < ((a0 : Nat) : Int)) ∧
    (R0[(Int.toNat a1)]? = some [(AV.int .i64 (cIS R0 (Int.toNat a1) 0)), (AV.int .i64 (cIS R0 (Int.toNat a1) 1))]) ∧
    ((List.set R0 (Int.toNat a1) [(AV.int .i64 (cIS R0 (Int.toNat a2) 0)), (AV.int .i64 (cIS R0 (Int.toNat a2) 1))])[(Int.toNat a2)]? = some [(AV.int .i64 (cIS (List.set R0 (Int.toNat a1) [(AV.int .i64 (cIS R0 (Int.toNat a2) 0)), (AV.int .i64 (cIS R0 (Int.toNat a2) 1))]) (Int.toNat a2) 0)), (AV.int .i64 (cIS (List.set R0 (Int.toNat a1) [(AV.int .i64 (cIS R0 (Int.toNat a2) 0)), (AV.int .i64 (cIS R0 (Int.toNat a2) 1))]) (Int.toNat a2) 1))]) ∧
    (Q 0 [(List.set (List.set R0 (Int.toNat a1) [(AV.int .i64 (cIS R0 (Int.toNat a2) 0)), (AV.int .i64 (cIS R0 (Int.toNat a2) 1))]) (Int.toNat a2) [(AV.int .i64 (cIS R0 (Int.toNat a1) 0)), (AV.int .i64 (cIS R0 (Int.toNat a1) 1))])] [])) :
    EC Try.prog G123 [R0] [.n a0, .i a1, .i a2] Q := by
  obtain ⟨A, hA⟩ : ∃ A, A = arS := ⟨_, rfl⟩
  refine Inst.enter (I := I123) hA mixed F123_at sg L123 80 rfl fun CE CK Dn EV RR W hp => ?_
  have h := h hp.1 EV ⟨trivial⟩
  cbv
  refine ⟨⟨ndI hA (And.intro (by subst hA; exact h.1) (And.intro (by subst hA; exact h.2.1) rfl)), ⟨⟨ndI hA (And.intro rfl (by subst hA; show R0[(0 + (Int.toNat a2))]? = some [(AV.int .i64 (cIS R0 (0 + (Int.toNat a2)) 0)), (AV.int .i64 (cIS R0 (0 + (Int.toNat a2)) 1))]; (try simp only [rappS_end, Nat.zero_add, Int.toNat_natCast]); exact h.2.2.1)), ⟨⟨ndI hA (And.intro (by subst hA; exact h.2.2.2.1) (And.intro (by subst hA; exact h.2.2.2.2.1) rfl)), ⟨⟨ndI hA (And.intro rfl (by subst hA; show R0[(0 + (Int.toNat a1))]? = some [(AV.int .i64 (cIS R0 (0 + (Int.toNat a1)) 0)), (AV.int .i64 (cIS R0 (0 + (Int.toNat a1)) 1))]; (try simp only [rappS_end, Nat.zero_add, Int.toNat_natCast]); exact h.2.2.2.2.2.1)), ⟨⟨ndI hA (And.intro (by subst hA; exact h.2.2.2.1) (And.intro (by subst hA; exact h.2.2.2.2.1) rfl)), ⟨⟨ndI hA (And.intro rfl (by subst hA; show R0[(0 + (Int.toNat a1))]? = some [(AV.int .i64 (cIS R0 (0 + (Int.toNat a1)) 0)), (AV.int .i64 (cIS R0 (0 + (Int.toNat a1)) 1))]; (try simp only [rappS_end, Nat.zero_add, Int.toNat_natCast]); exact h.2.2.2.2.2.1)), ⟨⟨ndI hA (And.intro (by subst hA; exact h.1) (And.intro (by subst hA; exact h.2.1) (by subst hA; show (List.length R0) = (List.length (List.set R0 (0 + (Int.toNat a1)) [(AV.int .i64 (cIS R0 (0 + (Int.toNat a2)) 0)), (AV.int .i64 (cIS R0 (0 + (Int.toNat a2)) 1))])); (first | rfl | simp [rappS_end] | (simp only [rappS_end, List.length_append, List.length_set, List.length_cons, List.length_nil]; omega))))), ⟨⟨ndI hA (And.intro (by subst hA; show (List.length R0) = (List.length (List.set R0 (0 + (Int.toNat a1)) [(AV.int .i64 (cIS R0 (0 + (Int.toNat a2)) 0)), (AV.int .i64 (cIS R0 (0 + (Int.toNat a2)) 1))])); (first | rfl | simp [rappS_end] | (simp only [rappS_end, List.length_append, List.length_set, List.length_cons, List.length_nil]; omega))) (by subst hA; show (List.set R0 (0 + (Int.toNat a1)) [(AV.int .i64 (cIS R0 (0 + (Int.toNat a2)) 0)), (AV.int .i64 (cIS R0 (0 + (Int.toNat a2)) 1))])[(0 + (Int.toNat a2))]? = some [(AV.int .i64 (cIS (List.set R0 (0 + (Int.toNat a1)) [(AV.int .i64 (cIS R0 (0 + (Int.toNat a2)) 0)), (AV.int .i64 (cIS R0 (0 + (Int.toNat a2)) 1))]) (0 + (Int.toNat a2)) 0)), (AV.int .i64 (cIS (List.set R0 (0 + (Int.toNat a1)) [(AV.int .i64 (cIS R0 (0 + (Int.toNat a2)) 0)), (AV.int .i64 (cIS R0 (0 + (Int.toNat a2)) 1))]) (0 + (Int.toNat a2)) 1))]; (try simp only [rappS_end, Nat.zero_add, Int.toNat_natCast]); exact h.2.2.2.2.2.2.1)), ⟨ndI hA (by subst hA; exact (vset (vset hp.1 rfl) rfl)), (by rw [W.rr]; exact (by subst hA; show Q 0 [(List.set (List.set R0 (0 + (Int.toNat a1)) [(AV.int .i64 (cIS R0 (0 + (Int.toNat a2)) 0)), (AV.int .i64 (cIS R0 (0 + (Int.toNat a2)) 1))]) (0 + (Int.toNat a2)) [(AV.int .i64 (cIS R0 (0 + (Int.toNat a1)) 0)), (AV.int .i64 (cIS R0 (0 + (Int.toNat a1)) 1))])] []; (try simp only [rappS_end, Nat.zero_add, Int.toNat_natCast]); exact h.2.2.2.2.2.2.2))⟩⟩, trivial⟩⟩, trivial⟩⟩, trivial⟩⟩, trivial⟩⟩, trivial⟩⟩, trivial⟩⟩, ⟨⟨ndI hA (And.intro (by subst hA; exact h.2.2.2.1) (And.intro (by subst hA; exact h.2.2.2.2.1) rfl)), ⟨⟨ndI hA (And.intro rfl (by subst hA; show R0[(0 + (Int.toNat a2))]? = some [(AV.int .i64 (cIS R0 (0 + (Int.toNat a2)) 0)), (AV.int .i64 (cIS R0 (0 + (Int.toNat a2)) 1))]; (try simp only [rappS_end, Nat.zero_add, Int.toNat_natCast]); exact h.2.2.1)), ⟨⟨ndI hA (And.intro rfl (by subst hA; show R0[(0 + (Int.toNat a1))]? = some [(AV.int .i64 (cIS R0 (0 + (Int.toNat a1)) 0)), (AV.int .i64 (cIS R0 (0 + (Int.toNat a1)) 1))]; (try simp only [rappS_end, Nat.zero_add, Int.toNat_natCast]); exact h.2.2.2.2.2.1)), ⟨⟨ndI hA (And.intro (by subst hA; exact h.2.2.2.1) (And.intro (by subst hA; exact h.2.2.2.2.1) rfl)), ⟨⟨ndI hA (And.intro rfl (by subst hA; show R0[(0 + (Int.toNat a1))]? = some [(AV.int .i64 (cIS R0 (0 + (Int.toNat a1)) 0)), (AV.int .i64 (cIS R0 (0 + (Int.toNat a1)) 1))]; (try simp only [rappS_end, Nat.zero_add, Int.toNat_natCast]); exact h.2.2.2.2.2.1)), ⟨⟨ndI hA (And.intro (by subst hA; exact h.1) (And.intro (by subst hA; exact h.2.1) (by subst hA; show (List.length R0) = (List.length (List.set R0 (0 + (Int.toNat a1)) [(AV.int .i64 (cIS R0 (0 + (Int.toNat a2)) 0)), (AV.int .i64 (cIS R0 (0 + (Int.toNat a2)) 1))])); (first | rfl | simp [rappS_end] | (simp only [rappS_end, List.length_append, List.length_set, List.length_cons, List.length_nil]; omega))))), ⟨⟨ndI hA (And.intro (by subst hA; show (List.length R0) = (List.length (List.set R0 (0 + (Int.toNat a1)) [(AV.int .i64 (cIS R0 (0 + (Int.toNat a2)) 0)), (AV.int .i64 (cIS R0 (0 + (Int.toNat a2)) 1))])); (first | rfl | simp [rappS_end] | (simp only [rappS_end, List.length_append, List.length_set, List.length_cons, List.length_nil]; omega))) (by subst hA; show (List.set R0 (0 + (Int.toNat a1)) [(AV.int .i64 (cIS R0 (0 + (Int.toNat a2)) 0)), (AV.int .i64 (cIS R0 (0 + (Int.toNat a2)) 1))])[(0 + (Int.toNat a2))]? = some [(AV.int .i64 (cIS (List.set R0 (0 + (Int.toNat a1)) [(AV.int .i64 (cIS R0 (0 + (Int.toNat a2)) 0)), (AV.int .i64 (cIS R0 (0 + (Int.toNat a2)) 1))]) (0 + (Int.toNat a2)) 0)), (AV.int .i64 (cIS (List.set R0 (0 + (Int.toNat a1)) [(AV.int .i64 (cIS R0 (0 + (Int.toNat a2)) 0)), (AV.int .i64 (cIS R0 (0 + (Int.toNat a2)) 1))]) (0 + (Int.toNat a2)) 1))]; (try simp only [rappS_end, Nat.zero_add, Int.toNat_natCast]); exact h.2.2.2.2.2.2.1)), ⟨ndI hA (by subst hA; exact (vset (vset hp.1 rfl) rfl)), (by rw [W.rr]; exact (by subst hA; show Q 0 [(List.set (List.set R0 (0 + (Int.toNat a1)) [(AV.int .i64 (cIS R0 (0 + (Int.toNat a2)) 0)), (AV.int .i64 (cIS R0 (0 + (Int.toNat a2)) 1))]) (0 + (Int.toNat a2)) [(AV.int .i64 (cIS R0 (0 + (Int.toNat a1)) 0)), (AV.int .i64 (cIS R0 (0 + (Int.toNat a1)) 1))])] []; (try simp only [rappS_end, Nat.zero_add, Int.toNat_natCast]); exact h.2.2.2.2.2.2.2))⟩⟩, trivial⟩⟩, trivial⟩⟩, trivial⟩⟩, trivial⟩⟩, trivial⟩⟩, ⟨⟨ndI hA (And.intro rfl (by subst hA; show R0[(0 + (Int.toNat a1))]? = some [(AV.int .i64 (cIS R0 (0 + (Int.toNat a1)) 0)), (AV.int .i64 (cIS R0 (0 + (Int.toNat a1)) 1))]; (try simp only [rappS_end, Nat.zero_add, Int.toNat_natCast]); exact h.2.2.2.2.2.1)), ⟨⟨ndI hA (And.intro rfl (by subst hA; show R0[(0 + (Int.toNat a2))]? = some [(AV.int .i64 (cIS R0 (0 + (Int.toNat a2)) 0)), (AV.int .i64 (cIS R0 (0 + (Int.toNat a2)) 1))]; (try simp only [rappS_end, Nat.zero_add, Int.toNat_natCast]); exact h.2.2.1)), ⟨⟨ndI hA (And.intro (by subst hA; exact h.2.2.2.1) (And.intro (by subst hA; exact h.2.2.2.2.1) rfl)), ⟨⟨ndI hA (And.intro rfl (by subst hA; show R0[(0 + (Int.toNat a1))]? = some [(AV.int .i64 (cIS R0 (0 + (Int.toNat a1)) 0)), (AV.int .i64 (cIS R0 (0 + (Int.toNat a1)) 1))]; (try simp only [rappS_end, Nat.zero_add, Int.toNat_natCast]); exact h.2.2.2.2.2.1)), ⟨⟨ndI hA (And.intro (by subst hA; exact h.1) (And.intro (by subst hA; exact h.2.1) (by subst hA; show (List.length R0) = (List.length (List.set R0 (0 + (Int.toNat a1)) [(AV.int .i64 (cIS R0 (0 + (Int.toNat a2)) 0)), (AV.int .i64 (cIS R0 (0 + (Int.toNat a2)) 1))])); (first | rfl | simp [rappS_end] | (simp only [rappS_end, List.length_append, List.length_set, List.length_cons, List.length_nil]; omega))))), ⟨⟨ndI hA (And.intro (by subst hA; show (List.length R0) = (List.length (List.set R0 (0 + (Int.toNat a1)) [(AV.int .i64 (cIS R0 (0 + (Int.toNat a2)) 0)), (AV.int .i64 (cIS R0 (0 + (Int.toNat a2)) 1))])); (first | rfl | simp [rappS_end] | (simp only [rappS_end, List.length_append, List.length_set, List.length_cons, List.length_nil]; omega))) (by subst hA; show (List.set R0 (0 + (Int.toNat a1)) [(AV.int .i64 (cIS R0 (0 + (Int.toNat a2)) 0)), (AV.int .i64 (cIS R0 (0 + (Int.toNat a2)) 1))])[(0 + (Int.toNat a2))]? = some [(AV.int .i64 (cIS (List.set R0 (0 + (Int.toNat a1)) [(AV.int .i64 (cIS R0 (0 + (Int.toNat a2)) 0)), (AV.int .i64 (cIS R0 (0 + (Int.toNat a2)) 1))]) (0 + (Int.toNat a2)) 0)), (AV.int .i64 (cIS (List.set R0 (0 + (Int.toNat a1)) [(AV.int .i64 (cIS R0 (0 + (Int.toNat a2)) 0)), (AV.int .i64 (cIS R0 (0 + (Int.toNat a2)) 1))]) (0 + (Int.toNat a2)) 1))]; (try simp only [rappS_end, Nat.zero_add, Int.toNat_natCast]); exact h.2.2.2.2.2.2.1)), ⟨ndI hA (by subst hA; exact (vset (vset hp.1 rfl) rfl)), (by rw [W.rr]; exact (by subst hA; show Q 0 [(List.set (List.set R0 (0 + (Int.toNat a1)) [(AV.int .i64 (cIS R0 (0 + (Int.toNat a2)) 0)), (AV.int .i64 (cIS R0 (0 + (Int.toNat a2)) 1))]) (0 + (Int.toNat a2)) [(AV.int .i64 (cIS R0 (0 + (Int.toNat a1)) 0)), (AV.int .i64 (cIS R0 (0 + (Int.toNat a1)) 1))])] []; (try simp only [rappS_end, Nat.zero_add, Int.toNat_natCast]); exact h.2.2.2.2.2.2.2))⟩⟩, trivial⟩⟩, trivial⟩⟩, trivial⟩⟩, trivial⟩⟩, trivial⟩⟩, trivial⟩⟩⟩, trivial⟩⟩⟩, ⟨⟨ndI hA (And.intro (by subst hA; exact h.2.2.2.1) (And.intro (by subst hA; exact h.2.2.2.2.1) rfl)), ⟨⟨ndI hA (And.intro (by subst hA; exact h.1) (And.intro (by subst hA; exact h.2.1) rfl)), ⟨⟨ndI hA (And.intro rfl (by subst hA; show R0[(0 + (Int.toNat a2))]? = some [(AV.int .i64 (cIS R0 (0 + (Int.toNat a2)) 0)), (AV.int .i64 (cIS R0 (0 + (Int.toNat a2)) 1))]; (try simp only [rappS_end, Nat.zero_add, Int.toNat_natCast]); exact h.2.2.1)), ⟨⟨ndI hA (And.intro rfl (by subst hA; show R0[(0 + (Int.toNat a1))]? = some [(AV.int .i64 (cIS R0 (0 + (Int.toNat a1)) 0)), (AV.int .i64 (cIS R0 (0 + (Int.toNat a1)) 1))]; (try simp only [rappS_end, Nat.zero_add, Int.toNat_natCast]); exact h.2.2.2.2.2.1)), ⟨⟨ndI hA (And.intro (by subst hA; exact h.2.2.2.1) (And.intro (by subst hA; exact h.2.2.2.2.1) rfl)), ⟨⟨ndI hA (And.intro rfl (by subst hA; show R0[(0 + (Int.toNat a1))]? = some [(AV.int .i64 (cIS R0 (0 + (Int.toNat a1)) 0)), (AV.int .i64 (cIS R0 (0 + (Int.toNat a1)) 1))]; (try simp only [rappS_end, Nat.zero_add, Int.toNat_natCast]); exact h.2.2.2.2.2.1)), ⟨⟨ndI hA (And.intro (by subst hA; exact h.1) (And.intro (by subst hA; exact h.2.1) (by subst hA; show (List.length R0) = (List.length (List.set R0 (0 + (Int.toNat a1)) [(AV.int .i64 (cIS R0 (0 + (Int.toNat a2)) 0)), (AV.int .i64 (cIS R0 (0 + (Int.toNat a2)) 1))])); (first | rfl | simp [rappS_end] | (simp only [rappS_end, List.length_append, List.length_set, List.length_cons, List.length_nil]; omega))))), ⟨⟨ndI hA (And.intro (by subst hA; show (List.length R0) = (List.length (List.set R0 (0 + (Int.toNat a1)) [(AV.int .i64 (cIS R0 (0 + (Int.toNat a2)) 0)), (AV.int .i64 (cIS R0 (0 + (Int.toNat a2)) 1))])); (first | rfl | simp [rappS_end] | (simp only [rappS_end, List.length_append, List.length_set, List.length_cons, List.length_nil]; omega))) (by subst hA; show (List.set R0 (0 + (Int.toNat a1)) [(AV.int .i64 (cIS R0 (0 + (Int.toNat a2)) 0)), (AV.int .i64 (cIS R0 (0 + (Int.toNat a2)) 1))])[(0 + (Int.toNat a2))]? = some [(AV.int .i64 (cIS (List.set R0 (0 + (Int.toNat a1)) [(AV.int .i64 (cIS R0 (0 + (Int.toNat a2)) 0)), (AV.int .i64 (cIS R0 (0 + (Int.toNat a2)) 1))]) (0 + (Int.toNat a2)) 0)), (AV.int .i64 (cIS (List.set R0 (0 + (Int.toNat a1)) [(AV.int .i64 (cIS R0 (0 + (Int.toNat a2)) 0)), (AV.int .i64 (cIS R0 (0 + (Int.toNat a2)) 1))]) (0 + (Int.toNat a2)) 1))]; (try simp only [rappS_end, Nat.zero_add, Int.toNat_natCast]); exact h.2.2.2.2.2.2.1)), ⟨ndI hA (by subst hA; exact (vset (vset hp.1 rfl) rfl)), (by rw [W.rr]; exact (by subst hA; show Q 0 [(List.set (List.set R0 (0 + (Int.toNat a1)) [(AV.int .i64 (cIS R0 (0 + (Int.toNat a2)) 0)), (AV.int .i64 (cIS R0 (0 + (Int.toNat a2)) 1))]) (0 + (Int.toNat a2)) [(AV.int .i64 (cIS R0 (0 + (Int.toNat a1)) 0)), (AV.int .i64 (cIS R0 (0 + (Int.toNat a1)) 1))])] []; (try simp only [rappS_end, Nat.zero_add, Int.toNat_natCast]); exact h.2.2.2.2.2.2.2))⟩⟩, trivial⟩⟩, trivial⟩⟩, trivial⟩⟩, trivial⟩⟩, trivial⟩⟩, ⟨⟨ndI hA (And.intro rfl (by subst hA; show R0[(0 + (Int.toNat a1))]? = some [(AV.int .i64 (cIS R0 (0 + (Int.toNat a1)) 0)), (AV.int .i64 (cIS R0 (0 + (Int.toNat a1)) 1))]; (try simp only [rappS_end, Nat.zero_add, Int.toNat_natCast]); exact h.2.2.2.2.2.1)), ⟨⟨ndI hA (And.intro rfl (by subst hA; show R0[(0 + (Int.toNat a2))]? = some [(AV.int .i64 (cIS R0 (0 + (Int.toNat a2)) 0)), (AV.int .i64 (cIS R0 (0 + (Int.toNat a2)) 1))]; (try simp only [rappS_end, Nat.zero_add, Int.toNat_natCast]); exact h.2.2.1)), ⟨⟨ndI hA (And.intro (by subst hA; exact h.2.2.2.1) (And.intro (by subst hA; exact h.2.2.2.2.1) rfl)), ⟨⟨ndI hA (And.intro rfl (by subst hA; show R0[(0 + (Int.toNat a1))]? = some [(AV.int .i64 (cIS R0 (0 + (Int.toNat a1)) 0)), (AV.int .i64 (cIS R0 (0 + (Int.toNat a1)) 1))]; (try simp only [rappS_end, Nat.zero_add, Int.toNat_natCast]); exact h.2.2.2.2.2.1)), ⟨⟨ndI hA (And.intro (by subst hA; exact h.1) (And.intro (by subst hA; exact h.2.1) (by subst hA; show (List.length R0) = (List.length (List.set R0 (0 + (Int.toNat a1)) [(AV.int .i64 (cIS R0 (0 + (Int.toNat a2)) 0)), (AV.int .i64 (cIS R0 (0 + (Int.toNat a2)) 1))])); (first | rfl | simp [rappS_end] | (simp only [rappS_end, List.length_append, List.length_set, List.length_cons, List.length_nil]; omega))))), ⟨⟨ndI hA (And.intro (by subst hA; show (List.length R0) = (List.length (List.set R0 (0 + (Int.toNat a1)) [(AV.int .i64 (cIS R0 (0 + (Int.toNat a2)) 0)), (AV.int .i64 (cIS R0 (0 + (Int.toNat a2)) 1))])); (first | rfl | simp [rappS_end] | (simp only [rappS_end, List.length_append, List.length_set, List.length_cons, List.length_nil]; omega))) (by subst hA; show (List.set R0 (0 + (Int.toNat a1)) [(AV.int .i64 (cIS R0 (0 + (Int.toNat a2)) 0)), (AV.int .i64 (cIS R0 (0 + (Int.toNat a2)) 1))])[(0 + (Int.toNat a2))]? = some [(AV.int .i64 (cIS (List.set R0 (0 + (Int.toNat a1)) [(AV.int .i64 (cIS R0 (0 + (Int.toNat a2)) 0)), (AV.int .i64 (cIS R0 (0 + (Int.toNat a2)) 1))]) (0 + (Int.toNat a2)) 0)), (AV.int .i64 (cIS (List.set R0 (0 + (Int.toNat a1)) [(AV.int .i64 (cIS R0 (0 + (Int.toNat a2)) 0)), (AV.int .i64 (cIS R0 (0 + (Int.toNat a2)) 1))]) (0 + (Int.toNat a2)) 1))]; (try simp only [rappS_end, Nat.zero_add, Int.toNat_natCast]); exact h.2.2.2.2.2.2.1)), ⟨ndI hA (by subst hA; exact (vset (vset hp.1 rfl) rfl)), (by rw [W.rr]; exact (by subst hA; show Q 0 [(List.set (List.set R0 (0 + (Int.toNat a1)) [(AV.int .i64 (cIS R0 (0 + (Int.toNat a2)) 0)), (AV.int .i64 (cIS R0 (0 + (Int.toNat a2)) 1))]) (0 + (Int.toNat a2)) [(AV.int .i64 (cIS R0 (0 + (Int.toNat a1)) 0)), (AV.int .i64 (cIS R0 (0 + (Int.toNat a1)) 1))])] []; (try simp only [rappS_end, Nat.zero_add, Int.toNat_natCast]); exact h.2.2.2.2.2.2.2))⟩⟩, trivial⟩⟩, trivial⟩⟩, trivial⟩⟩, trivial⟩⟩, trivial⟩⟩, trivial⟩⟩⟩, ⟨⟨ndI hA (And.intro rfl (by subst hA; show R0[(0 + (Int.toNat a1))]? = some [(AV.int .i64 (cIS R0 (0 + (Int.toNat a1)) 0)), (AV.int .i64 (cIS R0 (0 + (Int.toNat a1)) 1))]; (try simp only [rappS_end, Nat.zero_add, Int.toNat_natCast]); exact h.2.2.2.2.2.1)), ⟨⟨ndI hA (And.intro (by subst hA; exact h.1) (And.intro (by subst hA; exact h.2.1) rfl)), ⟨⟨ndI hA (And.intro rfl (by subst hA; show R0[(0 + (Int.toNat a2))]? = some [(AV.int .i64 (cIS R0 (0 + (Int.toNat a2)) 0)), (AV.int .i64 (cIS R0 (0 + (Int.toNat a2)) 1))]; (try simp only [rappS_end, Nat.zero_add, Int.toNat_natCast]); exact h.2.2.1)), ⟨⟨ndI hA (And.intro (by subst hA; exact h.2.2.2.1) (And.intro (by subst hA; exact h.2.2.2.2.1) rfl)), ⟨⟨ndI hA (And.intro rfl (by subst hA; show R0[(0 + (Int.toNat a1))]? = some [(AV.int .i64 (cIS R0 (0 + (Int.toNat a1)) 0)), (AV.int .i64 (cIS R0 (0 + (Int.toNat a1)) 1))]; (try simp only [rappS_end, Nat.zero_add, Int.toNat_natCast]); exact h.2.2.2.2.2.1)), ⟨⟨ndI hA (And.intro (by subst hA; exact h.1) (And.intro (by subst hA; exact h.2.1) (by subst hA; show (List.length R0) = (List.length (List.set R0 (0 + (Int.toNat a1)) [(AV.int .i64 (cIS R0 (0 + (Int.toNat a2)) 0)), (AV.int .i64 (cIS R0 (0 + (Int.toNat a2)) 1))])); (first | rfl | simp [rappS_end] | (simp only [rappS_end, List.length_append, List.length_set, List.length_cons, List.length_nil]; omega))))), ⟨⟨ndI hA (And.intro (by subst hA; show (List.length R0) = (List.length (List.set R0 (0 + (Int.toNat a1)) [(AV.int .i64 (cIS R0 (0 + (Int.toNat a2)) 0)), (AV.int .i64 (cIS R0 (0 + (Int.toNat a2)) 1))])); (first | rfl | simp [rappS_end] | (simp only [rappS_end, List.length_append, List.length_set, List.length_cons, List.length_nil]; omega))) (by subst hA; show (List.set R0 (0 + (Int.toNat a1)) [(AV.int .i64 (cIS R0 (0 + (Int.toNat a2)) 0)), (AV.int .i64 (cIS R0 (0 + (Int.toNat a2)) 1))])[(0 + (Int.toNat a2))]? = some [(AV.int .i64 (cIS (List.set R0 (0 + (Int.toNat a1)) [(AV.int .i64 (cIS R0 (0 + (Int.toNat a2)) 0)), (AV.int .i64 (cIS R0 (0 + (Int.toNat a2)) 1))]) (0 + (Int.toNat a2)) 0)), (AV.int .i64 (cIS (List.set R0 (0 + (Int.toNat a1)) [(AV.int .i64 (cIS R0 (0 + (Int.toNat a2)) 0)), (AV.int .i64 (cIS R0 (0 + (Int.toNat a2)) 1))]) (0 + (Int.toNat a2)) 1))]; (try simp only [rappS_end, Nat.zero_add, Int.toNat_natCast]); exact h.2.2.2.2.2.2.1)), ⟨ndI hA (by subst hA; exact (vset (vset hp.1 rfl) rfl)), (by rw [W.rr]; exact (by subst hA; show Q 0 [(List.set (List.set R0 (0 + (Int.toNat a1)) [(AV.int .i64 (cIS R0 (0 + (Int.toNat a2)) 0)), (AV.int .i64 (cIS R0 (0 + (Int.toNat a2)) 1))]) (0 + (Int.toNat a2)) [(AV.int .i64 (cIS R0 (0 + (Int.toNat a1)) 0)), (AV.int .i64 (cIS R0 (0 + (Int.toNat a1)) 1))])] []; (try simp only [rappS_end, Nat.zero_add, Int.toNat_natCast]); exact h.2.2.2.2.2.2.2))⟩⟩, trivial⟩⟩, trivial⟩⟩, trivial⟩⟩, trivial⟩⟩, trivial⟩⟩, trivial⟩⟩, trivial⟩⟩⟩, trivial⟩⟩

-- 80: container/heap.up
section
structure V80 (EV Q : Nat → Rs → List Lf → Prop) : Prop where
  p2 : ∀ {R0 : List (List AV)} {t1 : Int} {tb0 : Nat}, (pursS R0 = true → 
    ((IntKind.wrap .i64 (Int.tdiv (IntKind.wrap .i64 (t1 - (1 : Int))) (2 : Int))) ≠ t1 →
      EC Try.prog G120 [R0] [(Lf.n tb0), (Lf.i t1), (Lf.i (IntKind.wrap .i64 (Int.tdiv (IntKind.wrap .i64 (t1 - (1 : Int))) (2 : Int))))] (fun x rs vs => (x = 0 ∧ ∃ (Y1_0 : List (List AV)) (y1_0 : Bool), rs = [Y1_0] ∧ vs = [.b y1_0] ∧
        ((y1_0 = false →
            ((List.length R0) = (List.length Y1_0)) ∧
            (Q 0 [Y1_0] [(Lf.n tb0)])) ∧
          (y1_0 = true →
            ((List.length R0) = (List.length Y1_0)) ∧
            (EC Try.prog G123 [Y1_0] [(Lf.n tb0), (Lf.i (IntKind.wrap .i64 (Int.tdiv (IntKind.wrap .i64 (t1 - (1 : Int))) (2 : Int)))), (Lf.i t1)] (fun x rs vs => (x = 0 ∧ ∃ (Y3_0 : List (List AV)), rs = [Y3_0] ∧ vs = [] ∧
              (((List.length R0) = (List.length Y3_0)) ∧
                (EV 2 [Y3_0] [(Lf.i (IntKind.wrap .i64 (Int.tdiv (IntKind.wrap .i64 (t1 - (1 : Int))) (2 : Int)))), (Lf.n tb0)])))))))))) ∧
    ((IntKind.wrap .i64 (Int.tdiv (IntKind.wrap .i64 (t1 - (1 : Int))) (2 : Int))) = t1 →
      Q 0 [R0] [(Lf.n tb0)])) →
    EV 2 [R0] [.i t1, .n tb0]

set_option maxHeartbeats 0 in
theorem V80.of {Q : Nat → Rs → List Lf → Prop} {A : Ar} {CE : Nat → Rs → List Lf → (Nat → Rs → List Lf → Prop) → Prop} {CK : Nat → Rs → List Lf → Cont → Prop} {Dn : Nat → List Bool → List AItem → Nat → List Bool → List AV → List ABlk → Prop} {EV RR : Nat → Rs → List Lf → Prop} (W : Wk Try.prog Try.f80 I80 L80 Q A sg CE CK Dn EV RR) : V80 EV Q := by
  have hA := W.hA
  refine ⟨?_⟩
  · intro R0 t1 tb0 h
    refine W.step 80 fun hp => ?_
    have h := h hp.1
    cbv
    refine ⟨ndI hA (show _ ≠ _ by decide), ⟨imI hA fun e0 => have c0 : (IntKind.wrap .i64 (Int.tdiv (IntKind.wrap .i64 (t1 - (1 : Int))) (2 : Int))) ≠ t1 := (by have q := (cmpE (op := .eql) hA e0); subst hA; exact q); ⟨ndI hA (And.intro rfl rfl), ⟨ndI hA (by subst hA; exact hp.1), ?_⟩⟩, imI hA fun e0 => have c0 : (IntKind.wrap .i64 (Int.tdiv (IntKind.wrap .i64 (t1 - (1 : Int))) (2 : Int))) = t1 := (by have q := (cmpE (op := .eql) hA e0); subst hA; exact q); ⟨ndI hA (And.intro rfl rfl), ⟨ndI hA (by subst hA; exact hp.1), (by rw [W.rr]; exact (by subst hA; exact (h.2 c0)))⟩⟩⟩⟩
    · refine W.call 80 (by rfl) (h.1 c0) (by subst hA; rfl) (by subst hA; rfl) ?_
      rintro x rs vs hp1 hq1
      rcases hq1 with ⟨rfl, Y1_0, y1_0, rfl, rfl, k1⟩
      · cbv
        refine ⟨imI hA fun e2 => have c2 : y1_0 = false := (by have q := (notE hA e2); subst hA; exact q); ⟨ndI hA (And.intro (by subst hA; exact (k1.1 c2).1) rfl), ⟨ndI hA (by subst hA; exact hp1.1), (by rw [W.rr]; exact (by subst hA; exact (k1.1 c2).2))⟩⟩, imI hA fun e2 => have c2 : y1_0 = true := (by have q := (notE hA e2); subst hA; exact q); ⟨ndI hA (And.intro (by subst hA; exact (k1.2 c2).1) rfl), ⟨ndI hA (by subst hA; exact hp1.1), ?_⟩⟩⟩
        · refine W.call 80 (by rfl) (k1.2 c2).2 (by subst hA; rfl) (by subst hA; rfl) ?_
          rintro x rs vs hp3 hq3
          rcases hq3 with ⟨rfl, Y3_0, rfl, rfl, k3⟩
          · cbv
            refine ⟨ndI hA (And.intro (by subst hA; exact k3.1) rfl), ⟨ndI hA (by subst hA; exact hp3.1), (by subst hA; exact k3.2)⟩⟩

end
set_option maxHeartbeats 0 in
/-- To enter. -/
theorem E80 {Q : Nat → Rs → List Lf → Prop} {R0 : List (List AV)} {a1 : Int} {ab0 : Nat} (h : pursS R0 = true → ∀ EV : Nat → Rs → List Lf → Prop, V80 EV Q →
    EV 2 [R0] [(Lf.i a1), (Lf.n ab0)]) :
    EC Try.prog G80 [R0] [.i a1, .n ab0] Q := by
  obtain ⟨A, hA⟩ : ∃ A, A = arS := ⟨_, rfl⟩
  refine Inst.enter (I := I80) hA mixed F80_at sg L80 80 rfl fun CE CK Dn EV RR W hp => ?_
  have h := h hp.1 EV (V80.of W)
  cbv
  refine ⟨ndI hA (And.intro rfl rfl), ⟨ndI hA (by subst hA; exact hp.1), (by subst hA; exact h)⟩⟩

-- 71: container/heap.Push
section
structure V71 (EV Q : Nat → Rs → List Lf → Prop) : Prop where
  none : True

end
set_option maxHeartbeats 0 in
/-- To enter. -/
theorem E71 {Q : Nat → Rs → List Lf → Prop} {R0 : List (List AV)} {a1_0 : Int} {a1_1 : Int} {ab0 : Nat} (h : pursS R0 = true → ∀ EV : Nat → Rs → List Lf → Prop, V71 EV Q →
    EC Try.prog G122 [R0] [(Lf.i a1_0), (Lf.i a1_1), (Lf.n ab0)] (fun x rs vs => (x = 0 ∧ ∃ (Y0_0 : List (List AV)) (y0_b0 : Nat), rs = [Y0_0] ∧ vs = [.n y0_b0] ∧
      (EC Try.prog G70 [Y0_0] [(Lf.n y0_b0)] (fun x rs vs => (x = 0 ∧ ∃ (Y1_0 : List (List AV)) (y1_0 : Int), rs = [Y1_0] ∧ vs = [.i y1_0] ∧
          (((List.length Y0_0) = (List.length Y1_0)) ∧
            (EC Try.prog G80 [Y1_0] [(Lf.i (IntKind.wrap .i64 (y1_0 - (1 : Int)))), (Lf.n y0_b0)] (fun x rs vs => (x = 0 ∧ ∃ (Y2_0 : List (List AV)) (y2_b0 : Nat), rs = [Y2_0] ∧ vs = [.n y2_b0] ∧
              (Q 0 [Y2_0] [(Lf.n y2_b0)]))))))))))) :
    EC Try.prog G71 [R0] [.i a1_0, .i a1_1, .n ab0] Q := by
  obtain ⟨A, hA⟩ : ∃ A, A = arS := ⟨_, rfl⟩
  refine Inst.enter (I := I71) hA mixed F71_at sg L71 80 rfl fun CE CK Dn EV RR W hp => ?_
  have h := h hp.1 EV ⟨trivial⟩
  cbv
  refine ⟨ndI hA (And.intro rfl rfl), ⟨ndI hA (by subst hA; exact hp.1), ?_⟩⟩
  · refine W.call 80 (by rfl) h (by subst hA; rfl) (by subst hA; rfl) ?_
    rintro x rs vs hp0 hq0
    rcases hq0 with ⟨rfl, Y0_0, y0_b0, rfl, rfl, k0⟩
    · cbv
      refine ⟨ndI hA (And.intro rfl rfl), ⟨ndI hA (by subst hA; exact hp0.1), ?_⟩⟩
      · refine W.call 80 (by rfl) k0 (by subst hA; rfl) (by subst hA; rfl) ?_
        rintro x rs vs hp1 hq1
        rcases hq1 with ⟨rfl, Y1_0, y1_0, rfl, rfl, k1⟩
        · cbv
          refine ⟨ndI hA (And.intro (by subst hA; exact k1.1) rfl), ⟨ndI hA (by subst hA; exact hp1.1), ?_⟩⟩
          · refine W.call 80 (by rfl) k1.2 (by subst hA; rfl) (by subst hA; rfl) ?_
            rintro x rs vs hp2 hq2
            rcases hq2 with ⟨rfl, Y2_0, y2_b0, rfl, rfl, k2⟩
            · cbv
              refine ⟨ndI hA (And.intro rfl rfl), ⟨ndI hA (by subst hA; exact hp2.1), (by rw [W.rr]; exact (by subst hA; exact k2))⟩⟩

-- 81: container/heap.down
section
structure V81 (EV Q : Nat → Rs → List Lf → Prop) : Prop where
  p7 : ∀ {R0 : List (List AV)} {t1 : Int} {t2 : Int} {t7 : Int} {tb0 : Nat}, (pursS R0 = true → 
    ((IntKind.wrap .i64 ((IntKind.wrap .i64 ((2 : Int) * t7)) + (1 : Int))) < t2 →
      ((IntKind.wrap .i64 ((IntKind.wrap .i64 ((2 : Int) * t7)) + (1 : Int))) < (0 : Int) →
        Q 0 [R0] [(Lf.b (decide (t7 > t1))), (Lf.n tb0)]) ∧
      ((IntKind.wrap .i64 ((IntKind.wrap .i64 ((2 : Int) * t7)) + (1 : Int))) ≥ (0 : Int) →
        ((IntKind.wrap .i64 ((IntKind.wrap .i64 ((IntKind.wrap .i64 ((2 : Int) * t7)) + (1 : Int))) + (1 : Int))) < t2 →
          EC Try.prog G120 [R0] [(Lf.n tb0), (Lf.i (IntKind.wrap .i64 ((IntKind.wrap .i64 ((IntKind.wrap .i64 ((2 : Int) * t7)) + (1 : Int))) + (1 : Int)))), (Lf.i (IntKind.wrap .i64 ((IntKind.wrap .i64 ((2 : Int) * t7)) + (1 : Int))))] (fun x rs vs => (x = 0 ∧ ∃ (Y3_0 : List (List AV)) (y3_0 : Bool), rs = [Y3_0] ∧ vs = [.b y3_0] ∧
            ((y3_0 = true →
                ((List.length R0) = (List.length Y3_0)) ∧
                (EV 26 [Y3_0] [(Lf.i t1), (Lf.i t2), (Lf.i t7), (Lf.i (IntKind.wrap .i64 ((IntKind.wrap .i64 ((IntKind.wrap .i64 ((2 : Int) * t7)) + (1 : Int))) + (1 : Int)))), (Lf.n tb0)])) ∧
              (y3_0 = false →
                ((List.length R0) = (List.length Y3_0)) ∧
                (EV 26 [Y3_0] [(Lf.i t1), (Lf.i t2), (Lf.i t7), (Lf.i (IntKind.wrap .i64 ((IntKind.wrap .i64 ((2 : Int) * t7)) + (1 : Int)))), (Lf.n tb0)])))))) ∧
        ((IntKind.wrap .i64 ((IntKind.wrap .i64 ((IntKind.wrap .i64 ((2 : Int) * t7)) + (1 : Int))) + (1 : Int))) ≥ t2 →
          EV 26 [R0] [(Lf.i t1), (Lf.i t2), (Lf.i t7), (Lf.i (IntKind.wrap .i64 ((IntKind.wrap .i64 ((2 : Int) * t7)) + (1 : Int)))), (Lf.n tb0)]))) ∧
    ((IntKind.wrap .i64 ((IntKind.wrap .i64 ((2 : Int) * t7)) + (1 : Int))) ≥ t2 →
      Q 0 [R0] [(Lf.b (decide (t7 > t1))), (Lf.n tb0)])) →
    EV 7 [R0] [.i t1, .i t2, .i t7, .n tb0]
  p26 : ∀ {R0 : List (List AV)} {t1 : Int} {t2 : Int} {t7 : Int} {t9 : Int} {tb0 : Nat}, (pursS R0 = true → 
    EC Try.prog G120 [R0] [(Lf.n tb0), (Lf.i t9), (Lf.i t7)] (fun x rs vs => (x = 0 ∧ ∃ (Y0_0 : List (List AV)) (y0_0 : Bool), rs = [Y0_0] ∧ vs = [.b y0_0] ∧
      ((y0_0 = false →
          ((List.length R0) = (List.length Y0_0)) ∧
          (Q 0 [Y0_0] [(Lf.b (decide (t7 > t1))), (Lf.n tb0)])) ∧
        (y0_0 = true →
          ((List.length R0) = (List.length Y0_0)) ∧
          (EC Try.prog G123 [Y0_0] [(Lf.n tb0), (Lf.i t7), (Lf.i t9)] (fun x rs vs => (x = 0 ∧ ∃ (Y2_0 : List (List AV)), rs = [Y2_0] ∧ vs = [] ∧
            (((List.length R0) = (List.length Y2_0)) ∧
              (EV 7 [Y2_0] [(Lf.i t1), (Lf.i t2), (Lf.i t9), (Lf.n tb0)])))))))))) →
    EV 26 [R0] [.i t1, .i t2, .i t7, .i t9, .n tb0]

set_option maxHeartbeats 0 in
theorem V81.of {Q : Nat → Rs → List Lf → Prop} {A : Ar} {CE : Nat → Rs → List Lf → (Nat → Rs → List Lf → Prop) → Prop} {CK : Nat → Rs → List Lf → Cont → Prop} {Dn : Nat → List Bool → List AItem → Nat → List Bool → List AV → List ABlk → Prop} {EV RR : Nat → Rs → List Lf → Prop} (W : Wk Try.prog Try.f81 I81 L81 Q A sg CE CK Dn EV RR) : V81 EV Q := by
  have hA := W.hA
  refine ⟨?_, ?_⟩
  · intro R0 t1 t2 t7 tb0 h
    refine W.step 80 fun hp => ?_
    have h := h hp.1
    cbv
    refine ⟨imI hA fun e0 => have c0 : (IntKind.wrap .i64 ((IntKind.wrap .i64 ((2 : Int) * t7)) + (1 : Int))) < t2 := (by have q := (cmpE (op := .geq) hA e0); subst hA; exact q); ⟨imI hA fun e1 => have c1 : (IntKind.wrap .i64 ((IntKind.wrap .i64 ((2 : Int) * t7)) + (1 : Int))) < (0 : Int) := (by have q := (cmpE (op := .lss) hA e1); subst hA; exact q); ⟨ndI hA (And.intro rfl rfl), ⟨ndI hA (by subst hA; exact hp.1), (by rw [W.rr]; exact (by subst hA; exact ((h.1 c0).1 c1)))⟩⟩, imI hA fun e1 => have c1 : (IntKind.wrap .i64 ((IntKind.wrap .i64 ((2 : Int) * t7)) + (1 : Int))) ≥ (0 : Int) := (by have q := (cmpE (op := .lss) hA e1); subst hA; exact q); ⟨imI hA fun e2 => have c2 : (IntKind.wrap .i64 ((IntKind.wrap .i64 ((IntKind.wrap .i64 ((2 : Int) * t7)) + (1 : Int))) + (1 : Int))) < t2 := (by have q := (cmpE (op := .lss) hA e2); subst hA; exact q); ⟨ndI hA (And.intro rfl rfl), ⟨ndI hA (by subst hA; exact hp.1), ?_⟩⟩, imI hA fun e2 => have c2 : (IntKind.wrap .i64 ((IntKind.wrap .i64 ((IntKind.wrap .i64 ((2 : Int) * t7)) + (1 : Int))) + (1 : Int))) ≥ t2 := (by have q := (cmpE (op := .lss) hA e2); subst hA; exact q); ⟨ndI hA (And.intro rfl rfl), ⟨ndI hA (by subst hA; exact hp.1), (by subst hA; exact (((h.1 c0).2 c1).2 c2))⟩⟩⟩⟩, imI hA fun e0 => have c0 : (IntKind.wrap .i64 ((IntKind.wrap .i64 ((2 : Int) * t7)) + (1 : Int))) ≥ t2 := (by have q := (cmpE (op := .geq) hA e0); subst hA; exact q); ⟨ndI hA (And.intro rfl rfl), ⟨ndI hA (by subst hA; exact hp.1), (by rw [W.rr]; exact (by subst hA; exact (h.2 c0)))⟩⟩⟩
    · refine W.call 80 (by rfl) (((h.1 c0).2 c1).1 c2) (by subst hA; rfl) (by subst hA; rfl) ?_
      rintro x rs vs hp3 hq3
      rcases hq3 with ⟨rfl, Y3_0, y3_0, rfl, rfl, k3⟩
      · cbv
        refine ⟨imI hA fun e4 => have c4 : y3_0 = true := (by have q := e4; subst hA; exact q); ⟨ndI hA (And.intro (by subst hA; exact (k3.1 c4).1) rfl), ⟨ndI hA (by subst hA; exact hp3.1), (by subst hA; exact (k3.1 c4).2)⟩⟩, imI hA fun e4 => have c4 : y3_0 = false := (by have q := e4; subst hA; exact q); ⟨ndI hA (And.intro (by subst hA; exact (k3.2 c4).1) rfl), ⟨ndI hA (by subst hA; exact hp3.1), (by subst hA; exact (k3.2 c4).2)⟩⟩⟩
  · intro R0 t1 t2 t7 t9 tb0 h
    refine W.step 80 fun hp => ?_
    have h := h hp.1
    cbv
    refine ⟨ndI hA (And.intro rfl rfl), ⟨ndI hA (by subst hA; exact hp.1), ?_⟩⟩
    · refine W.call 80 (by rfl) h (by subst hA; rfl) (by subst hA; rfl) ?_
      rintro x rs vs hp0 hq0
      rcases hq0 with ⟨rfl, Y0_0, y0_0, rfl, rfl, k0⟩
      · cbv
        refine ⟨imI hA fun e1 => have c1 : y0_0 = false := (by have q := (notE hA e1); subst hA; exact q); ⟨ndI hA (And.intro (by subst hA; exact (k0.1 c1).1) rfl), ⟨ndI hA (by subst hA; exact hp0.1), (by rw [W.rr]; exact (by subst hA; exact (k0.1 c1).2))⟩⟩, imI hA fun e1 => have c1 : y0_0 = true := (by have q := (notE hA e1); subst hA; exact q); ⟨ndI hA (And.intro (by subst hA; exact (k0.2 c1).1) rfl), ⟨ndI hA (by subst hA; exact hp0.1), ?_⟩⟩⟩
        · refine W.call 80 (by rfl) (k0.2 c1).2 (by subst hA; rfl) (by subst hA; rfl) ?_
          rintro x rs vs hp2 hq2
          rcases hq2 with ⟨rfl, Y2_0, rfl, rfl, k2⟩
          · cbv
            refine ⟨ndI hA (And.intro (by subst hA; exact k2.1) rfl), ⟨ndI hA (by subst hA; exact hp2.1), (by subst hA; exact k2.2)⟩⟩

end
set_option maxHeartbeats 0 in
/-- To enter. -/
theorem E81 {Q : Nat → Rs → List Lf → Prop} {R0 : List (List AV)} {a1 : Int} {a2 : Int} {ab0 : Nat} (h : pursS R0 = true → ∀ EV : Nat → Rs → List Lf → Prop, V81 EV Q →
    EV 7 [R0] [(Lf.i a1), (Lf.i a2), (Lf.i a1), (Lf.n ab0)]) :
    EC Try.prog G81 [R0] [.i a1, .i a2, .n ab0] Q := by
  obtain ⟨A, hA⟩ : ∃ A, A = arS := ⟨_, rfl⟩
  refine Inst.enter (I := I81) hA mixed F81_at sg L81 80 rfl fun CE CK Dn EV RR W hp => ?_
  have h := h hp.1 EV (V81.of W)
  cbv
  refine ⟨ndI hA (And.intro rfl rfl), ⟨ndI hA (by subst hA; exact hp.1), (by subst hA; exact h)⟩⟩

-- 121: (*signalbox/edf.items).Pop
section
structure V121 (EV Q : Nat → Rs → List Lf → Prop) : Prop where
  none : True

end
set_option maxHeartbeats 0 in
/-- To enter. -/
theorem E121 {Q : Nat → Rs → List Lf → Prop} {R0 : List (List AV)} {ab0 : Nat} (h : pursS R0 = true → ∀ EV : Nat → Rs → List Lf → Prop, V121 EV Q →
    ((0 : Int) ≤ (IntKind.wrap .i64 (((ab0 : Nat) : Int) - (1 : Int)))) ∧
    ((IntKind.wrap .i64 (((ab0 : Nat) : Int) - (1 : Int))) < ((ab0 : Nat) : Int)) ∧
    (R0[(Int.toNat (IntKind.wrap .i64 (((ab0 : Nat) : Int) - (1 : Int))))]? = some [(AV.int .i64 (cIS R0 (Int.toNat (IntKind.wrap .i64 (((ab0 : Nat) : Int) - (1 : Int)))) 0)), (AV.int .i64 (cIS R0 (Int.toNat (IntKind.wrap .i64 (((ab0 : Nat) : Int) - (1 : Int)))) 1))]) ∧
    ((IntKind.wrap .i64 (((ab0 : Nat) : Int) - (1 : Int))) ≤ ((ab0 : Nat) : Int)) ∧
    (Q 0 [R0] [(Lf.i (cIS R0 (Int.toNat (IntKind.wrap .i64 (((ab0 : Nat) : Int) - (1 : Int)))) 0)), (Lf.i (cIS R0 (Int.toNat (IntKind.wrap .i64 (((ab0 : Nat) : Int) - (1 : Int)))) 1)), (Lf.n (Int.toNat (IntKind.wrap .i64 (((ab0 : Nat) : Int) - (1 : Int)))))])) :
    EC Try.prog G121 [R0] [.n ab0] Q := by
  obtain ⟨A, hA⟩ : ∃ A, A = arS := ⟨_, rfl⟩
  refine Inst.enter (I := I121) hA mixed F121_at sg L121 80 rfl fun CE CK Dn EV RR W hp => ?_
  have h := h hp.1 EV ⟨trivial⟩
  cbv
  refine ⟨ndI hA rfl, ⟨ndI hA (And.intro (by subst hA; exact h.1) (And.intro (by subst hA; exact h.2.1) rfl)), ⟨ndI hA (And.intro rfl (by subst hA; show R0[(0 + (Int.toNat (IntKind.wrap .i64 (((ab0 : Nat) : Int) - (1 : Int)))))]? = some [(AV.int .i64 (cIS R0 (0 + (Int.toNat (IntKind.wrap .i64 (((ab0 : Nat) : Int) - (1 : Int))))) 0)), (AV.int .i64 (cIS R0 (0 + (Int.toNat (IntKind.wrap .i64 (((ab0 : Nat) : Int) - (1 : Int))))) 1))]; (try simp only [rappS_end, Nat.zero_add, Int.toNat_natCast]); exact h.2.2.1)), ⟨ndI hA (And.intro (by subst hA; exact h.1) (And.intro (by subst hA; exact h.2.2.2.1) rfl)), ⟨ndI hA (And.intro rfl rfl), ⟨ndI hA (by subst hA; exact hp.1), (by rw [W.rr]; exact (by subst hA; show Q 0 [R0] [(Lf.i (cIS R0 (0 + (Int.toNat (IntKind.wrap .i64 (((ab0 : Nat) : Int) - (1 : Int))))) 0)), (Lf.i (cIS R0 (0 + (Int.toNat (IntKind.wrap .i64 (((ab0 : Nat) : Int) - (1 : Int))))) 1)), (Lf.n (Int.toNat (IntKind.wrap .i64 (((ab0 : Nat) : Int) - (1 : Int)))))]; (try simp only [rappS_end, Nat.zero_add, Int.toNat_natCast]); exact h.2.2.2.2))⟩⟩⟩⟩⟩⟩

-- 72: container/heap.Pop
section
structure V72 (EV Q : Nat → Rs → List Lf → Prop) : Prop where
  none : True

end
set_option maxHeartbeats 0 in
/-- To enter. -/
theorem E72 {Q : Nat → Rs → List Lf → Prop} {R0 : List (List AV)} {ab0 : Nat} (h : pursS R0 = true → ∀ EV : Nat → Rs → List Lf → Prop, V72 EV Q →
    EC Try.prog G70 [R0] [(Lf.n ab0)] (fun x rs vs => (x = 0 ∧ ∃ (Y0_0 : List (List AV)) (y0_0 : Int), rs = [Y0_0] ∧ vs = [.i y0_0] ∧
      (((List.length R0) = (List.length Y0_0)) ∧
        (EC Try.prog G123 [Y0_0] [(Lf.n ab0), (Lf.i (0 : Int)), (Lf.i (IntKind.wrap .i64 (y0_0 - (1 : Int))))] (fun x rs vs => (x = 0 ∧ ∃ (Y1_0 : List (List AV)), rs = [Y1_0] ∧ vs = [] ∧
          (((List.length R0) = (List.length Y1_0)) ∧
            (EC Try.prog G81 [Y1_0] [(Lf.i (0 : Int)), (Lf.i (IntKind.wrap .i64 (y0_0 - (1 : Int)))), (Lf.n ab0)] (fun x rs vs => (x = 0 ∧ ∃ (Y2_0 : List (List AV)) (y2_0 : Bool) (y2_b0 : Nat), rs = [Y2_0] ∧ vs = [.b y2_0, .n y2_b0] ∧
              (EC Try.prog G121 [Y2_0] [(Lf.n y2_b0)] (fun x rs vs => (x = 0 ∧ ∃ (Y3_0 : List (List AV)) (y3_0_0 : Int) (y3_0_1 : Int) (y3_b0 : Nat), rs = [Y3_0] ∧ vs = [.i y3_0_0, .i y3_0_1, .n y3_b0] ∧
                  (Q 0 [Y3_0] [(Lf.i y3_0_0), (Lf.i y3_0_1), (Lf.n y3_b0)]))))))))))))))) :
    EC Try.prog G72 [R0] [.n ab0] Q := by
  obtain ⟨A, hA⟩ : ∃ A, A = arS := ⟨_, rfl⟩
  refine Inst.enter (I := I72) hA mixed F72_at sg L72 80 rfl fun CE CK Dn EV RR W hp => ?_
  have h := h hp.1 EV ⟨trivial⟩
  cbv
  refine ⟨ndI hA (And.intro rfl rfl), ⟨ndI hA (by subst hA; exact hp.1), ?_⟩⟩
  · refine W.call 80 (by rfl) h (by subst hA; rfl) (by subst hA; rfl) ?_
    rintro x rs vs hp0 hq0
    rcases hq0 with ⟨rfl, Y0_0, y0_0, rfl, rfl, k0⟩
    · cbv
      refine ⟨ndI hA (And.intro (by subst hA; exact k0.1) rfl), ⟨ndI hA (by subst hA; exact hp0.1), ?_⟩⟩
      · refine W.call 80 (by rfl) k0.2 (by subst hA; rfl) (by subst hA; rfl) ?_
        rintro x rs vs hp1 hq1
        rcases hq1 with ⟨rfl, Y1_0, rfl, rfl, k1⟩
        · cbv
          refine ⟨ndI hA (And.intro (by subst hA; exact k1.1) rfl), ⟨ndI hA (by subst hA; exact hp1.1), ?_⟩⟩
          · refine W.call 80 (by rfl) k1.2 (by subst hA; rfl) (by subst hA; rfl) ?_
            rintro x rs vs hp2 hq2
            rcases hq2 with ⟨rfl, Y2_0, y2_0, y2_b0, rfl, rfl, k2⟩
            · cbv
              refine ⟨ndI hA (And.intro rfl rfl), ⟨ndI hA (by subst hA; exact hp2.1), ?_⟩⟩
              · refine W.call 80 (by rfl) k2 (by subst hA; rfl) (by subst hA; rfl) ?_
                rintro x rs vs hp3 hq3
                rcases hq3 with ⟨rfl, Y3_0, y3_0_0, y3_0_1, y3_b0, rfl, rfl, k3⟩
                · cbv
                  refine ⟨ndI hA (And.intro rfl rfl), ⟨ndI hA (by subst hA; exact hp3.1), (by rw [W.rr]; exact (by subst hA; exact k3))⟩⟩

end Go.Ab
