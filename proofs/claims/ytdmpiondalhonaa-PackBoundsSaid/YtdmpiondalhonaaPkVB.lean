/- PRINTED BY A PROGRAM (wip/tools/vc.py, AbVc.lean): what is to be shown of each function, from place to place, and that it is enough. -/
import Derived.Test.YtdmpiondalhonaaPkS
import Derived.Test.YtdmpiondalhonaaPkV
import Derived.Test.YtdmpiondalhonaaAbV0
namespace Go.Ab
open Go Go.Proofs
set_option linter.unusedVariables false
set_option linter.unusedSimpArgs false
set_option maxRecDepth 100000

-- 12: signalbox/signalboxlaw44.PackBounds
section
structure V12 (EV Q : Nat → Rs → List Lf → Prop) : Prop where
  p27 : ∀ {t0 : List (List AV)} {t1 : Int} {t5 : Int} {t6 : Int} {t29 : List (List AV)} {t30 : Int} {t31 : Int}, (
    (t31 < t30 →
      ((0 : Int) ≤ t31) ∧
      (t29[(Int.toNat t31)]? = some [(AV.int .i64 (cIS t29 (Int.toNat t31) 0))]) ∧
      (EV 27 [] [(Lf.r t0), (Lf.i t1), (Lf.i t5), (Lf.i (IntKind.wrap .i64 (t6 + (cIS t29 (Int.toNat t31) 0)))), (Lf.r t29), (Lf.i t30), (Lf.i (IntKind.wrap .i64 (t31 + (1 : Int))))])) ∧
    (t31 ≥ t30 →
      EV 39 [] [(Lf.r t0), (Lf.i t1), (Lf.i t5), (Lf.i t6)])) →
    EV 27 [] [.r t0, .i t1, .i t5, .i t6, .r t29, .i t30, .i t31]
  p39 : ∀ {t0 : List (List AV)} {t1 : Int} {t5 : Int} {t6 : Int}, (
    EC Try.prog G35 [] [(Lf.r t0), (Lf.i t1)] (fun x rs vs => (x = 0 ∧ ∃ (Y0_0 : List (List AV)) (y0_1 : Int), rs = [Y0_0] ∧ vs = [.i y0_1] ∧
      (EC Try.prog G36 [] [(Lf.r t0), (Lf.i t1)] (fun x rs vs => (x = 0 ∧ ∃ (Y1_0 : List (List AV)) (y1_1 : Int), rs = [Y1_0] ∧ vs = [.i y1_1] ∧
          (EC Try.prog G37 [] [(Lf.r t0), (Lf.i t1)] (fun x rs vs => (x = 0 ∧ ∃ (Y2_0 : List (List AV)) (y2_1 : Int), rs = [Y2_0] ∧ vs = [.i y2_1] ∧
              (EC Try.prog G34 [] [(Lf.r t0), (Lf.i t1), (Lf.r (List.take (List.length Y0_0) (List.drop 0 Y0_0)))] (fun x rs vs => (x = 0 ∧ ∃ (y3_0 : Bool), rs = [] ∧ vs = [.b y3_0] ∧
                  ((y3_0 = true →
                      EC Try.prog G34 [] [(Lf.r t0), (Lf.i t1), (Lf.r (List.take (List.length Y1_0) (List.drop 0 Y1_0)))] (fun x rs vs => (x = 0 ∧ ∃ (y5_0 : Bool), rs = [] ∧ vs = [.b y5_0] ∧
                        ((y5_0 = true →
                            EC Try.prog G34 [] [(Lf.r t0), (Lf.i t1), (Lf.r (List.take (List.length Y2_0) (List.drop 0 Y2_0)))] (fun x rs vs => (x = 0 ∧ ∃ (y7_0 : Bool), rs = [] ∧ vs = [.b y7_0] ∧
                              ((y7_0 = true →
                                  ((IntKind.wrap .i64 ((IntKind.wrap .i64 (t5 - (1 : Int))) * t1)) ≥ t6 →
                                    (t5 ≤ (0 : Int) →
                                      ((IntKind.wrap .i64 (t5 * t1)) < t6 →
                                        Q 0 [] [(Lf.b false)]) ∧
                                      ((IntKind.wrap .i64 (t5 * t1)) ≥ t6 →
                                        EV 53 [] [(Lf.i t5), (Lf.i y0_1), (Lf.i y1_1), (Lf.i y2_1)])) ∧
                                    (t5 > (0 : Int) →
                                      Q 0 [] [(Lf.b false)])) ∧
                                  ((IntKind.wrap .i64 ((IntKind.wrap .i64 (t5 - (1 : Int))) * t1)) < t6 →
                                    ((IntKind.wrap .i64 (t5 * t1)) < t6 →
                                      Q 0 [] [(Lf.b false)]) ∧
                                    ((IntKind.wrap .i64 (t5 * t1)) ≥ t6 →
                                      EV 53 [] [(Lf.i t5), (Lf.i y0_1), (Lf.i y1_1), (Lf.i y2_1)]))) ∧
                                (y7_0 = false →
                                  Q 0 [] [(Lf.b false)]))))) ∧
                          (y5_0 = false →
                            Q 0 [] [(Lf.b false)]))))) ∧
                    (y3_0 = false →
                      Q 0 [] [(Lf.b false)])))))))))))))) →
    EV 39 [] [.r t0, .i t1, .i t5, .i t6]
  p53 : ∀ {t5 : Int} {t10 : Int} {t12 : Int} {t14 : Int}, (
    (t10 ≥ t5 →
      (t12 ≥ t5 →
        (t14 ≥ t5 →
          (t10 < (IntKind.wrap .i64 ((IntKind.wrap .i64 ((2 : Int) * t5)) + (1 : Int))) →
            (t12 < (IntKind.wrap .i64 ((IntKind.wrap .i64 ((2 : Int) * t5)) + (1 : Int))) →
              Q 0 [] [(Lf.b (decide (t14 < (IntKind.wrap .i64 ((IntKind.wrap .i64 ((2 : Int) * t5)) + (1 : Int))))))]) ∧
            (t12 ≥ (IntKind.wrap .i64 ((IntKind.wrap .i64 ((2 : Int) * t5)) + (1 : Int))) →
              Q 0 [] [(Lf.b false)])) ∧
          (t10 ≥ (IntKind.wrap .i64 ((IntKind.wrap .i64 ((2 : Int) * t5)) + (1 : Int))) →
            Q 0 [] [(Lf.b false)])) ∧
        (t14 < t5 →
          Q 0 [] [(Lf.b false)])) ∧
      (t12 < t5 →
        Q 0 [] [(Lf.b false)])) ∧
    (t10 < t5 →
      Q 0 [] [(Lf.b false)])) →
    EV 53 [] [.i t5, .i t10, .i t12, .i t14]

set_option maxHeartbeats 0 in
theorem V12.of {Q : Nat → Rs → List Lf → Prop} {A : Ar} {CE : Nat → Rs → List Lf → (Nat → Rs → List Lf → Prop) → Prop} {CK : Nat → Rs → List Lf → Cont → Prop} {Dn : Nat → List Bool → List AItem → Nat → List Bool → List AV → List ABlk → Prop} {EV RR : Nat → Rs → List Lf → Prop} (W : Wk Try.prog Try.f12 I12 L12 Q A sg CE CK Dn EV RR) : V12 EV Q := by
  have hA := W.hA
  refine ⟨?_, ?_, ?_⟩
  · intro t0 t1 t5 t6 t29 t30 t31 h
    refine W.step 80 fun hp => ?_
    cbv
    refine ⟨imI hA fun e0 => have c0 : t31 < t30 := (by have q := (cmpE (op := .lss) hA e0); subst hA; exact q); ⟨ndI hA (And.intro (by subst hA; exact (h.1 c0).1) (by subst hA; exact (h.1 c0).2.1)), (by subst hA; exact (h.1 c0).2.2)⟩, imI hA fun e0 => have c0 : t31 ≥ t30 := (by have q := (cmpE (op := .lss) hA e0); subst hA; exact q); (by subst hA; exact (h.2 c0))⟩
  · intro t0 t1 t5 t6 h
    refine W.step 80 fun hp => ?_
    cbv
    refine ?_
    · refine W.call 80 (by rfl) h (by subst hA; rfl) (by subst hA; rfl) ?_
      rintro x rs vs hp0 hq0
      rcases hq0 with ⟨rfl, Y0_0, y0_1, rfl, rfl, k0⟩
      · cbv
        refine ?_
        · refine W.call 80 (by rfl) k0 (by subst hA; rfl) (by subst hA; rfl) ?_
          rintro x rs vs hp1 hq1
          rcases hq1 with ⟨rfl, Y1_0, y1_1, rfl, rfl, k1⟩
          · cbv
            refine ?_
            · refine W.call 80 (by rfl) k1 (by subst hA; rfl) (by subst hA; rfl) ?_
              rintro x rs vs hp2 hq2
              rcases hq2 with ⟨rfl, Y2_0, y2_1, rfl, rfl, k2⟩
              · cbv
                refine ⟨ndI hA (And.intro (And.intro (by subst hA; exact hp0.1) (And.intro (by subst hA; exact hp1.1) (And.intro (by subst hA; exact hp2.1) trivial))) (And.intro rfl trivial)), ?_⟩
                · refine W.call 80 (by rfl) k2 (by subst hA; rfl) (by subst hA; rfl) ?_
                  rintro x rs vs hp3 hq3
                  rcases hq3 with ⟨rfl, y3_0, rfl, rfl, k3⟩
                  · cbv
                    refine ⟨imI hA fun e4 => have c4 : y3_0 = true := (by have q := (notE hA e4); subst hA; exact q); ⟨ndI hA (And.intro (And.intro (by subst hA; exact hp1.1) (And.intro (by subst hA; exact hp2.1) trivial)) (And.intro rfl trivial)), ?_⟩, imI hA fun e4 => have c4 : y3_0 = false := (by have q := (notE hA e4); subst hA; exact q); ?_⟩
                    · refine W.call 80 (by rfl) (k3.1 c4) (by subst hA; rfl) (by subst hA; rfl) ?_
                      rintro x rs vs hp5 hq5
                      rcases hq5 with ⟨rfl, y5_0, rfl, rfl, k5⟩
                      · cbv
                        refine ?_
                        · refine W.draw 80 (by rfl) ?_
                          cbv
                          refine ⟨imI hA fun e6 => have c6 : y5_0 = true := (by have q := (notE hA e6); subst hA; exact q); ⟨ndI hA (And.intro (And.intro (by subst hA; exact hp2.1) trivial) (And.intro rfl trivial)), ?_⟩, imI hA fun e6 => have c6 : y5_0 = false := (by have q := (notE hA e6); subst hA; exact q); ?_⟩
                          · refine W.call 80 (by rfl) (k5.1 c6) (by subst hA; rfl) (by subst hA; rfl) ?_
                            rintro x rs vs hp7 hq7
                            rcases hq7 with ⟨rfl, y7_0, rfl, rfl, k7⟩
                            · cbv
                              refine ?_
                              · refine W.draw 80 (by rfl) ?_
                                cbv
                                refine ⟨imI hA fun e8 => have c8 : y7_0 = true := (by have q := (notE hA e8); subst hA; exact q); ⟨imI hA fun e9 => have c9 : (IntKind.wrap .i64 ((IntKind.wrap .i64 (t5 - (1 : Int))) * t1)) ≥ t6 := (by have q := (cmpE (op := .geq) hA e9); subst hA; exact q); ?_, imI hA fun e9 => have c9 : (IntKind.wrap .i64 ((IntKind.wrap .i64 (t5 - (1 : Int))) * t1)) < t6 := (by have q := (cmpE (op := .geq) hA e9); subst hA; exact q); ?_⟩, imI hA fun e8 => have c8 : y7_0 = false := (by have q := (notE hA e8); subst hA; exact q); ?_⟩
                                · refine W.draw 80 (by rfl) ?_
                                  cbv
                                  refine ⟨imI hA fun e10 => have c10 : t5 ≤ (0 : Int) := (by have q := (cmpE (op := .gtr) hA e10); subst hA; exact q); ⟨imI hA fun e11 => have c11 : (IntKind.wrap .i64 (t5 * t1)) < t6 := (by have q := (cmpE (op := .lss) hA e11); subst hA; exact q); (by rw [W.rr]; exact (by subst hA; exact ((((k7.1 c8).1 c9).1 c10).1 c11))), imI hA fun e11 => have c11 : (IntKind.wrap .i64 (t5 * t1)) ≥ t6 := (by have q := (cmpE (op := .lss) hA e11); subst hA; exact q); (by subst hA; exact ((((k7.1 c8).1 c9).1 c10).2 c11))⟩, imI hA fun e10 => have c10 : t5 > (0 : Int) := (by have q := (cmpE (op := .gtr) hA e10); subst hA; exact q); (by rw [W.rr]; exact (by subst hA; exact (((k7.1 c8).1 c9).2 c10)))⟩
                                · refine W.draw 80 (by rfl) ?_
                                  cbv
                                  refine ⟨imI hA fun e10 => have c10 : (IntKind.wrap .i64 (t5 * t1)) < t6 := (by have q := (cmpE (op := .lss) hA e10); subst hA; exact q); (by rw [W.rr]; exact (by subst hA; exact (((k7.1 c8).2 c9).1 c10))), imI hA fun e10 => have c10 : (IntKind.wrap .i64 (t5 * t1)) ≥ t6 := (by have q := (cmpE (op := .lss) hA e10); subst hA; exact q); (by subst hA; exact (((k7.1 c8).2 c9).2 c10))⟩
                                · refine W.draw 80 (by rfl) ?_
                                  cbv
                                  refine (by rw [W.rr]; exact (by subst hA; exact (k7.2 c8)))
                          · refine W.draw 80 (by rfl) ?_
                            cbv
                            refine ?_
                            · refine W.draw 80 (by rfl) ?_
                              cbv
                              refine (by rw [W.rr]; exact (by subst hA; exact (k5.2 c6)))
                    · refine W.draw 80 (by rfl) ?_
                      cbv
                      refine ?_
                      · refine W.draw 80 (by rfl) ?_
                        cbv
                        refine ?_
                        · refine W.draw 80 (by rfl) ?_
                          cbv
                          refine (by rw [W.rr]; exact (by subst hA; exact (k3.2 c4)))
  · intro t5 t10 t12 t14 h
    refine W.step 80 fun hp => ?_
    cbv
    refine ⟨imI hA fun e0 => have c0 : t10 ≥ t5 := (by have q := (cmpE (op := .geq) hA e0); subst hA; exact q); ⟨imI hA fun e1 => have c1 : t12 ≥ t5 := (by have q := (cmpE (op := .geq) hA e1); subst hA; exact q); ⟨imI hA fun e2 => have c2 : t14 ≥ t5 := (by have q := (cmpE (op := .geq) hA e2); subst hA; exact q); ⟨imI hA fun e3 => have c3 : t10 < (IntKind.wrap .i64 ((IntKind.wrap .i64 ((2 : Int) * t5)) + (1 : Int))) := (by have q := (cmpE (op := .lss) hA e3); subst hA; exact q); ⟨imI hA fun e4 => have c4 : t12 < (IntKind.wrap .i64 ((IntKind.wrap .i64 ((2 : Int) * t5)) + (1 : Int))) := (by have q := (cmpE (op := .lss) hA e4); subst hA; exact q); (by rw [W.rr]; exact (by subst hA; exact (((((h.1 c0).1 c1).1 c2).1 c3).1 c4))), imI hA fun e4 => have c4 : t12 ≥ (IntKind.wrap .i64 ((IntKind.wrap .i64 ((2 : Int) * t5)) + (1 : Int))) := (by have q := (cmpE (op := .lss) hA e4); subst hA; exact q); (by rw [W.rr]; exact (by subst hA; exact (((((h.1 c0).1 c1).1 c2).1 c3).2 c4)))⟩, imI hA fun e3 => have c3 : t10 ≥ (IntKind.wrap .i64 ((IntKind.wrap .i64 ((2 : Int) * t5)) + (1 : Int))) := (by have q := (cmpE (op := .lss) hA e3); subst hA; exact q); (by rw [W.rr]; exact (by subst hA; exact ((((h.1 c0).1 c1).1 c2).2 c3)))⟩, imI hA fun e2 => have c2 : t14 < t5 := (by have q := (cmpE (op := .geq) hA e2); subst hA; exact q); (by rw [W.rr]; exact (by subst hA; exact (((h.1 c0).1 c1).2 c2)))⟩, imI hA fun e1 => have c1 : t12 < t5 := (by have q := (cmpE (op := .geq) hA e1); subst hA; exact q); (by rw [W.rr]; exact (by subst hA; exact ((h.1 c0).2 c1)))⟩, imI hA fun e0 => have c0 : t10 < t5 := (by have q := (cmpE (op := .geq) hA e0); subst hA; exact q); (by rw [W.rr]; exact (by subst hA; exact (h.2 c0)))⟩

end
set_option maxHeartbeats 0 in
/-- To enter. -/
theorem E12 {Q : Nat → Rs → List Lf → Prop} {a0 : List (List AV)} {a1 : Int} (h : ∀ EV : Nat → Rs → List Lf → Prop, V12 EV Q →
    EC Try.prog G32 [] [] (fun x rs vs => (x = 0 ∧ ∃ (y0_0 : Bool), rs = [] ∧ vs = [.b y0_0] ∧
      ((y0_0 = false →
          Q 0 [] [(Lf.b false)]) ∧
        (y0_0 = true →
          ((((List.length a0) : Nat) : Int) ≤ (200 : Int) →
            EC Try.prog G33 [] [(Lf.r a0), (Lf.i a1)] (fun x rs vs => (x = 0 ∧ ∃ (y3_0 : Bool), rs = [] ∧ vs = [.b y3_0] ∧
              ((y3_0 = false →
                  Q 0 [] [(Lf.b true)]) ∧
                (y3_0 = true →
                  EC Try.prog G38 [] [(Lf.r a0), (Lf.i a1)] (fun x rs vs => (x = 0 ∧ ∃ (y5_0 : Int), rs = [] ∧ vs = [.i y5_0] ∧
                    (EV 27 [] [(Lf.r a0), (Lf.i a1), (Lf.i y5_0), (Lf.i (0 : Int)), (Lf.r a0), (Lf.i (((List.length a0) : Nat) : Int)), (Lf.i (0 : Int))])))))))) ∧
          ((((List.length a0) : Nat) : Int) > (200 : Int) →
            Q 0 [] [(Lf.b true)])))))) :
    EC Try.prog G12 [] [.r a0, .i a1] Q := by
  obtain ⟨A, hA⟩ : ∃ A, A = arS := ⟨_, rfl⟩
  refine Inst.enter (I := I12) hA mixed F12_at sg L12 80 rfl fun CE CK Dn EV RR W hp => ?_
  have h := h  EV (V12.of W)
  cbv
  refine ?_
  · refine W.call 80 (by rfl) h (by subst hA; rfl) (by subst hA; rfl) ?_
    rintro x rs vs hp0 hq0
    rcases hq0 with ⟨rfl, y0_0, rfl, rfl, k0⟩
    · cbv
      refine ⟨imI hA fun e1 => have c1 : y0_0 = false := (by have q := (notE hA e1); subst hA; exact q); (by rw [W.rr]; exact (by subst hA; exact (k0.1 c1))), imI hA fun e1 => have c1 : y0_0 = true := (by have q := (notE hA e1); subst hA; exact q); ⟨imI hA fun e2 => have c2 : (((List.length a0) : Nat) : Int) ≤ (200 : Int) := (by have q := (cmpE (op := .gtr) hA e2); subst hA; exact q); ?_, imI hA fun e2 => have c2 : (((List.length a0) : Nat) : Int) > (200 : Int) := (by have q := (cmpE (op := .gtr) hA e2); subst hA; exact q); (by rw [W.rr]; exact (by subst hA; exact ((k0.2 c1).2 c2)))⟩⟩
      · refine W.call 80 (by rfl) ((k0.2 c1).1 c2) (by subst hA; rfl) (by subst hA; rfl) ?_
        rintro x rs vs hp3 hq3
        rcases hq3 with ⟨rfl, y3_0, rfl, rfl, k3⟩
        · cbv
          refine ⟨imI hA fun e4 => have c4 : y3_0 = false := (by have q := (notE hA e4); subst hA; exact q); (by rw [W.rr]; exact (by subst hA; exact (k3.1 c4))), imI hA fun e4 => have c4 : y3_0 = true := (by have q := (notE hA e4); subst hA; exact q); ?_⟩
          · refine W.call 80 (by rfl) (k3.2 c4) (by subst hA; rfl) (by subst hA; rfl) ?_
            rintro x rs vs hp5 hq5
            rcases hq5 with ⟨rfl, y5_0, rfl, rfl, k5⟩
            · cbv
              refine (by subst hA; exact k5)

end Go.Ab
