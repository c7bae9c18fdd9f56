import Derived.Test.YtmmoffbompnihaaDoorQS
import Derived.Test.YtmmoffbompnihaaDoorLayG
/- PRINTED BY A PROGRAM (wip/tools/vc.py, AbVc.lean): what is to be shown of each function, from place to place, and that it is enough. -/
namespace Go.Ab
open Go Go.Proofs
set_option linter.unusedVariables false
set_option linter.unusedSimpArgs false
set_option maxRecDepth 100000
set_option maxHeartbeats 0
variable {Q EV RR : EP} {A : Ar} {CE : Nat → Rs → List Lf → EP → Prop} {CK : Nat → Rs → List Lf → Cont → Prop} {Dn : Nat → List Bool → List AItem → Nat → List Bool → List AV → List ABlk → Prop}

-- 82: signalbox/prog.read DRAWN
structure V82 (EV Q : EP) : Prop where
  p21 : ∀ {t30 : RW} {t31 t32 b0 b1 b2 d0 d1 d2 : Int}, ((t32 < t31 → (0 ≤ t32) ∧ (t30[t32.toNat]? = some [.str (cSS t30 t32.toNat 0)]) ∧ (EZ G103 [] [.s (cSS t30 t32.toNat 0)] (fun x rs vs => (x = 0 ∧ ∃ y1_0 y1_1, rs = [] ∧ vs = [.i y1_0, .b y1_1] ∧ ((y1_1 = false → Q 0 [] [.i 0, .i 0, .i 0, .b false]) ∧ (y1_1 = true → EV 41 [] [.i t32, .i y1_0, .r t30, .i t31, .i t32, .i b0, .i b1, .i b2, .i d0, .i d1, .i d2])))))) ∧ (t32 ≥ t31 → Q 0 [] [.i d0, .i d1, .i d2, .b true])) → EV 21 [] [.r t30, .i t31, .i t32, .i b0, .i b1, .i b2, .i d0, .i d1, .i d2]
  p41a : ∀ {t9 : Int} {t30 : RW} {t31 t32 b0 b1 b2 d0 d1 d2 : Int}, (EV 21 [] [.r t30, .i t31, .i (IntKind.wrap .i64 (t32 + 1)), .i b0, .i b1, .i b2, .i d0, .i t9, .i d2]) → EV 41 [] [.i 0, .i t9, .r t30, .i t31, .i t32, .i b0, .i b1, .i b2, .i d0, .i d1, .i d2]
  p41b : ∀ {t9 : Int} {t30 : RW} {t31 t32 b0 b1 b2 d0 d1 d2 : Int}, (EV 21 [] [.r t30, .i t31, .i (IntKind.wrap .i64 (t32 + 1)), .i b0, .i b1, .i b2, .i d0, .i d1, .i t9]) → EV 41 [] [.i 1, .i t9, .r t30, .i t31, .i t32, .i b0, .i b1, .i b2, .i d0, .i d1, .i d2]

theorem V82.of (W : Wk Tryd.prog Tryd.f82 I82 L82 Q A sg CE CK Dn EV RR) : V82 EV Q := by
 have hA := W.hA
 refine ⟨?_, ?_, ?_⟩
 ·intro t30 t31 t32 b0 b1 b2 d0 d1 d2 h
  refine W.step 80 fun hp => ?_
  cbv
  refine ⟨imI hA fun e0 => have j0 := h.1 (cmpE (op := .lss) hA e0); ⟨ndI hA (An j0.1 (hA ▸ j0.2.1)), ?_⟩, imI hA fun e0 => have j0 := h.2 (cmpE (op := .lss) hA e0); (W.q j0)⟩
  refine W.cl j0.2.2 ?_
  rintro _ _ _ hp1 (⟨rfl, y1_0, y1_1, rfl, rfl, k1⟩)
  cbv
  subst hA
  exact ⟨fun e2 => have j2 := k1.1 ((notE rfl e2)); (W.q j2), fun e2 => have j2 := k1.2 ((notE rfl e2)); j2⟩
 ·intro t9 t30 t31 t32 b0 b1 b2 d0 d1 d2 h
  refine W.step 80 fun hp => ?_
  have h1 : A.cX [[.bptr 1 1], [.bptr 1 2]] (A.adz 0 (A.tn 0)) = [.bptr 1 1] := by subst hA; rfl
  cbv at h1 ⊢
  simp only [h1]
  cbv
  subst hA
  exact ⟨⟨show (0 : Int) ≤ 0 by decide, show (0 : Int) < 2 by decide, rfl⟩, ⟨rfl, rfl⟩, h⟩
 ·intro t9 t30 t31 t32 b0 b1 b2 d0 d1 d2 h
  refine W.step 80 fun hp => ?_
  have h1 : A.cX [[.bptr 1 1], [.bptr 1 2]] (A.adz 0 (A.tn 1)) = [.bptr 1 2] := by subst hA; rfl
  cbv at h1 ⊢
  simp only [h1]
  cbv
  subst hA
  exact ⟨⟨show (0 : Int) ≤ 1 by decide, show (1 : Int) < 2 by decide, rfl⟩, ⟨rfl, rfl⟩, h⟩

theorem E82 {a0 : ByteArray} (h : ∀ EV, V82 EV Q → EZ G52 [] [.s a0, .s (ByteArray.mk (Array.mk [32]))] (fun x rs vs => (x = 0 ∧ ∃ y0_0, rs = [] ∧ vs = [.r y0_0] ∧ (EZ G77 [] [] (fun x rs vs => (x = 0 ∧ ∃ y1_0, rs = [] ∧ vs = [.r y1_0] ∧ (EZ G101 [] [.r y1_0, .r y0_0] (fun x rs vs => (x = 0 ∧ ∃ y2_0 y2_b0, rs = [] ∧ vs = [.i y2_0, .r y2_b0] ∧ ((y2_0 < 1 → Q 0 [] [.i 0, .i 0, .i 0, .b false]) ∧ (y2_0 ≥ 1 → EZ G37 [] [.i y2_0] (fun x rs vs => (x = 0 ∧ ∃ y4_0, rs = [] ∧ vs = [.i y4_0] ∧ (((y2_b0.length : Int) ≠ (IntKind.wrap .i64 (1 + y4_0)) → Q 0 [] [.i 0, .i 0, .i 0, .b false]) ∧ ((y2_b0.length : Int) = (IntKind.wrap .i64 (1 + y4_0)) → ((0 : Int) ≤ 1) ∧ (1 ≤ (y2_b0.length : Int)) ∧ (EV 21 [] [.r (List.drop (Int.toNat 1) y2_b0), .i ((List.length (List.drop (Int.toNat 1) y2_b0)) : Int), .i 0, .i 0, .i 0, .i 0, .i y2_0, .i 0, .i 0])))))))))))))))) : EZ G82 [] [.s a0] Q := by
 refine Inst.en (I := I82) (L := L82) F82_at fun A hA CE CK Dn EV RR W hp => ?_
 have h := h  EV (V82.of W)
 cbv
 refine W.cl h ?_
 rintro _ _ _ hp0 (⟨rfl, y0_0, rfl, rfl, k0⟩)
 cbv
 refine W.cl k0 ?_
 rintro _ _ _ hp1 (⟨rfl, y1_0, rfl, rfl, k1⟩)
 cbv
 refine W.cl k1 ?_
 rintro _ _ _ hp2 (⟨rfl, y2_0, y2_b0, rfl, rfl, k2⟩)
 cbv
 refine ⟨fun e3 => have c3 : y2_0 < 1 := (by have q := (cmpE (op := .lss) hA e3); subst hA; exact q); ?_, fun e3 => have c3 : y2_0 ≥ 1 := (by have q := (cmpE (op := .lss) hA e3); subst hA; exact q); ?_⟩
 ·refine W.draw 80 (by rfl) ?_
  cbv
  subst hA
  exact ⟨(W.q (k2.1 c3)), trivial⟩
 ·refine W.draw 80 (by rfl) ?_
  cbv
  refine ⟨?_, trivial⟩
  refine W.cd (k2.2 c3) ?_
  rintro _ _ _ hp4 (⟨rfl, y4_0, rfl, rfl, k4⟩)
  cbv
  refine W.draw 80 (by rfl) ?_
  cbv
  subst hA
  exact ⟨fun e5 => have j5 := k4.1 ((cmpE (op := .neq) rfl e5)); (W.q j5), fun e5 => have j5 := k4.2 ((cmpE (op := .neq) rfl e5)); ⟨(An j5.1 j5.2.1), j5.2.2⟩⟩

end Go.Ab
