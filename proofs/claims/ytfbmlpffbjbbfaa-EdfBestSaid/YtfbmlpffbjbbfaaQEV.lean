import Derived.Test.YtfbmlpffbjbbfaaQS
import Derived.Test.YtfbmlpffbjbbfaaLayG
/- PRINTED BY A PROGRAM (wip/tools/vc.py, AbVc.lean): what is to be shown of each function, from place to place, and that it is enough. -/
namespace Go.Ab
open Go Go.Proofs
set_option linter.unusedVariables false
set_option linter.unusedSimpArgs false
set_option maxRecDepth 100000
set_option maxHeartbeats 0
variable {Q EV RR : EP} {A : Ar} {CE : Nat → Rs → List Lf → EP → Prop} {CK : Nat → Rs → List Lf → Cont → Prop} {Dn : Nat → List Bool → List AItem → Nat → List Bool → List AV → List ABlk → Prop}

-- 10: signalbox/edf.clamp
structure V10 (EV Q : EP) : Prop where
  none : True

theorem E10 {a0 : Int} (h : ∀ EV, V10 EV Q → Q 0 [] [.i (arS.mn (arS.mx a0 0) 1048576)]) : EZ G10 [] [.i a0] Q := by
 refine Inst.en (I := I10) (L := L10) F10_at fun A hA CE CK Dn EV RR W hp => ?_
 have h := h  EV ⟨trivial⟩
 cbv
 subst hA
 exact (W.q h)

-- 15: signalbox/edf.run$1 DRAWN
structure V15 (EV Q : EP) : Prop where
  none : True

theorem E15 {a0 a1 : Int} {ab0 : RW} (h : ∀ EV, V15 EV Q → (0 ≤ a0) ∧ (ab0[a0.toNat]? = some (r3 ab0 a0.toNat)) ∧ (0 ≤ a1) ∧ (ab0[a1.toNat]? = some (r3 ab0 a1.toNat)) ∧ (EZ G10 [] [.i (cIS ab0 a0.toNat 0)] (fun x rs vs => (x = 0 ∧ ∃ y0_0, rs = [] ∧ vs = [.i y0_0] ∧ (EZ G10 [] [.i (cIS ab0 a1.toNat 0)] (fun x rs vs => (x = 0 ∧ ∃ y1_0, rs = [] ∧ vs = [.i y1_0] ∧ (Q 0 [] [.i (IntKind.wrap .i64 (y0_0 - y1_0)), .r ab0])))))))) : EZ G15 [] [.i a0, .i a1, .r ab0] Q := by
 refine Inst.en (I := I15) (L := L15) F15_at fun A hA CE CK Dn EV RR W hp => ?_
 have h := h  EV ⟨trivial⟩
 cbv
 refine ⟨ndI hA (An h.1 (hA ▸ h.2.1)), ⟨ndI hA (An h.2.2.1 (hA ▸ h.2.2.2.1)), ⟨?_, trivial⟩⟩⟩
 refine W.cd h.2.2.2.2 ?_
 rintro _ _ _ hp0 (⟨rfl, y0_0, rfl, rfl, k0⟩)
 cbv
 refine W.draw 80 (by rfl) ?_
 cbv
 refine ⟨?_, trivial⟩
 refine W.cd k0 ?_
 rintro _ _ _ hp1 (⟨rfl, y1_0, rfl, rfl, k1⟩)
 cbv
 refine W.draw 80 (by rfl) ?_
 cbv
 subst hA
 exact (W.q k1)

-- 24a: slices.insertionSortCmpFunc[int] DRAWN
structure V24a (EV Q : EP) : Prop where
  p4 : ∀ {R0 : RW} {t1 t2 t8 : Int} {tb1 : RW}, (pursS R0 = true → (t8 < t2 → EV 16 [R0] [.i t1, .i t2, .i t8, .i t8, .r tb1]) ∧ (t8 ≥ t2 → Q 0 [R0] [.r tb1])) → EV 4 [R0] [.i t1, .i t2, .i t8, .r tb1]
  p16 : ∀ {R0 : RW} {t1 t2 t8 t9 : Int} {tb1 : RW}, (pursS R0 = true → (t9 > t1 → (0 ≤ t9) ∧ (t9 < (R0.length : Int)) ∧ (R0[t9.toNat]? = some [.int .i64 (cIS R0 t9.toNat 0)]) ∧ (0 ≤ (IntKind.wrap .i64 (t9 - 1))) ∧ ((IntKind.wrap .i64 (t9 - 1)) < (R0.length : Int)) ∧ (R0[(Int.toNat (IntKind.wrap .i64 (t9 - 1)))]? = some [.int .i64 (cIS R0 (Int.toNat (IntKind.wrap .i64 (t9 - 1))) 0)]) ∧ (EZ G15 [] [.i (cIS R0 t9.toNat 0), .i (cIS R0 (Int.toNat (IntKind.wrap .i64 (t9 - 1))) 0), .r tb1] (fun x rs vs => (x = 0 ∧ ∃ y1_0 y1_b0, rs = [] ∧ vs = [.i y1_0, .r y1_b0] ∧ ((y1_0 < 0 → (0 ≤ (IntKind.wrap .i64 (t9 - 1))) ∧ ((IntKind.wrap .i64 (t9 - 1)) < (R0.length : Int)) ∧ (R0[(Int.toNat (IntKind.wrap .i64 (t9 - 1)))]? = some [.int .i64 (cIS R0 (Int.toNat (IntKind.wrap .i64 (t9 - 1))) 0)]) ∧ (0 ≤ t9) ∧ (t9 < (R0.length : Int)) ∧ (R0[t9.toNat]? = some [.int .i64 (cIS R0 t9.toNat 0)]) ∧ ((List.set R0 t9.toNat [.int .i64 (cIS R0 (Int.toNat (IntKind.wrap .i64 (t9 - 1))) 0)])[(Int.toNat (IntKind.wrap .i64 (t9 - 1)))]? = some [.int .i64 (cIS (List.set R0 t9.toNat [.int .i64 (cIS R0 (Int.toNat (IntKind.wrap .i64 (t9 - 1))) 0)]) (Int.toNat (IntKind.wrap .i64 (t9 - 1))) 0)]) ∧ (EV 16 [(List.set (List.set R0 t9.toNat [.int .i64 (cIS R0 (Int.toNat (IntKind.wrap .i64 (t9 - 1))) 0)]) (Int.toNat (IntKind.wrap .i64 (t9 - 1))) [.int .i64 (cIS R0 t9.toNat 0)])] [.i t1, .i t2, .i t8, .i (IntKind.wrap .i64 (t9 - 1)), .r y1_b0])) ∧ (y1_0 ≥ 0 → EV 4 [R0] [.i t1, .i t2, .i (IntKind.wrap .i64 (t8 + 1)), .r y1_b0])))))) ∧ (t9 ≤ t1 → EV 4 [R0] [.i t1, .i t2, .i (IntKind.wrap .i64 (t8 + 1)), .r tb1])) → EV 16 [R0] [.i t1, .i t2, .i t8, .i t9, .r tb1]

theorem V24a.of (W : Wk Try.prog Try.f24 I24a L24a Q A sg CE CK Dn EV RR) : V24a EV Q := by
 have hA := W.hA
 refine ⟨?_, ?_⟩
 ·intro R0 t1 t2 t8 tb1 h
  refine W.step 80 fun hp => ?_
  have h := h hp.1
  cbv
  subst hA
  exact ⟨fun e0 => have j0 := h.1 (cmpE (op := .lss) rfl e0); ⟨(An rfl (An rfl rfl)), ⟨hp.1, j0⟩⟩, fun e0 => have j0 := h.2 (cmpE (op := .lss) rfl e0); ⟨hp.1, (W.q j0)⟩⟩
 ·intro R0 t1 t2 t8 t9 tb1 h
  refine W.step 80 fun hp => ?_
  have h := h hp.1
  cbv
  refine ⟨fun e0 => have c0 : t9 > t1 := (by have q := (cmpE (op := .gtr) hA e0); subst hA; exact q); ?_, fun e0 => have c0 : t9 ≤ t1 := (by have q := (cmpE (op := .gtr) hA e0); subst hA; exact q); ?_⟩
  ·refine W.draw 80 (by rfl) ?_
   cbv
   refine ⟨ndI hA (An (h.1 c0).1 (An (hA ▸ (h.1 c0).2.1) rfl)), ⟨ndI hA (An rfl (hA ▸ (h.1 c0).2.2.1)), ⟨ndI hA (An (hA ▸ (h.1 c0).2.2.2.1) (An (hA ▸ (h.1 c0).2.2.2.2.1) rfl)), ⟨ndI hA (An rfl (hA ▸ (h.1 c0).2.2.2.2.2.1)), ⟨?_, trivial⟩⟩⟩⟩⟩
   refine W.cd (h.1 c0).2.2.2.2.2.2 ?_
   rintro _ _ _ hp1 (⟨rfl, y1_0, y1_b0, rfl, rfl, k1⟩)
   cbv
   refine W.draw 80 (by rfl) ?_
   cbv
   subst hA
   exact ⟨fun e2 => have j2 := k1.1 (cmpE (op := .lss) rfl e2); ⟨⟨(An j2.1 (An j2.2.1 rfl)), ⟨⟨(An rfl j2.2.2.1), ⟨⟨(An j2.2.2.2.1 (An j2.2.2.2.2.1 rfl)), ⟨⟨(An rfl j2.2.2.2.2.2.1), ⟨⟨(An j2.2.2.2.1 (An j2.2.2.2.2.1 rfl)), ⟨⟨(An rfl j2.2.2.2.2.2.1), ⟨⟨(An j2.1 (An j2.2.1 (by show R0.length = (List.length (List.set R0 t9.toNat [.int .i64 (cIS R0 (Int.toNat (IntKind.wrap .i64 (t9 - 1))) 0)])); (first | rfl | simp [rappS_end] | (simp [rappS_end]; omega))))), ⟨⟨(An (by show R0.length = (List.length (List.set R0 t9.toNat [.int .i64 (cIS R0 (Int.toNat (IntKind.wrap .i64 (t9 - 1))) 0)])); (first | rfl | simp [rappS_end] | (simp [rappS_end]; omega))) j2.2.2.2.2.2.2.1), ⟨(An (by show R0.length = (List.length (List.set (List.set R0 t9.toNat [.int .i64 (cIS R0 (Int.toNat (IntKind.wrap .i64 (t9 - 1))) 0)]) (Int.toNat (IntKind.wrap .i64 (t9 - 1))) [.int .i64 (cIS R0 t9.toNat 0)])); (first | rfl | simp [rappS_end] | (simp [rappS_end]; omega))) (An rfl (by show R0.length = (List.length (List.set (List.set R0 t9.toNat [.int .i64 (cIS R0 (Int.toNat (IntKind.wrap .i64 (t9 - 1))) 0)]) (Int.toNat (IntKind.wrap .i64 (t9 - 1))) [.int .i64 (cIS R0 t9.toNat 0)])); (first | rfl | simp [rappS_end] | (simp [rappS_end]; omega))))), ⟨((vset (vset hp.1 rfl) rfl)), j2.2.2.2.2.2.2.2⟩⟩⟩, trivial⟩⟩, trivial⟩⟩, trivial⟩⟩, trivial⟩⟩, trivial⟩⟩, trivial⟩⟩, ⟨⟨(An j2.2.2.2.1 (An j2.2.2.2.2.1 rfl)), ⟨⟨(An rfl j2.2.2.1), ⟨⟨(An rfl j2.2.2.2.2.2.1), ⟨⟨(An j2.2.2.2.1 (An j2.2.2.2.2.1 rfl)), ⟨⟨(An rfl j2.2.2.2.2.2.1), ⟨⟨(An j2.1 (An j2.2.1 (by show R0.length = (List.length (List.set R0 t9.toNat [.int .i64 (cIS R0 (Int.toNat (IntKind.wrap .i64 (t9 - 1))) 0)])); (first | rfl | simp [rappS_end] | (simp [rappS_end]; omega))))), ⟨⟨(An (by show R0.length = (List.length (List.set R0 t9.toNat [.int .i64 (cIS R0 (Int.toNat (IntKind.wrap .i64 (t9 - 1))) 0)])); (first | rfl | simp [rappS_end] | (simp [rappS_end]; omega))) j2.2.2.2.2.2.2.1), ⟨(An (by show R0.length = (List.length (List.set (List.set R0 t9.toNat [.int .i64 (cIS R0 (Int.toNat (IntKind.wrap .i64 (t9 - 1))) 0)]) (Int.toNat (IntKind.wrap .i64 (t9 - 1))) [.int .i64 (cIS R0 t9.toNat 0)])); (first | rfl | simp [rappS_end] | (simp [rappS_end]; omega))) (An rfl (by show R0.length = (List.length (List.set (List.set R0 t9.toNat [.int .i64 (cIS R0 (Int.toNat (IntKind.wrap .i64 (t9 - 1))) 0)]) (Int.toNat (IntKind.wrap .i64 (t9 - 1))) [.int .i64 (cIS R0 t9.toNat 0)])); (first | rfl | simp [rappS_end] | (simp [rappS_end]; omega))))), ⟨((vset (vset hp.1 rfl) rfl)), j2.2.2.2.2.2.2.2⟩⟩⟩, trivial⟩⟩, trivial⟩⟩, trivial⟩⟩, trivial⟩⟩, trivial⟩⟩, ⟨⟨(An rfl j2.2.2.2.2.2.1), ⟨⟨(An rfl j2.2.2.1), ⟨⟨(An j2.2.2.2.1 (An j2.2.2.2.2.1 rfl)), ⟨⟨(An rfl j2.2.2.2.2.2.1), ⟨⟨(An j2.1 (An j2.2.1 (by show R0.length = (List.length (List.set R0 t9.toNat [.int .i64 (cIS R0 (Int.toNat (IntKind.wrap .i64 (t9 - 1))) 0)])); (first | rfl | simp [rappS_end] | (simp [rappS_end]; omega))))), ⟨⟨(An (by show R0.length = (List.length (List.set R0 t9.toNat [.int .i64 (cIS R0 (Int.toNat (IntKind.wrap .i64 (t9 - 1))) 0)])); (first | rfl | simp [rappS_end] | (simp [rappS_end]; omega))) j2.2.2.2.2.2.2.1), ⟨(An (by show R0.length = (List.length (List.set (List.set R0 t9.toNat [.int .i64 (cIS R0 (Int.toNat (IntKind.wrap .i64 (t9 - 1))) 0)]) (Int.toNat (IntKind.wrap .i64 (t9 - 1))) [.int .i64 (cIS R0 t9.toNat 0)])); (first | rfl | simp [rappS_end] | (simp [rappS_end]; omega))) (An rfl (by show R0.length = (List.length (List.set (List.set R0 t9.toNat [.int .i64 (cIS R0 (Int.toNat (IntKind.wrap .i64 (t9 - 1))) 0)]) (Int.toNat (IntKind.wrap .i64 (t9 - 1))) [.int .i64 (cIS R0 t9.toNat 0)])); (first | rfl | simp [rappS_end] | (simp [rappS_end]; omega))))), ⟨((vset (vset hp.1 rfl) rfl)), j2.2.2.2.2.2.2.2⟩⟩⟩, trivial⟩⟩, trivial⟩⟩, trivial⟩⟩, trivial⟩⟩, trivial⟩⟩, trivial⟩⟩⟩, trivial⟩⟩⟩, ⟨⟨(An j2.2.2.2.1 (An j2.2.2.2.2.1 rfl)), ⟨⟨(An j2.1 (An j2.2.1 rfl)), ⟨⟨(An rfl j2.2.2.1), ⟨⟨(An rfl j2.2.2.2.2.2.1), ⟨⟨(An j2.2.2.2.1 (An j2.2.2.2.2.1 rfl)), ⟨⟨(An rfl j2.2.2.2.2.2.1), ⟨⟨(An j2.1 (An j2.2.1 (by show R0.length = (List.length (List.set R0 t9.toNat [.int .i64 (cIS R0 (Int.toNat (IntKind.wrap .i64 (t9 - 1))) 0)])); (first | rfl | simp [rappS_end] | (simp [rappS_end]; omega))))), ⟨⟨(An (by show R0.length = (List.length (List.set R0 t9.toNat [.int .i64 (cIS R0 (Int.toNat (IntKind.wrap .i64 (t9 - 1))) 0)])); (first | rfl | simp [rappS_end] | (simp [rappS_end]; omega))) j2.2.2.2.2.2.2.1), ⟨(An (by show R0.length = (List.length (List.set (List.set R0 t9.toNat [.int .i64 (cIS R0 (Int.toNat (IntKind.wrap .i64 (t9 - 1))) 0)]) (Int.toNat (IntKind.wrap .i64 (t9 - 1))) [.int .i64 (cIS R0 t9.toNat 0)])); (first | rfl | simp [rappS_end] | (simp [rappS_end]; omega))) (An rfl (by show R0.length = (List.length (List.set (List.set R0 t9.toNat [.int .i64 (cIS R0 (Int.toNat (IntKind.wrap .i64 (t9 - 1))) 0)]) (Int.toNat (IntKind.wrap .i64 (t9 - 1))) [.int .i64 (cIS R0 t9.toNat 0)])); (first | rfl | simp [rappS_end] | (simp [rappS_end]; omega))))), ⟨((vset (vset hp.1 rfl) rfl)), j2.2.2.2.2.2.2.2⟩⟩⟩, trivial⟩⟩, trivial⟩⟩, trivial⟩⟩, trivial⟩⟩, trivial⟩⟩, ⟨⟨(An rfl j2.2.2.2.2.2.1), ⟨⟨(An rfl j2.2.2.1), ⟨⟨(An j2.2.2.2.1 (An j2.2.2.2.2.1 rfl)), ⟨⟨(An rfl j2.2.2.2.2.2.1), ⟨⟨(An j2.1 (An j2.2.1 (by show R0.length = (List.length (List.set R0 t9.toNat [.int .i64 (cIS R0 (Int.toNat (IntKind.wrap .i64 (t9 - 1))) 0)])); (first | rfl | simp [rappS_end] | (simp [rappS_end]; omega))))), ⟨⟨(An (by show R0.length = (List.length (List.set R0 t9.toNat [.int .i64 (cIS R0 (Int.toNat (IntKind.wrap .i64 (t9 - 1))) 0)])); (first | rfl | simp [rappS_end] | (simp [rappS_end]; omega))) j2.2.2.2.2.2.2.1), ⟨(An (by show R0.length = (List.length (List.set (List.set R0 t9.toNat [.int .i64 (cIS R0 (Int.toNat (IntKind.wrap .i64 (t9 - 1))) 0)]) (Int.toNat (IntKind.wrap .i64 (t9 - 1))) [.int .i64 (cIS R0 t9.toNat 0)])); (first | rfl | simp [rappS_end] | (simp [rappS_end]; omega))) (An rfl (by show R0.length = (List.length (List.set (List.set R0 t9.toNat [.int .i64 (cIS R0 (Int.toNat (IntKind.wrap .i64 (t9 - 1))) 0)]) (Int.toNat (IntKind.wrap .i64 (t9 - 1))) [.int .i64 (cIS R0 t9.toNat 0)])); (first | rfl | simp [rappS_end] | (simp [rappS_end]; omega))))), ⟨((vset (vset hp.1 rfl) rfl)), j2.2.2.2.2.2.2.2⟩⟩⟩, trivial⟩⟩, trivial⟩⟩, trivial⟩⟩, trivial⟩⟩, trivial⟩⟩, trivial⟩⟩⟩, ⟨⟨(An rfl j2.2.2.2.2.2.1), ⟨⟨(An j2.1 (An j2.2.1 rfl)), ⟨⟨(An rfl j2.2.2.1), ⟨⟨(An j2.2.2.2.1 (An j2.2.2.2.2.1 rfl)), ⟨⟨(An rfl j2.2.2.2.2.2.1), ⟨⟨(An j2.1 (An j2.2.1 (by show R0.length = (List.length (List.set R0 t9.toNat [.int .i64 (cIS R0 (Int.toNat (IntKind.wrap .i64 (t9 - 1))) 0)])); (first | rfl | simp [rappS_end] | (simp [rappS_end]; omega))))), ⟨⟨(An (by show R0.length = (List.length (List.set R0 t9.toNat [.int .i64 (cIS R0 (Int.toNat (IntKind.wrap .i64 (t9 - 1))) 0)])); (first | rfl | simp [rappS_end] | (simp [rappS_end]; omega))) j2.2.2.2.2.2.2.1), ⟨(An (by show R0.length = (List.length (List.set (List.set R0 t9.toNat [.int .i64 (cIS R0 (Int.toNat (IntKind.wrap .i64 (t9 - 1))) 0)]) (Int.toNat (IntKind.wrap .i64 (t9 - 1))) [.int .i64 (cIS R0 t9.toNat 0)])); (first | rfl | simp [rappS_end] | (simp [rappS_end]; omega))) (An rfl (by show R0.length = (List.length (List.set (List.set R0 t9.toNat [.int .i64 (cIS R0 (Int.toNat (IntKind.wrap .i64 (t9 - 1))) 0)]) (Int.toNat (IntKind.wrap .i64 (t9 - 1))) [.int .i64 (cIS R0 t9.toNat 0)])); (first | rfl | simp [rappS_end] | (simp [rappS_end]; omega))))), ⟨((vset (vset hp.1 rfl) rfl)), j2.2.2.2.2.2.2.2⟩⟩⟩, trivial⟩⟩, trivial⟩⟩, trivial⟩⟩, trivial⟩⟩, trivial⟩⟩, trivial⟩⟩, trivial⟩⟩⟩, trivial⟩⟩, fun e2 => have j2 := k1.2 (cmpE (op := .lss) rfl e2); ⟨(An rfl (An rfl rfl)), ⟨hp.1, j2⟩⟩⟩
  ·refine W.draw 80 (by rfl) ?_
   cbv
   subst hA
   exact ⟨⟨(An rfl (An rfl rfl)), ⟨hp.1, ((h.2 c0))⟩⟩, trivial⟩

theorem E24a {R0 : RW} {a1 a2 : Int} {ab1 : RW} (h : pursS R0 = true → ∀ EV, V24a EV Q → EV 4 [R0] [.i a1, .i a2, .i (IntKind.wrap .i64 (a1 + 1)), .r ab1]) : EZ G24a [R0] [.i a1, .i a2, .r ab1] Q := by
 refine Inst.en (I := I24a) (L := L24a) F24_at fun A hA CE CK Dn EV RR W hp => ?_
 have h := h hp.1 EV (V24a.of W)
 cbv
 subst hA
 exact ⟨(An rfl (An rfl rfl)), ⟨hp.1, h⟩⟩

-- 27a: slices.swapRangeCmpFunc[int] DRAWN
structure V27a (EV Q : EP) : Prop where
  p4 : ∀ {R0 : RW} {t1 t2 t3 t10 : Int} {tb1 : RW}, (pursS R0 = true → (t10 < t3 → (0 ≤ (IntKind.wrap .i64 (t2 + t10))) ∧ ((IntKind.wrap .i64 (t2 + t10)) < (R0.length : Int)) ∧ (R0[(Int.toNat (IntKind.wrap .i64 (t2 + t10)))]? = some [.int .i64 (cIS R0 (Int.toNat (IntKind.wrap .i64 (t2 + t10))) 0)]) ∧ (0 ≤ (IntKind.wrap .i64 (t1 + t10))) ∧ ((IntKind.wrap .i64 (t1 + t10)) < (R0.length : Int)) ∧ (R0[(Int.toNat (IntKind.wrap .i64 (t1 + t10)))]? = some [.int .i64 (cIS R0 (Int.toNat (IntKind.wrap .i64 (t1 + t10))) 0)]) ∧ ((List.set R0 (Int.toNat (IntKind.wrap .i64 (t1 + t10))) [.int .i64 (cIS R0 (Int.toNat (IntKind.wrap .i64 (t2 + t10))) 0)])[(Int.toNat (IntKind.wrap .i64 (t2 + t10)))]? = some [.int .i64 (cIS (List.set R0 (Int.toNat (IntKind.wrap .i64 (t1 + t10))) [.int .i64 (cIS R0 (Int.toNat (IntKind.wrap .i64 (t2 + t10))) 0)]) (Int.toNat (IntKind.wrap .i64 (t2 + t10))) 0)]) ∧ (EV 4 [(List.set (List.set R0 (Int.toNat (IntKind.wrap .i64 (t1 + t10))) [.int .i64 (cIS R0 (Int.toNat (IntKind.wrap .i64 (t2 + t10))) 0)]) (Int.toNat (IntKind.wrap .i64 (t2 + t10))) [.int .i64 (cIS R0 (Int.toNat (IntKind.wrap .i64 (t1 + t10))) 0)])] [.i t1, .i t2, .i t3, .i (IntKind.wrap .i64 (t10 + 1)), .r tb1])) ∧ (t10 ≥ t3 → Q 0 [R0] [.r tb1])) → EV 4 [R0] [.i t1, .i t2, .i t3, .i t10, .r tb1]

theorem V27a.of (W : Wk Try.prog Try.f27 I27a L27a Q A sg CE CK Dn EV RR) : V27a EV Q := by
 have hA := W.hA
 refine ⟨?_⟩
 intro R0 t1 t2 t3 t10 tb1 h
 refine W.step 80 fun hp => ?_
 have h := h hp.1
 cbv
 subst hA
 exact ⟨fun e0 => have j0 := h.1 (cmpE (op := .lss) rfl e0); ⟨⟨(An j0.1 (An j0.2.1 rfl)), ⟨⟨(An rfl j0.2.2.1), ⟨⟨(An j0.2.2.2.1 (An j0.2.2.2.2.1 rfl)), ⟨⟨(An rfl j0.2.2.2.2.2.1), ⟨⟨(An j0.2.2.2.1 (An j0.2.2.2.2.1 rfl)), ⟨⟨(An rfl j0.2.2.2.2.2.1), ⟨⟨(An j0.1 (An j0.2.1 (by show R0.length = (List.length (List.set R0 (Int.toNat (IntKind.wrap .i64 (t1 + t10))) [.int .i64 (cIS R0 (Int.toNat (IntKind.wrap .i64 (t2 + t10))) 0)])); (first | rfl | simp [rappS_end] | (simp [rappS_end]; omega))))), ⟨⟨(An (by show R0.length = (List.length (List.set R0 (Int.toNat (IntKind.wrap .i64 (t1 + t10))) [.int .i64 (cIS R0 (Int.toNat (IntKind.wrap .i64 (t2 + t10))) 0)])); (first | rfl | simp [rappS_end] | (simp [rappS_end]; omega))) j0.2.2.2.2.2.2.1), ⟨(An (by show R0.length = (List.length (List.set (List.set R0 (Int.toNat (IntKind.wrap .i64 (t1 + t10))) [.int .i64 (cIS R0 (Int.toNat (IntKind.wrap .i64 (t2 + t10))) 0)]) (Int.toNat (IntKind.wrap .i64 (t2 + t10))) [.int .i64 (cIS R0 (Int.toNat (IntKind.wrap .i64 (t1 + t10))) 0)])); (first | rfl | simp [rappS_end] | (simp [rappS_end]; omega))) (An rfl (by show R0.length = (List.length (List.set (List.set R0 (Int.toNat (IntKind.wrap .i64 (t1 + t10))) [.int .i64 (cIS R0 (Int.toNat (IntKind.wrap .i64 (t2 + t10))) 0)]) (Int.toNat (IntKind.wrap .i64 (t2 + t10))) [.int .i64 (cIS R0 (Int.toNat (IntKind.wrap .i64 (t1 + t10))) 0)])); (first | rfl | simp [rappS_end] | (simp [rappS_end]; omega))))), ⟨((vset (vset hp.1 rfl) rfl)), j0.2.2.2.2.2.2.2⟩⟩⟩, trivial⟩⟩, trivial⟩⟩, trivial⟩⟩, trivial⟩⟩, trivial⟩⟩, trivial⟩⟩, ⟨⟨(An j0.2.2.2.1 (An j0.2.2.2.2.1 rfl)), ⟨⟨(An rfl j0.2.2.1), ⟨⟨(An rfl j0.2.2.2.2.2.1), ⟨⟨(An j0.2.2.2.1 (An j0.2.2.2.2.1 rfl)), ⟨⟨(An rfl j0.2.2.2.2.2.1), ⟨⟨(An j0.1 (An j0.2.1 (by show R0.length = (List.length (List.set R0 (Int.toNat (IntKind.wrap .i64 (t1 + t10))) [.int .i64 (cIS R0 (Int.toNat (IntKind.wrap .i64 (t2 + t10))) 0)])); (first | rfl | simp [rappS_end] | (simp [rappS_end]; omega))))), ⟨⟨(An (by show R0.length = (List.length (List.set R0 (Int.toNat (IntKind.wrap .i64 (t1 + t10))) [.int .i64 (cIS R0 (Int.toNat (IntKind.wrap .i64 (t2 + t10))) 0)])); (first | rfl | simp [rappS_end] | (simp [rappS_end]; omega))) j0.2.2.2.2.2.2.1), ⟨(An (by show R0.length = (List.length (List.set (List.set R0 (Int.toNat (IntKind.wrap .i64 (t1 + t10))) [.int .i64 (cIS R0 (Int.toNat (IntKind.wrap .i64 (t2 + t10))) 0)]) (Int.toNat (IntKind.wrap .i64 (t2 + t10))) [.int .i64 (cIS R0 (Int.toNat (IntKind.wrap .i64 (t1 + t10))) 0)])); (first | rfl | simp [rappS_end] | (simp [rappS_end]; omega))) (An rfl (by show R0.length = (List.length (List.set (List.set R0 (Int.toNat (IntKind.wrap .i64 (t1 + t10))) [.int .i64 (cIS R0 (Int.toNat (IntKind.wrap .i64 (t2 + t10))) 0)]) (Int.toNat (IntKind.wrap .i64 (t2 + t10))) [.int .i64 (cIS R0 (Int.toNat (IntKind.wrap .i64 (t1 + t10))) 0)])); (first | rfl | simp [rappS_end] | (simp [rappS_end]; omega))))), ⟨((vset (vset hp.1 rfl) rfl)), j0.2.2.2.2.2.2.2⟩⟩⟩, trivial⟩⟩, trivial⟩⟩, trivial⟩⟩, trivial⟩⟩, trivial⟩⟩, ⟨⟨(An rfl j0.2.2.2.2.2.1), ⟨⟨(An rfl j0.2.2.1), ⟨⟨(An j0.2.2.2.1 (An j0.2.2.2.2.1 rfl)), ⟨⟨(An rfl j0.2.2.2.2.2.1), ⟨⟨(An j0.1 (An j0.2.1 (by show R0.length = (List.length (List.set R0 (Int.toNat (IntKind.wrap .i64 (t1 + t10))) [.int .i64 (cIS R0 (Int.toNat (IntKind.wrap .i64 (t2 + t10))) 0)])); (first | rfl | simp [rappS_end] | (simp [rappS_end]; omega))))), ⟨⟨(An (by show R0.length = (List.length (List.set R0 (Int.toNat (IntKind.wrap .i64 (t1 + t10))) [.int .i64 (cIS R0 (Int.toNat (IntKind.wrap .i64 (t2 + t10))) 0)])); (first | rfl | simp [rappS_end] | (simp [rappS_end]; omega))) j0.2.2.2.2.2.2.1), ⟨(An (by show R0.length = (List.length (List.set (List.set R0 (Int.toNat (IntKind.wrap .i64 (t1 + t10))) [.int .i64 (cIS R0 (Int.toNat (IntKind.wrap .i64 (t2 + t10))) 0)]) (Int.toNat (IntKind.wrap .i64 (t2 + t10))) [.int .i64 (cIS R0 (Int.toNat (IntKind.wrap .i64 (t1 + t10))) 0)])); (first | rfl | simp [rappS_end] | (simp [rappS_end]; omega))) (An rfl (by show R0.length = (List.length (List.set (List.set R0 (Int.toNat (IntKind.wrap .i64 (t1 + t10))) [.int .i64 (cIS R0 (Int.toNat (IntKind.wrap .i64 (t2 + t10))) 0)]) (Int.toNat (IntKind.wrap .i64 (t2 + t10))) [.int .i64 (cIS R0 (Int.toNat (IntKind.wrap .i64 (t1 + t10))) 0)])); (first | rfl | simp [rappS_end] | (simp [rappS_end]; omega))))), ⟨((vset (vset hp.1 rfl) rfl)), j0.2.2.2.2.2.2.2⟩⟩⟩, trivial⟩⟩, trivial⟩⟩, trivial⟩⟩, trivial⟩⟩, trivial⟩⟩, trivial⟩⟩⟩, trivial⟩⟩⟩, ⟨⟨(An j0.2.2.2.1 (An j0.2.2.2.2.1 rfl)), ⟨⟨(An j0.1 (An j0.2.1 rfl)), ⟨⟨(An rfl j0.2.2.1), ⟨⟨(An rfl j0.2.2.2.2.2.1), ⟨⟨(An j0.2.2.2.1 (An j0.2.2.2.2.1 rfl)), ⟨⟨(An rfl j0.2.2.2.2.2.1), ⟨⟨(An j0.1 (An j0.2.1 (by show R0.length = (List.length (List.set R0 (Int.toNat (IntKind.wrap .i64 (t1 + t10))) [.int .i64 (cIS R0 (Int.toNat (IntKind.wrap .i64 (t2 + t10))) 0)])); (first | rfl | simp [rappS_end] | (simp [rappS_end]; omega))))), ⟨⟨(An (by show R0.length = (List.length (List.set R0 (Int.toNat (IntKind.wrap .i64 (t1 + t10))) [.int .i64 (cIS R0 (Int.toNat (IntKind.wrap .i64 (t2 + t10))) 0)])); (first | rfl | simp [rappS_end] | (simp [rappS_end]; omega))) j0.2.2.2.2.2.2.1), ⟨(An (by show R0.length = (List.length (List.set (List.set R0 (Int.toNat (IntKind.wrap .i64 (t1 + t10))) [.int .i64 (cIS R0 (Int.toNat (IntKind.wrap .i64 (t2 + t10))) 0)]) (Int.toNat (IntKind.wrap .i64 (t2 + t10))) [.int .i64 (cIS R0 (Int.toNat (IntKind.wrap .i64 (t1 + t10))) 0)])); (first | rfl | simp [rappS_end] | (simp [rappS_end]; omega))) (An rfl (by show R0.length = (List.length (List.set (List.set R0 (Int.toNat (IntKind.wrap .i64 (t1 + t10))) [.int .i64 (cIS R0 (Int.toNat (IntKind.wrap .i64 (t2 + t10))) 0)]) (Int.toNat (IntKind.wrap .i64 (t2 + t10))) [.int .i64 (cIS R0 (Int.toNat (IntKind.wrap .i64 (t1 + t10))) 0)])); (first | rfl | simp [rappS_end] | (simp [rappS_end]; omega))))), ⟨((vset (vset hp.1 rfl) rfl)), j0.2.2.2.2.2.2.2⟩⟩⟩, trivial⟩⟩, trivial⟩⟩, trivial⟩⟩, trivial⟩⟩, trivial⟩⟩, ⟨⟨(An rfl j0.2.2.2.2.2.1), ⟨⟨(An rfl j0.2.2.1), ⟨⟨(An j0.2.2.2.1 (An j0.2.2.2.2.1 rfl)), ⟨⟨(An rfl j0.2.2.2.2.2.1), ⟨⟨(An j0.1 (An j0.2.1 (by show R0.length = (List.length (List.set R0 (Int.toNat (IntKind.wrap .i64 (t1 + t10))) [.int .i64 (cIS R0 (Int.toNat (IntKind.wrap .i64 (t2 + t10))) 0)])); (first | rfl | simp [rappS_end] | (simp [rappS_end]; omega))))), ⟨⟨(An (by show R0.length = (List.length (List.set R0 (Int.toNat (IntKind.wrap .i64 (t1 + t10))) [.int .i64 (cIS R0 (Int.toNat (IntKind.wrap .i64 (t2 + t10))) 0)])); (first | rfl | simp [rappS_end] | (simp [rappS_end]; omega))) j0.2.2.2.2.2.2.1), ⟨(An (by show R0.length = (List.length (List.set (List.set R0 (Int.toNat (IntKind.wrap .i64 (t1 + t10))) [.int .i64 (cIS R0 (Int.toNat (IntKind.wrap .i64 (t2 + t10))) 0)]) (Int.toNat (IntKind.wrap .i64 (t2 + t10))) [.int .i64 (cIS R0 (Int.toNat (IntKind.wrap .i64 (t1 + t10))) 0)])); (first | rfl | simp [rappS_end] | (simp [rappS_end]; omega))) (An rfl (by show R0.length = (List.length (List.set (List.set R0 (Int.toNat (IntKind.wrap .i64 (t1 + t10))) [.int .i64 (cIS R0 (Int.toNat (IntKind.wrap .i64 (t2 + t10))) 0)]) (Int.toNat (IntKind.wrap .i64 (t2 + t10))) [.int .i64 (cIS R0 (Int.toNat (IntKind.wrap .i64 (t1 + t10))) 0)])); (first | rfl | simp [rappS_end] | (simp [rappS_end]; omega))))), ⟨((vset (vset hp.1 rfl) rfl)), j0.2.2.2.2.2.2.2⟩⟩⟩, trivial⟩⟩, trivial⟩⟩, trivial⟩⟩, trivial⟩⟩, trivial⟩⟩, trivial⟩⟩⟩, ⟨⟨(An rfl j0.2.2.2.2.2.1), ⟨⟨(An j0.1 (An j0.2.1 rfl)), ⟨⟨(An rfl j0.2.2.1), ⟨⟨(An j0.2.2.2.1 (An j0.2.2.2.2.1 rfl)), ⟨⟨(An rfl j0.2.2.2.2.2.1), ⟨⟨(An j0.1 (An j0.2.1 (by show R0.length = (List.length (List.set R0 (Int.toNat (IntKind.wrap .i64 (t1 + t10))) [.int .i64 (cIS R0 (Int.toNat (IntKind.wrap .i64 (t2 + t10))) 0)])); (first | rfl | simp [rappS_end] | (simp [rappS_end]; omega))))), ⟨⟨(An (by show R0.length = (List.length (List.set R0 (Int.toNat (IntKind.wrap .i64 (t1 + t10))) [.int .i64 (cIS R0 (Int.toNat (IntKind.wrap .i64 (t2 + t10))) 0)])); (first | rfl | simp [rappS_end] | (simp [rappS_end]; omega))) j0.2.2.2.2.2.2.1), ⟨(An (by show R0.length = (List.length (List.set (List.set R0 (Int.toNat (IntKind.wrap .i64 (t1 + t10))) [.int .i64 (cIS R0 (Int.toNat (IntKind.wrap .i64 (t2 + t10))) 0)]) (Int.toNat (IntKind.wrap .i64 (t2 + t10))) [.int .i64 (cIS R0 (Int.toNat (IntKind.wrap .i64 (t1 + t10))) 0)])); (first | rfl | simp [rappS_end] | (simp [rappS_end]; omega))) (An rfl (by show R0.length = (List.length (List.set (List.set R0 (Int.toNat (IntKind.wrap .i64 (t1 + t10))) [.int .i64 (cIS R0 (Int.toNat (IntKind.wrap .i64 (t2 + t10))) 0)]) (Int.toNat (IntKind.wrap .i64 (t2 + t10))) [.int .i64 (cIS R0 (Int.toNat (IntKind.wrap .i64 (t1 + t10))) 0)])); (first | rfl | simp [rappS_end] | (simp [rappS_end]; omega))))), ⟨((vset (vset hp.1 rfl) rfl)), j0.2.2.2.2.2.2.2⟩⟩⟩, trivial⟩⟩, trivial⟩⟩, trivial⟩⟩, trivial⟩⟩, trivial⟩⟩, trivial⟩⟩, trivial⟩⟩⟩, trivial⟩⟩, fun e0 => have j0 := h.2 (cmpE (op := .lss) rfl e0); ⟨hp.1, (W.q j0)⟩⟩

theorem E27a {R0 : RW} {a1 a2 a3 : Int} {ab1 : RW} (h : pursS R0 = true → ∀ EV, V27a EV Q → EV 4 [R0] [.i a1, .i a2, .i a3, .i 0, .r ab1]) : EZ G27a [R0] [.i a1, .i a2, .i a3, .r ab1] Q := by
 refine Inst.en (I := I27a) (L := L27a) F27_at fun A hA CE CK Dn EV RR W hp => ?_
 have h := h hp.1 EV (V27a.of W)
 cbv
 subst hA
 exact ⟨(An rfl (An rfl rfl)), ⟨hp.1, h⟩⟩

-- 26a: slices.rotateCmpFunc[int]
structure V26a (EV Q : EP) : Prop where
  p7 : ∀ {R0 : RW} {t2 t10 t11 : Int} {tb1 : RW}, (pursS R0 = true → (t10 ≠ t11 → (t10 > t11 → EZ G27a [R0] [.i (IntKind.wrap .i64 (t2 - t10)), .i t2, .i t11, .r tb1] (fun x rs vs => (x = 0 ∧ ∃ Y2_0 y2_b1, rs = [Y2_0] ∧ vs = [.r y2_b1] ∧ ((R0.length = Y2_0.length) ∧ (EV 7 [Y2_0] [.i t2, .i (IntKind.wrap .i64 (t10 - t11)), .i t11, .r y2_b1]))))) ∧ (t10 ≤ t11 → EZ G27a [R0] [.i (IntKind.wrap .i64 (t2 - t10)), .i (IntKind.wrap .i64 ((IntKind.wrap .i64 (t2 + t11)) - t10)), .i t10, .r tb1] (fun x rs vs => (x = 0 ∧ ∃ Y2_0 y2_b1, rs = [Y2_0] ∧ vs = [.r y2_b1] ∧ ((R0.length = Y2_0.length) ∧ (EV 7 [Y2_0] [.i t2, .i t10, .i (IntKind.wrap .i64 (t11 - t10)), .r y2_b1])))))) ∧ (t10 = t11 → EZ G27a [R0] [.i (IntKind.wrap .i64 (t2 - t10)), .i t2, .i t10, .r tb1] (fun x rs vs => (x = 0 ∧ ∃ Y1_0 y1_b1, rs = [Y1_0] ∧ vs = [.r y1_b1] ∧ (Q 0 [Y1_0] [.r y1_b1]))))) → EV 7 [R0] [.i t2, .i t10, .i t11, .r tb1]

theorem V26a.of (W : Wk Try.prog Try.f26 I26a L26a Q A sg CE CK Dn EV RR) : V26a EV Q := by
 have hA := W.hA
 refine ⟨?_⟩
 intro R0 t2 t10 t11 tb1 h
 refine W.step 80 fun hp => ?_
 have h := h hp.1
 cbv
 refine ⟨imI hA fun e0 => have j0 := h.1 (cmpE (op := .neq) hA e0); ⟨imI hA fun e1 => have j1 := j0.1 (cmpE (op := .gtr) hA e1); ⟨ndI hA (An rfl (An rfl rfl)), ⟨ndI hA hp.1, ?_⟩⟩, imI hA fun e1 => have j1 := j0.2 (cmpE (op := .gtr) hA e1); ⟨ndI hA (An rfl (An rfl rfl)), ⟨ndI hA hp.1, ?_⟩⟩⟩, imI hA fun e0 => have j0 := h.2 (cmpE (op := .neq) hA e0); ⟨ndI hA (An rfl (An rfl rfl)), ⟨ndI hA hp.1, ?_⟩⟩⟩
 ·refine W.cl j1 ?_
  rintro _ _ _ hp2 (⟨rfl, Y2_0, y2_b1, rfl, rfl, k2⟩)
  cbv
  subst hA
  exact ⟨(An k2.1 (An rfl k2.1)), ⟨hp2.1, k2.2⟩⟩
 ·refine W.cl j1 ?_
  rintro _ _ _ hp2 (⟨rfl, Y2_0, y2_b1, rfl, rfl, k2⟩)
  cbv
  subst hA
  exact ⟨(An k2.1 (An rfl k2.1)), ⟨hp2.1, k2.2⟩⟩
 ·refine W.cl j0 ?_
  rintro _ _ _ hp1 (⟨rfl, Y1_0, y1_b1, rfl, rfl, k1⟩)
  cbv
  subst hA
  exact ⟨hp1.1, (W.q k1)⟩

theorem E26a {R0 : RW} {a1 a2 a3 : Int} {ab1 : RW} (h : pursS R0 = true → ∀ EV, V26a EV Q → EV 7 [R0] [.i a2, .i (IntKind.wrap .i64 (a2 - a1)), .i (IntKind.wrap .i64 (a3 - a2)), .r ab1]) : EZ G26a [R0] [.i a1, .i a2, .i a3, .r ab1] Q := by
 refine Inst.en (I := I26a) (L := L26a) F26_at fun A hA CE CK Dn EV RR W hp => ?_
 have h := h hp.1 EV (V26a.of W)
 cbv
 subst hA
 exact ⟨(An rfl (An rfl rfl)), ⟨hp.1, h⟩⟩

-- 25a: slices.symMergeCmpFunc[int] DRAWN
structure V25a (EV Q : EP) : Prop where
  p11 : ∀ {R0 : RW} {t1 t10 t11 : Int} {tb1 : RW}, (pursS R0 = true → (t10 < t11 → ((0 : Int) ≤ 1) ∧ (0 ≤ (IntKind.wrap .i64 (iopS .shr .u64 (IntKind.wrap .u64 (IntKind.wrap .i64 (t10 + t11))) 1))) ∧ ((IntKind.wrap .i64 (iopS .shr .u64 (IntKind.wrap .u64 (IntKind.wrap .i64 (t10 + t11))) 1)) < (R0.length : Int)) ∧ (R0[(Int.toNat (IntKind.wrap .i64 (iopS .shr .u64 (IntKind.wrap .u64 (IntKind.wrap .i64 (t10 + t11))) 1)))]? = some [.int .i64 (cIS R0 (Int.toNat (IntKind.wrap .i64 (iopS .shr .u64 (IntKind.wrap .u64 (IntKind.wrap .i64 (t10 + t11))) 1))) 0)]) ∧ (0 ≤ t1) ∧ (t1 < (R0.length : Int)) ∧ (R0[t1.toNat]? = some [.int .i64 (cIS R0 t1.toNat 0)]) ∧ (EZ G15 [] [.i (cIS R0 (Int.toNat (IntKind.wrap .i64 (iopS .shr .u64 (IntKind.wrap .u64 (IntKind.wrap .i64 (t10 + t11))) 1))) 0), .i (cIS R0 t1.toNat 0), .r tb1] (fun x rs vs => (x = 0 ∧ ∃ y1_0 y1_b0, rs = [] ∧ vs = [.i y1_0, .r y1_b0] ∧ ((y1_0 < 0 → EV 11 [R0] [.i t1, .i (IntKind.wrap .i64 ((IntKind.wrap .i64 (iopS .shr .u64 (IntKind.wrap .u64 (IntKind.wrap .i64 (t10 + t11))) 1)) + 1)), .i t11, .r y1_b0]) ∧ (y1_0 ≥ 0 → EV 11 [R0] [.i t1, .i t10, .i (IntKind.wrap .i64 (iopS .shr .u64 (IntKind.wrap .u64 (IntKind.wrap .i64 (t10 + t11))) 1)), .r y1_b0])))))) ∧ (t10 ≥ t11 → EV 30 [R0] [.i t10, .i t1, .r tb1])) → EV 11 [R0] [.i t1, .i t10, .i t11, .r tb1]
  p30 : ∀ {R0 : RW} {t10 t13 : Int} {tb1 : RW}, (pursS R0 = true → (t13 < (IntKind.wrap .i64 (t10 - 1)) → (0 ≤ (IntKind.wrap .i64 (t13 + 1))) ∧ ((IntKind.wrap .i64 (t13 + 1)) < (R0.length : Int)) ∧ (R0[(Int.toNat (IntKind.wrap .i64 (t13 + 1)))]? = some [.int .i64 (cIS R0 (Int.toNat (IntKind.wrap .i64 (t13 + 1))) 0)]) ∧ (0 ≤ t13) ∧ (t13 < (R0.length : Int)) ∧ (R0[t13.toNat]? = some [.int .i64 (cIS R0 t13.toNat 0)]) ∧ ((List.set R0 t13.toNat [.int .i64 (cIS R0 (Int.toNat (IntKind.wrap .i64 (t13 + 1))) 0)])[(Int.toNat (IntKind.wrap .i64 (t13 + 1)))]? = some [.int .i64 (cIS (List.set R0 t13.toNat [.int .i64 (cIS R0 (Int.toNat (IntKind.wrap .i64 (t13 + 1))) 0)]) (Int.toNat (IntKind.wrap .i64 (t13 + 1))) 0)]) ∧ (EV 30 [(List.set (List.set R0 t13.toNat [.int .i64 (cIS R0 (Int.toNat (IntKind.wrap .i64 (t13 + 1))) 0)]) (Int.toNat (IntKind.wrap .i64 (t13 + 1))) [.int .i64 (cIS R0 t13.toNat 0)])] [.i t10, .i (IntKind.wrap .i64 (t13 + 1)), .r tb1])) ∧ (t13 ≥ (IntKind.wrap .i64 (t10 - 1)) → Q 0 [R0] [.r tb1])) → EV 30 [R0] [.i t10, .i t13, .r tb1]
  p53 : ∀ {R0 : RW} {t2 t14 t15 : Int} {tb1 : RW}, (pursS R0 = true → (t14 < t15 → ((0 : Int) ≤ 1) ∧ (0 ≤ t2) ∧ (t2 < (R0.length : Int)) ∧ (R0[t2.toNat]? = some [.int .i64 (cIS R0 t2.toNat 0)]) ∧ (0 ≤ (IntKind.wrap .i64 (iopS .shr .u64 (IntKind.wrap .u64 (IntKind.wrap .i64 (t14 + t15))) 1))) ∧ ((IntKind.wrap .i64 (iopS .shr .u64 (IntKind.wrap .u64 (IntKind.wrap .i64 (t14 + t15))) 1)) < (R0.length : Int)) ∧ (R0[(Int.toNat (IntKind.wrap .i64 (iopS .shr .u64 (IntKind.wrap .u64 (IntKind.wrap .i64 (t14 + t15))) 1)))]? = some [.int .i64 (cIS R0 (Int.toNat (IntKind.wrap .i64 (iopS .shr .u64 (IntKind.wrap .u64 (IntKind.wrap .i64 (t14 + t15))) 1))) 0)]) ∧ (EZ G15 [] [.i (cIS R0 t2.toNat 0), .i (cIS R0 (Int.toNat (IntKind.wrap .i64 (iopS .shr .u64 (IntKind.wrap .u64 (IntKind.wrap .i64 (t14 + t15))) 1))) 0), .r tb1] (fun x rs vs => (x = 0 ∧ ∃ y1_0 y1_b0, rs = [] ∧ vs = [.i y1_0, .r y1_b0] ∧ ((y1_0 ≥ 0 → EV 53 [R0] [.i t2, .i (IntKind.wrap .i64 ((IntKind.wrap .i64 (iopS .shr .u64 (IntKind.wrap .u64 (IntKind.wrap .i64 (t14 + t15))) 1)) + 1)), .i t15, .r y1_b0]) ∧ (y1_0 < 0 → EV 53 [R0] [.i t2, .i t14, .i (IntKind.wrap .i64 (iopS .shr .u64 (IntKind.wrap .u64 (IntKind.wrap .i64 (t14 + t15))) 1)), .r y1_b0])))))) ∧ (t14 ≥ t15 → EV 72 [R0] [.i t14, .i t2, .r tb1])) → EV 53 [R0] [.i t2, .i t14, .i t15, .r tb1]
  p72 : ∀ {R0 : RW} {t14 t17 : Int} {tb1 : RW}, (pursS R0 = true → (t17 > t14 → (0 ≤ (IntKind.wrap .i64 (t17 - 1))) ∧ ((IntKind.wrap .i64 (t17 - 1)) < (R0.length : Int)) ∧ (R0[(Int.toNat (IntKind.wrap .i64 (t17 - 1)))]? = some [.int .i64 (cIS R0 (Int.toNat (IntKind.wrap .i64 (t17 - 1))) 0)]) ∧ (0 ≤ t17) ∧ (t17 < (R0.length : Int)) ∧ (R0[t17.toNat]? = some [.int .i64 (cIS R0 t17.toNat 0)]) ∧ ((List.set R0 t17.toNat [.int .i64 (cIS R0 (Int.toNat (IntKind.wrap .i64 (t17 - 1))) 0)])[(Int.toNat (IntKind.wrap .i64 (t17 - 1)))]? = some [.int .i64 (cIS (List.set R0 t17.toNat [.int .i64 (cIS R0 (Int.toNat (IntKind.wrap .i64 (t17 - 1))) 0)]) (Int.toNat (IntKind.wrap .i64 (t17 - 1))) 0)]) ∧ (EV 72 [(List.set (List.set R0 t17.toNat [.int .i64 (cIS R0 (Int.toNat (IntKind.wrap .i64 (t17 - 1))) 0)]) (Int.toNat (IntKind.wrap .i64 (t17 - 1))) [.int .i64 (cIS R0 t17.toNat 0)])] [.i t14, .i (IntKind.wrap .i64 (t17 - 1)), .r tb1])) ∧ (t17 ≤ t14 → Q 0 [R0] [.r tb1])) → EV 72 [R0] [.i t14, .i t17, .r tb1]
  p100 : ∀ {R0 : RW} {t1 t2 t3 t18 t19 t20 t21 : Int} {tb1 : RW}, (pursS R0 = true → EV 105 [R0] [.i t1, .i t2, .i t3, .i t18, .i t19, .i t20, .i t21, .i (IntKind.wrap .i64 (t19 - 1)), .r tb1]) → EV 100 [R0] [.i t1, .i t2, .i t3, .i t18, .i t19, .i t20, .i t21, .r tb1]
  p105 : ∀ {R0 : RW} {t1 t2 t3 t18 t19 t20 t21 t22 : Int} {tb1 : RW}, (pursS R0 = true → (t20 < t21 → ((0 : Int) ≤ 1) ∧ (0 ≤ (IntKind.wrap .i64 (t22 - (IntKind.wrap .i64 (iopS .shr .u64 (IntKind.wrap .u64 (IntKind.wrap .i64 (t20 + t21))) 1))))) ∧ ((IntKind.wrap .i64 (t22 - (IntKind.wrap .i64 (iopS .shr .u64 (IntKind.wrap .u64 (IntKind.wrap .i64 (t20 + t21))) 1)))) < (R0.length : Int)) ∧ (R0[(Int.toNat (IntKind.wrap .i64 (t22 - (IntKind.wrap .i64 (iopS .shr .u64 (IntKind.wrap .u64 (IntKind.wrap .i64 (t20 + t21))) 1)))))]? = some [.int .i64 (cIS R0 (Int.toNat (IntKind.wrap .i64 (t22 - (IntKind.wrap .i64 (iopS .shr .u64 (IntKind.wrap .u64 (IntKind.wrap .i64 (t20 + t21))) 1))))) 0)]) ∧ (0 ≤ (IntKind.wrap .i64 (iopS .shr .u64 (IntKind.wrap .u64 (IntKind.wrap .i64 (t20 + t21))) 1))) ∧ ((IntKind.wrap .i64 (iopS .shr .u64 (IntKind.wrap .u64 (IntKind.wrap .i64 (t20 + t21))) 1)) < (R0.length : Int)) ∧ (R0[(Int.toNat (IntKind.wrap .i64 (iopS .shr .u64 (IntKind.wrap .u64 (IntKind.wrap .i64 (t20 + t21))) 1)))]? = some [.int .i64 (cIS R0 (Int.toNat (IntKind.wrap .i64 (iopS .shr .u64 (IntKind.wrap .u64 (IntKind.wrap .i64 (t20 + t21))) 1))) 0)]) ∧ (EZ G15 [] [.i (cIS R0 (Int.toNat (IntKind.wrap .i64 (t22 - (IntKind.wrap .i64 (iopS .shr .u64 (IntKind.wrap .u64 (IntKind.wrap .i64 (t20 + t21))) 1))))) 0), .i (cIS R0 (Int.toNat (IntKind.wrap .i64 (iopS .shr .u64 (IntKind.wrap .u64 (IntKind.wrap .i64 (t20 + t21))) 1))) 0), .r tb1] (fun x rs vs => (x = 0 ∧ ∃ y1_0 y1_b0, rs = [] ∧ vs = [.i y1_0, .r y1_b0] ∧ ((y1_0 ≥ 0 → EV 105 [R0] [.i t1, .i t2, .i t3, .i t18, .i t19, .i (IntKind.wrap .i64 ((IntKind.wrap .i64 (iopS .shr .u64 (IntKind.wrap .u64 (IntKind.wrap .i64 (t20 + t21))) 1)) + 1)), .i t21, .i t22, .r y1_b0]) ∧ (y1_0 < 0 → EV 105 [R0] [.i t1, .i t2, .i t3, .i t18, .i t19, .i t20, .i (IntKind.wrap .i64 (iopS .shr .u64 (IntKind.wrap .u64 (IntKind.wrap .i64 (t20 + t21))) 1)), .i t22, .r y1_b0])))))) ∧ (t20 ≥ t21 → (t20 < t2 → (t2 < (IntKind.wrap .i64 (t19 - t20)) → EZ G26a [R0] [.i t20, .i t2, .i (IntKind.wrap .i64 (t19 - t20)), .r tb1] (fun x rs vs => (x = 0 ∧ ∃ Y3_0 y3_b1, rs = [Y3_0] ∧ vs = [.r y3_b1] ∧ ((R0.length = Y3_0.length) ∧ (EV 127 [Y3_0] [.i t1, .i t3, .i t18, .i t20, .i (IntKind.wrap .i64 (t19 - t20)), .r y3_b1]))))) ∧ (t2 ≥ (IntKind.wrap .i64 (t19 - t20)) → EV 127 [R0] [.i t1, .i t3, .i t18, .i t20, .i (IntKind.wrap .i64 (t19 - t20)), .r tb1])) ∧ (t20 ≥ t2 → EV 127 [R0] [.i t1, .i t3, .i t18, .i t20, .i (IntKind.wrap .i64 (t19 - t20)), .r tb1]))) → EV 105 [R0] [.i t1, .i t2, .i t3, .i t18, .i t19, .i t20, .i t21, .i t22, .r tb1]
  p127 : ∀ {R0 : RW} {t1 t3 t18 t20 t24 : Int} {tb1 : RW}, (pursS R0 = true → (t1 < t20 → (t20 < t18 → EZ G25a [R0] [.i t1, .i t20, .i t18, .r tb1] (fun x rs vs => (x = 0 ∧ ∃ Y2_0 y2_b1, rs = [Y2_0] ∧ vs = [.r y2_b1] ∧ ((R0.length = Y2_0.length) ∧ (EV 133 [Y2_0] [.i t3, .i t18, .i t24, .r y2_b1]))))) ∧ (t20 ≥ t18 → EV 133 [R0] [.i t3, .i t18, .i t24, .r tb1])) ∧ (t1 ≥ t20 → EV 133 [R0] [.i t3, .i t18, .i t24, .r tb1])) → EV 127 [R0] [.i t1, .i t3, .i t18, .i t20, .i t24, .r tb1]
  p133 : ∀ {R0 : RW} {t3 t18 t24 : Int} {tb1 : RW}, (pursS R0 = true → (t18 < t24 → (t24 < t3 → EZ G25a [R0] [.i t18, .i t24, .i t3, .r tb1] (fun x rs vs => (x = 0 ∧ ∃ Y2_0 y2_b1, rs = [Y2_0] ∧ vs = [.r y2_b1] ∧ (Q 0 [Y2_0] [.r y2_b1])))) ∧ (t24 ≥ t3 → Q 0 [R0] [.r tb1])) ∧ (t18 ≥ t24 → Q 0 [R0] [.r tb1])) → EV 133 [R0] [.i t3, .i t18, .i t24, .r tb1]

theorem V25a.of (W : Wk Try.prog Try.f25 I25a L25a Q A sg CE CK Dn EV RR) : V25a EV Q := by
 have hA := W.hA
 refine ⟨?_, ?_, ?_, ?_, ?_, ?_, ?_, ?_⟩
 ·intro R0 t1 t10 t11 tb1 h
  refine W.step 80 fun hp => ?_
  have h := h hp.1
  cbv
  refine ⟨imI hA fun e0 => have j0 := h.1 (cmpE (op := .lss) hA e0); ⟨ndI hA j0.1, ⟨ndI hA (An (hA ▸ j0.2.1) (An (hA ▸ j0.2.2.1) rfl)), ⟨ndI hA (An rfl (hA ▸ j0.2.2.2.1)), ⟨ndI hA (An j0.2.2.2.2.1 (An (hA ▸ j0.2.2.2.2.2.1) rfl)), ⟨ndI hA (An rfl (hA ▸ j0.2.2.2.2.2.2.1)), ⟨?_, trivial⟩⟩⟩⟩⟩⟩, imI hA fun e0 => have j0 := h.2 (cmpE (op := .lss) hA e0); ⟨ndI hA (An rfl (An rfl rfl)), ⟨ndI hA hp.1, j0⟩⟩⟩
  refine W.cd j0.2.2.2.2.2.2.2 ?_
  rintro _ _ _ hp1 (⟨rfl, y1_0, y1_b0, rfl, rfl, k1⟩)
  cbv
  refine W.draw 80 (by rfl) ?_
  cbv
  subst hA
  exact ⟨fun e2 => have j2 := k1.1 (cmpE (op := .lss) rfl e2); ⟨(An rfl (An rfl rfl)), ⟨hp.1, j2⟩⟩, fun e2 => have j2 := k1.2 (cmpE (op := .lss) rfl e2); ⟨(An rfl (An rfl rfl)), ⟨hp.1, j2⟩⟩⟩
 ·intro R0 t10 t13 tb1 h
  refine W.step 80 fun hp => ?_
  have h := h hp.1
  cbv
  subst hA
  exact ⟨fun e0 => have j0 := h.1 ((cmpE (op := .lss) rfl e0)); ⟨⟨(An j0.1 (An j0.2.1 rfl)), ⟨⟨(An rfl j0.2.2.1), ⟨⟨(An j0.2.2.2.1 (An j0.2.2.2.2.1 rfl)), ⟨⟨(An rfl j0.2.2.2.2.2.1), ⟨⟨(An j0.2.2.2.1 (An j0.2.2.2.2.1 rfl)), ⟨⟨(An rfl j0.2.2.2.2.2.1), ⟨⟨(An j0.1 (An j0.2.1 (by show R0.length = (List.length (List.set R0 t13.toNat [.int .i64 (cIS R0 (Int.toNat (IntKind.wrap .i64 (t13 + 1))) 0)])); (first | rfl | simp [rappS_end] | (simp [rappS_end]; omega))))), ⟨⟨(An (by show R0.length = (List.length (List.set R0 t13.toNat [.int .i64 (cIS R0 (Int.toNat (IntKind.wrap .i64 (t13 + 1))) 0)])); (first | rfl | simp [rappS_end] | (simp [rappS_end]; omega))) j0.2.2.2.2.2.2.1), ⟨(An (by show R0.length = (List.length (List.set (List.set R0 t13.toNat [.int .i64 (cIS R0 (Int.toNat (IntKind.wrap .i64 (t13 + 1))) 0)]) (Int.toNat (IntKind.wrap .i64 (t13 + 1))) [.int .i64 (cIS R0 t13.toNat 0)])); (first | rfl | simp [rappS_end] | (simp [rappS_end]; omega))) (An rfl (by show R0.length = (List.length (List.set (List.set R0 t13.toNat [.int .i64 (cIS R0 (Int.toNat (IntKind.wrap .i64 (t13 + 1))) 0)]) (Int.toNat (IntKind.wrap .i64 (t13 + 1))) [.int .i64 (cIS R0 t13.toNat 0)])); (first | rfl | simp [rappS_end] | (simp [rappS_end]; omega))))), ⟨((vset (vset hp.1 rfl) rfl)), j0.2.2.2.2.2.2.2⟩⟩⟩, trivial⟩⟩, trivial⟩⟩, trivial⟩⟩, trivial⟩⟩, trivial⟩⟩, trivial⟩⟩, ⟨⟨(An j0.2.2.2.1 (An j0.2.2.2.2.1 rfl)), ⟨⟨(An rfl j0.2.2.1), ⟨⟨(An rfl j0.2.2.2.2.2.1), ⟨⟨(An j0.2.2.2.1 (An j0.2.2.2.2.1 rfl)), ⟨⟨(An rfl j0.2.2.2.2.2.1), ⟨⟨(An j0.1 (An j0.2.1 (by show R0.length = (List.length (List.set R0 t13.toNat [.int .i64 (cIS R0 (Int.toNat (IntKind.wrap .i64 (t13 + 1))) 0)])); (first | rfl | simp [rappS_end] | (simp [rappS_end]; omega))))), ⟨⟨(An (by show R0.length = (List.length (List.set R0 t13.toNat [.int .i64 (cIS R0 (Int.toNat (IntKind.wrap .i64 (t13 + 1))) 0)])); (first | rfl | simp [rappS_end] | (simp [rappS_end]; omega))) j0.2.2.2.2.2.2.1), ⟨(An (by show R0.length = (List.length (List.set (List.set R0 t13.toNat [.int .i64 (cIS R0 (Int.toNat (IntKind.wrap .i64 (t13 + 1))) 0)]) (Int.toNat (IntKind.wrap .i64 (t13 + 1))) [.int .i64 (cIS R0 t13.toNat 0)])); (first | rfl | simp [rappS_end] | (simp [rappS_end]; omega))) (An rfl (by show R0.length = (List.length (List.set (List.set R0 t13.toNat [.int .i64 (cIS R0 (Int.toNat (IntKind.wrap .i64 (t13 + 1))) 0)]) (Int.toNat (IntKind.wrap .i64 (t13 + 1))) [.int .i64 (cIS R0 t13.toNat 0)])); (first | rfl | simp [rappS_end] | (simp [rappS_end]; omega))))), ⟨((vset (vset hp.1 rfl) rfl)), j0.2.2.2.2.2.2.2⟩⟩⟩, trivial⟩⟩, trivial⟩⟩, trivial⟩⟩, trivial⟩⟩, trivial⟩⟩, ⟨⟨(An rfl j0.2.2.2.2.2.1), ⟨⟨(An rfl j0.2.2.1), ⟨⟨(An j0.2.2.2.1 (An j0.2.2.2.2.1 rfl)), ⟨⟨(An rfl j0.2.2.2.2.2.1), ⟨⟨(An j0.1 (An j0.2.1 (by show R0.length = (List.length (List.set R0 t13.toNat [.int .i64 (cIS R0 (Int.toNat (IntKind.wrap .i64 (t13 + 1))) 0)])); (first | rfl | simp [rappS_end] | (simp [rappS_end]; omega))))), ⟨⟨(An (by show R0.length = (List.length (List.set R0 t13.toNat [.int .i64 (cIS R0 (Int.toNat (IntKind.wrap .i64 (t13 + 1))) 0)])); (first | rfl | simp [rappS_end] | (simp [rappS_end]; omega))) j0.2.2.2.2.2.2.1), ⟨(An (by show R0.length = (List.length (List.set (List.set R0 t13.toNat [.int .i64 (cIS R0 (Int.toNat (IntKind.wrap .i64 (t13 + 1))) 0)]) (Int.toNat (IntKind.wrap .i64 (t13 + 1))) [.int .i64 (cIS R0 t13.toNat 0)])); (first | rfl | simp [rappS_end] | (simp [rappS_end]; omega))) (An rfl (by show R0.length = (List.length (List.set (List.set R0 t13.toNat [.int .i64 (cIS R0 (Int.toNat (IntKind.wrap .i64 (t13 + 1))) 0)]) (Int.toNat (IntKind.wrap .i64 (t13 + 1))) [.int .i64 (cIS R0 t13.toNat 0)])); (first | rfl | simp [rappS_end] | (simp [rappS_end]; omega))))), ⟨((vset (vset hp.1 rfl) rfl)), j0.2.2.2.2.2.2.2⟩⟩⟩, trivial⟩⟩, trivial⟩⟩, trivial⟩⟩, trivial⟩⟩, trivial⟩⟩, trivial⟩⟩⟩, trivial⟩⟩⟩, ⟨⟨(An j0.2.2.2.1 (An j0.2.2.2.2.1 rfl)), ⟨⟨(An j0.1 (An j0.2.1 rfl)), ⟨⟨(An rfl j0.2.2.1), ⟨⟨(An rfl j0.2.2.2.2.2.1), ⟨⟨(An j0.2.2.2.1 (An j0.2.2.2.2.1 rfl)), ⟨⟨(An rfl j0.2.2.2.2.2.1), ⟨⟨(An j0.1 (An j0.2.1 (by show R0.length = (List.length (List.set R0 t13.toNat [.int .i64 (cIS R0 (Int.toNat (IntKind.wrap .i64 (t13 + 1))) 0)])); (first | rfl | simp [rappS_end] | (simp [rappS_end]; omega))))), ⟨⟨(An (by show R0.length = (List.length (List.set R0 t13.toNat [.int .i64 (cIS R0 (Int.toNat (IntKind.wrap .i64 (t13 + 1))) 0)])); (first | rfl | simp [rappS_end] | (simp [rappS_end]; omega))) j0.2.2.2.2.2.2.1), ⟨(An (by show R0.length = (List.length (List.set (List.set R0 t13.toNat [.int .i64 (cIS R0 (Int.toNat (IntKind.wrap .i64 (t13 + 1))) 0)]) (Int.toNat (IntKind.wrap .i64 (t13 + 1))) [.int .i64 (cIS R0 t13.toNat 0)])); (first | rfl | simp [rappS_end] | (simp [rappS_end]; omega))) (An rfl (by show R0.length = (List.length (List.set (List.set R0 t13.toNat [.int .i64 (cIS R0 (Int.toNat (IntKind.wrap .i64 (t13 + 1))) 0)]) (Int.toNat (IntKind.wrap .i64 (t13 + 1))) [.int .i64 (cIS R0 t13.toNat 0)])); (first | rfl | simp [rappS_end] | (simp [rappS_end]; omega))))), ⟨((vset (vset hp.1 rfl) rfl)), j0.2.2.2.2.2.2.2⟩⟩⟩, trivial⟩⟩, trivial⟩⟩, trivial⟩⟩, trivial⟩⟩, trivial⟩⟩, ⟨⟨(An rfl j0.2.2.2.2.2.1), ⟨⟨(An rfl j0.2.2.1), ⟨⟨(An j0.2.2.2.1 (An j0.2.2.2.2.1 rfl)), ⟨⟨(An rfl j0.2.2.2.2.2.1), ⟨⟨(An j0.1 (An j0.2.1 (by show R0.length = (List.length (List.set R0 t13.toNat [.int .i64 (cIS R0 (Int.toNat (IntKind.wrap .i64 (t13 + 1))) 0)])); (first | rfl | simp [rappS_end] | (simp [rappS_end]; omega))))), ⟨⟨(An (by show R0.length = (List.length (List.set R0 t13.toNat [.int .i64 (cIS R0 (Int.toNat (IntKind.wrap .i64 (t13 + 1))) 0)])); (first | rfl | simp [rappS_end] | (simp [rappS_end]; omega))) j0.2.2.2.2.2.2.1), ⟨(An (by show R0.length = (List.length (List.set (List.set R0 t13.toNat [.int .i64 (cIS R0 (Int.toNat (IntKind.wrap .i64 (t13 + 1))) 0)]) (Int.toNat (IntKind.wrap .i64 (t13 + 1))) [.int .i64 (cIS R0 t13.toNat 0)])); (first | rfl | simp [rappS_end] | (simp [rappS_end]; omega))) (An rfl (by show R0.length = (List.length (List.set (List.set R0 t13.toNat [.int .i64 (cIS R0 (Int.toNat (IntKind.wrap .i64 (t13 + 1))) 0)]) (Int.toNat (IntKind.wrap .i64 (t13 + 1))) [.int .i64 (cIS R0 t13.toNat 0)])); (first | rfl | simp [rappS_end] | (simp [rappS_end]; omega))))), ⟨((vset (vset hp.1 rfl) rfl)), j0.2.2.2.2.2.2.2⟩⟩⟩, trivial⟩⟩, trivial⟩⟩, trivial⟩⟩, trivial⟩⟩, trivial⟩⟩, trivial⟩⟩⟩, ⟨⟨(An rfl j0.2.2.2.2.2.1), ⟨⟨(An j0.1 (An j0.2.1 rfl)), ⟨⟨(An rfl j0.2.2.1), ⟨⟨(An j0.2.2.2.1 (An j0.2.2.2.2.1 rfl)), ⟨⟨(An rfl j0.2.2.2.2.2.1), ⟨⟨(An j0.1 (An j0.2.1 (by show R0.length = (List.length (List.set R0 t13.toNat [.int .i64 (cIS R0 (Int.toNat (IntKind.wrap .i64 (t13 + 1))) 0)])); (first | rfl | simp [rappS_end] | (simp [rappS_end]; omega))))), ⟨⟨(An (by show R0.length = (List.length (List.set R0 t13.toNat [.int .i64 (cIS R0 (Int.toNat (IntKind.wrap .i64 (t13 + 1))) 0)])); (first | rfl | simp [rappS_end] | (simp [rappS_end]; omega))) j0.2.2.2.2.2.2.1), ⟨(An (by show R0.length = (List.length (List.set (List.set R0 t13.toNat [.int .i64 (cIS R0 (Int.toNat (IntKind.wrap .i64 (t13 + 1))) 0)]) (Int.toNat (IntKind.wrap .i64 (t13 + 1))) [.int .i64 (cIS R0 t13.toNat 0)])); (first | rfl | simp [rappS_end] | (simp [rappS_end]; omega))) (An rfl (by show R0.length = (List.length (List.set (List.set R0 t13.toNat [.int .i64 (cIS R0 (Int.toNat (IntKind.wrap .i64 (t13 + 1))) 0)]) (Int.toNat (IntKind.wrap .i64 (t13 + 1))) [.int .i64 (cIS R0 t13.toNat 0)])); (first | rfl | simp [rappS_end] | (simp [rappS_end]; omega))))), ⟨((vset (vset hp.1 rfl) rfl)), j0.2.2.2.2.2.2.2⟩⟩⟩, trivial⟩⟩, trivial⟩⟩, trivial⟩⟩, trivial⟩⟩, trivial⟩⟩, trivial⟩⟩, trivial⟩⟩⟩, trivial⟩⟩, fun e0 => have j0 := h.2 ((cmpE (op := .lss) rfl e0)); ⟨hp.1, (W.q j0)⟩⟩
 ·intro R0 t2 t14 t15 tb1 h
  refine W.step 80 fun hp => ?_
  have h := h hp.1
  cbv
  refine ⟨imI hA fun e0 => have j0 := h.1 (cmpE (op := .lss) hA e0); ⟨ndI hA j0.1, ⟨ndI hA (An j0.2.1 (An (hA ▸ j0.2.2.1) rfl)), ⟨ndI hA (An rfl (hA ▸ j0.2.2.2.1)), ⟨ndI hA (An (hA ▸ j0.2.2.2.2.1) (An (hA ▸ j0.2.2.2.2.2.1) rfl)), ⟨ndI hA (An rfl (hA ▸ j0.2.2.2.2.2.2.1)), ⟨?_, trivial⟩⟩⟩⟩⟩⟩, imI hA fun e0 => have j0 := h.2 (cmpE (op := .lss) hA e0); ⟨ndI hA (An rfl (An rfl rfl)), ⟨ndI hA hp.1, j0⟩⟩⟩
  refine W.cd j0.2.2.2.2.2.2.2 ?_
  rintro _ _ _ hp1 (⟨rfl, y1_0, y1_b0, rfl, rfl, k1⟩)
  cbv
  refine W.draw 80 (by rfl) ?_
  cbv
  subst hA
  exact ⟨fun e2 => have j2 := k1.1 ((cmpE (op := .lss) rfl (notE rfl e2))); ⟨(An rfl (An rfl rfl)), ⟨hp.1, j2⟩⟩, fun e2 => have j2 := k1.2 ((cmpE (op := .lss) rfl (notE rfl e2))); ⟨(An rfl (An rfl rfl)), ⟨hp.1, j2⟩⟩⟩
 ·intro R0 t14 t17 tb1 h
  refine W.step 80 fun hp => ?_
  have h := h hp.1
  cbv
  subst hA
  exact ⟨fun e0 => have j0 := h.1 (cmpE (op := .gtr) rfl e0); ⟨⟨(An j0.1 (An j0.2.1 rfl)), ⟨⟨(An rfl j0.2.2.1), ⟨⟨(An j0.2.2.2.1 (An j0.2.2.2.2.1 rfl)), ⟨⟨(An rfl j0.2.2.2.2.2.1), ⟨⟨(An j0.2.2.2.1 (An j0.2.2.2.2.1 rfl)), ⟨⟨(An rfl j0.2.2.2.2.2.1), ⟨⟨(An j0.1 (An j0.2.1 (by show R0.length = (List.length (List.set R0 t17.toNat [.int .i64 (cIS R0 (Int.toNat (IntKind.wrap .i64 (t17 - 1))) 0)])); (first | rfl | simp [rappS_end] | (simp [rappS_end]; omega))))), ⟨⟨(An (by show R0.length = (List.length (List.set R0 t17.toNat [.int .i64 (cIS R0 (Int.toNat (IntKind.wrap .i64 (t17 - 1))) 0)])); (first | rfl | simp [rappS_end] | (simp [rappS_end]; omega))) j0.2.2.2.2.2.2.1), ⟨(An (by show R0.length = (List.length (List.set (List.set R0 t17.toNat [.int .i64 (cIS R0 (Int.toNat (IntKind.wrap .i64 (t17 - 1))) 0)]) (Int.toNat (IntKind.wrap .i64 (t17 - 1))) [.int .i64 (cIS R0 t17.toNat 0)])); (first | rfl | simp [rappS_end] | (simp [rappS_end]; omega))) (An rfl (by show R0.length = (List.length (List.set (List.set R0 t17.toNat [.int .i64 (cIS R0 (Int.toNat (IntKind.wrap .i64 (t17 - 1))) 0)]) (Int.toNat (IntKind.wrap .i64 (t17 - 1))) [.int .i64 (cIS R0 t17.toNat 0)])); (first | rfl | simp [rappS_end] | (simp [rappS_end]; omega))))), ⟨((vset (vset hp.1 rfl) rfl)), j0.2.2.2.2.2.2.2⟩⟩⟩, trivial⟩⟩, trivial⟩⟩, trivial⟩⟩, trivial⟩⟩, trivial⟩⟩, trivial⟩⟩, ⟨⟨(An j0.2.2.2.1 (An j0.2.2.2.2.1 rfl)), ⟨⟨(An rfl j0.2.2.1), ⟨⟨(An rfl j0.2.2.2.2.2.1), ⟨⟨(An j0.2.2.2.1 (An j0.2.2.2.2.1 rfl)), ⟨⟨(An rfl j0.2.2.2.2.2.1), ⟨⟨(An j0.1 (An j0.2.1 (by show R0.length = (List.length (List.set R0 t17.toNat [.int .i64 (cIS R0 (Int.toNat (IntKind.wrap .i64 (t17 - 1))) 0)])); (first | rfl | simp [rappS_end] | (simp [rappS_end]; omega))))), ⟨⟨(An (by show R0.length = (List.length (List.set R0 t17.toNat [.int .i64 (cIS R0 (Int.toNat (IntKind.wrap .i64 (t17 - 1))) 0)])); (first | rfl | simp [rappS_end] | (simp [rappS_end]; omega))) j0.2.2.2.2.2.2.1), ⟨(An (by show R0.length = (List.length (List.set (List.set R0 t17.toNat [.int .i64 (cIS R0 (Int.toNat (IntKind.wrap .i64 (t17 - 1))) 0)]) (Int.toNat (IntKind.wrap .i64 (t17 - 1))) [.int .i64 (cIS R0 t17.toNat 0)])); (first | rfl | simp [rappS_end] | (simp [rappS_end]; omega))) (An rfl (by show R0.length = (List.length (List.set (List.set R0 t17.toNat [.int .i64 (cIS R0 (Int.toNat (IntKind.wrap .i64 (t17 - 1))) 0)]) (Int.toNat (IntKind.wrap .i64 (t17 - 1))) [.int .i64 (cIS R0 t17.toNat 0)])); (first | rfl | simp [rappS_end] | (simp [rappS_end]; omega))))), ⟨((vset (vset hp.1 rfl) rfl)), j0.2.2.2.2.2.2.2⟩⟩⟩, trivial⟩⟩, trivial⟩⟩, trivial⟩⟩, trivial⟩⟩, trivial⟩⟩, ⟨⟨(An rfl j0.2.2.2.2.2.1), ⟨⟨(An rfl j0.2.2.1), ⟨⟨(An j0.2.2.2.1 (An j0.2.2.2.2.1 rfl)), ⟨⟨(An rfl j0.2.2.2.2.2.1), ⟨⟨(An j0.1 (An j0.2.1 (by show R0.length = (List.length (List.set R0 t17.toNat [.int .i64 (cIS R0 (Int.toNat (IntKind.wrap .i64 (t17 - 1))) 0)])); (first | rfl | simp [rappS_end] | (simp [rappS_end]; omega))))), ⟨⟨(An (by show R0.length = (List.length (List.set R0 t17.toNat [.int .i64 (cIS R0 (Int.toNat (IntKind.wrap .i64 (t17 - 1))) 0)])); (first | rfl | simp [rappS_end] | (simp [rappS_end]; omega))) j0.2.2.2.2.2.2.1), ⟨(An (by show R0.length = (List.length (List.set (List.set R0 t17.toNat [.int .i64 (cIS R0 (Int.toNat (IntKind.wrap .i64 (t17 - 1))) 0)]) (Int.toNat (IntKind.wrap .i64 (t17 - 1))) [.int .i64 (cIS R0 t17.toNat 0)])); (first | rfl | simp [rappS_end] | (simp [rappS_end]; omega))) (An rfl (by show R0.length = (List.length (List.set (List.set R0 t17.toNat [.int .i64 (cIS R0 (Int.toNat (IntKind.wrap .i64 (t17 - 1))) 0)]) (Int.toNat (IntKind.wrap .i64 (t17 - 1))) [.int .i64 (cIS R0 t17.toNat 0)])); (first | rfl | simp [rappS_end] | (simp [rappS_end]; omega))))), ⟨((vset (vset hp.1 rfl) rfl)), j0.2.2.2.2.2.2.2⟩⟩⟩, trivial⟩⟩, trivial⟩⟩, trivial⟩⟩, trivial⟩⟩, trivial⟩⟩, trivial⟩⟩⟩, trivial⟩⟩⟩, ⟨⟨(An j0.2.2.2.1 (An j0.2.2.2.2.1 rfl)), ⟨⟨(An j0.1 (An j0.2.1 rfl)), ⟨⟨(An rfl j0.2.2.1), ⟨⟨(An rfl j0.2.2.2.2.2.1), ⟨⟨(An j0.2.2.2.1 (An j0.2.2.2.2.1 rfl)), ⟨⟨(An rfl j0.2.2.2.2.2.1), ⟨⟨(An j0.1 (An j0.2.1 (by show R0.length = (List.length (List.set R0 t17.toNat [.int .i64 (cIS R0 (Int.toNat (IntKind.wrap .i64 (t17 - 1))) 0)])); (first | rfl | simp [rappS_end] | (simp [rappS_end]; omega))))), ⟨⟨(An (by show R0.length = (List.length (List.set R0 t17.toNat [.int .i64 (cIS R0 (Int.toNat (IntKind.wrap .i64 (t17 - 1))) 0)])); (first | rfl | simp [rappS_end] | (simp [rappS_end]; omega))) j0.2.2.2.2.2.2.1), ⟨(An (by show R0.length = (List.length (List.set (List.set R0 t17.toNat [.int .i64 (cIS R0 (Int.toNat (IntKind.wrap .i64 (t17 - 1))) 0)]) (Int.toNat (IntKind.wrap .i64 (t17 - 1))) [.int .i64 (cIS R0 t17.toNat 0)])); (first | rfl | simp [rappS_end] | (simp [rappS_end]; omega))) (An rfl (by show R0.length = (List.length (List.set (List.set R0 t17.toNat [.int .i64 (cIS R0 (Int.toNat (IntKind.wrap .i64 (t17 - 1))) 0)]) (Int.toNat (IntKind.wrap .i64 (t17 - 1))) [.int .i64 (cIS R0 t17.toNat 0)])); (first | rfl | simp [rappS_end] | (simp [rappS_end]; omega))))), ⟨((vset (vset hp.1 rfl) rfl)), j0.2.2.2.2.2.2.2⟩⟩⟩, trivial⟩⟩, trivial⟩⟩, trivial⟩⟩, trivial⟩⟩, trivial⟩⟩, ⟨⟨(An rfl j0.2.2.2.2.2.1), ⟨⟨(An rfl j0.2.2.1), ⟨⟨(An j0.2.2.2.1 (An j0.2.2.2.2.1 rfl)), ⟨⟨(An rfl j0.2.2.2.2.2.1), ⟨⟨(An j0.1 (An j0.2.1 (by show R0.length = (List.length (List.set R0 t17.toNat [.int .i64 (cIS R0 (Int.toNat (IntKind.wrap .i64 (t17 - 1))) 0)])); (first | rfl | simp [rappS_end] | (simp [rappS_end]; omega))))), ⟨⟨(An (by show R0.length = (List.length (List.set R0 t17.toNat [.int .i64 (cIS R0 (Int.toNat (IntKind.wrap .i64 (t17 - 1))) 0)])); (first | rfl | simp [rappS_end] | (simp [rappS_end]; omega))) j0.2.2.2.2.2.2.1), ⟨(An (by show R0.length = (List.length (List.set (List.set R0 t17.toNat [.int .i64 (cIS R0 (Int.toNat (IntKind.wrap .i64 (t17 - 1))) 0)]) (Int.toNat (IntKind.wrap .i64 (t17 - 1))) [.int .i64 (cIS R0 t17.toNat 0)])); (first | rfl | simp [rappS_end] | (simp [rappS_end]; omega))) (An rfl (by show R0.length = (List.length (List.set (List.set R0 t17.toNat [.int .i64 (cIS R0 (Int.toNat (IntKind.wrap .i64 (t17 - 1))) 0)]) (Int.toNat (IntKind.wrap .i64 (t17 - 1))) [.int .i64 (cIS R0 t17.toNat 0)])); (first | rfl | simp [rappS_end] | (simp [rappS_end]; omega))))), ⟨((vset (vset hp.1 rfl) rfl)), j0.2.2.2.2.2.2.2⟩⟩⟩, trivial⟩⟩, trivial⟩⟩, trivial⟩⟩, trivial⟩⟩, trivial⟩⟩, trivial⟩⟩⟩, ⟨⟨(An rfl j0.2.2.2.2.2.1), ⟨⟨(An j0.1 (An j0.2.1 rfl)), ⟨⟨(An rfl j0.2.2.1), ⟨⟨(An j0.2.2.2.1 (An j0.2.2.2.2.1 rfl)), ⟨⟨(An rfl j0.2.2.2.2.2.1), ⟨⟨(An j0.1 (An j0.2.1 (by show R0.length = (List.length (List.set R0 t17.toNat [.int .i64 (cIS R0 (Int.toNat (IntKind.wrap .i64 (t17 - 1))) 0)])); (first | rfl | simp [rappS_end] | (simp [rappS_end]; omega))))), ⟨⟨(An (by show R0.length = (List.length (List.set R0 t17.toNat [.int .i64 (cIS R0 (Int.toNat (IntKind.wrap .i64 (t17 - 1))) 0)])); (first | rfl | simp [rappS_end] | (simp [rappS_end]; omega))) j0.2.2.2.2.2.2.1), ⟨(An (by show R0.length = (List.length (List.set (List.set R0 t17.toNat [.int .i64 (cIS R0 (Int.toNat (IntKind.wrap .i64 (t17 - 1))) 0)]) (Int.toNat (IntKind.wrap .i64 (t17 - 1))) [.int .i64 (cIS R0 t17.toNat 0)])); (first | rfl | simp [rappS_end] | (simp [rappS_end]; omega))) (An rfl (by show R0.length = (List.length (List.set (List.set R0 t17.toNat [.int .i64 (cIS R0 (Int.toNat (IntKind.wrap .i64 (t17 - 1))) 0)]) (Int.toNat (IntKind.wrap .i64 (t17 - 1))) [.int .i64 (cIS R0 t17.toNat 0)])); (first | rfl | simp [rappS_end] | (simp [rappS_end]; omega))))), ⟨((vset (vset hp.1 rfl) rfl)), j0.2.2.2.2.2.2.2⟩⟩⟩, trivial⟩⟩, trivial⟩⟩, trivial⟩⟩, trivial⟩⟩, trivial⟩⟩, trivial⟩⟩, trivial⟩⟩⟩, trivial⟩⟩, fun e0 => have j0 := h.2 (cmpE (op := .gtr) rfl e0); ⟨hp.1, (W.q j0)⟩⟩
 ·intro R0 t1 t2 t3 t18 t19 t20 t21 tb1 h
  refine W.step 80 fun hp => ?_
  have h := h hp.1
  cbv
  subst hA
  exact ⟨(An rfl (An rfl rfl)), ⟨hp.1, h⟩⟩
 ·intro R0 t1 t2 t3 t18 t19 t20 t21 t22 tb1 h
  refine W.step 80 fun hp => ?_
  have h := h hp.1
  cbv
  refine ⟨imI hA fun e0 => have j0 := h.1 (cmpE (op := .lss) hA e0); ⟨ndI hA j0.1, ⟨ndI hA (An (hA ▸ j0.2.1) (An (hA ▸ j0.2.2.1) rfl)), ⟨ndI hA (An rfl (hA ▸ j0.2.2.2.1)), ⟨ndI hA (An (hA ▸ j0.2.2.2.2.1) (An (hA ▸ j0.2.2.2.2.2.1) rfl)), ⟨ndI hA (An rfl (hA ▸ j0.2.2.2.2.2.2.1)), ⟨?_, trivial⟩⟩⟩⟩⟩⟩, imI hA fun e0 => have j0 := h.2 (cmpE (op := .lss) hA e0); ⟨imI hA fun e1 => have j1 := j0.1 (cmpE (op := .lss) hA e1); ⟨imI hA fun e2 => have j2 := j1.1 (by subst hA; exact (cmpE (op := .lss) rfl e2)); ⟨ndI hA (An rfl (An rfl rfl)), ⟨ndI hA hp.1, ?_⟩⟩, imI hA fun e2 => have j2 := j1.2 (by subst hA; exact (cmpE (op := .lss) rfl e2)); ⟨ndI hA (An rfl (An rfl rfl)), ⟨ndI hA hp.1, (hA ▸ j2)⟩⟩⟩, imI hA fun e1 => have j1 := j0.2 (cmpE (op := .lss) hA e1); ⟨ndI hA (An rfl (An rfl rfl)), ⟨ndI hA hp.1, (hA ▸ j1)⟩⟩⟩⟩
  ·refine W.cd j0.2.2.2.2.2.2.2 ?_
   rintro _ _ _ hp1 (⟨rfl, y1_0, y1_b0, rfl, rfl, k1⟩)
   cbv
   refine W.draw 80 (by rfl) ?_
   cbv
   subst hA
   exact ⟨fun e2 => have j2 := k1.1 ((cmpE (op := .lss) rfl (notE rfl e2))); ⟨(An rfl (An rfl rfl)), ⟨hp.1, j2⟩⟩, fun e2 => have j2 := k1.2 ((cmpE (op := .lss) rfl (notE rfl e2))); ⟨(An rfl (An rfl rfl)), ⟨hp.1, j2⟩⟩⟩
  ·refine W.cl j2 ?_
   rintro _ _ _ hp3 (⟨rfl, Y3_0, y3_b1, rfl, rfl, k3⟩)
   cbv
   subst hA
   exact ⟨(An k3.1 (An rfl k3.1)), ⟨hp3.1, k3.2⟩⟩
 ·intro R0 t1 t3 t18 t20 t24 tb1 h
  refine W.step 80 fun hp => ?_
  have h := h hp.1
  cbv
  refine ⟨imI hA fun e0 => have j0 := h.1 (cmpE (op := .lss) hA e0); ⟨imI hA fun e1 => have j1 := j0.1 (cmpE (op := .lss) hA e1); ⟨ndI hA (An rfl (An rfl rfl)), ⟨ndI hA hp.1, ?_⟩⟩, imI hA fun e1 => have j1 := j0.2 (cmpE (op := .lss) hA e1); ⟨ndI hA (An rfl (An rfl rfl)), ⟨ndI hA hp.1, j1⟩⟩⟩, imI hA fun e0 => have j0 := h.2 (cmpE (op := .lss) hA e0); ⟨ndI hA (An rfl (An rfl rfl)), ⟨ndI hA hp.1, j0⟩⟩⟩
  refine W.cl j1 ?_
  rintro _ _ _ hp2 (⟨rfl, Y2_0, y2_b1, rfl, rfl, k2⟩)
  cbv
  subst hA
  exact ⟨(An k2.1 (An rfl k2.1)), ⟨hp2.1, k2.2⟩⟩
 ·intro R0 t3 t18 t24 tb1 h
  refine W.step 80 fun hp => ?_
  have h := h hp.1
  cbv
  refine ⟨imI hA fun e0 => have j0 := h.1 (cmpE (op := .lss) hA e0); ⟨imI hA fun e1 => have j1 := j0.1 (cmpE (op := .lss) hA e1); ⟨ndI hA (An rfl (An rfl rfl)), ⟨ndI hA hp.1, ?_⟩⟩, imI hA fun e1 => have j1 := j0.2 (cmpE (op := .lss) hA e1); ⟨ndI hA hp.1, (W.q j1)⟩⟩, imI hA fun e0 => have j0 := h.2 (cmpE (op := .lss) hA e0); ⟨ndI hA hp.1, (W.q j0)⟩⟩
  refine W.cl j1 ?_
  rintro _ _ _ hp2 (⟨rfl, Y2_0, y2_b1, rfl, rfl, k2⟩)
  cbv
  subst hA
  exact ⟨hp2.1, (W.q k2)⟩

theorem E25a {R0 : RW} {a1 a2 a3 : Int} {ab1 : RW} (h : pursS R0 = true → ∀ EV, V25a EV Q → ((IntKind.wrap .i64 (a2 - a1)) = 1 → EV 11 [R0] [.i a1, .i a2, .i a3, .r ab1]) ∧ ((IntKind.wrap .i64 (a2 - a1)) ≠ 1 → ((IntKind.wrap .i64 (a3 - a2)) = 1 → EV 53 [R0] [.i a2, .i a1, .i a2, .r ab1]) ∧ ((IntKind.wrap .i64 (a3 - a2)) ≠ 1 → ((0 : Int) ≤ 1) ∧ (a2 > (IntKind.wrap .i64 (iopS .shr .u64 (IntKind.wrap .u64 (IntKind.wrap .i64 (a1 + a3))) 1)) → EV 100 [R0] [.i a1, .i a2, .i a3, .i (IntKind.wrap .i64 (iopS .shr .u64 (IntKind.wrap .u64 (IntKind.wrap .i64 (a1 + a3))) 1)), .i (IntKind.wrap .i64 ((IntKind.wrap .i64 (iopS .shr .u64 (IntKind.wrap .u64 (IntKind.wrap .i64 (a1 + a3))) 1)) + a2)), .i (IntKind.wrap .i64 ((IntKind.wrap .i64 ((IntKind.wrap .i64 (iopS .shr .u64 (IntKind.wrap .u64 (IntKind.wrap .i64 (a1 + a3))) 1)) + a2)) - a3)), .i (IntKind.wrap .i64 (iopS .shr .u64 (IntKind.wrap .u64 (IntKind.wrap .i64 (a1 + a3))) 1)), .r ab1]) ∧ (a2 ≤ (IntKind.wrap .i64 (iopS .shr .u64 (IntKind.wrap .u64 (IntKind.wrap .i64 (a1 + a3))) 1)) → EV 100 [R0] [.i a1, .i a2, .i a3, .i (IntKind.wrap .i64 (iopS .shr .u64 (IntKind.wrap .u64 (IntKind.wrap .i64 (a1 + a3))) 1)), .i (IntKind.wrap .i64 ((IntKind.wrap .i64 (iopS .shr .u64 (IntKind.wrap .u64 (IntKind.wrap .i64 (a1 + a3))) 1)) + a2)), .i a1, .i a2, .r ab1])))) : EZ G25a [R0] [.i a1, .i a2, .i a3, .r ab1] Q := by
 refine Inst.en (I := I25a) (L := L25a) F25_at fun A hA CE CK Dn EV RR W hp => ?_
 have h := h hp.1 EV (V25a.of W)
 cbv
 subst hA
 exact ⟨fun e0 => have j0 := h.1 ((cmpE (op := .eql) rfl e0)); ⟨(An rfl (An rfl rfl)), ⟨hp.1, j0⟩⟩, fun e0 => have j0 := h.2 ((cmpE (op := .eql) rfl e0)); ⟨fun e1 => have j1 := j0.1 ((cmpE (op := .eql) rfl e1)); ⟨(An rfl (An rfl rfl)), ⟨hp.1, j1⟩⟩, fun e1 => have j1 := j0.2 ((cmpE (op := .eql) rfl e1)); ⟨j1.1, ⟨fun e2 => have j2 := j1.2.1 ((cmpE (op := .gtr) rfl e2)); ⟨(An rfl (An rfl rfl)), ⟨hp.1, j2⟩⟩, fun e2 => have j2 := j1.2.2 ((cmpE (op := .gtr) rfl e2)); ⟨(An rfl (An rfl rfl)), ⟨hp.1, j2⟩⟩⟩⟩⟩⟩

-- 21a: slices.stableCmpFunc[int]
structure V21a (EV Q : EP) : Prop where
  p7 : ∀ {R0 : RW} {t1 t6 t7 t8 : Int} {tb1 : RW}, (pursS R0 = true → (t8 ≤ t1 → EZ G24a [R0] [.i t7, .i t8, .r tb1] (fun x rs vs => (x = 0 ∧ ∃ Y1_0 y1_b1, rs = [Y1_0] ∧ vs = [.r y1_b1] ∧ ((R0.length = Y1_0.length) ∧ (EV 7 [Y1_0] [.i t1, .i t6, .i t8, .i (IntKind.wrap .i64 (t8 + t6)), .r y1_b1]))))) ∧ (t8 > t1 → EZ G24a [R0] [.i t7, .i t1, .r tb1] (fun x rs vs => (x = 0 ∧ ∃ Y1_0 y1_b1, rs = [Y1_0] ∧ vs = [.r y1_b1] ∧ ((R0.length = Y1_0.length) ∧ (EV 23 [Y1_0] [.i t1, .i t6, .r y1_b1])))))) → EV 7 [R0] [.i t1, .i t6, .i t7, .i t8, .r tb1]
  p23 : ∀ {R0 : RW} {t1 t6 : Int} {tb1 : RW}, (pursS R0 = true → (t6 < t1 → EV 35 [R0] [.i t1, .i t6, .i 0, .i (IntKind.wrap .i64 (2 * t6)), .r tb1]) ∧ (t6 ≥ t1 → Q 0 [R0] [.r tb1])) → EV 23 [R0] [.i t1, .i t6, .r tb1]
  p35 : ∀ {R0 : RW} {t1 t6 t7 t8 : Int} {tb1 : RW}, (pursS R0 = true → (t8 ≤ t1 → EZ G25a [R0] [.i t7, .i (IntKind.wrap .i64 (t7 + t6)), .i t8, .r tb1] (fun x rs vs => (x = 0 ∧ ∃ Y1_0 y1_b1, rs = [Y1_0] ∧ vs = [.r y1_b1] ∧ ((R0.length = Y1_0.length) ∧ (EV 35 [Y1_0] [.i t1, .i t6, .i t8, .i (IntKind.wrap .i64 (t8 + (IntKind.wrap .i64 (2 * t6)))), .r y1_b1]))))) ∧ (t8 > t1 → ((IntKind.wrap .i64 (t7 + t6)) < t1 → EZ G25a [R0] [.i t7, .i (IntKind.wrap .i64 (t7 + t6)), .i t1, .r tb1] (fun x rs vs => (x = 0 ∧ ∃ Y2_0 y2_b1, rs = [Y2_0] ∧ vs = [.r y2_b1] ∧ ((R0.length = Y2_0.length) ∧ (EV 23 [Y2_0] [.i t1, .i (IntKind.wrap .i64 (t6 * 2)), .r y2_b1]))))) ∧ ((IntKind.wrap .i64 (t7 + t6)) ≥ t1 → EV 23 [R0] [.i t1, .i (IntKind.wrap .i64 (t6 * 2)), .r tb1]))) → EV 35 [R0] [.i t1, .i t6, .i t7, .i t8, .r tb1]

theorem V21a.of (W : Wk Try.prog Try.f21 I21a L21a Q A sg CE CK Dn EV RR) : V21a EV Q := by
 have hA := W.hA
 refine ⟨?_, ?_, ?_⟩
 ·intro R0 t1 t6 t7 t8 tb1 h
  refine W.step 80 fun hp => ?_
  have h := h hp.1
  cbv
  refine ⟨imI hA fun e0 => have j0 := h.1 (cmpE (op := .leq) hA e0); ⟨ndI hA (An rfl (An rfl rfl)), ⟨ndI hA hp.1, ?_⟩⟩, imI hA fun e0 => have j0 := h.2 (cmpE (op := .leq) hA e0); ⟨ndI hA (An rfl (An rfl rfl)), ⟨ndI hA hp.1, ?_⟩⟩⟩
  ·refine W.cl j0 ?_
   rintro _ _ _ hp1 (⟨rfl, Y1_0, y1_b1, rfl, rfl, k1⟩)
   cbv
   subst hA
   exact ⟨(An k1.1 (An rfl k1.1)), ⟨hp1.1, k1.2⟩⟩
  ·refine W.cl j0 ?_
   rintro _ _ _ hp1 (⟨rfl, Y1_0, y1_b1, rfl, rfl, k1⟩)
   cbv
   subst hA
   exact ⟨(An k1.1 (An rfl k1.1)), ⟨hp1.1, k1.2⟩⟩
 ·intro R0 t1 t6 tb1 h
  refine W.step 80 fun hp => ?_
  have h := h hp.1
  cbv
  subst hA
  exact ⟨fun e0 => have j0 := h.1 (cmpE (op := .lss) rfl e0); ⟨(An rfl (An rfl rfl)), ⟨hp.1, j0⟩⟩, fun e0 => have j0 := h.2 (cmpE (op := .lss) rfl e0); ⟨hp.1, (W.q j0)⟩⟩
 ·intro R0 t1 t6 t7 t8 tb1 h
  refine W.step 80 fun hp => ?_
  have h := h hp.1
  cbv
  refine ⟨imI hA fun e0 => have j0 := h.1 (cmpE (op := .leq) hA e0); ⟨ndI hA (An rfl (An rfl rfl)), ⟨ndI hA hp.1, ?_⟩⟩, imI hA fun e0 => have j0 := h.2 (cmpE (op := .leq) hA e0); ⟨imI hA fun e1 => have j1 := j0.1 (by subst hA; exact (cmpE (op := .lss) rfl e1)); ⟨ndI hA (An rfl (An rfl rfl)), ⟨ndI hA hp.1, ?_⟩⟩, imI hA fun e1 => have j1 := j0.2 (by subst hA; exact (cmpE (op := .lss) rfl e1)); ⟨ndI hA (An rfl (An rfl rfl)), ⟨ndI hA hp.1, (hA ▸ j1)⟩⟩⟩⟩
  ·refine W.cl j0 ?_
   rintro _ _ _ hp1 (⟨rfl, Y1_0, y1_b1, rfl, rfl, k1⟩)
   cbv
   subst hA
   exact ⟨(An k1.1 (An rfl k1.1)), ⟨hp1.1, k1.2⟩⟩
  ·refine W.cl j1 ?_
   rintro _ _ _ hp2 (⟨rfl, Y2_0, y2_b1, rfl, rfl, k2⟩)
   cbv
   subst hA
   exact ⟨(An k2.1 (An rfl k2.1)), ⟨hp2.1, k2.2⟩⟩

theorem E21a {R0 : RW} {a1 : Int} {ab1 : RW} (h : pursS R0 = true → ∀ EV, V21a EV Q → EV 7 [R0] [.i a1, .i 20, .i 0, .i 20, .r ab1]) : EZ G21a [R0] [.i a1, .r ab1] Q := by
 refine Inst.en (I := I21a) (L := L21a) F21_at fun A hA CE CK Dn EV RR W hp => ?_
 have h := h hp.1 EV (V21a.of W)
 cbv
 subst hA
 exact ⟨(An rfl (An rfl rfl)), ⟨hp.1, h⟩⟩

-- 14a: slices.SortStableFunc[[]int,int]
structure V14a (EV Q : EP) : Prop where
  none : True

theorem E14a {R0 ab1 : RW} (h : pursS R0 = true → ∀ EV, V14a EV Q → EZ G21a [R0] [.i (R0.length : Int), .r ab1] (fun x rs vs => (x = 0 ∧ ∃ Y0_0 y0_b1, rs = [Y0_0] ∧ vs = [.r y0_b1] ∧ (Q 0 [Y0_0] [.r y0_b1])))) : EZ G14a [R0] [.r ab1] Q := by
 refine Inst.en (I := I14a) (L := L14a) F14_at fun A hA CE CK Dn EV RR W hp => ?_
 have h := h hp.1 EV ⟨trivial⟩
 cbv
 refine ⟨ndI hA rfl, ⟨ndI hA (An rfl (An rfl rfl)), ⟨ndI hA hp.1, ?_⟩⟩⟩
 refine W.cl h ?_
 rintro _ _ _ hp0 (⟨rfl, Y0_0, y0_b1, rfl, rfl, k0⟩)
 cbv
 subst hA
 exact ⟨hp0.1, (W.q k0)⟩

-- 16: (signalbox/edf.items).Len
structure V16 (EV Q : EP) : Prop where
  none : True

theorem E16 {R0 : RW} {a0 : Nat} (h : pursS R0 = true → ∀ EV, V16 EV Q → Q 0 [R0] [.i (a0 : Int)]) : EZ G16 [R0] [.n a0] Q := by
 refine Inst.en (I := I16) (L := L16) F16_at fun A hA CE CK Dn EV RR W hp => ?_
 have h := h hp.1 EV ⟨trivial⟩
 cbv
 subst hA
 exact ⟨rfl, ⟨hp.1, (W.q h)⟩⟩

-- 46: (*signalbox/edf.items).Push DRAWN
structure V46 (EV Q : EP) : Prop where
  none : True

theorem E46 {R0 : RW} {v0 v1 : Int} {ab0 : Nat} (h : pursS R0 = true → ∀ EV, V46 EV Q → (true = true → (ab0 ≤ R0.length) ∧ ((ab0 + 1) ≤ 140737488355328) ∧ (((ab0 + 1) * 16) ≤ 140737488355328) ∧ (Q 0 [(rappS R0 ab0 [[(AV.int .i64 v0), (AV.int .i64 v1)]])] [.n (ab0 + 1)])) ∧ (true = false → Q 0 [R0] [.n ab0])) : EZ G46 [R0] [.i v0, .i v1, .n ab0] Q := by
 refine Inst.en (I := I46) (L := L46) F46_at fun A hA CE CK Dn EV RR W hp => ?_
 have h := h hp.1 EV ⟨trivial⟩
 cbv
 subst hA
 exact ⟨fun e0 => have j0 := h.1 e0; ⟨⟨⟨⟨(An rfl (An j0.1 (An j0.2.1 j0.2.2.1))), ⟨⟨(An rfl rfl), ⟨((vapp hp.1 vpur)), (W.q j0.2.2.2)⟩⟩, trivial⟩⟩, trivial⟩, trivial⟩, ⟨⟨⟨⟨(An rfl (An j0.1 (An j0.2.1 j0.2.2.1))), ⟨⟨(An rfl rfl), ⟨((vapp hp.1 vpur)), (W.q j0.2.2.2)⟩⟩, trivial⟩⟩, trivial⟩, trivial⟩, trivial⟩⟩, fun e0 => have j0 := h.2 e0; ⟨(An rfl rfl), ⟨hp.1, (W.q j0)⟩⟩⟩

-- 44: (signalbox/edf.items).Less DRAWN
structure V44 (EV Q : EP) : Prop where
  none : True

theorem E44 {R0 : RW} {a0 : Nat} {a1 a2 : Int} (h : pursS R0 = true → ∀ EV, V44 EV Q → (0 ≤ a1) ∧ (a1 < (a0 : Int)) ∧ (R0[a1.toNat]? = some [.int .i64 (cIS R0 a1.toNat 0), .int .i64 (cIS R0 a1.toNat 1)]) ∧ (0 ≤ a2) ∧ (a2 < (a0 : Int)) ∧ (R0[a2.toNat]? = some [.int .i64 (cIS R0 a2.toNat 0), .int .i64 (cIS R0 a2.toNat 1)]) ∧ ((cIS R0 a1.toNat 0) < (cIS R0 a2.toNat 0) → Q 0 [R0] [.b true]) ∧ ((cIS R0 a1.toNat 0) ≥ (cIS R0 a2.toNat 0) → (0 ≤ a1) ∧ (a1 < (a0 : Int)) ∧ (R0[a1.toNat]? = some [.int .i64 (cIS R0 a1.toNat 0), .int .i64 (cIS R0 a1.toNat 1)]) ∧ (0 ≤ a2) ∧ (a2 < (a0 : Int)) ∧ (R0[a2.toNat]? = some [.int .i64 (cIS R0 a2.toNat 0), .int .i64 (cIS R0 a2.toNat 1)]) ∧ ((cIS R0 a1.toNat 0) = (cIS R0 a2.toNat 0) → (0 ≤ a1) ∧ (a1 < (a0 : Int)) ∧ (R0[a1.toNat]? = some [.int .i64 (cIS R0 a1.toNat 0), .int .i64 (cIS R0 a1.toNat 1)]) ∧ (0 ≤ a2) ∧ (a2 < (a0 : Int)) ∧ (R0[a2.toNat]? = some [.int .i64 (cIS R0 a2.toNat 0), .int .i64 (cIS R0 a2.toNat 1)]) ∧ (Q 0 [R0] [.b (decide ((cIS R0 a1.toNat 1) < (cIS R0 a2.toNat 1)))])) ∧ ((cIS R0 a1.toNat 0) ≠ (cIS R0 a2.toNat 0) → Q 0 [R0] [.b false]))) : EZ G44 [R0] [.n a0, .i a1, .i a2] Q := by
 refine Inst.en (I := I44) (L := L44) F44_at fun A hA CE CK Dn EV RR W hp => ?_
 have h := h hp.1 EV ⟨trivial⟩
 cbv
 refine ⟨ndI hA (An h.1 (An (hA ▸ h.2.1) rfl)), ⟨ndI hA (An rfl (hA ▸ h.2.2.1)), ⟨ndI hA (An h.2.2.2.1 (An (hA ▸ h.2.2.2.2.1) rfl)), ⟨ndI hA (An rfl (hA ▸ h.2.2.2.2.2.1)), ⟨fun e0 => have c0 : (cIS R0 a1.toNat 0) < (cIS R0 a2.toNat 0) := (by have q := (cmpE (op := .lss) hA e0); subst hA; exact q); ?_, fun e0 => have c0 : (cIS R0 a1.toNat 0) ≥ (cIS R0 a2.toNat 0) := (by have q := (cmpE (op := .lss) hA e0); subst hA; exact q); ?_⟩⟩⟩⟩⟩
 ·refine W.draw 80 (by rfl) ?_
  cbv
  subst hA
  exact ⟨hp.1, (W.q (h.2.2.2.2.2.2.1 c0))⟩
 ·refine W.draw 80 (by rfl) ?_
  cbv
  refine ⟨ndI hA (An (h.2.2.2.2.2.2.2 c0).1 (An (hA ▸ (h.2.2.2.2.2.2.2 c0).2.1) rfl)), ⟨ndI hA (An rfl (hA ▸ (h.2.2.2.2.2.2.2 c0).2.2.1)), ⟨ndI hA (An (h.2.2.2.2.2.2.2 c0).2.2.2.1 (An (hA ▸ (h.2.2.2.2.2.2.2 c0).2.2.2.2.1) rfl)), ⟨ndI hA (An rfl (hA ▸ (h.2.2.2.2.2.2.2 c0).2.2.2.2.2.1)), ⟨fun e1 => have c1 : (cIS R0 a1.toNat 0) = (cIS R0 a2.toNat 0) := (by have q := (cmpE (op := .eql) hA e1); subst hA; exact q); ?_, fun e1 => have c1 : (cIS R0 a1.toNat 0) ≠ (cIS R0 a2.toNat 0) := (by have q := (cmpE (op := .eql) hA e1); subst hA; exact q); ?_⟩⟩⟩⟩⟩
  ·refine W.draw 80 (by rfl) ?_
   cbv
   subst hA
   exact ⟨(An ((h.2.2.2.2.2.2.2 c0).2.2.2.2.2.2.1 c1).1 (An (((h.2.2.2.2.2.2.2 c0).2.2.2.2.2.2.1 c1).2.1) rfl)), ⟨(An rfl (((h.2.2.2.2.2.2.2 c0).2.2.2.2.2.2.1 c1).2.2.1)), ⟨(An ((h.2.2.2.2.2.2.2 c0).2.2.2.2.2.2.1 c1).2.2.2.1 (An (((h.2.2.2.2.2.2.2 c0).2.2.2.2.2.2.1 c1).2.2.2.2.1) rfl)), ⟨(An rfl (((h.2.2.2.2.2.2.2 c0).2.2.2.2.2.2.1 c1).2.2.2.2.2.1)), ⟨hp.1, (W.q (((h.2.2.2.2.2.2.2 c0).2.2.2.2.2.2.1 c1).2.2.2.2.2.2))⟩⟩⟩⟩⟩
  ·refine W.draw 80 (by rfl) ?_
   cbv
   subst hA
   exact ⟨hp.1, (W.q ((h.2.2.2.2.2.2.2 c0).2.2.2.2.2.2.2 c1))⟩

-- 47: (signalbox/edf.items).Swap DRAWN
structure V47 (EV Q : EP) : Prop where
  none : True

theorem E47 {R0 : RW} {a0 : Nat} {a1 a2 : Int} (h : pursS R0 = true → ∀ EV, V47 EV Q → (0 ≤ a2) ∧ (a2 < (a0 : Int)) ∧ (R0[a2.toNat]? = some [.int .i64 (cIS R0 a2.toNat 0), .int .i64 (cIS R0 a2.toNat 1)]) ∧ (0 ≤ a1) ∧ (a1 < (a0 : Int)) ∧ (R0[a1.toNat]? = some [.int .i64 (cIS R0 a1.toNat 0), .int .i64 (cIS R0 a1.toNat 1)]) ∧ ((List.set R0 a1.toNat [.int .i64 (cIS R0 a2.toNat 0), .int .i64 (cIS R0 a2.toNat 1)])[a2.toNat]? = some [.int .i64 (cIS (List.set R0 a1.toNat [.int .i64 (cIS R0 a2.toNat 0), .int .i64 (cIS R0 a2.toNat 1)]) a2.toNat 0), .int .i64 (cIS (List.set R0 a1.toNat [.int .i64 (cIS R0 a2.toNat 0), .int .i64 (cIS R0 a2.toNat 1)]) a2.toNat 1)]) ∧ (Q 0 [(List.set (List.set R0 a1.toNat [.int .i64 (cIS R0 a2.toNat 0), .int .i64 (cIS R0 a2.toNat 1)]) a2.toNat [.int .i64 (cIS R0 a1.toNat 0), .int .i64 (cIS R0 a1.toNat 1)])] [])) : EZ G47 [R0] [.n a0, .i a1, .i a2] Q := by
 refine Inst.en (I := I47) (L := L47) F47_at fun A hA CE CK Dn EV RR W hp => ?_
 have h := h hp.1 EV ⟨trivial⟩
 cbv
 subst hA
 exact ⟨⟨(An h.1 (An h.2.1 rfl)), ⟨⟨(An rfl h.2.2.1), ⟨⟨(An h.2.2.2.1 (An h.2.2.2.2.1 rfl)), ⟨⟨(An rfl h.2.2.2.2.2.1), ⟨⟨(An h.2.2.2.1 (An h.2.2.2.2.1 rfl)), ⟨⟨(An rfl h.2.2.2.2.2.1), ⟨⟨(An h.1 (An h.2.1 (by show R0.length = (List.length (List.set R0 a1.toNat [.int .i64 (cIS R0 a2.toNat 0), .int .i64 (cIS R0 a2.toNat 1)])); (first | rfl | simp [rappS_end] | (simp [rappS_end]; omega))))), ⟨⟨(An (by show R0.length = (List.length (List.set R0 a1.toNat [.int .i64 (cIS R0 a2.toNat 0), .int .i64 (cIS R0 a2.toNat 1)])); (first | rfl | simp [rappS_end] | (simp [rappS_end]; omega))) h.2.2.2.2.2.2.1), ⟨((vset (vset hp.1 rfl) rfl)), (W.q h.2.2.2.2.2.2.2)⟩⟩, trivial⟩⟩, trivial⟩⟩, trivial⟩⟩, trivial⟩⟩, trivial⟩⟩, trivial⟩⟩, ⟨⟨(An h.2.2.2.1 (An h.2.2.2.2.1 rfl)), ⟨⟨(An rfl h.2.2.1), ⟨⟨(An rfl h.2.2.2.2.2.1), ⟨⟨(An h.2.2.2.1 (An h.2.2.2.2.1 rfl)), ⟨⟨(An rfl h.2.2.2.2.2.1), ⟨⟨(An h.1 (An h.2.1 (by show R0.length = (List.length (List.set R0 a1.toNat [.int .i64 (cIS R0 a2.toNat 0), .int .i64 (cIS R0 a2.toNat 1)])); (first | rfl | simp [rappS_end] | (simp [rappS_end]; omega))))), ⟨⟨(An (by show R0.length = (List.length (List.set R0 a1.toNat [.int .i64 (cIS R0 a2.toNat 0), .int .i64 (cIS R0 a2.toNat 1)])); (first | rfl | simp [rappS_end] | (simp [rappS_end]; omega))) h.2.2.2.2.2.2.1), ⟨((vset (vset hp.1 rfl) rfl)), (W.q h.2.2.2.2.2.2.2)⟩⟩, trivial⟩⟩, trivial⟩⟩, trivial⟩⟩, trivial⟩⟩, trivial⟩⟩, ⟨⟨(An rfl h.2.2.2.2.2.1), ⟨⟨(An rfl h.2.2.1), ⟨⟨(An h.2.2.2.1 (An h.2.2.2.2.1 rfl)), ⟨⟨(An rfl h.2.2.2.2.2.1), ⟨⟨(An h.1 (An h.2.1 (by show R0.length = (List.length (List.set R0 a1.toNat [.int .i64 (cIS R0 a2.toNat 0), .int .i64 (cIS R0 a2.toNat 1)])); (first | rfl | simp [rappS_end] | (simp [rappS_end]; omega))))), ⟨⟨(An (by show R0.length = (List.length (List.set R0 a1.toNat [.int .i64 (cIS R0 a2.toNat 0), .int .i64 (cIS R0 a2.toNat 1)])); (first | rfl | simp [rappS_end] | (simp [rappS_end]; omega))) h.2.2.2.2.2.2.1), ⟨((vset (vset hp.1 rfl) rfl)), (W.q h.2.2.2.2.2.2.2)⟩⟩, trivial⟩⟩, trivial⟩⟩, trivial⟩⟩, trivial⟩⟩, trivial⟩⟩, trivial⟩⟩⟩, trivial⟩⟩⟩, ⟨⟨(An h.2.2.2.1 (An h.2.2.2.2.1 rfl)), ⟨⟨(An h.1 (An h.2.1 rfl)), ⟨⟨(An rfl h.2.2.1), ⟨⟨(An rfl h.2.2.2.2.2.1), ⟨⟨(An h.2.2.2.1 (An h.2.2.2.2.1 rfl)), ⟨⟨(An rfl h.2.2.2.2.2.1), ⟨⟨(An h.1 (An h.2.1 (by show R0.length = (List.length (List.set R0 a1.toNat [.int .i64 (cIS R0 a2.toNat 0), .int .i64 (cIS R0 a2.toNat 1)])); (first | rfl | simp [rappS_end] | (simp [rappS_end]; omega))))), ⟨⟨(An (by show R0.length = (List.length (List.set R0 a1.toNat [.int .i64 (cIS R0 a2.toNat 0), .int .i64 (cIS R0 a2.toNat 1)])); (first | rfl | simp [rappS_end] | (simp [rappS_end]; omega))) h.2.2.2.2.2.2.1), ⟨((vset (vset hp.1 rfl) rfl)), (W.q h.2.2.2.2.2.2.2)⟩⟩, trivial⟩⟩, trivial⟩⟩, trivial⟩⟩, trivial⟩⟩, trivial⟩⟩, ⟨⟨(An rfl h.2.2.2.2.2.1), ⟨⟨(An rfl h.2.2.1), ⟨⟨(An h.2.2.2.1 (An h.2.2.2.2.1 rfl)), ⟨⟨(An rfl h.2.2.2.2.2.1), ⟨⟨(An h.1 (An h.2.1 (by show R0.length = (List.length (List.set R0 a1.toNat [.int .i64 (cIS R0 a2.toNat 0), .int .i64 (cIS R0 a2.toNat 1)])); (first | rfl | simp [rappS_end] | (simp [rappS_end]; omega))))), ⟨⟨(An (by show R0.length = (List.length (List.set R0 a1.toNat [.int .i64 (cIS R0 a2.toNat 0), .int .i64 (cIS R0 a2.toNat 1)])); (first | rfl | simp [rappS_end] | (simp [rappS_end]; omega))) h.2.2.2.2.2.2.1), ⟨((vset (vset hp.1 rfl) rfl)), (W.q h.2.2.2.2.2.2.2)⟩⟩, trivial⟩⟩, trivial⟩⟩, trivial⟩⟩, trivial⟩⟩, trivial⟩⟩, trivial⟩⟩⟩, ⟨⟨(An rfl h.2.2.2.2.2.1), ⟨⟨(An h.1 (An h.2.1 rfl)), ⟨⟨(An rfl h.2.2.1), ⟨⟨(An h.2.2.2.1 (An h.2.2.2.2.1 rfl)), ⟨⟨(An rfl h.2.2.2.2.2.1), ⟨⟨(An h.1 (An h.2.1 (by show R0.length = (List.length (List.set R0 a1.toNat [.int .i64 (cIS R0 a2.toNat 0), .int .i64 (cIS R0 a2.toNat 1)])); (first | rfl | simp [rappS_end] | (simp [rappS_end]; omega))))), ⟨⟨(An (by show R0.length = (List.length (List.set R0 a1.toNat [.int .i64 (cIS R0 a2.toNat 0), .int .i64 (cIS R0 a2.toNat 1)])); (first | rfl | simp [rappS_end] | (simp [rappS_end]; omega))) h.2.2.2.2.2.2.1), ⟨((vset (vset hp.1 rfl) rfl)), (W.q h.2.2.2.2.2.2.2)⟩⟩, trivial⟩⟩, trivial⟩⟩, trivial⟩⟩, trivial⟩⟩, trivial⟩⟩, trivial⟩⟩, trivial⟩⟩⟩, trivial⟩⟩

-- 22: container/heap.up
structure V22 (EV Q : EP) : Prop where
  p2 : ∀ {R0 : RW} {t1 : Int} {tb0 : Nat}, (pursS R0 = true → ((IntKind.wrap .i64 (Int.tdiv (IntKind.wrap .i64 (t1 - 1)) 2)) ≠ t1 → EZ G44 [R0] [.n tb0, .i t1, .i (IntKind.wrap .i64 (Int.tdiv (IntKind.wrap .i64 (t1 - 1)) 2))] (fun x rs vs => (x = 0 ∧ ∃ Y1_0 y1_0, rs = [Y1_0] ∧ vs = [.b y1_0] ∧ ((y1_0 = false → (R0.length = Y1_0.length) ∧ (Q 0 [Y1_0] [.n tb0])) ∧ (y1_0 = true → (R0.length = Y1_0.length) ∧ (EZ G47 [Y1_0] [.n tb0, .i (IntKind.wrap .i64 (Int.tdiv (IntKind.wrap .i64 (t1 - 1)) 2)), .i t1] (fun x rs vs => (x = 0 ∧ ∃ Y3_0, rs = [Y3_0] ∧ vs = [] ∧ ((R0.length = Y3_0.length) ∧ (EV 2 [Y3_0] [.i (IntKind.wrap .i64 (Int.tdiv (IntKind.wrap .i64 (t1 - 1)) 2)), .n tb0])))))))))) ∧ ((IntKind.wrap .i64 (Int.tdiv (IntKind.wrap .i64 (t1 - 1)) 2)) = t1 → Q 0 [R0] [.n tb0])) → EV 2 [R0] [.i t1, .n tb0]

theorem V22.of (W : Wk Try.prog Try.f22 I22 L22 Q A sg CE CK Dn EV RR) : V22 EV Q := by
 have hA := W.hA
 refine ⟨?_⟩
 intro R0 t1 tb0 h
 refine W.step 80 fun hp => ?_
 have h := h hp.1
 cbv
 refine ⟨ndI hA (show _ ≠ _ by decide), ⟨imI hA fun e0 => have j0 := h.1 (by subst hA; exact (cmpE (op := .eql) rfl e0)); ⟨ndI hA (An rfl rfl), ⟨ndI hA hp.1, ?_⟩⟩, imI hA fun e0 => have j0 := h.2 (by subst hA; exact (cmpE (op := .eql) rfl e0)); ⟨ndI hA (An rfl rfl), ⟨ndI hA hp.1, (W.q j0)⟩⟩⟩⟩
 refine W.cl j0 ?_
 rintro _ _ _ hp1 (⟨rfl, Y1_0, y1_0, rfl, rfl, k1⟩)
 cbv
 refine ⟨imI hA fun e2 => have j2 := k1.1 (by subst hA; exact (notE rfl e2)); ⟨ndI hA (An (hA ▸ j2.1) rfl), ⟨ndI hA hp1.1, (W.q j2.2)⟩⟩, imI hA fun e2 => have j2 := k1.2 (by subst hA; exact (notE rfl e2)); ⟨ndI hA (An (hA ▸ j2.1) rfl), ⟨ndI hA hp1.1, ?_⟩⟩⟩
 refine W.cl j2.2 ?_
 rintro _ _ _ hp3 (⟨rfl, Y3_0, rfl, rfl, k3⟩)
 cbv
 subst hA
 exact ⟨(An k3.1 rfl), ⟨hp3.1, k3.2⟩⟩

theorem E22 {R0 : RW} {a1 : Int} {ab0 : Nat} (h : pursS R0 = true → ∀ EV, V22 EV Q → EV 2 [R0] [.i a1, .n ab0]) : EZ G22 [R0] [.i a1, .n ab0] Q := by
 refine Inst.en (I := I22) (L := L22) F22_at fun A hA CE CK Dn EV RR W hp => ?_
 have h := h hp.1 EV (V22.of W)
 cbv
 subst hA
 exact ⟨(An rfl rfl), ⟨hp.1, h⟩⟩

-- 17: container/heap.Push
structure V17 (EV Q : EP) : Prop where
  none : True

theorem E17 {R0 : RW} {v0 v1 : Int} {ab0 : Nat} (h : pursS R0 = true → ∀ EV, V17 EV Q → EZ G46 [R0] [.i v0, .i v1, .n ab0] (fun x rs vs => (x = 0 ∧ ∃ Y0_0 y0_b0, rs = [Y0_0] ∧ vs = [.n y0_b0] ∧ (EZ G16 [Y0_0] [.n y0_b0] (fun x rs vs => (x = 0 ∧ ∃ Y1_0 y1_0, rs = [Y1_0] ∧ vs = [.i y1_0] ∧ ((Y0_0.length = Y1_0.length) ∧ (EZ G22 [Y1_0] [.i (IntKind.wrap .i64 (y1_0 - 1)), .n y0_b0] (fun x rs vs => (x = 0 ∧ ∃ Y2_0 y2_b0, rs = [Y2_0] ∧ vs = [.n y2_b0] ∧ (Q 0 [Y2_0] [.n y2_b0]))))))))))) : EZ G17 [R0] [.i v0, .i v1, .n ab0] Q := by
 refine Inst.en (I := I17) (L := L17) F17_at fun A hA CE CK Dn EV RR W hp => ?_
 have h := h hp.1 EV ⟨trivial⟩
 cbv
 refine ⟨ndI hA (An rfl rfl), ⟨ndI hA hp.1, ?_⟩⟩
 refine W.cl h ?_
 rintro _ _ _ hp0 (⟨rfl, Y0_0, y0_b0, rfl, rfl, k0⟩)
 cbv
 refine ⟨ndI hA (An rfl rfl), ⟨ndI hA hp0.1, ?_⟩⟩
 refine W.cl k0 ?_
 rintro _ _ _ hp1 (⟨rfl, Y1_0, y1_0, rfl, rfl, k1⟩)
 cbv
 refine ⟨ndI hA (An (hA ▸ k1.1) rfl), ⟨ndI hA hp1.1, ?_⟩⟩
 refine W.cl k1.2 ?_
 rintro _ _ _ hp2 (⟨rfl, Y2_0, y2_b0, rfl, rfl, k2⟩)
 cbv
 subst hA
 exact ⟨(An rfl rfl), ⟨hp2.1, (W.q k2)⟩⟩

-- 23: container/heap.down
structure V23 (EV Q : EP) : Prop where
  p7 : ∀ {R0 : RW} {t1 t2 t7 : Int} {tb0 : Nat}, (pursS R0 = true → ((IntKind.wrap .i64 ((IntKind.wrap .i64 (2 * t7)) + 1)) < t2 → ((IntKind.wrap .i64 ((IntKind.wrap .i64 (2 * t7)) + 1)) < 0 → Q 0 [R0] [.b (decide (t7 > t1)), .n tb0]) ∧ ((IntKind.wrap .i64 ((IntKind.wrap .i64 (2 * t7)) + 1)) ≥ 0 → ((IntKind.wrap .i64 ((IntKind.wrap .i64 ((IntKind.wrap .i64 (2 * t7)) + 1)) + 1)) < t2 → EZ G44 [R0] [.n tb0, .i (IntKind.wrap .i64 ((IntKind.wrap .i64 ((IntKind.wrap .i64 (2 * t7)) + 1)) + 1)), .i (IntKind.wrap .i64 ((IntKind.wrap .i64 (2 * t7)) + 1))] (fun x rs vs => (x = 0 ∧ ∃ Y3_0 y3_0, rs = [Y3_0] ∧ vs = [.b y3_0] ∧ ((y3_0 = true → (R0.length = Y3_0.length) ∧ (EV 26 [Y3_0] [.i t1, .i t2, .i t7, .i (IntKind.wrap .i64 ((IntKind.wrap .i64 ((IntKind.wrap .i64 (2 * t7)) + 1)) + 1)), .n tb0])) ∧ (y3_0 = false → (R0.length = Y3_0.length) ∧ (EV 26 [Y3_0] [.i t1, .i t2, .i t7, .i (IntKind.wrap .i64 ((IntKind.wrap .i64 (2 * t7)) + 1)), .n tb0])))))) ∧ ((IntKind.wrap .i64 ((IntKind.wrap .i64 ((IntKind.wrap .i64 (2 * t7)) + 1)) + 1)) ≥ t2 → EV 26 [R0] [.i t1, .i t2, .i t7, .i (IntKind.wrap .i64 ((IntKind.wrap .i64 (2 * t7)) + 1)), .n tb0]))) ∧ ((IntKind.wrap .i64 ((IntKind.wrap .i64 (2 * t7)) + 1)) ≥ t2 → Q 0 [R0] [.b (decide (t7 > t1)), .n tb0])) → EV 7 [R0] [.i t1, .i t2, .i t7, .n tb0]
  p26 : ∀ {R0 : RW} {t1 t2 t7 t9 : Int} {tb0 : Nat}, (pursS R0 = true → EZ G44 [R0] [.n tb0, .i t9, .i t7] (fun x rs vs => (x = 0 ∧ ∃ Y0_0 y0_0, rs = [Y0_0] ∧ vs = [.b y0_0] ∧ ((y0_0 = false → (R0.length = Y0_0.length) ∧ (Q 0 [Y0_0] [.b (decide (t7 > t1)), .n tb0])) ∧ (y0_0 = true → (R0.length = Y0_0.length) ∧ (EZ G47 [Y0_0] [.n tb0, .i t7, .i t9] (fun x rs vs => (x = 0 ∧ ∃ Y2_0, rs = [Y2_0] ∧ vs = [] ∧ ((R0.length = Y2_0.length) ∧ (EV 7 [Y2_0] [.i t1, .i t2, .i t9, .n tb0])))))))))) → EV 26 [R0] [.i t1, .i t2, .i t7, .i t9, .n tb0]

theorem V23.of (W : Wk Try.prog Try.f23 I23 L23 Q A sg CE CK Dn EV RR) : V23 EV Q := by
 have hA := W.hA
 refine ⟨?_, ?_⟩
 ·intro R0 t1 t2 t7 tb0 h
  refine W.step 80 fun hp => ?_
  have h := h hp.1
  cbv
  refine ⟨imI hA fun e0 => have j0 := h.1 (by subst hA; exact (cmpE (op := .geq) rfl e0)); ⟨imI hA fun e1 => have j1 := j0.1 (by subst hA; exact (cmpE (op := .lss) rfl e1)); ⟨ndI hA (An rfl rfl), ⟨ndI hA hp.1, (W.q (hA ▸ j1))⟩⟩, imI hA fun e1 => have j1 := j0.2 (by subst hA; exact (cmpE (op := .lss) rfl e1)); ⟨imI hA fun e2 => have j2 := j1.1 (by subst hA; exact (cmpE (op := .lss) rfl e2)); ⟨ndI hA (An rfl rfl), ⟨ndI hA hp.1, ?_⟩⟩, imI hA fun e2 => have j2 := j1.2 (by subst hA; exact (cmpE (op := .lss) rfl e2)); ⟨ndI hA (An rfl rfl), ⟨ndI hA hp.1, (hA ▸ j2)⟩⟩⟩⟩, imI hA fun e0 => have j0 := h.2 (by subst hA; exact (cmpE (op := .geq) rfl e0)); ⟨ndI hA (An rfl rfl), ⟨ndI hA hp.1, (W.q (hA ▸ j0))⟩⟩⟩
  refine W.cl j2 ?_
  rintro _ _ _ hp3 (⟨rfl, Y3_0, y3_0, rfl, rfl, k3⟩)
  cbv
  subst hA
  exact ⟨fun e4 => have j4 := k3.1 e4; ⟨(An j4.1 rfl), ⟨hp3.1, j4.2⟩⟩, fun e4 => have j4 := k3.2 e4; ⟨(An j4.1 rfl), ⟨hp3.1, j4.2⟩⟩⟩
 ·intro R0 t1 t2 t7 t9 tb0 h
  refine W.step 80 fun hp => ?_
  have h := h hp.1
  cbv
  refine ⟨ndI hA (An rfl rfl), ⟨ndI hA hp.1, ?_⟩⟩
  refine W.cl h ?_
  rintro _ _ _ hp0 (⟨rfl, Y0_0, y0_0, rfl, rfl, k0⟩)
  cbv
  refine ⟨imI hA fun e1 => have j1 := k0.1 (by subst hA; exact (notE rfl e1)); ⟨ndI hA (An (hA ▸ j1.1) rfl), ⟨ndI hA hp0.1, (W.q (hA ▸ j1.2))⟩⟩, imI hA fun e1 => have j1 := k0.2 (by subst hA; exact (notE rfl e1)); ⟨ndI hA (An (hA ▸ j1.1) rfl), ⟨ndI hA hp0.1, ?_⟩⟩⟩
  refine W.cl j1.2 ?_
  rintro _ _ _ hp2 (⟨rfl, Y2_0, rfl, rfl, k2⟩)
  cbv
  subst hA
  exact ⟨(An k2.1 rfl), ⟨hp2.1, k2.2⟩⟩

theorem E23 {R0 : RW} {a1 a2 : Int} {ab0 : Nat} (h : pursS R0 = true → ∀ EV, V23 EV Q → EV 7 [R0] [.i a1, .i a2, .i a1, .n ab0]) : EZ G23 [R0] [.i a1, .i a2, .n ab0] Q := by
 refine Inst.en (I := I23) (L := L23) F23_at fun A hA CE CK Dn EV RR W hp => ?_
 have h := h hp.1 EV (V23.of W)
 cbv
 subst hA
 exact ⟨(An rfl rfl), ⟨hp.1, h⟩⟩

-- 45: (*signalbox/edf.items).Pop
structure V45 (EV Q : EP) : Prop where
  none : True

theorem E45 {R0 : RW} {ab0 : Nat} (h : pursS R0 = true → ∀ EV, V45 EV Q → (0 ≤ (IntKind.wrap .i64 ((ab0 : Int) - 1))) ∧ ((IntKind.wrap .i64 ((ab0 : Int) - 1)) < (ab0 : Int)) ∧ (R0[(Int.toNat (IntKind.wrap .i64 ((ab0 : Int) - 1)))]? = some [.int .i64 (cIS R0 (Int.toNat (IntKind.wrap .i64 ((ab0 : Int) - 1))) 0), .int .i64 (cIS R0 (Int.toNat (IntKind.wrap .i64 ((ab0 : Int) - 1))) 1)]) ∧ ((IntKind.wrap .i64 ((ab0 : Int) - 1)) ≤ (ab0 : Int)) ∧ (Q 0 [R0] [.i (cIS R0 (Int.toNat (IntKind.wrap .i64 ((ab0 : Int) - 1))) 0), .i (cIS R0 (Int.toNat (IntKind.wrap .i64 ((ab0 : Int) - 1))) 1), .n (Int.toNat (IntKind.wrap .i64 ((ab0 : Int) - 1)))])) : EZ G45 [R0] [.n ab0] Q := by
 refine Inst.en (I := I45) (L := L45) F45_at fun A hA CE CK Dn EV RR W hp => ?_
 have h := h hp.1 EV ⟨trivial⟩
 cbv
 subst hA
 exact ⟨rfl, ⟨(An h.1 (An h.2.1 rfl)), ⟨(An rfl h.2.2.1), ⟨(An h.1 (An h.2.2.2.1 rfl)), ⟨(An rfl rfl), ⟨hp.1, (W.q h.2.2.2.2)⟩⟩⟩⟩⟩⟩

-- 18: container/heap.Pop
structure V18 (EV Q : EP) : Prop where
  none : True

theorem E18 {R0 : RW} {ab0 : Nat} (h : pursS R0 = true → ∀ EV, V18 EV Q → EZ G16 [R0] [.n ab0] (fun x rs vs => (x = 0 ∧ ∃ Y0_0 y0_0, rs = [Y0_0] ∧ vs = [.i y0_0] ∧ ((R0.length = Y0_0.length) ∧ (EZ G47 [Y0_0] [.n ab0, .i 0, .i (IntKind.wrap .i64 (y0_0 - 1))] (fun x rs vs => (x = 0 ∧ ∃ Y1_0, rs = [Y1_0] ∧ vs = [] ∧ ((R0.length = Y1_0.length) ∧ (EZ G23 [Y1_0] [.i 0, .i (IntKind.wrap .i64 (y0_0 - 1)), .n ab0] (fun x rs vs => (x = 0 ∧ ∃ Y2_0 y2_0 y2_b0, rs = [Y2_0] ∧ vs = [.b y2_0, .n y2_b0] ∧ (EZ G45 [Y2_0] [.n y2_b0] (fun x rs vs => (x = 0 ∧ ∃ Y3_0 y3a0 y3a1 y3_b0, rs = [Y3_0] ∧ vs = [.i y3a0, .i y3a1, .n y3_b0] ∧ (Q 0 [Y3_0] [.i y3a0, .i y3a1, .n y3_b0]))))))))))))))) : EZ G18 [R0] [.n ab0] Q := by
 refine Inst.en (I := I18) (L := L18) F18_at fun A hA CE CK Dn EV RR W hp => ?_
 have h := h hp.1 EV ⟨trivial⟩
 cbv
 refine ⟨ndI hA (An rfl rfl), ⟨ndI hA hp.1, ?_⟩⟩
 refine W.cl h ?_
 rintro _ _ _ hp0 (⟨rfl, Y0_0, y0_0, rfl, rfl, k0⟩)
 cbv
 refine ⟨ndI hA (An (hA ▸ k0.1) rfl), ⟨ndI hA hp0.1, ?_⟩⟩
 refine W.cl k0.2 ?_
 rintro _ _ _ hp1 (⟨rfl, Y1_0, rfl, rfl, k1⟩)
 cbv
 refine ⟨ndI hA (An (hA ▸ k1.1) rfl), ⟨ndI hA hp1.1, ?_⟩⟩
 refine W.cl k1.2 ?_
 rintro _ _ _ hp2 (⟨rfl, Y2_0, y2_0, y2_b0, rfl, rfl, k2⟩)
 cbv
 refine ⟨ndI hA (An rfl rfl), ⟨ndI hA hp2.1, ?_⟩⟩
 refine W.cl k2 ?_
 rintro _ _ _ hp3 (⟨rfl, Y3_0, y3a0, y3a1, y3_b0, rfl, rfl, k3⟩)
 cbv
 subst hA
 exact ⟨(An rfl rfl), ⟨hp3.1, (W.q k3)⟩⟩

end Go.Ab
