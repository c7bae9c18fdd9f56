import Derived.Test.YtmmoffbompnihaaDoorQS
import Derived.Test.YtmmoffbompnihaaDoorLayG
/- PRINTED BY A PROGRAM (wip/tools/vc.py, AbVc.lean): what is to be shown of each function, from place to place, and that it is enough. -/
namespace Go.Ab
open Go Go.Proofs
set_option linter.unusedVariables false
set_option linter.unusedSimpArgs false
set_option maxRecDepth 100000
set_option maxHeartbeats 0
variable {Q EV RR : EP} {A : Ar} {CE : Nat → Rs → List Lf → EP → Prop} {CK : Nat → Rs → List Lf → Cont → Prop} {Dn : Nat → List Bool → List AItem → Nat → List Bool → List AV → List ABlk → Prop}

-- 80: signalbox/prog.one DRAWN
structure V80 (EV Q : EP) : Prop where
  p14 : ∀ {R0 : RW} {t4 b0 b1 b2 : Int}, (pursS R0 = true → (0 ≤ t4) ∧ (t4 ≤ (2 : Int)) ∧ (EV 19 [R0] [.r (List.take t4.toNat [[(AV.int .i64 b1)], [(AV.int .i64 b2)]]), .i ((List.length (List.take t4.toNat [[(AV.int .i64 b1)], [(AV.int .i64 b2)]])) : Int), .i 0])) → EV 14 [R0] [.i t4, .i b0, .i b1, .i b2]
  p19 : ∀ {R0 t54 : RW} {t55 t56 : Int}, (pursS R0 = true → (t56 < t55 → (0 ≤ t56) ∧ (t54[t56.toNat]? = some [.int .i64 (cIS t54 t56.toNat 0)]) ∧ (EZ G48 [] [.i (cIS t54 t56.toNat 0)] (fun x rs vs => (x = 0 ∧ ∃ y1_0, rs = [] ∧ vs = [.s y1_0] ∧ (((R0.length + (List.length (List.take 1 (List.drop 0 [[(AV.str y1_0)]])))) ≤ 140737488355328) ∧ (((R0.length + (List.length (List.take 1 (List.drop 0 [[(AV.str y1_0)]])))) * 16) ≤ 140737488355328) ∧ (EV 19 [(R0 ++ (List.take 1 (List.drop 0 [[(AV.str y1_0)]])))] [.r t54, .i t55, .i (IntKind.wrap .i64 (t56 + 1))])))))) ∧ (t56 ≥ t55 → EZ G49 [] [.r (List.take R0.length (List.drop 0 R0)), .s (ByteArray.mk (Array.mk [32]))] (fun x rs vs => (x = 0 ∧ ∃ y1_0, rs = [] ∧ vs = [.s y1_0] ∧ (Q 0 [] [.s y1_0, .b true]))))) → EV 19 [R0] [.r t54, .i t55, .i t56]

theorem V80.of (W : Wk Tryd.prog Tryd.f80 I80 L80 Q A sg CE CK Dn EV RR) : V80 EV Q := by
 have hA := W.hA
 refine ⟨?_, ?_⟩
 ·intro R0 t4 b0 b1 b2 h
  refine W.step 80 fun hp => ?_
  have h := h hp.1
  cbv
  subst hA
  exact ⟨(An h.1 h.2.1), ⟨(An rfl (An rfl rfl)), ⟨hp.1, h.2.2⟩⟩⟩
 ·intro R0 t54 t55 t56 h
  refine W.step 80 fun hp => ?_
  have h := h hp.1
  cbv
  refine ⟨imI hA fun e0 => have j0 := h.1 (cmpE (op := .lss) hA e0); ⟨ndI hA (An j0.1 (hA ▸ j0.2.1)), ?_⟩, imI hA fun e0 => have j0 := h.2 (cmpE (op := .lss) hA e0); ⟨ndI hA (An (An hp.1 trivial) (An rfl trivial)), ?_⟩⟩
  ·refine W.cl j0.2.2 ?_
   rintro _ _ _ hp1 (⟨rfl, y1_0, rfl, rfl, k1⟩)
   cbv
   subst hA
   exact ⟨(An rfl (by show (0 + 1) ≤ 1; (first | rfl | simp [rappS_end] | (simp [rappS_end]; omega)))), ⟨(An rfl (An (Nat.le_refl _) (An k1.1 k1.2.1))), ⟨(An rfl (An rfl (by show (R0.length + (List.length (List.take 1 (List.drop 0 [[(AV.str y1_0)]])))) = (List.length (rappS R0 R0.length (List.take 1 (List.drop 0 [[(AV.str y1_0)]])))); (first | rfl | simp [rappS_end] | (simp [rappS_end]; omega))))), ⟨((vapp hp.1 (vtake (vdrop vpur)))), (by show EV 19 [(rappS R0 R0.length (List.take 1 (List.drop 0 [[(AV.str y1_0)]])))] [.r t54, .i t55, .i (IntKind.wrap .i64 (t56 + 1))]; (try simp only [rappS_end, Nat.zero_add, Int.toNat_natCast]); exact k1.2.2)⟩⟩⟩⟩
  ·refine W.cl j0 ?_
   rintro _ _ _ hp1 (⟨rfl, y1_0, rfl, rfl, k1⟩)
   cbv
   subst hA
   exact (W.q k1)

theorem E80 {u0 u1 u2 : Int} (h : ∀ EV, V80 EV Q → EZ G37 [] [.i u0] (fun x rs vs => (x = 0 ∧ ∃ y0_0, rs = [] ∧ vs = [.i y0_0] ∧ ((y0_0 ≥ 0 → (u1 ≥ 0 → (u2 ≥ 0 → (y0_0 < 1 → (u1 = 0 → (y0_0 < 2 → (u2 ≠ 0 → Q 0 [] [.s (ByteArray.mk (Array.mk [])), .b false]) ∧ (u2 = 0 → EZ G77 [] [] (fun x rs vs => (x = 0 ∧ ∃ y8_0, rs = [] ∧ vs = [.r y8_0] ∧ ((0 ≤ u0) ∧ (y8_0[u0.toNat]? = some [.str (cSS y8_0 u0.toNat 0), .int .i64 (cIS y8_0 u0.toNat 1)]) ∧ (EV 14 [[[(AV.str (cSS y8_0 u0.toNat 0))]]] [.i y0_0, .i u0, .i u1, .i u2])))))) ∧ (y0_0 ≥ 2 → EZ G77 [] [] (fun x rs vs => (x = 0 ∧ ∃ y7_0, rs = [] ∧ vs = [.r y7_0] ∧ ((0 ≤ u0) ∧ (y7_0[u0.toNat]? = some [.str (cSS y7_0 u0.toNat 0), .int .i64 (cIS y7_0 u0.toNat 1)]) ∧ (EV 14 [[[(AV.str (cSS y7_0 u0.toNat 0))]]] [.i y0_0, .i u0, .i u1, .i u2])))))) ∧ (u1 ≠ 0 → Q 0 [] [.s (ByteArray.mk (Array.mk [])), .b false])) ∧ (y0_0 ≥ 1 → (y0_0 < 2 → (u2 ≠ 0 → Q 0 [] [.s (ByteArray.mk (Array.mk [])), .b false]) ∧ (u2 = 0 → EZ G77 [] [] (fun x rs vs => (x = 0 ∧ ∃ y7_0, rs = [] ∧ vs = [.r y7_0] ∧ ((0 ≤ u0) ∧ (y7_0[u0.toNat]? = some [.str (cSS y7_0 u0.toNat 0), .int .i64 (cIS y7_0 u0.toNat 1)]) ∧ (EV 14 [[[(AV.str (cSS y7_0 u0.toNat 0))]]] [.i y0_0, .i u0, .i u1, .i u2])))))) ∧ (y0_0 ≥ 2 → EZ G77 [] [] (fun x rs vs => (x = 0 ∧ ∃ y6_0, rs = [] ∧ vs = [.r y6_0] ∧ ((0 ≤ u0) ∧ (y6_0[u0.toNat]? = some [.str (cSS y6_0 u0.toNat 0), .int .i64 (cIS y6_0 u0.toNat 1)]) ∧ (EV 14 [[[(AV.str (cSS y6_0 u0.toNat 0))]]] [.i y0_0, .i u0, .i u1, .i u2]))))))) ∧ (u2 < 0 → Q 0 [] [.s (ByteArray.mk (Array.mk [])), .b false])) ∧ (u1 < 0 → Q 0 [] [.s (ByteArray.mk (Array.mk [])), .b false])) ∧ (y0_0 < 0 → Q 0 [] [.s (ByteArray.mk (Array.mk [])), .b false]))))) : EZ G80 [] [.i u0, .i u1, .i u2] Q := by
 refine Inst.en (I := I80) (L := L80) F80_at fun A hA CE CK Dn EV RR W hp => ?_
 have h := h  EV (V80.of W)
 cbv
 refine W.cl h ?_
 rintro _ _ _ hp0 (⟨rfl, y0_0, rfl, rfl, k0⟩)
 cbv
 refine ⟨imI hA fun e1 => have j1 := k0.1 (cmpE (op := .lss) hA e1); ⟨imI hA fun e2 => have j2 := j1.1 (cmpE (op := .lss) hA e2); ⟨imI hA fun e3 => have j3 := j2.1 (cmpE (op := .lss) hA e3); ⟨imI hA fun e4 => have j4 := j3.1 (cmpE (op := .lss) hA e4); ⟨imI hA fun e5 => have j5 := j4.1 (cmpE (op := .neq) hA e5); ⟨imI hA fun e6 => have j6 := j5.1 (cmpE (op := .lss) hA e6); ⟨imI hA fun e7 => have j7 := j6.1 (cmpE (op := .neq) hA e7); (W.q j7), imI hA fun e7 => have j7 := j6.2 (cmpE (op := .neq) hA e7); ⟨?_, trivial⟩⟩, imI hA fun e6 => have j6 := j5.2 (cmpE (op := .lss) hA e6); ⟨?_, trivial⟩⟩, imI hA fun e5 => have j5 := j4.2 (cmpE (op := .neq) hA e5); (W.q j5)⟩, imI hA fun e4 => have j4 := j3.2 (cmpE (op := .lss) hA e4); ⟨imI hA fun e5 => have j5 := j4.1 (cmpE (op := .lss) hA e5); ⟨imI hA fun e6 => have j6 := j5.1 (cmpE (op := .neq) hA e6); (W.q j6), imI hA fun e6 => have j6 := j5.2 (cmpE (op := .neq) hA e6); ⟨?_, trivial⟩⟩, imI hA fun e5 => have j5 := j4.2 (cmpE (op := .lss) hA e5); ⟨?_, trivial⟩⟩⟩, imI hA fun e3 => have j3 := j2.2 (cmpE (op := .lss) hA e3); (W.q j3)⟩, imI hA fun e2 => have j2 := j1.2 (cmpE (op := .lss) hA e2); (W.q j2)⟩, imI hA fun e1 => have j1 := k0.2 (cmpE (op := .lss) hA e1); (W.q j1)⟩
 ·refine W.cd j7 ?_
  rintro _ _ _ hp8 (⟨rfl, y8_0, rfl, rfl, k8⟩)
  cbv
  refine W.draw 80 (by rfl) ?_
  cbv
  subst hA
  exact ⟨(An k8.1 k8.2.1), ⟨⟨(An rfl (An rfl rfl)), ⟨vpur, k8.2.2⟩⟩, trivial⟩⟩
 ·refine W.cd j6 ?_
  rintro _ _ _ hp7 (⟨rfl, y7_0, rfl, rfl, k7⟩)
  cbv
  refine W.draw 80 (by rfl) ?_
  cbv
  subst hA
  exact ⟨(An k7.1 k7.2.1), ⟨⟨(An rfl (An rfl rfl)), ⟨vpur, k7.2.2⟩⟩, trivial⟩⟩
 ·refine W.cd j6 ?_
  rintro _ _ _ hp7 (⟨rfl, y7_0, rfl, rfl, k7⟩)
  cbv
  refine W.draw 80 (by rfl) ?_
  cbv
  subst hA
  exact ⟨(An k7.1 k7.2.1), ⟨⟨(An rfl (An rfl rfl)), ⟨vpur, k7.2.2⟩⟩, trivial⟩⟩
 ·refine W.cd j5 ?_
  rintro _ _ _ hp6 (⟨rfl, y6_0, rfl, rfl, k6⟩)
  cbv
  refine W.draw 80 (by rfl) ?_
  cbv
  subst hA
  exact ⟨(An k6.1 k6.2.1), ⟨⟨(An rfl (An rfl rfl)), ⟨vpur, k6.2.2⟩⟩, trivial⟩⟩

-- 41: signalbox/prog.Text
structure V41 (EV Q : EP) : Prop where
  p9 : ∀ {R0 t9 : RW} {t10 t11 : Int}, (pursS R0 = true → (t11 < t10 → (0 ≤ t11) ∧ (t9[t11.toNat]? = some (r3 t9 t11.toNat)) ∧ (EZ G80 [] [.i (cIS t9 t11.toNat 0), .i (cIS t9 t11.toNat 1), .i (cIS t9 t11.toNat 2)] (fun x rs vs => (x = 0 ∧ ∃ y1_0 y1_1, rs = [] ∧ vs = [.s y1_0, .b y1_1] ∧ ((y1_1 = false → Q 0 [] [.s (ByteArray.mk (Array.mk [])), .b false]) ∧ (y1_1 = true → ((R0.length + (List.length (List.take 1 (List.drop 0 [[(AV.str y1_0)]])))) ≤ 140737488355328) ∧ (((R0.length + (List.length (List.take 1 (List.drop 0 [[(AV.str y1_0)]])))) * 16) ≤ 140737488355328) ∧ (EV 9 [(R0 ++ (List.take 1 (List.drop 0 [[(AV.str y1_0)]])))] [.r t9, .i t10, .i (IntKind.wrap .i64 (t11 + 1))]))))))) ∧ (t11 ≥ t10 → EZ G49 [] [.r (List.take R0.length (List.drop 0 R0)), .s (ByteArray.mk (Array.mk [59]))] (fun x rs vs => (x = 0 ∧ ∃ y1_0, rs = [] ∧ vs = [.s y1_0] ∧ (Q 0 [] [.s y1_0, .b true]))))) → EV 9 [R0] [.r t9, .i t10, .i t11]

theorem V41.of (W : Wk Tryd.prog Tryd.f41 I41 L41 Q A sg CE CK Dn EV RR) : V41 EV Q := by
 have hA := W.hA
 refine ⟨?_⟩
 intro R0 t9 t10 t11 h
 refine W.step 80 fun hp => ?_
 have h := h hp.1
 cbv
 refine ⟨imI hA fun e0 => have j0 := h.1 (cmpE (op := .lss) hA e0); ⟨ndI hA (An j0.1 (hA ▸ j0.2.1)), ?_⟩, imI hA fun e0 => have j0 := h.2 (cmpE (op := .lss) hA e0); ⟨ndI hA (An (An hp.1 trivial) (An rfl trivial)), ?_⟩⟩
 ·refine W.cl j0.2.2 ?_
  rintro _ _ _ hp1 (⟨rfl, y1_0, y1_1, rfl, rfl, k1⟩)
  cbv
  subst hA
  exact ⟨fun e2 => have j2 := k1.1 ((notE rfl e2)); (W.q j2), fun e2 => have j2 := k1.2 ((notE rfl e2)); ⟨(An rfl (by show (0 + 1) ≤ 1; (first | rfl | simp [rappS_end] | (simp [rappS_end]; omega)))), ⟨(An rfl (An (Nat.le_refl _) (An j2.1 j2.2.1))), ⟨(An rfl (An rfl (by show (R0.length + (List.length (List.take 1 (List.drop 0 [[(AV.str y1_0)]])))) = (List.length (rappS R0 R0.length (List.take 1 (List.drop 0 [[(AV.str y1_0)]])))); (first | rfl | simp [rappS_end] | (simp [rappS_end]; omega))))), ⟨((vapp hp.1 (vtake (vdrop vpur)))), (by show EV 9 [(rappS R0 R0.length (List.take 1 (List.drop 0 [[(AV.str y1_0)]])))] [.r t9, .i t10, .i (IntKind.wrap .i64 (t11 + 1))]; (try simp only [rappS_end, Nat.zero_add, Int.toNat_natCast]); exact j2.2.2)⟩⟩⟩⟩⟩
 ·refine W.cl j0 ?_
  rintro _ _ _ hp1 (⟨rfl, y1_0, rfl, rfl, k1⟩)
  cbv
  subst hA
  exact (W.q k1)

theorem E41 {a0 : RW} (h : ∀ EV, V41 EV Q → EV 9 [[]] [.r a0, .i (a0.length : Int), .i 0]) : EZ G41 [] [.r a0] Q := by
 refine Inst.en (I := I41) (L := L41) F41_at fun A hA CE CK Dn EV RR W hp => ?_
 have h := h  EV (V41.of W)
 cbv
 subst hA
 exact ⟨(An rfl (An rfl rfl)), ⟨vpur, h⟩⟩

-- 100: signalbox/signalboxref06.Names
structure V100 (EV Q : EP) : Prop where
  none : True

theorem E100  (h : ∀ EV, V100 EV Q → Q 0 [] [.r [[(AV.str (ByteArray.mk (Array.mk [])))], [(AV.str (ByteArray.mk (Array.mk [99, 111, 109, 112, 117, 116, 101])))], [(AV.str (ByteArray.mk (Array.mk [97, 99, 99, 101, 115, 115])))], [(AV.str (ByteArray.mk (Array.mk [101, 110, 116, 101, 114])))], [(AV.str (ByteArray.mk (Array.mk [101, 120, 105, 116])))], [(AV.str (ByteArray.mk (Array.mk [108, 111, 99, 107])))], [(AV.str (ByteArray.mk (Array.mk [117, 110, 108, 111, 99, 107])))], [(AV.str (ByteArray.mk (Array.mk [112, 117, 115, 104])))], [(AV.str (ByteArray.mk (Array.mk [112, 111, 112])))], [(AV.str (ByteArray.mk (Array.mk [115, 101, 110, 100])))], [(AV.str (ByteArray.mk (Array.mk [114, 101, 99, 118])))], [(AV.str (ByteArray.mk (Array.mk [115, 101, 116])))], [(AV.str (ByteArray.mk (Array.mk [99, 108, 101, 97, 114])))], [(AV.str (ByteArray.mk (Array.mk [116, 101, 115, 116])))], [(AV.str (ByteArray.mk (Array.mk [103, 105, 118, 101])))], [(AV.str (ByteArray.mk (Array.mk [116, 97, 107, 101])))]]]) : EZ G100 [] [] Q := by
 refine Inst.en (I := I100) (L := L100) F100_at fun A hA CE CK Dn EV RR W hp => ?_
 have h := h  EV ⟨trivial⟩
 cbv
 subst hA
 exact (W.q h)

-- 68: signalbox/signalboxref06.Digits
structure V68 (EV Q : EP) : Prop where
  p7 : ∀ {t0 : Int} {t3 : ByteArray}, ((t0 ≥ 10 → (∀ r ∈ (List.take 1 (List.drop 0 [[(AV.int .u8 (IntKind.wrap .u8 (IntKind.wrap .i64 (48 + (Int.tmod t0 10)))))]])), ∃ n : Int, r = [.int .u8 n]) ∧ (((ByteArray.size (bstrS (List.take 1 (List.drop 0 [[(AV.int .u8 (IntKind.wrap .u8 (IntKind.wrap .i64 (48 + (Int.tmod t0 10)))))]])))) + (ByteArray.size t3)) ≤ 9223372036854775807) ∧ (EV 7 [] [.i (IntKind.wrap .i64 (Int.tdiv t0 10)), .s ((bstrS (List.take 1 (List.drop 0 [[(AV.int .u8 (IntKind.wrap .u8 (IntKind.wrap .i64 (48 + (Int.tmod t0 10)))))]]))) ++ t3)])) ∧ (t0 < 10 → (∀ r ∈ (List.take 1 (List.drop 0 [[(AV.int .u8 (IntKind.wrap .u8 (IntKind.wrap .i64 (48 + t0))))]])), ∃ n : Int, r = [.int .u8 n]) ∧ (((ByteArray.size (bstrS (List.take 1 (List.drop 0 [[(AV.int .u8 (IntKind.wrap .u8 (IntKind.wrap .i64 (48 + t0))))]])))) + (ByteArray.size t3)) ≤ 9223372036854775807) ∧ (Q 0 [] [.s ((bstrS (List.take 1 (List.drop 0 [[(AV.int .u8 (IntKind.wrap .u8 (IntKind.wrap .i64 (48 + t0))))]]))) ++ t3)]))) → EV 7 [] [.i t0, .s t3]

theorem V68.of (W : Wk Tryd.prog Tryd.f68 I68 L68 Q A sg CE CK Dn EV RR) : V68 EV Q := by
 have hA := W.hA
 refine ⟨?_⟩
 intro t0 t3 h
 refine W.step 80 fun hp => ?_
 cbv
 subst hA
 exact ⟨fun e0 => have j0 := h.1 (cmpE (op := .geq) rfl e0); ⟨(show _ ≠ _ by decide), ⟨(An rfl (by show (0 + 1) ≤ 1; (first | rfl | simp [rappS_end] | (simp [rappS_end]; omega)))), ⟨j0.1, ⟨j0.2.1, ⟨(show _ ≠ _ by decide), j0.2.2⟩⟩⟩⟩⟩, fun e0 => have j0 := h.2 (cmpE (op := .geq) rfl e0); ⟨(An rfl (by show (0 + 1) ≤ 1; (first | rfl | simp [rappS_end] | (simp [rappS_end]; omega)))), ⟨j0.1, ⟨j0.2.1, (W.q j0.2.2)⟩⟩⟩⟩

theorem E68 {a0 : Int} (h : ∀ EV, V68 EV Q → EV 7 [] [.i a0, .s (ByteArray.mk (Array.mk []))]) : EZ G68 [] [.i a0] Q := by
 refine Inst.en (I := I68) (L := L68) F68_at fun A hA CE CK Dn EV RR W hp => ?_
 have h := h  EV (V68.of W)
 cbv
 subst hA
 exact h

-- 81: signalbox/signalboxref06.One DRAWN
structure V81 (EV Q : EP) : Prop where
  p20 : ∀ {t4 : Int} {t5 : ByteArray} {b0 b1 b2 : Int}, ((t4 > 1 → (((ByteArray.size t5) + (ByteArray.size (ByteArray.mk (Array.mk [32])))) ≤ 9223372036854775807) ∧ (EZ G68 [] [.i b2] (fun x rs vs => (x = 0 ∧ ∃ y1_0, rs = [] ∧ vs = [.s y1_0] ∧ ((((ByteArray.size (t5 ++ (ByteArray.mk (Array.mk [32])))) + (ByteArray.size y1_0)) ≤ 9223372036854775807) ∧ (Q 0 [] [.s ((t5 ++ (ByteArray.mk (Array.mk [32]))) ++ y1_0), .b true])))))) ∧ (t4 ≤ 1 → Q 0 [] [.s t5, .b true])) → EV 20 [] [.i t4, .s t5, .i b0, .i b1, .i b2]

theorem V81.of (W : Wk Tryd.prog Tryd.f81 I81 L81 Q A sg CE CK Dn EV RR) : V81 EV Q := by
 have hA := W.hA
 refine ⟨?_⟩
 intro t4 t5 b0 b1 b2 h
 refine W.step 80 fun hp => ?_
 cbv
 refine ⟨imI hA fun e0 => have j0 := h.1 (cmpE (op := .gtr) hA e0); ⟨ndI hA (hA ▸ j0.1), ?_⟩, imI hA fun e0 => have j0 := h.2 (cmpE (op := .gtr) hA e0); (W.q j0)⟩
 refine W.cl j0.2 ?_
 rintro _ _ _ hp1 (⟨rfl, y1_0, rfl, rfl, k1⟩)
 cbv
 subst hA
 exact ⟨k1.1, (W.q k1.2)⟩

theorem E81 {u0 u1 u2 : Int} (h : ∀ EV, V81 EV Q → EZ G38 [] [.i u0] (fun x rs vs => (x = 0 ∧ ∃ y0_0, rs = [] ∧ vs = [.i y0_0] ∧ ((y0_0 ≥ 0 → (u1 ≥ 0 → (u2 ≥ 0 → (y0_0 < 1 → (u1 = 0 → (y0_0 < 2 → (u2 ≠ 0 → Q 0 [] [.s (ByteArray.mk (Array.mk [])), .b false]) ∧ (u2 = 0 → EZ G100 [] [] (fun x rs vs => (x = 0 ∧ ∃ y8_0, rs = [] ∧ vs = [.r y8_0] ∧ ((0 ≤ u0) ∧ (y8_0[u0.toNat]? = some [.str (cSS y8_0 u0.toNat 0)]) ∧ (y0_0 > 0 → (((ByteArray.size (cSS y8_0 u0.toNat 0)) + (ByteArray.size (ByteArray.mk (Array.mk [32])))) ≤ 9223372036854775807) ∧ (EZ G68 [] [.i u1] (fun x rs vs => (x = 0 ∧ ∃ y10_0, rs = [] ∧ vs = [.s y10_0] ∧ ((((ByteArray.size ((cSS y8_0 u0.toNat 0) ++ (ByteArray.mk (Array.mk [32])))) + (ByteArray.size y10_0)) ≤ 9223372036854775807) ∧ (EV 20 [] [.i y0_0, .s (((cSS y8_0 u0.toNat 0) ++ (ByteArray.mk (Array.mk [32]))) ++ y10_0), .i u0, .i u1, .i u2])))))) ∧ (y0_0 ≤ 0 → EV 20 [] [.i y0_0, .s (cSS y8_0 u0.toNat 0), .i u0, .i u1, .i u2])))))) ∧ (y0_0 ≥ 2 → EZ G100 [] [] (fun x rs vs => (x = 0 ∧ ∃ y7_0, rs = [] ∧ vs = [.r y7_0] ∧ ((0 ≤ u0) ∧ (y7_0[u0.toNat]? = some [.str (cSS y7_0 u0.toNat 0)]) ∧ (y0_0 > 0 → (((ByteArray.size (cSS y7_0 u0.toNat 0)) + (ByteArray.size (ByteArray.mk (Array.mk [32])))) ≤ 9223372036854775807) ∧ (EZ G68 [] [.i u1] (fun x rs vs => (x = 0 ∧ ∃ y9_0, rs = [] ∧ vs = [.s y9_0] ∧ ((((ByteArray.size ((cSS y7_0 u0.toNat 0) ++ (ByteArray.mk (Array.mk [32])))) + (ByteArray.size y9_0)) ≤ 9223372036854775807) ∧ (EV 20 [] [.i y0_0, .s (((cSS y7_0 u0.toNat 0) ++ (ByteArray.mk (Array.mk [32]))) ++ y9_0), .i u0, .i u1, .i u2])))))) ∧ (y0_0 ≤ 0 → EV 20 [] [.i y0_0, .s (cSS y7_0 u0.toNat 0), .i u0, .i u1, .i u2])))))) ∧ (u1 ≠ 0 → Q 0 [] [.s (ByteArray.mk (Array.mk [])), .b false])) ∧ (y0_0 ≥ 1 → (y0_0 < 2 → (u2 ≠ 0 → Q 0 [] [.s (ByteArray.mk (Array.mk [])), .b false]) ∧ (u2 = 0 → EZ G100 [] [] (fun x rs vs => (x = 0 ∧ ∃ y7_0, rs = [] ∧ vs = [.r y7_0] ∧ ((0 ≤ u0) ∧ (y7_0[u0.toNat]? = some [.str (cSS y7_0 u0.toNat 0)]) ∧ (y0_0 > 0 → (((ByteArray.size (cSS y7_0 u0.toNat 0)) + (ByteArray.size (ByteArray.mk (Array.mk [32])))) ≤ 9223372036854775807) ∧ (EZ G68 [] [.i u1] (fun x rs vs => (x = 0 ∧ ∃ y9_0, rs = [] ∧ vs = [.s y9_0] ∧ ((((ByteArray.size ((cSS y7_0 u0.toNat 0) ++ (ByteArray.mk (Array.mk [32])))) + (ByteArray.size y9_0)) ≤ 9223372036854775807) ∧ (EV 20 [] [.i y0_0, .s (((cSS y7_0 u0.toNat 0) ++ (ByteArray.mk (Array.mk [32]))) ++ y9_0), .i u0, .i u1, .i u2])))))) ∧ (y0_0 ≤ 0 → EV 20 [] [.i y0_0, .s (cSS y7_0 u0.toNat 0), .i u0, .i u1, .i u2])))))) ∧ (y0_0 ≥ 2 → EZ G100 [] [] (fun x rs vs => (x = 0 ∧ ∃ y6_0, rs = [] ∧ vs = [.r y6_0] ∧ ((0 ≤ u0) ∧ (y6_0[u0.toNat]? = some [.str (cSS y6_0 u0.toNat 0)]) ∧ (y0_0 > 0 → (((ByteArray.size (cSS y6_0 u0.toNat 0)) + (ByteArray.size (ByteArray.mk (Array.mk [32])))) ≤ 9223372036854775807) ∧ (EZ G68 [] [.i u1] (fun x rs vs => (x = 0 ∧ ∃ y8_0, rs = [] ∧ vs = [.s y8_0] ∧ ((((ByteArray.size ((cSS y6_0 u0.toNat 0) ++ (ByteArray.mk (Array.mk [32])))) + (ByteArray.size y8_0)) ≤ 9223372036854775807) ∧ (EV 20 [] [.i y0_0, .s (((cSS y6_0 u0.toNat 0) ++ (ByteArray.mk (Array.mk [32]))) ++ y8_0), .i u0, .i u1, .i u2])))))) ∧ (y0_0 ≤ 0 → EV 20 [] [.i y0_0, .s (cSS y6_0 u0.toNat 0), .i u0, .i u1, .i u2]))))))) ∧ (u2 < 0 → Q 0 [] [.s (ByteArray.mk (Array.mk [])), .b false])) ∧ (u1 < 0 → Q 0 [] [.s (ByteArray.mk (Array.mk [])), .b false])) ∧ (y0_0 < 0 → Q 0 [] [.s (ByteArray.mk (Array.mk [])), .b false]))))) : EZ G81 [] [.i u0, .i u1, .i u2] Q := by
 refine Inst.en (I := I81) (L := L81) F81_at fun A hA CE CK Dn EV RR W hp => ?_
 have h := h  EV (V81.of W)
 cbv
 refine W.cl h ?_
 rintro _ _ _ hp0 (⟨rfl, y0_0, rfl, rfl, k0⟩)
 cbv
 refine ⟨imI hA fun e1 => have j1 := k0.1 (cmpE (op := .lss) hA e1); ⟨imI hA fun e2 => have j2 := j1.1 (cmpE (op := .lss) hA e2); ⟨imI hA fun e3 => have j3 := j2.1 (cmpE (op := .lss) hA e3); ⟨imI hA fun e4 => have j4 := j3.1 (cmpE (op := .lss) hA e4); ⟨imI hA fun e5 => have j5 := j4.1 (cmpE (op := .neq) hA e5); ⟨imI hA fun e6 => have j6 := j5.1 (cmpE (op := .lss) hA e6); ⟨imI hA fun e7 => have j7 := j6.1 (cmpE (op := .neq) hA e7); (W.q j7), imI hA fun e7 => have j7 := j6.2 (cmpE (op := .neq) hA e7); ⟨?_, trivial⟩⟩, imI hA fun e6 => have j6 := j5.2 (cmpE (op := .lss) hA e6); ⟨?_, trivial⟩⟩, imI hA fun e5 => have j5 := j4.2 (cmpE (op := .neq) hA e5); (W.q j5)⟩, imI hA fun e4 => have j4 := j3.2 (cmpE (op := .lss) hA e4); ⟨imI hA fun e5 => have j5 := j4.1 (cmpE (op := .lss) hA e5); ⟨imI hA fun e6 => have j6 := j5.1 (cmpE (op := .neq) hA e6); (W.q j6), imI hA fun e6 => have j6 := j5.2 (cmpE (op := .neq) hA e6); ⟨?_, trivial⟩⟩, imI hA fun e5 => have j5 := j4.2 (cmpE (op := .lss) hA e5); ⟨?_, trivial⟩⟩⟩, imI hA fun e3 => have j3 := j2.2 (cmpE (op := .lss) hA e3); (W.q j3)⟩, imI hA fun e2 => have j2 := j1.2 (cmpE (op := .lss) hA e2); (W.q j2)⟩, imI hA fun e1 => have j1 := k0.2 (cmpE (op := .lss) hA e1); (W.q j1)⟩
 ·refine W.cd j7 ?_
  rintro _ _ _ hp8 (⟨rfl, y8_0, rfl, rfl, k8⟩)
  cbv
  refine W.draw 80 (by rfl) ?_
  cbv
  refine ⟨ndI hA (An k8.1 (hA ▸ k8.2.1)), ⟨imI hA fun e9 => have j9 := k8.2.2.1 (cmpE (op := .gtr) hA e9); ⟨ndI hA (hA ▸ j9.1), ?_⟩, imI hA fun e9 => have j9 := k8.2.2.2 (cmpE (op := .gtr) hA e9); (hA ▸ j9)⟩⟩
  refine W.cl j9.2 ?_
  rintro _ _ _ hp10 (⟨rfl, y10_0, rfl, rfl, k10⟩)
  cbv
  subst hA
  exact ⟨k10.1, k10.2⟩
 ·refine W.cd j6 ?_
  rintro _ _ _ hp7 (⟨rfl, y7_0, rfl, rfl, k7⟩)
  cbv
  refine W.draw 80 (by rfl) ?_
  cbv
  refine ⟨ndI hA (An k7.1 (hA ▸ k7.2.1)), ⟨imI hA fun e8 => have j8 := k7.2.2.1 (cmpE (op := .gtr) hA e8); ⟨ndI hA (hA ▸ j8.1), ?_⟩, imI hA fun e8 => have j8 := k7.2.2.2 (cmpE (op := .gtr) hA e8); (hA ▸ j8)⟩⟩
  refine W.cl j8.2 ?_
  rintro _ _ _ hp9 (⟨rfl, y9_0, rfl, rfl, k9⟩)
  cbv
  subst hA
  exact ⟨k9.1, k9.2⟩
 ·refine W.cd j6 ?_
  rintro _ _ _ hp7 (⟨rfl, y7_0, rfl, rfl, k7⟩)
  cbv
  refine W.draw 80 (by rfl) ?_
  cbv
  refine ⟨ndI hA (An k7.1 (hA ▸ k7.2.1)), ⟨imI hA fun e8 => have j8 := k7.2.2.1 (cmpE (op := .gtr) hA e8); ⟨ndI hA (hA ▸ j8.1), ?_⟩, imI hA fun e8 => have j8 := k7.2.2.2 (cmpE (op := .gtr) hA e8); (hA ▸ j8)⟩⟩
  refine W.cl j8.2 ?_
  rintro _ _ _ hp9 (⟨rfl, y9_0, rfl, rfl, k9⟩)
  cbv
  subst hA
  exact ⟨k9.1, k9.2⟩
 ·refine W.cd j5 ?_
  rintro _ _ _ hp6 (⟨rfl, y6_0, rfl, rfl, k6⟩)
  cbv
  refine W.draw 80 (by rfl) ?_
  cbv
  refine ⟨ndI hA (An k6.1 (hA ▸ k6.2.1)), ⟨imI hA fun e7 => have j7 := k6.2.2.1 (cmpE (op := .gtr) hA e7); ⟨ndI hA (hA ▸ j7.1), ?_⟩, imI hA fun e7 => have j7 := k6.2.2.2 (cmpE (op := .gtr) hA e7); (hA ▸ j7)⟩⟩
  refine W.cl j7.2 ?_
  rintro _ _ _ hp8 (⟨rfl, y8_0, rfl, rfl, k8⟩)
  cbv
  subst hA
  exact ⟨k8.1, k8.2⟩

-- 42: signalbox/signalboxref06.Text
structure V42 (EV Q : EP) : Prop where
  p9 : ∀ {t4 : ByteArray} {t9 : RW} {t10 t11 : Int}, ((t11 < t10 → (0 ≤ t11) ∧ (t9[t11.toNat]? = some (r3 t9 t11.toNat)) ∧ (EZ G81 [] [.i (cIS t9 t11.toNat 0), .i (cIS t9 t11.toNat 1), .i (cIS t9 t11.toNat 2)] (fun x rs vs => (x = 0 ∧ ∃ y1_0 y1_1, rs = [] ∧ vs = [.s y1_0, .b y1_1] ∧ ((y1_1 = false → Q 0 [] [.s (ByteArray.mk (Array.mk [])), .b false]) ∧ (y1_1 = true → (t11 > 0 → (((ByteArray.size t4) + (ByteArray.size (ByteArray.mk (Array.mk [59])))) ≤ 9223372036854775807) ∧ (((ByteArray.size (t4 ++ (ByteArray.mk (Array.mk [59])))) + (ByteArray.size y1_0)) ≤ 9223372036854775807) ∧ (EV 9 [] [.s ((t4 ++ (ByteArray.mk (Array.mk [59]))) ++ y1_0), .r t9, .i t10, .i (IntKind.wrap .i64 (t11 + 1))])) ∧ (t11 ≤ 0 → (((ByteArray.size t4) + (ByteArray.size y1_0)) ≤ 9223372036854775807) ∧ (EV 9 [] [.s (t4 ++ y1_0), .r t9, .i t10, .i (IntKind.wrap .i64 (t11 + 1))])))))))) ∧ (t11 ≥ t10 → Q 0 [] [.s t4, .b true])) → EV 9 [] [.s t4, .r t9, .i t10, .i t11]

theorem V42.of (W : Wk Tryd.prog Tryd.f42 I42 L42 Q A sg CE CK Dn EV RR) : V42 EV Q := by
 have hA := W.hA
 refine ⟨?_⟩
 intro t4 t9 t10 t11 h
 refine W.step 80 fun hp => ?_
 cbv
 refine ⟨imI hA fun e0 => have j0 := h.1 (cmpE (op := .lss) hA e0); ⟨ndI hA (An j0.1 (hA ▸ j0.2.1)), ?_⟩, imI hA fun e0 => have j0 := h.2 (cmpE (op := .lss) hA e0); (W.q j0)⟩
 refine W.cl j0.2.2 ?_
 rintro _ _ _ hp1 (⟨rfl, y1_0, y1_1, rfl, rfl, k1⟩)
 cbv
 subst hA
 exact ⟨fun e2 => have j2 := k1.1 ((notE rfl e2)); (W.q j2), fun e2 => have j2 := k1.2 ((notE rfl e2)); ⟨fun e3 => have j3 := j2.1 (cmpE (op := .gtr) rfl e3); ⟨j3.1, ⟨j3.2.1, j3.2.2⟩⟩, fun e3 => have j3 := j2.2 (cmpE (op := .gtr) rfl e3); ⟨j3.1, j3.2⟩⟩⟩

theorem E42 {a0 : RW} (h : ∀ EV, V42 EV Q → EV 9 [] [.s (ByteArray.mk (Array.mk [])), .r a0, .i (a0.length : Int), .i 0]) : EZ G42 [] [.r a0] Q := by
 refine Inst.en (I := I42) (L := L42) F42_at fun A hA CE CK Dn EV RR W hp => ?_
 have h := h  EV (V42.of W)
 cbv
 subst hA
 exact h

-- 102: signalbox/prog.read$1 DRAWN
structure V102 (EV Q : EP) : Prop where
  none : True

theorem E102 {u0 : ByteArray} {u1 : Int} {ab0 : RW} (h : ∀ EV, V102 EV Q → (ab0[(Int.toNat 0)]? = some [.str (cSS ab0 (Int.toNat 0) 0)]) ∧ (Q 0 [] [.b (sopS .eql u0 (cSS ab0 (Int.toNat 0) 0)), .r ab0])) : EZ G102 [] [.s u0, .i u1, .r ab0] Q := by
 refine Inst.en (I := I102) (L := L102) F102_at fun A hA CE CK Dn EV RR W hp => ?_
 have h := h  EV ⟨trivial⟩
 cbv
 subst hA
 exact ⟨(An (Int.le_refl _) h.1), (W.q h.2)⟩

-- 101: slices.IndexFunc[[]signalbox/prog.kind,signalbox/prog.kind]
structure V101 (EV Q : EP) : Prop where
  p7 : ∀ {t0 : RW} {t7 t8 : Int} {tb0 : RW}, ((t8 < t7 → (0 ≤ t8) ∧ (t0[t8.toNat]? = some [.str (cSS t0 t8.toNat 0), .int .i64 (cIS t0 t8.toNat 1)]) ∧ (EZ G102 [] [.s (cSS t0 t8.toNat 0), .i (cIS t0 t8.toNat 1), .r tb0] (fun x rs vs => (x = 0 ∧ ∃ y1_0 y1_b0, rs = [] ∧ vs = [.b y1_0, .r y1_b0] ∧ ((y1_0 = true → Q 0 [] [.i t8, .r y1_b0]) ∧ (y1_0 = false → EV 7 [] [.r t0, .i t7, .i (IntKind.wrap .i64 (t8 + 1)), .r y1_b0])))))) ∧ (t8 ≥ t7 → Q 0 [] [.i (-1), .r tb0])) → EV 7 [] [.r t0, .i t7, .i t8, .r tb0]

theorem V101.of (W : Wk Tryd.prog Tryd.f101 I101 L101 Q A sg CE CK Dn EV RR) : V101 EV Q := by
 have hA := W.hA
 refine ⟨?_⟩
 intro t0 t7 t8 tb0 h
 refine W.step 80 fun hp => ?_
 cbv
 refine ⟨imI hA fun e0 => have j0 := h.1 (cmpE (op := .lss) hA e0); ⟨ndI hA (An j0.1 (hA ▸ j0.2.1)), ?_⟩, imI hA fun e0 => have j0 := h.2 (cmpE (op := .lss) hA e0); (W.q j0)⟩
 refine W.cl j0.2.2 ?_
 rintro _ _ _ hp1 (⟨rfl, y1_0, y1_b0, rfl, rfl, k1⟩)
 cbv
 subst hA
 exact ⟨fun e2 => have j2 := k1.1 e2; (W.q j2), fun e2 => have j2 := k1.2 e2; j2⟩

theorem E101 {a0 ab0 : RW} (h : ∀ EV, V101 EV Q → EV 7 [] [.r a0, .i (a0.length : Int), .i 0, .r ab0]) : EZ G101 [] [.r a0, .r ab0] Q := by
 refine Inst.en (I := I101) (L := L101) F101_at fun A hA CE CK Dn EV RR W hp => ?_
 have h := h  EV (V101.of W)
 cbv
 subst hA
 exact h

-- 103: signalbox/prog.number
structure V103 (EV Q : EP) : Prop where
  none : True

theorem E103 {a0 : ByteArray} (h : ∀ EV, V103 EV Q → EZ G91 [] [.s a0] (fun x rs vs => (x = 0 ∧ ∃ y0_0, rs = [] ∧ vs = [.i y0_0] ∧ ((y0_0 ≥ 0 → (((ByteArray.size a0) : Int) ≤ 9 → EZ G48 [] [.i y0_0] (fun x rs vs => (x = 0 ∧ ∃ y3_0, rs = [] ∧ vs = [.s y3_0] ∧ (Q 0 [] [.i y0_0, .b (sopS .eql y3_0 a0)])))) ∧ (((ByteArray.size a0) : Int) > 9 → Q 0 [] [.i y0_0, .b false])) ∧ (y0_0 < 0 → Q 0 [] [.i y0_0, .b false]))))) : EZ G103 [] [.s a0] Q := by
 refine Inst.en (I := I103) (L := L103) F103_at fun A hA CE CK Dn EV RR W hp => ?_
 have h := h  EV ⟨trivial⟩
 cbv
 refine W.cl h ?_
 rintro _ _ _ hp0 (⟨rfl, y0_0, rfl, rfl, k0⟩)
 cbv
 refine ⟨imI hA fun e1 => have j1 := k0.1 (cmpE (op := .geq) hA e1); ⟨imI hA fun e2 => have j2 := j1.1 (by subst hA; exact (cmpE (op := .leq) rfl e2)); ?_, imI hA fun e2 => have j2 := j1.2 (by subst hA; exact (cmpE (op := .leq) rfl e2)); (W.q j2)⟩, imI hA fun e1 => have j1 := k0.2 (cmpE (op := .geq) hA e1); (W.q j1)⟩
 refine W.cl j2 ?_
 rintro _ _ _ hp3 (⟨rfl, y3_0, rfl, rfl, k3⟩)
 cbv
 subst hA
 exact (W.q k3)

-- 43: signalbox/prog.Parse
structure V43 (EV Q : EP) : Prop where
  p9 : ∀ {R0 t10 : RW} {t11 t12 : Int}, (pursS R0 = true → (t12 < t11 → (0 ≤ t12) ∧ (t10[t12.toNat]? = some [.str (cSS t10 t12.toNat 0)]) ∧ (EZ G82 [] [.s (cSS t10 t12.toNat 0)] (fun x rs vs => (x = 0 ∧ ∃ y1a0 y1a1 y1a2 y1_1, rs = [] ∧ vs = [.i y1a0, .i y1a1, .i y1a2, .b y1_1] ∧ ((y1_1 = false → Q 0 [[]] [.i 2]) ∧ (y1_1 = true → ((R0.length + 1) ≤ 140737488355328) ∧ (((R0.length + 1) * 24) ≤ 140737488355328) ∧ (EV 9 [(R0 ++ [[(AV.int .i64 y1a0), (AV.int .i64 y1a1), (AV.int .i64 y1a2)]])] [.r t10, .i t11, .i (IntKind.wrap .i64 (t12 + 1))]))))))) ∧ (t12 ≥ t11 → Q 0 [R0] [.i 0])) → EV 9 [R0] [.r t10, .i t11, .i t12]

theorem V43.of (W : Wk Tryd.prog Tryd.f43 I43 L43 Q A sg CE CK Dn EV RR) : V43 EV Q := by
 have hA := W.hA
 refine ⟨?_⟩
 intro R0 t10 t11 t12 h
 refine W.step 80 fun hp => ?_
 have h := h hp.1
 cbv
 refine ⟨imI hA fun e0 => have j0 := h.1 (cmpE (op := .lss) hA e0); ⟨ndI hA (An j0.1 (hA ▸ j0.2.1)), ?_⟩, imI hA fun e0 => have j0 := h.2 (cmpE (op := .lss) hA e0); ⟨ndI hA (An rfl (An rfl rfl)), ⟨ndI hA hp.1, (W.q j0)⟩⟩⟩
 refine W.cl j0.2.2 ?_
 rintro _ _ _ hp1 (⟨rfl, y1a0, y1a1, y1a2, y1_1, rfl, rfl, k1⟩)
 cbv
 subst hA
 exact ⟨fun e2 => have j2 := k1.1 ((notE rfl e2)); ⟨(An rfl (An rfl rfl)), ⟨vpur, (W.q j2)⟩⟩, fun e2 => have j2 := k1.2 ((notE rfl e2)); ⟨(An rfl (An (Nat.le_refl _) (An j2.1 j2.2.1))), ⟨(An rfl (An rfl (by show (R0.length + 1) = (List.length (rappS R0 R0.length [[(AV.int .i64 y1a0), (AV.int .i64 y1a1), (AV.int .i64 y1a2)]])); (first | rfl | simp [rappS_end] | (simp [rappS_end]; omega))))), ⟨((vapp hp.1 vpur)), (by show EV 9 [(rappS R0 R0.length [[(AV.int .i64 y1a0), (AV.int .i64 y1a1), (AV.int .i64 y1a2)]])] [.r t10, .i t11, .i (IntKind.wrap .i64 (t12 + 1))]; (try simp only [rappS_end, Nat.zero_add, Int.toNat_natCast]); exact j2.2.2)⟩⟩⟩⟩

theorem E43 {a0 : ByteArray} (h : ∀ EV, V43 EV Q → EZ G52 [] [.s a0, .s (ByteArray.mk (Array.mk [59]))] (fun x rs vs => (x = 0 ∧ ∃ y0_0, rs = [] ∧ vs = [.r y0_0] ∧ (EV 9 [[]] [.r y0_0, .i (y0_0.length : Int), .i 0])))) : EZ G43 [] [.s a0] Q := by
 refine Inst.en (I := I43) (L := L43) F43_at fun A hA CE CK Dn EV RR W hp => ?_
 have h := h  EV (V43.of W)
 cbv
 refine W.cl h ?_
 rintro _ _ _ hp0 (⟨rfl, y0_0, rfl, rfl, k0⟩)
 cbv
 subst hA
 exact ⟨(An rfl (An rfl rfl)), ⟨vpur, k0⟩⟩

-- 44: signalbox/signalboxlaw06.same DRAWN
structure V44 (EV Q : EP) : Prop where
  p15 : ∀ {t0 t1 : RW} {t12 t13 : Int}, ((t13 < t12 → (0 ≤ t13) ∧ (t0[t13.toNat]? = some (r3 t0 t13.toNat)) ∧ (t1[t13.toNat]? = some (r3 t1 t13.toNat)) ∧ ((((cIS t0 t13.toNat 0) == (cIS t1 t13.toNat 0)) && (((cIS t0 t13.toNat 1) == (cIS t1 t13.toNat 1)) && (((cIS t0 t13.toNat 2) == (cIS t1 t13.toNat 2)) && true))) = false → Q 0 [] [.b false]) ∧ ((((cIS t0 t13.toNat 0) == (cIS t1 t13.toNat 0)) && (((cIS t0 t13.toNat 1) == (cIS t1 t13.toNat 1)) && (((cIS t0 t13.toNat 2) == (cIS t1 t13.toNat 2)) && true))) = true → EV 15 [] [.r t0, .r t1, .i t12, .i (IntKind.wrap .i64 (t13 + 1))])) ∧ (t13 ≥ t12 → Q 0 [] [.b true])) → EV 15 [] [.r t0, .r t1, .i t12, .i t13]

theorem V44.of (W : Wk Tryd.prog Tryd.f44 I44 L44 Q A sg CE CK Dn EV RR) : V44 EV Q := by
 have hA := W.hA
 refine ⟨?_⟩
 intro t0 t1 t12 t13 h
 refine W.step 80 fun hp => ?_
 cbv
 subst hA
 exact ⟨fun e0 => have j0 := h.1 (cmpE (op := .lss) rfl e0); ⟨(An j0.1 j0.2.1), ⟨(An j0.1 j0.2.2.1), ⟨fun e1 => have j1 := j0.2.2.2.1 ((notE rfl e1)); (W.q j1), fun e1 => have j1 := j0.2.2.2.2 ((notE rfl e1)); j1⟩⟩⟩, fun e0 => have j0 := h.2 (cmpE (op := .lss) rfl e0); (W.q j0)⟩

theorem E44 {a0 a1 : RW} (h : ∀ EV, V44 EV Q → ((a0.length : Int) ≠ (a1.length : Int) → Q 0 [] [.b false]) ∧ ((a0.length : Int) = (a1.length : Int) → EV 15 [] [.r a0, .r a1, .i (a0.length : Int), .i 0])) : EZ G44 [] [.r a0, .r a1] Q := by
 refine Inst.en (I := I44) (L := L44) F44_at fun A hA CE CK Dn EV RR W hp => ?_
 have h := h  EV (V44.of W)
 cbv
 subst hA
 exact ⟨fun e0 => have j0 := h.1 ((cmpE (op := .neq) rfl e0)); (W.q j0), fun e0 => have j0 := h.2 ((cmpE (op := .neq) rfl e0)); j0⟩

-- 10: signalbox/signalboxlaw06.ProgTexts
structure V10 (EV Q : EP) : Prop where
  p43 : ∀ {t0 : RW} {t3 : ByteArray} {t41 : RW} {t42 t43 : Int}, ((t43 < t42 → (0 ≤ t43) ∧ (t41[t43.toNat]? = some (r3 t41 t43.toNat)) ∧ ((cIS t41 t43.toNat 1) ≤ 999999999 → ((cIS t41 t43.toNat 2) > 999999999 → Q 0 [] [.b true]) ∧ ((cIS t41 t43.toNat 2) ≤ 999999999 → EV 43 [] [.r t0, .s t3, .r t41, .i t42, .i (IntKind.wrap .i64 (t43 + 1))])) ∧ ((cIS t41 t43.toNat 1) > 999999999 → Q 0 [] [.b true])) ∧ (t43 ≥ t42 → EZ G43 [] [.s t3] (fun x rs vs => (x = 0 ∧ ∃ Y1_0 y1_1, rs = [Y1_0] ∧ vs = [.i y1_1] ∧ ((y1_1 = 0 → EZ G44 [] [.r t0, .r (List.take Y1_0.length (List.drop 0 Y1_0))] (fun x rs vs => (x = 0 ∧ ∃ y3_0, rs = [] ∧ vs = [.b y3_0] ∧ (Q 0 [] [.b y3_0])))) ∧ (y1_1 ≠ 0 → Q 0 [] [.b false])))))) → EV 43 [] [.r t0, .s t3, .r t41, .i t42, .i t43]

theorem V10.of (W : Wk Tryd.prog Tryd.f10 I10 L10 Q A sg CE CK Dn EV RR) : V10 EV Q := by
 have hA := W.hA
 refine ⟨?_⟩
 intro t0 t3 t41 t42 t43 h
 refine W.step 80 fun hp => ?_
 cbv
 refine ⟨imI hA fun e0 => have j0 := h.1 (cmpE (op := .lss) hA e0); ⟨ndI hA (An j0.1 (hA ▸ j0.2.1)), ⟨imI hA fun e1 => have j1 := j0.2.2.1 (by subst hA; exact (cmpE (op := .gtr) rfl e1)); ⟨imI hA fun e2 => have j2 := j1.1 (by subst hA; exact (cmpE (op := .gtr) rfl e2)); (W.q j2), imI hA fun e2 => have j2 := j1.2 (by subst hA; exact (cmpE (op := .gtr) rfl e2)); (hA ▸ j2)⟩, imI hA fun e1 => have j1 := j0.2.2.2 (by subst hA; exact (cmpE (op := .gtr) rfl e1)); (W.q j1)⟩⟩, imI hA fun e0 => have j0 := h.2 (cmpE (op := .lss) hA e0); ?_⟩
 refine W.cl j0 ?_
 rintro _ _ _ hp1 (⟨rfl, Y1_0, y1_1, rfl, rfl, k1⟩)
 cbv
 refine ⟨imI hA fun e2 => have j2 := k1.1 (cmpE (op := .eql) hA e2); ⟨ndI hA (An (An hp1.1 trivial) (An rfl trivial)), ?_⟩, imI hA fun e2 => have j2 := k1.2 (cmpE (op := .eql) hA e2); (W.q j2)⟩
 refine W.cl j2 ?_
 rintro _ _ _ hp3 (⟨rfl, y3_0, rfl, rfl, k3⟩)
 cbv
 subst hA
 exact (W.q k3)

theorem E10 {a0 : RW} (h : ∀ EV, V10 EV Q → EZ G33 [] [] (fun x rs vs => (x = 0 ∧ ∃ y0_0, rs = [] ∧ vs = [.b y0_0] ∧ ((y0_0 = false → Q 0 [] [.b false]) ∧ (y0_0 = true → EZ G34 [] [.r a0] (fun x rs vs => (x = 0 ∧ ∃ y2_0, rs = [] ∧ vs = [.b y2_0] ∧ ((y2_0 = false → Q 0 [] [.b true]) ∧ (y2_0 = true → EZ G41 [] [.r a0] (fun x rs vs => (x = 0 ∧ ∃ y4_0 y4_1, rs = [] ∧ vs = [.s y4_0, .b y4_1] ∧ (EZ G42 [] [.r a0] (fun x rs vs => (x = 0 ∧ ∃ y5_0 y5_1, rs = [] ∧ vs = [.s y5_0, .b y5_1] ∧ (((sopS .neq y4_0 y5_0) = false → ((y4_1 == y5_1) = false → Q 0 [] [.b false]) ∧ ((y4_1 == y5_1) = true → (y4_1 = true → ((a0.length : Int) = 0 → Q 0 [] [.b true]) ∧ ((a0.length : Int) ≠ 0 → EV 43 [] [.r a0, .s y4_0, .r a0, .i (a0.length : Int), .i 0])) ∧ (y4_1 = false → Q 0 [] [.b true]))) ∧ ((sopS .neq y4_0 y5_0) = true → Q 0 [] [.b false])))))))))))))))) : EZ G10 [] [.r a0] Q := by
 refine Inst.en (I := I10) (L := L10) F10_at fun A hA CE CK Dn EV RR W hp => ?_
 have h := h  EV (V10.of W)
 cbv
 refine W.cl h ?_
 rintro _ _ _ hp0 (⟨rfl, y0_0, rfl, rfl, k0⟩)
 cbv
 refine ⟨imI hA fun e1 => have j1 := k0.1 (by subst hA; exact (notE rfl e1)); (W.q j1), imI hA fun e1 => have j1 := k0.2 (by subst hA; exact (notE rfl e1)); ?_⟩
 refine W.cl j1 ?_
 rintro _ _ _ hp2 (⟨rfl, y2_0, rfl, rfl, k2⟩)
 cbv
 refine ⟨imI hA fun e3 => have j3 := k2.1 (by subst hA; exact (notE rfl e3)); (W.q j3), imI hA fun e3 => have j3 := k2.2 (by subst hA; exact (notE rfl e3)); ?_⟩
 refine W.cl j3 ?_
 rintro _ _ _ hp4 (⟨rfl, y4_0, y4_1, rfl, rfl, k4⟩)
 cbv
 refine W.cl k4 ?_
 rintro _ _ _ hp5 (⟨rfl, y5_0, y5_1, rfl, rfl, k5⟩)
 cbv
 subst hA
 exact ⟨fun e6 => have j6 := k5.1 e6; ⟨fun e7 => have j7 := j6.1 ((notE rfl e7)); (W.q j7), fun e7 => have j7 := j6.2 ((notE rfl e7)); ⟨fun e8 => have j8 := j7.1 ((notE rfl e8)); ⟨fun e9 => have j9 := j8.1 ((cmpE (op := .eql) rfl e9)); (W.q j9), fun e9 => have j9 := j8.2 ((cmpE (op := .eql) rfl e9)); j9⟩, fun e8 => have j8 := j7.2 ((notE rfl e8)); (W.q j8)⟩⟩, fun e6 => have j6 := k5.2 e6; (W.q j6)⟩

end Go.Ab
