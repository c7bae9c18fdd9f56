import Derived.Test.YtmmoffbompnihaaDoorQSL
import Derived.Test.YtmmoffbompnihaaDoorLayG
/- PRINTED BY A PROGRAM (wip/tools/vc.py, AbVc.lean): what is to be shown of each function, from place to place, and that it is enough. -/
namespace Go.Ab
open Go Go.Proofs
set_option linter.unusedVariables false
set_option linter.unusedSimpArgs false
set_option maxRecDepth 100000
set_option maxHeartbeats 0
variable {Q EV RR : EP} {A : Ar} {CE : Nat → Rs → List Lf → EP → Prop} {CK : Nat → Rs → List Lf → Cont → Prop} {Dn : Nat → List Bool → List AItem → Nat → List Bool → List AV → List ABlk → Prop}

-- 47: signalbox/trace.names
structure V47 (EV Q : EP) : Prop where
  none : True

theorem E47  (h : ∀ EV, V47 EV Q → Q 0 [] [.r [[(AV.str (ByteArray.mk (Array.mk [])))], [(AV.str (ByteArray.mk (Array.mk [114, 101, 108, 101, 97, 115, 101])))], [(AV.str (ByteArray.mk (Array.mk [108, 111, 115, 116])))], [(AV.str (ByteArray.mk (Array.mk [115, 116, 97, 114, 116])))], [(AV.str (ByteArray.mk (Array.mk [100, 105, 115, 112, 108, 97, 99, 101])))], [(AV.str (ByteArray.mk (Array.mk [114, 101, 115, 117, 109, 101])))], [(AV.str (ByteArray.mk (Array.mk [100, 111, 110, 101])))], [(AV.str (ByteArray.mk (Array.mk [102, 97, 117, 108, 116])))], [(AV.str (ByteArray.mk (Array.mk [99, 97, 108, 108])))]]]) : EZ G47 [] [] Q := by
 refine Inst.en (I := I47) (L := L47) F47_at fun A hA CE CK Dn EV RR W hp => ?_
 have h := h  EV ⟨trivial⟩
 cbv
 subst hA
 exact (W.q h)

-- 13: signalbox/trace.Line DRAWN
structure V13 (EV Q : EP) : Prop where
  p14 : ∀ {R0 : RW} {b0 b1 b2 b3 b4 b5 b6 : Int}, (pursS R0 = true → EV 19 [R0] [.r [[(AV.int .i64 b2)], [(AV.int .i64 b3)], [(AV.int .i64 b4)], [(AV.int .i64 b5)], [(AV.int .i64 b6)]], .i 5, .i 0]) → EV 14 [R0] [.i b0, .i b1, .i b2, .i b3, .i b4, .i b5, .i b6]
  p19 : ∀ {R0 t38 : RW} {t39 t40 : Int}, (pursS R0 = true → (t40 < t39 → (0 ≤ t40) ∧ (t38[t40.toNat]? = some [.int .i64 (cIS t38 t40.toNat 0)]) ∧ (EZ G48 [] [.i (cIS t38 t40.toNat 0)] (fun x rs vs => (x = 0 ∧ ∃ y1_0, rs = [] ∧ vs = [.s y1_0] ∧ (((R0.length + (List.length (List.take 1 (List.drop 0 [[(AV.str y1_0)]])))) ≤ 140737488355328) ∧ (((R0.length + (List.length (List.take 1 (List.drop 0 [[(AV.str y1_0)]])))) * 16) ≤ 140737488355328) ∧ (EV 19 [(R0 ++ (List.take 1 (List.drop 0 [[(AV.str y1_0)]])))] [.r t38, .i t39, .i (IntKind.wrap .i64 (t40 + 1))])))))) ∧ (t40 ≥ t39 → EZ G49 [] [.r (List.take R0.length (List.drop 0 R0)), .s (ByteArray.mk (Array.mk [32]))] (fun x rs vs => (x = 0 ∧ ∃ y1_0, rs = [] ∧ vs = [.s y1_0] ∧ (Q 0 [] [.s y1_0, .b true]))))) → EV 19 [R0] [.r t38, .i t39, .i t40]

theorem V13.of (W : Wk Tryd.prog Tryd.f13 I13 L13 Q A sg CE CK Dn EV RR) : V13 EV Q := by
 have hA := W.hA
 refine ⟨?_, ?_⟩
 ·intro R0 b0 b1 b2 b3 b4 b5 b6 h
  refine W.step 80 fun hp => ?_
  have h := h hp.1
  cbv
  subst hA
  exact ⟨(An rfl (An rfl rfl)), ⟨hp.1, h⟩⟩
 ·intro R0 t38 t39 t40 h
  refine W.step 80 fun hp => ?_
  have h := h hp.1
  cbv
  refine ⟨imI hA fun e0 => have j0 := h.1 (cmpE (op := .lss) hA e0); ⟨ndI hA (An j0.1 (hA ▸ j0.2.1)), ?_⟩, imI hA fun e0 => have j0 := h.2 (cmpE (op := .lss) hA e0); ⟨ndI hA (An (An hp.1 trivial) (An rfl trivial)), ?_⟩⟩
  ·refine W.cl j0.2.2 ?_
   rintro _ _ _ hp1 (⟨rfl, y1_0, rfl, rfl, k1⟩)
   cbv
   subst hA
   exact ⟨(An rfl (by show (0 + 1) ≤ 1; (first | rfl | simp [rappS_end] | (simp [rappS_end]; omega)))), ⟨(An rfl (An (Nat.le_refl _) (An k1.1 k1.2.1))), ⟨(An rfl (An rfl (by show (R0.length + (List.length (List.take 1 (List.drop 0 [[(AV.str y1_0)]])))) = (List.length (rappS R0 R0.length (List.take 1 (List.drop 0 [[(AV.str y1_0)]])))); (first | rfl | simp [rappS_end] | (simp [rappS_end]; omega))))), ⟨((vapp hp.1 (vtake (vdrop vpur)))), (by show EV 19 [(rappS R0 R0.length (List.take 1 (List.drop 0 [[(AV.str y1_0)]])))] [.r t38, .i t39, .i (IntKind.wrap .i64 (t40 + 1))]; (try simp only [rappS_end, Nat.zero_add, Int.toNat_natCast]); exact k1.2.2)⟩⟩⟩⟩
  ·refine W.cl j0 ?_
   rintro _ _ _ hp1 (⟨rfl, y1_0, rfl, rfl, k1⟩)
   cbv
   subst hA
   exact (W.q k1)

theorem E13 {u0 u1 u2 u3 u4 u5 u6 : Int} (h : ∀ EV, V13 EV Q → EZ G47 [] [] (fun x rs vs => (x = 0 ∧ ∃ y0_0, rs = [] ∧ vs = [.r y0_0] ∧ ((u1 ≥ 1 → (u1 ≥ (y0_0.length : Int) → Q 0 [] [.s (ByteArray.mk (Array.mk [])), .b false]) ∧ (u1 < (y0_0.length : Int) → (0 ≤ u1) ∧ (y0_0[u1.toNat]? = some [.str (cSS y0_0 u1.toNat 0)]) ∧ (EZ G48 [] [.i u0] (fun x rs vs => (x = 0 ∧ ∃ y3_0, rs = [] ∧ vs = [.s y3_0] ∧ (EV 14 [[[(AV.str y3_0)], [(AV.str (cSS y0_0 u1.toNat 0))]]] [.i u0, .i u1, .i u2, .i u3, .i u4, .i u5, .i u6])))))) ∧ (u1 < 1 → Q 0 [] [.s (ByteArray.mk (Array.mk [])), .b false]))))) : EZ G13 [] [.i u0, .i u1, .i u2, .i u3, .i u4, .i u5, .i u6] Q := by
 refine Inst.en (I := I13) (L := L13) F13_at fun A hA CE CK Dn EV RR W hp => ?_
 have h := h  EV (V13.of W)
 cbv
 refine W.cl h ?_
 rintro _ _ _ hp0 (⟨rfl, y0_0, rfl, rfl, k0⟩)
 cbv
 refine ⟨imI hA fun e1 => have j1 := k0.1 (cmpE (op := .lss) hA e1); ⟨imI hA fun e2 => have j2 := j1.1 (by subst hA; exact (cmpE (op := .geq) rfl e2)); (W.q j2), imI hA fun e2 => have j2 := j1.2 (by subst hA; exact (cmpE (op := .geq) rfl e2)); ⟨ndI hA (An j2.1 (hA ▸ j2.2.1)), ⟨?_, trivial⟩⟩⟩, imI hA fun e1 => have j1 := k0.2 (cmpE (op := .lss) hA e1); (W.q j1)⟩
 refine W.cd j2.2.2 ?_
 rintro _ _ _ hp3 (⟨rfl, y3_0, rfl, rfl, k3⟩)
 cbv
 refine W.draw 80 (by rfl) ?_
 cbv
 subst hA
 exact ⟨⟨(An rfl (An rfl rfl)), ⟨vpur, k3⟩⟩, trivial⟩

-- 89: signalbox/signalboxref20.digits
structure V89 (EV Q : EP) : Prop where
  p7 : ∀ {t0 : Int} {t3 : ByteArray}, ((t0 ≥ 10 → (∀ r ∈ (List.take 1 (List.drop 0 [[(AV.int .u8 (IntKind.wrap .u8 (IntKind.wrap .u64 (48 + (Int.tmod t0 10)))))]])), ∃ n : Int, r = [.int .u8 n]) ∧ (((ByteArray.size (bstrS (List.take 1 (List.drop 0 [[(AV.int .u8 (IntKind.wrap .u8 (IntKind.wrap .u64 (48 + (Int.tmod t0 10)))))]])))) + (ByteArray.size t3)) ≤ 9223372036854775807) ∧ (EV 7 [] [.i (IntKind.wrap .u64 (Int.tdiv t0 10)), .s ((bstrS (List.take 1 (List.drop 0 [[(AV.int .u8 (IntKind.wrap .u8 (IntKind.wrap .u64 (48 + (Int.tmod t0 10)))))]]))) ++ t3)])) ∧ (t0 < 10 → (∀ r ∈ (List.take 1 (List.drop 0 [[(AV.int .u8 (IntKind.wrap .u8 (IntKind.wrap .u64 (48 + t0))))]])), ∃ n : Int, r = [.int .u8 n]) ∧ (((ByteArray.size (bstrS (List.take 1 (List.drop 0 [[(AV.int .u8 (IntKind.wrap .u8 (IntKind.wrap .u64 (48 + t0))))]])))) + (ByteArray.size t3)) ≤ 9223372036854775807) ∧ (Q 0 [] [.s ((bstrS (List.take 1 (List.drop 0 [[(AV.int .u8 (IntKind.wrap .u8 (IntKind.wrap .u64 (48 + t0))))]]))) ++ t3)]))) → EV 7 [] [.i t0, .s t3]

theorem V89.of (W : Wk Tryd.prog Tryd.f89 I89 L89 Q A sg CE CK Dn EV RR) : V89 EV Q := by
 have hA := W.hA
 refine ⟨?_⟩
 intro t0 t3 h
 refine W.step 80 fun hp => ?_
 cbv
 subst hA
 exact ⟨fun e0 => have j0 := h.1 (cmpE (op := .geq) rfl e0); ⟨(show _ ≠ _ by decide), ⟨(An rfl (by show (0 + 1) ≤ 1; (first | rfl | simp [rappS_end] | (simp [rappS_end]; omega)))), ⟨j0.1, ⟨j0.2.1, ⟨(show _ ≠ _ by decide), j0.2.2⟩⟩⟩⟩⟩, fun e0 => have j0 := h.2 (cmpE (op := .geq) rfl e0); ⟨(An rfl (by show (0 + 1) ≤ 1; (first | rfl | simp [rappS_end] | (simp [rappS_end]; omega)))), ⟨j0.1, ⟨j0.2.1, (W.q j0.2.2)⟩⟩⟩⟩

theorem E89 {a0 : Int} (h : ∀ EV, V89 EV Q → EV 7 [] [.i a0, .s (ByteArray.mk (Array.mk []))]) : EZ G89 [] [.i a0] Q := by
 refine Inst.en (I := I89) (L := L89) F89_at fun A hA CE CK Dn EV RR W hp => ?_
 have h := h  EV (V89.of W)
 cbv
 subst hA
 exact h

-- 50: signalbox/signalboxref20.Number
structure V50 (EV Q : EP) : Prop where
  none : True

theorem E50 {a0 : Int} (h : ∀ EV, V50 EV Q → (a0 < 0 → EZ G89 [] [.i (IntKind.wrap .u64 ((IntKind.wrap .u64 (arS.neg .i64 (IntKind.wrap .i64 (a0 + 1)))) + 1))] (fun x rs vs => (x = 0 ∧ ∃ y1_0, rs = [] ∧ vs = [.s y1_0] ∧ ((((ByteArray.size (ByteArray.mk (Array.mk [45]))) + (ByteArray.size y1_0)) ≤ 9223372036854775807) ∧ (Q 0 [] [.s ((ByteArray.mk (Array.mk [45])) ++ y1_0)]))))) ∧ (a0 ≥ 0 → EZ G89 [] [.i (IntKind.wrap .u64 a0)] (fun x rs vs => (x = 0 ∧ ∃ y1_0, rs = [] ∧ vs = [.s y1_0] ∧ (Q 0 [] [.s y1_0]))))) : EZ G50 [] [.i a0] Q := by
 refine Inst.en (I := I50) (L := L50) F50_at fun A hA CE CK Dn EV RR W hp => ?_
 have h := h  EV ⟨trivial⟩
 cbv
 refine ⟨imI hA fun e0 => have j0 := h.1 (cmpE (op := .lss) hA e0); ?_, imI hA fun e0 => have j0 := h.2 (cmpE (op := .lss) hA e0); ?_⟩
 ·refine W.cl j0 ?_
  rintro _ _ _ hp1 (⟨rfl, y1_0, rfl, rfl, k1⟩)
  cbv
  subst hA
  exact ⟨k1.1, (W.q k1.2)⟩
 ·refine W.cl j0 ?_
  rintro _ _ _ hp1 (⟨rfl, y1_0, rfl, rfl, k1⟩)
  cbv
  subst hA
  exact (W.q k1)

-- 51: signalbox/signalboxref20.Names
structure V51 (EV Q : EP) : Prop where
  none : True

theorem E51  (h : ∀ EV, V51 EV Q → Q 0 [] [.r [[(AV.str (ByteArray.mk (Array.mk [])))], [(AV.str (ByteArray.mk (Array.mk [114, 101, 108, 101, 97, 115, 101])))], [(AV.str (ByteArray.mk (Array.mk [108, 111, 115, 116])))], [(AV.str (ByteArray.mk (Array.mk [115, 116, 97, 114, 116])))], [(AV.str (ByteArray.mk (Array.mk [100, 105, 115, 112, 108, 97, 99, 101])))], [(AV.str (ByteArray.mk (Array.mk [114, 101, 115, 117, 109, 101])))], [(AV.str (ByteArray.mk (Array.mk [100, 111, 110, 101])))], [(AV.str (ByteArray.mk (Array.mk [102, 97, 117, 108, 116])))], [(AV.str (ByteArray.mk (Array.mk [99, 97, 108, 108])))]]]) : EZ G51 [] [] Q := by
 refine Inst.en (I := I51) (L := L51) F51_at fun A hA CE CK Dn EV RR W hp => ?_
 have h := h  EV ⟨trivial⟩
 cbv
 subst hA
 exact (W.q h)

-- 14: signalbox/signalboxref20.Line DRAWN
structure V14 (EV Q : EP) : Prop where
  p12 : ∀ {t4 : ByteArray} {b0 b1 b2 b3 b4 b5 b6 : Int}, (EV 17 [] [.s t4, .r [[(AV.int .i64 b2)], [(AV.int .i64 b3)], [(AV.int .i64 b4)], [(AV.int .i64 b5)], [(AV.int .i64 b6)]], .i 5, .i 0]) → EV 12 [] [.s t4, .i b0, .i b1, .i b2, .i b3, .i b4, .i b5, .i b6]
  p17 : ∀ {t4 : ByteArray} {t35 : RW} {t36 t37 : Int}, ((t37 < t36 → (0 ≤ t37) ∧ (t35[t37.toNat]? = some [.int .i64 (cIS t35 t37.toNat 0)]) ∧ (((ByteArray.size t4) + (ByteArray.size (ByteArray.mk (Array.mk [32])))) ≤ 9223372036854775807) ∧ (EZ G50 [] [.i (cIS t35 t37.toNat 0)] (fun x rs vs => (x = 0 ∧ ∃ y1_0, rs = [] ∧ vs = [.s y1_0] ∧ ((((ByteArray.size (t4 ++ (ByteArray.mk (Array.mk [32])))) + (ByteArray.size y1_0)) ≤ 9223372036854775807) ∧ (EV 17 [] [.s ((t4 ++ (ByteArray.mk (Array.mk [32]))) ++ y1_0), .r t35, .i t36, .i (IntKind.wrap .i64 (t37 + 1))])))))) ∧ (t37 ≥ t36 → Q 0 [] [.s t4, .b true])) → EV 17 [] [.s t4, .r t35, .i t36, .i t37]

theorem V14.of (W : Wk Tryd.prog Tryd.f14 I14 L14 Q A sg CE CK Dn EV RR) : V14 EV Q := by
 have hA := W.hA
 refine ⟨?_, ?_⟩
 ·intro t4 b0 b1 b2 b3 b4 b5 b6 h
  refine W.step 80 fun hp => ?_
  cbv
  subst hA
  exact h
 ·intro t4 t35 t36 t37 h
  refine W.step 80 fun hp => ?_
  cbv
  refine ⟨imI hA fun e0 => have j0 := h.1 (cmpE (op := .lss) hA e0); ⟨ndI hA (An j0.1 (hA ▸ j0.2.1)), ⟨ndI hA (hA ▸ j0.2.2.1), ?_⟩⟩, imI hA fun e0 => have j0 := h.2 (cmpE (op := .lss) hA e0); (W.q j0)⟩
  refine W.cl j0.2.2.2 ?_
  rintro _ _ _ hp1 (⟨rfl, y1_0, rfl, rfl, k1⟩)
  cbv
  subst hA
  exact ⟨k1.1, k1.2⟩

theorem E14 {u0 u1 u2 u3 u4 u5 u6 : Int} (h : ∀ EV, V14 EV Q → (u1 ≥ 1 → (u1 > 8 → Q 0 [] [.s (ByteArray.mk (Array.mk [])), .b false]) ∧ (u1 ≤ 8 → EZ G50 [] [.i u0] (fun x rs vs => (x = 0 ∧ ∃ y2_0, rs = [] ∧ vs = [.s y2_0] ∧ ((((ByteArray.size y2_0) + (ByteArray.size (ByteArray.mk (Array.mk [32])))) ≤ 9223372036854775807) ∧ (EZ G51 [] [] (fun x rs vs => (x = 0 ∧ ∃ y3_0, rs = [] ∧ vs = [.r y3_0] ∧ ((0 ≤ u1) ∧ (y3_0[u1.toNat]? = some [.str (cSS y3_0 u1.toNat 0)]) ∧ (((ByteArray.size (y2_0 ++ (ByteArray.mk (Array.mk [32])))) + (ByteArray.size (cSS y3_0 u1.toNat 0))) ≤ 9223372036854775807) ∧ (EV 12 [] [.s ((y2_0 ++ (ByteArray.mk (Array.mk [32]))) ++ (cSS y3_0 u1.toNat 0)), .i u0, .i u1, .i u2, .i u3, .i u4, .i u5, .i u6])))))))))) ∧ (u1 < 1 → Q 0 [] [.s (ByteArray.mk (Array.mk [])), .b false])) : EZ G14 [] [.i u0, .i u1, .i u2, .i u3, .i u4, .i u5, .i u6] Q := by
 refine Inst.en (I := I14) (L := L14) F14_at fun A hA CE CK Dn EV RR W hp => ?_
 have h := h  EV (V14.of W)
 cbv
 refine ⟨imI hA fun e0 => have j0 := h.1 (cmpE (op := .lss) hA e0); ⟨imI hA fun e1 => have j1 := j0.1 (cmpE (op := .gtr) hA e1); (W.q j1), imI hA fun e1 => have j1 := j0.2 (cmpE (op := .gtr) hA e1); ⟨?_, trivial⟩⟩, imI hA fun e0 => have j0 := h.2 (cmpE (op := .lss) hA e0); (W.q j0)⟩
 refine W.cd j1 ?_
 rintro _ _ _ hp2 (⟨rfl, y2_0, rfl, rfl, k2⟩)
 cbv
 refine W.draw 80 (by rfl) ?_
 cbv
 refine ⟨ndI hA (hA ▸ k2.1), ⟨?_, trivial⟩⟩
 refine W.cd k2.2 ?_
 rintro _ _ _ hp3 (⟨rfl, y3_0, rfl, rfl, k3⟩)
 cbv
 refine W.draw 80 (by rfl) ?_
 cbv
 subst hA
 exact ⟨(An k3.1 k3.2.1), ⟨k3.2.2.1, k3.2.2.2⟩⟩

-- 53: slices.Index[[]string,string]
structure V53 (EV Q : EP) : Prop where
  p7 : ∀ {t0 : RW} {t1 : ByteArray} {t7 t8 : Int}, ((t8 < t7 → (0 ≤ t8) ∧ (t0[t8.toNat]? = some [.str (cSS t0 t8.toNat 0)]) ∧ ((sopS .eql t1 (cSS t0 t8.toNat 0)) = true → Q 0 [] [.i t8]) ∧ ((sopS .eql t1 (cSS t0 t8.toNat 0)) = false → EV 7 [] [.r t0, .s t1, .i t7, .i (IntKind.wrap .i64 (t8 + 1))])) ∧ (t8 ≥ t7 → Q 0 [] [.i (-1)])) → EV 7 [] [.r t0, .s t1, .i t7, .i t8]

theorem V53.of (W : Wk Tryd.prog Tryd.f53 I53 L53 Q A sg CE CK Dn EV RR) : V53 EV Q := by
 have hA := W.hA
 refine ⟨?_⟩
 intro t0 t1 t7 t8 h
 refine W.step 80 fun hp => ?_
 cbv
 subst hA
 exact ⟨fun e0 => have j0 := h.1 (cmpE (op := .lss) rfl e0); ⟨(An j0.1 j0.2.1), ⟨fun e1 => have j1 := j0.2.2.1 e1; (W.q j1), fun e1 => have j1 := j0.2.2.2 e1; j1⟩⟩, fun e0 => have j0 := h.2 (cmpE (op := .lss) rfl e0); (W.q j0)⟩

theorem E53 {a0 : RW} {a1 : ByteArray} (h : ∀ EV, V53 EV Q → EV 7 [] [.r a0, .s a1, .i (a0.length : Int), .i 0]) : EZ G53 [] [.r a0, .s a1] Q := by
 refine Inst.en (I := I53) (L := L53) F53_at fun A hA CE CK Dn EV RR W hp => ?_
 have h := h  EV (V53.of W)
 cbv
 subst hA
 exact h

-- 55: signalbox/trace.number
structure V55 (EV Q : EP) : Prop where
  none : True

theorem E55 {a0 : ByteArray} (h : ∀ EV, V55 EV Q → EZ G91 [] [.s a0] (fun x rs vs => (x = 0 ∧ ∃ y0_0, rs = [] ∧ vs = [.i y0_0] ∧ (EZ G48 [] [.i y0_0] (fun x rs vs => (x = 0 ∧ ∃ y1_0, rs = [] ∧ vs = [.s y1_0] ∧ (Q 0 [] [.i y0_0, .b (sopS .eql y1_0 a0)]))))))) : EZ G55 [] [.s a0] Q := by
 refine Inst.en (I := I55) (L := L55) F55_at fun A hA CE CK Dn EV RR W hp => ?_
 have h := h  EV ⟨trivial⟩
 cbv
 refine W.cl h ?_
 rintro _ _ _ hp0 (⟨rfl, y0_0, rfl, rfl, k0⟩)
 cbv
 refine W.cl k0 ?_
 rintro _ _ _ hp1 (⟨rfl, y1_0, rfl, rfl, k1⟩)
 cbv
 subst hA
 exact (W.q k1)

-- 15: signalbox/trace.Parse DRAWN
structure V15 (EV Q : EP) : Prop where
  p14 : ∀ {R0 : RW} {t5 b0 b1 b2 b3 b4 b5 b6 : Int}, (pursS R0 = true → (t5 < 1 → Q 0 [] [.i 0, .i 0, .i 0, .i 0, .i 0, .i 0, .i 0, .b false]) ∧ (t5 ≥ 1 → EZ G54 [R0] [.i 1, .i 2] (fun x rs vs => (x = 0 ∧ ∃ Y1_0 y1_0, rs = [Y1_0] ∧ vs = [.n y1_0] ∧ (EV 29 [[], Y1_0] [.i t5, .n y1_0, .i (y1_0 : Int), .i 0, .i b0, .i b1, .i b2, .i b3, .i b4, .i b5, .i b6]))))) → EV 14 [R0] [.i t5, .i b0, .i b1, .i b2, .i b3, .i b4, .i b5, .i b6]
  p29 : ∀ {R0 R1 : RW} {t5 : Int} {t26 : Nat} {t27 t28 b0 b1 b2 b3 b4 b5 b6 : Int}, (pursS R0 = true → pursS R1 = true → (t28 < t27 → (0 ≤ t28) ∧ (t28 < (t26 : Int)) ∧ (R1[t28.toNat]? = some [.str (cSS R1 t28.toNat 0)]) ∧ (EZ G55 [] [.s (cSS R1 t28.toNat 0)] (fun x rs vs => (x = 0 ∧ ∃ y1_0 y1_1, rs = [] ∧ vs = [.i y1_0, .b y1_1] ∧ ((y1_1 = false → Q 0 [] [.i 0, .i 0, .i 0, .i 0, .i 0, .i 0, .i 0, .b false]) ∧ (y1_1 = true → ((R0.length + (List.length (List.take 1 (List.drop 0 [[(AV.int .i64 y1_0)]])))) ≤ 140737488355328) ∧ (((R0.length + (List.length (List.take 1 (List.drop 0 [[(AV.int .i64 y1_0)]])))) * 8) ≤ 140737488355328) ∧ (EV 29 [(R0 ++ (List.take 1 (List.drop 0 [[(AV.int .i64 y1_0)]]))), R1] [.i t5, .n t26, .i t27, .i (IntKind.wrap .i64 (t28 + 1)), .i b0, .i b1, .i b2, .i b3, .i b4, .i b5, .i b6]))))))) ∧ (t28 ≥ t27 → (0 < (R0.length : Int)) ∧ (R0[(Int.toNat 0)]? = some [.int .i64 (cIS R0 (Int.toNat 0) 0)]) ∧ ((0 : Int) ≤ 1) ∧ (1 < (R0.length : Int)) ∧ (R0[(Int.toNat 1)]? = some [.int .i64 (cIS R0 (Int.toNat 1) 0)]) ∧ ((0 : Int) ≤ 2) ∧ (2 < (R0.length : Int)) ∧ (R0[(Int.toNat 2)]? = some [.int .i64 (cIS R0 (Int.toNat 2) 0)]) ∧ ((0 : Int) ≤ 3) ∧ (3 < (R0.length : Int)) ∧ (R0[(Int.toNat 3)]? = some [.int .i64 (cIS R0 (Int.toNat 3) 0)]) ∧ ((0 : Int) ≤ 4) ∧ (4 < (R0.length : Int)) ∧ (R0[(Int.toNat 4)]? = some [.int .i64 (cIS R0 (Int.toNat 4) 0)]) ∧ ((0 : Int) ≤ 5) ∧ (5 < (R0.length : Int)) ∧ (R0[(Int.toNat 5)]? = some [.int .i64 (cIS R0 (Int.toNat 5) 0)]) ∧ (Q 0 [] [.i (cIS R0 (Int.toNat 0) 0), .i t5, .i (cIS R0 (Int.toNat 1) 0), .i (cIS R0 (Int.toNat 2) 0), .i (cIS R0 (Int.toNat 3) 0), .i (cIS R0 (Int.toNat 4) 0), .i (cIS R0 (Int.toNat 5) 0), .b true]))) → EV 29 [R0, R1] [.i t5, .n t26, .i t27, .i t28, .i b0, .i b1, .i b2, .i b3, .i b4, .i b5, .i b6]

theorem V15.of (W : Wk Tryd.prog Tryd.f15 I15 L15 Q A sg CE CK Dn EV RR) : V15 EV Q := by
 have hA := W.hA
 refine ⟨?_, ?_⟩
 ·intro R0 t5 b0 b1 b2 b3 b4 b5 b6 h
  refine W.step 80 fun hp => ?_
  have h := h hp.1
  cbv
  refine ⟨imI hA fun e0 => have j0 := h.1 (cmpE (op := .lss) hA e0); (W.q j0), imI hA fun e0 => have j0 := h.2 (cmpE (op := .lss) hA e0); ⟨ndI hA (An rfl (An rfl rfl)), ⟨ndI hA hp.1, ?_⟩⟩⟩
  refine W.cl j0 ?_
  rintro _ _ _ hp1 (⟨rfl, Y1_0, y1_0, rfl, rfl, k1⟩)
  cbv
  subst hA
  exact ⟨rfl, ⟨(An rfl (An rfl rfl)), ⟨(An rfl rfl), ⟨vpur, ⟨hp1.1, k1⟩⟩⟩⟩⟩
 ·intro R0 R1 t5 t26 t27 t28 b0 b1 b2 b3 b4 b5 b6 h
  refine W.step 80 fun hp => ?_
  have h := h hp.1 hp.2.1
  cbv
  refine ⟨imI hA fun e0 => have j0 := h.1 (cmpE (op := .lss) hA e0); ⟨ndI hA (An j0.1 (An (hA ▸ j0.2.1) rfl)), ⟨ndI hA (An rfl (hA ▸ j0.2.2.1)), ?_⟩⟩, imI hA fun e0 => have j0 := h.2 (cmpE (op := .lss) hA e0); ⟨ndI hA (An (Int.le_refl _) (An (hA ▸ j0.1) rfl)), ⟨ndI hA (An rfl (hA ▸ j0.2.1)), ⟨ndI hA (An j0.2.2.1 (An (hA ▸ j0.2.2.2.1) rfl)), ⟨ndI hA (An rfl (hA ▸ j0.2.2.2.2.1)), ⟨ndI hA (An j0.2.2.2.2.2.1 (An (hA ▸ j0.2.2.2.2.2.2.1) rfl)), ⟨ndI hA (An rfl (hA ▸ j0.2.2.2.2.2.2.2.1)), ⟨ndI hA (An j0.2.2.2.2.2.2.2.2.1 (An (hA ▸ j0.2.2.2.2.2.2.2.2.2.1) rfl)), ⟨ndI hA (An rfl (hA ▸ j0.2.2.2.2.2.2.2.2.2.2.1)), ⟨ndI hA (An j0.2.2.2.2.2.2.2.2.2.2.2.1 (An (hA ▸ j0.2.2.2.2.2.2.2.2.2.2.2.2.1) rfl)), ⟨ndI hA (An rfl (hA ▸ j0.2.2.2.2.2.2.2.2.2.2.2.2.2.1)), ⟨ndI hA (An j0.2.2.2.2.2.2.2.2.2.2.2.2.2.2.1 (An (hA ▸ j0.2.2.2.2.2.2.2.2.2.2.2.2.2.2.2.1) rfl)), ⟨ndI hA (An rfl (hA ▸ j0.2.2.2.2.2.2.2.2.2.2.2.2.2.2.2.2.1)), ⟨(W.q (hA ▸ j0.2.2.2.2.2.2.2.2.2.2.2.2.2.2.2.2.2)), trivial⟩⟩⟩⟩⟩⟩⟩⟩⟩⟩⟩⟩⟩⟩
  refine W.cl j0.2.2.2 ?_
  rintro _ _ _ hp1 (⟨rfl, y1_0, y1_1, rfl, rfl, k1⟩)
  cbv
  subst hA
  exact ⟨fun e2 => have j2 := k1.1 ((notE rfl e2)); (W.q j2), fun e2 => have j2 := k1.2 ((notE rfl e2)); ⟨(An rfl (by show (0 + 1) ≤ 1; (first | rfl | simp [rappS_end] | (simp [rappS_end]; omega)))), ⟨(An rfl (An (Nat.le_refl _) (An j2.1 j2.2.1))), ⟨(An rfl (An rfl (by show (R0.length + (List.length (List.take 1 (List.drop 0 [[(AV.int .i64 y1_0)]])))) = (List.length (rappS R0 R0.length (List.take 1 (List.drop 0 [[(AV.int .i64 y1_0)]])))); (first | rfl | simp [rappS_end] | (simp [rappS_end]; omega))))), ⟨(An rfl rfl), ⟨((vapp hp.1 (vtake (vdrop vpur)))), ⟨hp.2.1, (by show EV 29 [(rappS R0 R0.length (List.take 1 (List.drop 0 [[(AV.int .i64 y1_0)]]))), R1] [.i t5, .n t26, .i t27, .i (IntKind.wrap .i64 (t28 + 1)), .i b0, .i b1, .i b2, .i b3, .i b4, .i b5, .i b6]; (try simp only [rappS_end, Nat.zero_add, Int.toNat_natCast]); exact j2.2.2)⟩⟩⟩⟩⟩⟩⟩

theorem E15 {a0 : ByteArray} (h : ∀ EV, V15 EV Q → EZ G52 [] [.s a0, .s (ByteArray.mk (Array.mk [32]))] (fun x rs vs => (x = 0 ∧ ∃ Y0_0, rs = [Y0_0] ∧ vs = [] ∧ (((Y0_0.length : Int) ≠ 7 → Q 0 [] [.i 0, .i 0, .i 0, .i 0, .i 0, .i 0, .i 0, .b false]) ∧ ((Y0_0.length : Int) = 7 → ((0 : Int) ≤ 1) ∧ (1 < (Y0_0.length : Int)) ∧ (Y0_0[(Int.toNat 1)]? = some [.str (cSS Y0_0 (Int.toNat 1) 0)]) ∧ (EZ G47 [] [] (fun x rs vs => (x = 0 ∧ ∃ y2_0, rs = [] ∧ vs = [.r y2_0] ∧ (EZ G53 [] [.r y2_0, .s (cSS Y0_0 (Int.toNat 1) 0)] (fun x rs vs => (x = 0 ∧ ∃ y3_0, rs = [] ∧ vs = [.i y3_0] ∧ (EV 14 [Y0_0] [.i y3_0, .i 0, .i 0, .i 0, .i 0, .i 0, .i 0, .i 0])))))))))))) : EZ G15 [] [.s a0] Q := by
 refine Inst.en (I := I15) (L := L15) F15_at fun A hA CE CK Dn EV RR W hp => ?_
 have h := h  EV (V15.of W)
 cbv
 refine W.cl h ?_
 rintro _ _ _ hp0 (⟨rfl, Y0_0, rfl, rfl, k0⟩)
 cbv
 refine ⟨ndI hA rfl, ⟨imI hA fun e1 => have j1 := k0.1 (by subst hA; exact (cmpE (op := .neq) rfl e1)); (W.q j1), imI hA fun e1 => have j1 := k0.2 (by subst hA; exact (cmpE (op := .neq) rfl e1)); ⟨ndI hA (An j1.1 (An (hA ▸ j1.2.1) rfl)), ⟨ndI hA (An rfl (hA ▸ j1.2.2.1)), ⟨?_, trivial⟩⟩⟩⟩⟩
 refine W.cd j1.2.2.2 ?_
 rintro _ _ _ hp2 (⟨rfl, y2_0, rfl, rfl, k2⟩)
 cbv
 refine W.draw 80 (by rfl) ?_
 cbv
 refine ⟨?_, trivial⟩
 refine W.cd k2 ?_
 rintro _ _ _ hp3 (⟨rfl, y3_0, rfl, rfl, k3⟩)
 cbv
 refine W.draw 80 (by rfl) ?_
 cbv
 subst hA
 exact ⟨(An rfl (An rfl rfl)), ⟨hp0.1, k3⟩⟩

-- 3: signalbox/signalboxlaw20.TraceLines
structure V3 (EV Q : EP) : Prop where
  none : True

theorem E3 {u0 u1 u2 u3 u4 u5 u6 : Int} (h : ∀ EV, V3 EV Q → EZ G12 [] [] (fun x rs vs => (x = 0 ∧ ∃ y0_0, rs = [] ∧ vs = [.b y0_0] ∧ ((y0_0 = false → Q 0 [] [.b false]) ∧ (y0_0 = true → EZ G13 [] [.i u0, .i u1, .i u2, .i u3, .i u4, .i u5, .i u6] (fun x rs vs => (x = 0 ∧ ∃ y2_0 y2_1, rs = [] ∧ vs = [.s y2_0, .b y2_1] ∧ (EZ G14 [] [.i u0, .i u1, .i u2, .i u3, .i u4, .i u5, .i u6] (fun x rs vs => (x = 0 ∧ ∃ y3_0 y3_1, rs = [] ∧ vs = [.s y3_0, .b y3_1] ∧ (EZ G15 [] [.s y2_0] (fun x rs vs => (x = 0 ∧ ∃ y4a0 y4a1 y4a2 y4a3 y4a4 y4a5 y4a6 y4_1, rs = [] ∧ vs = [.i y4a0, .i y4a1, .i y4a2, .i y4a3, .i y4a4, .i y4a5, .i y4a6, .b y4_1] ∧ (((sopS .eql y2_0 y3_0) = true → ((y2_1 == y3_1) = true → ((y4_1 == y2_1) = true → (y2_1 = true → Q 0 [] [.b ((y4a0 == u0) && ((y4a1 == u1) && ((y4a2 == u2) && ((y4a3 == u3) && ((y4a4 == u4) && ((y4a5 == u5) && ((y4a6 == u6) && true)))))))]) ∧ (y2_1 = false → Q 0 [] [.b true])) ∧ ((y4_1 == y2_1) = false → Q 0 [] [.b false])) ∧ ((y2_1 == y3_1) = false → Q 0 [] [.b false])) ∧ ((sopS .eql y2_0 y3_0) = false → Q 0 [] [.b false]))))))))))))))) : EZ G3 [] [.i u0, .i u1, .i u2, .i u3, .i u4, .i u5, .i u6] Q := by
 refine Inst.en (I := I3) (L := L3) F3_at fun A hA CE CK Dn EV RR W hp => ?_
 have h := h  EV ⟨trivial⟩
 cbv
 refine W.cl h ?_
 rintro _ _ _ hp0 (⟨rfl, y0_0, rfl, rfl, k0⟩)
 cbv
 refine ⟨imI hA fun e1 => have j1 := k0.1 (by subst hA; exact (notE rfl e1)); (W.q j1), imI hA fun e1 => have j1 := k0.2 (by subst hA; exact (notE rfl e1)); ?_⟩
 refine W.cl j1 ?_
 rintro _ _ _ hp2 (⟨rfl, y2_0, y2_1, rfl, rfl, k2⟩)
 cbv
 refine W.cl k2 ?_
 rintro _ _ _ hp3 (⟨rfl, y3_0, y3_1, rfl, rfl, k3⟩)
 cbv
 refine W.cl k3 ?_
 rintro _ _ _ hp4 (⟨rfl, y4a0, y4a1, y4a2, y4a3, y4a4, y4a5, y4a6, y4_1, rfl, rfl, k4⟩)
 cbv
 subst hA
 exact ⟨fun e5 => have j5 := k4.1 e5; ⟨fun e6 => have j6 := j5.1 e6; ⟨fun e7 => have j7 := j6.1 e7; ⟨fun e8 => have j8 := j7.1 ((notE rfl e8)); (W.q j8), fun e8 => have j8 := j7.2 ((notE rfl e8)); (W.q j8)⟩, fun e7 => have j7 := j6.2 e7; (W.q j7)⟩, fun e6 => have j6 := j5.2 e6; (W.q j6)⟩, fun e5 => have j5 := k4.2 e5; (W.q j5)⟩

end Go.Ab
