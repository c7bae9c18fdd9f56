import Derived.Test.YtmmoffbompnihaaDoorQSC
import Derived.Test.YtmmoffbompnihaaDoorLayG
/- PRINTED BY A PROGRAM (wip/tools/vc.py, AbVc.lean): what is to be shown of each function, from place to place, and that it is enough. -/
namespace Go.Ab
open Go Go.Proofs
set_option linter.unusedVariables false
set_option linter.unusedSimpArgs false
set_option maxRecDepth 100000
set_option maxHeartbeats 0
variable {Q EV RR : EP} {A : Ar} {CE : Nat → Rs → List Lf → EP → Prop} {CK : Nat → Rs → List Lf → Cont → Prop} {Dn : Nat → List Bool → List AItem → Nat → List Bool → List AV → List ABlk → Prop}

-- 62: signalbox/script.names
structure V62 (EV Q : EP) : Prop where
  none : True

theorem E62  (h : ∀ EV, V62 EV Q → Q 0 [] [.r [[(AV.str (ByteArray.mk (Array.mk [])))], [(AV.str (ByteArray.mk (Array.mk [114, 101, 108, 101, 97, 115, 101])))], [(AV.str (ByteArray.mk (Array.mk [114, 97, 105, 115, 101])))], [(AV.str (ByteArray.mk (Array.mk [109, 97, 115, 107])))], [(AV.str (ByteArray.mk (Array.mk [117, 110, 109, 97, 115, 107])))], [(AV.str (ByteArray.mk (Array.mk [116, 105, 109, 101, 114])))]]]) : EZ G62 [] [] Q := by
 refine Inst.en (I := I62) (L := L62) F62_at fun A hA CE CK Dn EV RR W hp => ?_
 have h := h  EV ⟨trivial⟩
 cbv
 subst hA
 exact (W.q h)

-- 95: signalbox/script.small$1
structure V95 (EV Q : EP) : Prop where
  none : True

theorem E95 {a0 : Int} (h : ∀ EV, V95 EV Q → (a0 ≥ 0 → Q 0 [] [.b (decide (a0 > 999999999))]) ∧ (a0 < 0 → Q 0 [] [.b true])) : EZ G95 [] [.i a0] Q := by
 refine Inst.en (I := I95) (L := L95) F95_at fun A hA CE CK Dn EV RR W hp => ?_
 have h := h  EV ⟨trivial⟩
 cbv
 subst hA
 exact ⟨fun e0 => have j0 := h.1 (cmpE (op := .lss) rfl e0); (W.q j0), fun e0 => have j0 := h.2 (cmpE (op := .lss) rfl e0); (W.q j0)⟩

-- 120: slices.IndexFunc[[]int,int]
structure V120 (EV Q : EP) : Prop where
  p7 : ∀ {t0 : RW} {t7 t8 : Int}, ((t8 < t7 → (0 ≤ t8) ∧ (t0[t8.toNat]? = some [.int .i64 (cIS t0 t8.toNat 0)]) ∧ (EZ G95 [] [.i (cIS t0 t8.toNat 0)] (fun x rs vs => (x = 0 ∧ ∃ y1_0, rs = [] ∧ vs = [.b y1_0] ∧ ((y1_0 = true → Q 0 [] [.i t8]) ∧ (y1_0 = false → EV 7 [] [.r t0, .i t7, .i (IntKind.wrap .i64 (t8 + 1))])))))) ∧ (t8 ≥ t7 → Q 0 [] [.i (-1)])) → EV 7 [] [.r t0, .i t7, .i t8]

theorem V120.of (W : Wk Tryd.prog Tryd.f120 I120 L120 Q A sg CE CK Dn EV RR) : V120 EV Q := by
 have hA := W.hA
 refine ⟨?_⟩
 intro t0 t7 t8 h
 refine W.step 80 fun hp => ?_
 cbv
 refine ⟨imI hA fun e0 => have j0 := h.1 (cmpE (op := .lss) hA e0); ⟨ndI hA (An j0.1 (hA ▸ j0.2.1)), ?_⟩, imI hA fun e0 => have j0 := h.2 (cmpE (op := .lss) hA e0); (W.q j0)⟩
 refine W.cl j0.2.2 ?_
 rintro _ _ _ hp1 (⟨rfl, y1_0, rfl, rfl, k1⟩)
 cbv
 subst hA
 exact ⟨fun e2 => have j2 := k1.1 e2; (W.q j2), fun e2 => have j2 := k1.2 e2; j2⟩

theorem E120 {a0 : RW} (h : ∀ EV, V120 EV Q → EV 7 [] [.r a0, .i (a0.length : Int), .i 0]) : EZ G120 [] [.r a0] Q := by
 refine Inst.en (I := I120) (L := L120) F120_at fun A hA CE CK Dn EV RR W hp => ?_
 have h := h  EV (V120.of W)
 cbv
 subst hA
 exact h

-- 94: slices.ContainsFunc[[]int,int]
structure V94 (EV Q : EP) : Prop where
  none : True

theorem E94 {a0 : RW} (h : ∀ EV, V94 EV Q → EZ G120 [] [.r a0] (fun x rs vs => (x = 0 ∧ ∃ y0_0, rs = [] ∧ vs = [.i y0_0] ∧ (Q 0 [] [.b (decide (y0_0 ≥ 0))])))) : EZ G94 [] [.r a0] Q := by
 refine Inst.en (I := I94) (L := L94) F94_at fun A hA CE CK Dn EV RR W hp => ?_
 have h := h  EV ⟨trivial⟩
 cbv
 refine W.cl h ?_
 rintro _ _ _ hp0 (⟨rfl, y0_0, rfl, rfl, k0⟩)
 cbv
 subst hA
 exact (W.q k0)

-- 63: signalbox/script.small
structure V63 (EV Q : EP) : Prop where
  none : True

theorem E63 {a0 : RW} (h : ∀ EV, V63 EV Q → EZ G94 [] [.r a0] (fun x rs vs => (x = 0 ∧ ∃ y0_0, rs = [] ∧ vs = [.b y0_0] ∧ (Q 0 [] [.b (!y0_0)])))) : EZ G63 [] [.r a0] Q := by
 refine Inst.en (I := I63) (L := L63) F63_at fun A hA CE CK Dn EV RR W hp => ?_
 have h := h  EV ⟨trivial⟩
 cbv
 refine W.cl h ?_
 rintro _ _ _ hp0 (⟨rfl, y0_0, rfl, rfl, k0⟩)
 cbv
 subst hA
 exact (W.q k0)

-- 64: signalbox/script.words
structure V64 (EV Q : EP) : Prop where
  none : True

theorem E64 {a0 : Int} (h : ∀ EV, V64 EV Q → (a0 = 5 → Q 0 [] [.i 5]) ∧ (a0 ≠ 5 → Q 0 [] [.i 3])) : EZ G64 [] [.i a0] Q := by
 refine Inst.en (I := I64) (L := L64) F64_at fun A hA CE CK Dn EV RR W hp => ?_
 have h := h  EV ⟨trivial⟩
 cbv
 subst hA
 exact ⟨fun e0 => have j0 := h.1 (cmpE (op := .eql) rfl e0); (W.q j0), fun e0 => have j0 := h.2 (cmpE (op := .eql) rfl e0); (W.q j0)⟩

-- 66: signalbox/script.Line$1
structure V66 (EV Q : EP) : Prop where
  none : True

theorem E66 {a0 : ByteArray} (h : ∀ EV, V66 EV Q → Q 0 [] [.b (sopS .neq a0 (ByteArray.mk (Array.mk [48])))]) : EZ G66 [] [.s a0] Q := by
 refine Inst.en (I := I66) (L := L66) F66_at fun A hA CE CK Dn EV RR W hp => ?_
 have h := h  EV ⟨trivial⟩
 cbv
 subst hA
 exact (W.q h)

-- 96: slices.IndexFunc[[]string,string]
structure V96 (EV Q : EP) : Prop where
  p7 : ∀ {t0 : RW} {t7 t8 : Int}, ((t8 < t7 → (0 ≤ t8) ∧ (t0[t8.toNat]? = some [.str (cSS t0 t8.toNat 0)]) ∧ (EZ G66 [] [.s (cSS t0 t8.toNat 0)] (fun x rs vs => (x = 0 ∧ ∃ y1_0, rs = [] ∧ vs = [.b y1_0] ∧ ((y1_0 = true → Q 0 [] [.i t8]) ∧ (y1_0 = false → EV 7 [] [.r t0, .i t7, .i (IntKind.wrap .i64 (t8 + 1))])))))) ∧ (t8 ≥ t7 → Q 0 [] [.i (-1)])) → EV 7 [] [.r t0, .i t7, .i t8]

theorem V96.of (W : Wk Tryd.prog Tryd.f96 I96 L96 Q A sg CE CK Dn EV RR) : V96 EV Q := by
 have hA := W.hA
 refine ⟨?_⟩
 intro t0 t7 t8 h
 refine W.step 80 fun hp => ?_
 cbv
 refine ⟨imI hA fun e0 => have j0 := h.1 (cmpE (op := .lss) hA e0); ⟨ndI hA (An j0.1 (hA ▸ j0.2.1)), ?_⟩, imI hA fun e0 => have j0 := h.2 (cmpE (op := .lss) hA e0); (W.q j0)⟩
 refine W.cl j0.2.2 ?_
 rintro _ _ _ hp1 (⟨rfl, y1_0, rfl, rfl, k1⟩)
 cbv
 subst hA
 exact ⟨fun e2 => have j2 := k1.1 e2; (W.q j2), fun e2 => have j2 := k1.2 e2; j2⟩

theorem E96 {a0 : RW} (h : ∀ EV, V96 EV Q → EV 7 [] [.r a0, .i (a0.length : Int), .i 0]) : EZ G96 [] [.r a0] Q := by
 refine Inst.en (I := I96) (L := L96) F96_at fun A hA CE CK Dn EV RR W hp => ?_
 have h := h  EV (V96.of W)
 cbv
 subst hA
 exact h

-- 65: slices.ContainsFunc[[]string,string]
structure V65 (EV Q : EP) : Prop where
  none : True

theorem E65 {a0 : RW} (h : ∀ EV, V65 EV Q → EZ G96 [] [.r a0] (fun x rs vs => (x = 0 ∧ ∃ y0_0, rs = [] ∧ vs = [.i y0_0] ∧ (Q 0 [] [.b (decide (y0_0 ≥ 0))])))) : EZ G65 [] [.r a0] Q := by
 refine Inst.en (I := I65) (L := L65) F65_at fun A hA CE CK Dn EV RR W hp => ?_
 have h := h  EV ⟨trivial⟩
 cbv
 refine W.cl h ?_
 rintro _ _ _ hp0 (⟨rfl, y0_0, rfl, rfl, k0⟩)
 cbv
 subst hA
 exact (W.q k0)

-- 24: signalbox/script.Line DRAWN
structure V24 (EV Q : EP) : Prop where
  p14 : ∀ {t5 : RW} {b0 b1 b2 b3 b4 : Int}, (EZ G64 [] [.i b1] (fun x rs vs => (x = 0 ∧ ∃ y0_0, rs = [] ∧ vs = [.i y0_0] ∧ ((0 ≤ y0_0) ∧ (y0_0 ≤ (t5.length : Int)) ∧ (EZ G65 [] [.r (List.drop y0_0.toNat t5)] (fun x rs vs => (x = 0 ∧ ∃ y1_0, rs = [] ∧ vs = [.b y1_0] ∧ ((y1_0 = true → Q 0 [] [.s (ByteArray.mk (Array.mk [])), .b false]) ∧ (y1_0 = false → (0 ≤ y0_0) ∧ (y0_0 ≤ (t5.length : Int)) ∧ (EZ G49 [] [.r (List.take y0_0.toNat t5), .s (ByteArray.mk (Array.mk [32]))] (fun x rs vs => (x = 0 ∧ ∃ y3_0, rs = [] ∧ vs = [.s y3_0] ∧ (Q 0 [] [.s y3_0, .b true]))))))))))))) → EV 14 [] [.r t5, .i b0, .i b1, .i b2, .i b3, .i b4]

theorem V24.of (W : Wk Tryd.prog Tryd.f24 I24 L24 Q A sg CE CK Dn EV RR) : V24 EV Q := by
 have hA := W.hA
 refine ⟨?_⟩
 intro t5 b0 b1 b2 b3 b4 h
 refine W.step 80 fun hp => ?_
 cbv
 refine W.cl h ?_
 rintro _ _ _ hp0 (⟨rfl, y0_0, rfl, rfl, k0⟩)
 cbv
 refine ⟨ndI hA (An k0.1 (hA ▸ k0.2.1)), ?_⟩
 refine W.cl k0.2.2 ?_
 rintro _ _ _ hp1 (⟨rfl, y1_0, rfl, rfl, k1⟩)
 cbv
 refine ⟨imI hA fun e2 => have j2 := k1.1 e2; (W.q j2), imI hA fun e2 => have j2 := k1.2 e2; ⟨ndI hA (An j2.1 (hA ▸ j2.2.1)), ?_⟩⟩
 refine W.cl j2.2.2 ?_
 rintro _ _ _ hp3 (⟨rfl, y3_0, rfl, rfl, k3⟩)
 cbv
 subst hA
 exact (W.q k3)

theorem E24 {u0 u1 u2 u3 u4 : Int} (h : ∀ EV, V24 EV Q → EZ G62 [] [] (fun x rs vs => (x = 0 ∧ ∃ y0_0, rs = [] ∧ vs = [.r y0_0] ∧ ((u1 ≥ 1 → (u1 < (y0_0.length : Int) → EZ G63 [] [.r [[(AV.int .i64 u0)], [(AV.int .i64 u2)], [(AV.int .i64 u3)], [(AV.int .i64 u4)]]] (fun x rs vs => (x = 0 ∧ ∃ y3_0, rs = [] ∧ vs = [.b y3_0] ∧ ((y3_0 = false → Q 0 [] [.s (ByteArray.mk (Array.mk [])), .b false]) ∧ (y3_0 = true → (0 ≤ u1) ∧ (y0_0[u1.toNat]? = some [.str (cSS y0_0 u1.toNat 0)]) ∧ (EZ G48 [] [.i u0] (fun x rs vs => (x = 0 ∧ ∃ y5_0, rs = [] ∧ vs = [.s y5_0] ∧ (EZ G48 [] [.i u2] (fun x rs vs => (x = 0 ∧ ∃ y6_0, rs = [] ∧ vs = [.s y6_0] ∧ (EZ G48 [] [.i u3] (fun x rs vs => (x = 0 ∧ ∃ y7_0, rs = [] ∧ vs = [.s y7_0] ∧ (EZ G48 [] [.i u4] (fun x rs vs => (x = 0 ∧ ∃ y8_0, rs = [] ∧ vs = [.s y8_0] ∧ (EV 14 [] [.r [[(AV.str y5_0)], [(AV.str (cSS y0_0 u1.toNat 0))], [(AV.str y6_0)], [(AV.str y7_0)], [(AV.str y8_0)]], .i u0, .i u1, .i u2, .i u3, .i u4])))))))))))))))))) ∧ (u1 ≥ (y0_0.length : Int) → Q 0 [] [.s (ByteArray.mk (Array.mk [])), .b false])) ∧ (u1 < 1 → Q 0 [] [.s (ByteArray.mk (Array.mk [])), .b false]))))) : EZ G24 [] [.i u0, .i u1, .i u2, .i u3, .i u4] Q := by
 refine Inst.en (I := I24) (L := L24) F24_at fun A hA CE CK Dn EV RR W hp => ?_
 have h := h  EV (V24.of W)
 cbv
 refine W.cl h ?_
 rintro _ _ _ hp0 (⟨rfl, y0_0, rfl, rfl, k0⟩)
 cbv
 refine ⟨imI hA fun e1 => have j1 := k0.1 (cmpE (op := .lss) hA e1); ⟨imI hA fun e2 => have j2 := j1.1 (by subst hA; exact (cmpE (op := .geq) rfl e2)); ?_, imI hA fun e2 => have j2 := j1.2 (by subst hA; exact (cmpE (op := .geq) rfl e2)); (W.q j2)⟩, imI hA fun e1 => have j1 := k0.2 (cmpE (op := .lss) hA e1); (W.q j1)⟩
 refine W.cl j2 ?_
 rintro _ _ _ hp3 (⟨rfl, y3_0, rfl, rfl, k3⟩)
 cbv
 refine ⟨imI hA fun e4 => have j4 := k3.1 (by subst hA; exact (notE rfl e4)); (W.q j4), imI hA fun e4 => have j4 := k3.2 (by subst hA; exact (notE rfl e4)); ⟨ndI hA (An j4.1 (hA ▸ j4.2.1)), ⟨?_, trivial⟩⟩⟩
 refine W.cd j4.2.2 ?_
 rintro _ _ _ hp5 (⟨rfl, y5_0, rfl, rfl, k5⟩)
 cbv
 refine W.draw 80 (by rfl) ?_
 cbv
 refine ⟨?_, trivial⟩
 refine W.cd k5 ?_
 rintro _ _ _ hp6 (⟨rfl, y6_0, rfl, rfl, k6⟩)
 cbv
 refine W.draw 80 (by rfl) ?_
 cbv
 refine ⟨?_, trivial⟩
 refine W.cd k6 ?_
 rintro _ _ _ hp7 (⟨rfl, y7_0, rfl, rfl, k7⟩)
 cbv
 refine W.draw 80 (by rfl) ?_
 cbv
 refine ⟨?_, trivial⟩
 refine W.cd k7 ?_
 rintro _ _ _ hp8 (⟨rfl, y8_0, rfl, rfl, k8⟩)
 cbv
 refine W.draw 80 (by rfl) ?_
 cbv
 subst hA
 exact ⟨k8, trivial⟩

-- 67: signalbox/signalboxref21.in
structure V67 (EV Q : EP) : Prop where
  none : True

theorem E67 {a0 : Int} (h : ∀ EV, V67 EV Q → (a0 ≥ 0 → Q 0 [] [.b (decide (a0 ≤ 999999999))]) ∧ (a0 < 0 → Q 0 [] [.b false])) : EZ G67 [] [.i a0] Q := by
 refine Inst.en (I := I67) (L := L67) F67_at fun A hA CE CK Dn EV RR W hp => ?_
 have h := h  EV ⟨trivial⟩
 cbv
 subst hA
 exact ⟨fun e0 => have j0 := h.1 (cmpE (op := .geq) rfl e0); (W.q j0), fun e0 => have j0 := h.2 (cmpE (op := .geq) rfl e0); (W.q j0)⟩

-- 68: signalbox/signalboxref06.Digits
structure V68 (EV Q : EP) : Prop where
  p7 : ∀ {t0 : Int} {t3 : ByteArray}, ((t0 ≥ 10 → (∀ r ∈ (List.take 1 (List.drop 0 [[(AV.int .u8 (IntKind.wrap .u8 (IntKind.wrap .i64 (48 + (Int.tmod t0 10)))))]])), ∃ n : Int, r = [.int .u8 n]) ∧ (((ByteArray.size (bstrS (List.take 1 (List.drop 0 [[(AV.int .u8 (IntKind.wrap .u8 (IntKind.wrap .i64 (48 + (Int.tmod t0 10)))))]])))) + (ByteArray.size t3)) ≤ 9223372036854775807) ∧ (EV 7 [] [.i (IntKind.wrap .i64 (Int.tdiv t0 10)), .s ((bstrS (List.take 1 (List.drop 0 [[(AV.int .u8 (IntKind.wrap .u8 (IntKind.wrap .i64 (48 + (Int.tmod t0 10)))))]]))) ++ t3)])) ∧ (t0 < 10 → (∀ r ∈ (List.take 1 (List.drop 0 [[(AV.int .u8 (IntKind.wrap .u8 (IntKind.wrap .i64 (48 + t0))))]])), ∃ n : Int, r = [.int .u8 n]) ∧ (((ByteArray.size (bstrS (List.take 1 (List.drop 0 [[(AV.int .u8 (IntKind.wrap .u8 (IntKind.wrap .i64 (48 + t0))))]])))) + (ByteArray.size t3)) ≤ 9223372036854775807) ∧ (Q 0 [] [.s ((bstrS (List.take 1 (List.drop 0 [[(AV.int .u8 (IntKind.wrap .u8 (IntKind.wrap .i64 (48 + t0))))]]))) ++ t3)]))) → EV 7 [] [.i t0, .s t3]

theorem V68.of (W : Wk Tryd.prog Tryd.f68 I68 L68 Q A sg CE CK Dn EV RR) : V68 EV Q := by
 have hA := W.hA
 refine ⟨?_⟩
 intro t0 t3 h
 refine W.step 80 fun hp => ?_
 cbv
 subst hA
 exact ⟨fun e0 => have j0 := h.1 (cmpE (op := .geq) rfl e0); ⟨(show _ ≠ _ by decide), ⟨(An rfl (by show (0 + 1) ≤ 1; (first | rfl | simp [rappS_end] | (simp [rappS_end]; omega)))), ⟨j0.1, ⟨j0.2.1, ⟨(show _ ≠ _ by decide), j0.2.2⟩⟩⟩⟩⟩, fun e0 => have j0 := h.2 (cmpE (op := .geq) rfl e0); ⟨(An rfl (by show (0 + 1) ≤ 1; (first | rfl | simp [rappS_end] | (simp [rappS_end]; omega)))), ⟨j0.1, ⟨j0.2.1, (W.q j0.2.2)⟩⟩⟩⟩

theorem E68 {a0 : Int} (h : ∀ EV, V68 EV Q → EV 7 [] [.i a0, .s (ByteArray.mk (Array.mk []))]) : EZ G68 [] [.i a0] Q := by
 refine Inst.en (I := I68) (L := L68) F68_at fun A hA CE CK Dn EV RR W hp => ?_
 have h := h  EV (V68.of W)
 cbv
 subst hA
 exact h

-- 69: signalbox/signalboxref21.Names
structure V69 (EV Q : EP) : Prop where
  none : True

theorem E69  (h : ∀ EV, V69 EV Q → Q 0 [] [.r [[(AV.str (ByteArray.mk (Array.mk [])))], [(AV.str (ByteArray.mk (Array.mk [114, 101, 108, 101, 97, 115, 101])))], [(AV.str (ByteArray.mk (Array.mk [114, 97, 105, 115, 101])))], [(AV.str (ByteArray.mk (Array.mk [109, 97, 115, 107])))], [(AV.str (ByteArray.mk (Array.mk [117, 110, 109, 97, 115, 107])))], [(AV.str (ByteArray.mk (Array.mk [116, 105, 109, 101, 114])))]]]) : EZ G69 [] [] Q := by
 refine Inst.en (I := I69) (L := L69) F69_at fun A hA CE CK Dn EV RR W hp => ?_
 have h := h  EV ⟨trivial⟩
 cbv
 subst hA
 exact (W.q h)

-- 25: signalbox/signalboxref21.Line DRAWN
structure V25 (EV Q : EP) : Prop where
  p12 : ∀ {t4 : ByteArray} {b0 b1 b2 b3 b4 : Int}, ((b1 = 5 → (((ByteArray.size t4) + (ByteArray.size (ByteArray.mk (Array.mk [32])))) ≤ 9223372036854775807) ∧ (EZ G68 [] [.i b3] (fun x rs vs => (x = 0 ∧ ∃ y1_0, rs = [] ∧ vs = [.s y1_0] ∧ ((((ByteArray.size (t4 ++ (ByteArray.mk (Array.mk [32])))) + (ByteArray.size y1_0)) ≤ 9223372036854775807) ∧ (((ByteArray.size ((t4 ++ (ByteArray.mk (Array.mk [32]))) ++ y1_0)) + (ByteArray.size (ByteArray.mk (Array.mk [32])))) ≤ 9223372036854775807) ∧ (EZ G68 [] [.i b4] (fun x rs vs => (x = 0 ∧ ∃ y2_0, rs = [] ∧ vs = [.s y2_0] ∧ ((((ByteArray.size (((t4 ++ (ByteArray.mk (Array.mk [32]))) ++ y1_0) ++ (ByteArray.mk (Array.mk [32])))) + (ByteArray.size y2_0)) ≤ 9223372036854775807) ∧ (Q 0 [] [.s ((((t4 ++ (ByteArray.mk (Array.mk [32]))) ++ y1_0) ++ (ByteArray.mk (Array.mk [32]))) ++ y2_0), .b true])))))))))) ∧ (b1 ≠ 5 → Q 0 [] [.s t4, .b true])) → EV 12 [] [.s t4, .i b0, .i b1, .i b2, .i b3, .i b4]

theorem V25.of (W : Wk Tryd.prog Tryd.f25 I25 L25 Q A sg CE CK Dn EV RR) : V25 EV Q := by
 have hA := W.hA
 refine ⟨?_⟩
 intro t4 b0 b1 b2 b3 b4 h
 refine W.step 80 fun hp => ?_
 cbv
 refine ⟨imI hA fun e0 => have j0 := h.1 (cmpE (op := .eql) hA e0); ⟨ndI hA (hA ▸ j0.1), ⟨?_, trivial⟩⟩, imI hA fun e0 => have j0 := h.2 (cmpE (op := .eql) hA e0); (W.q j0)⟩
 refine W.cd j0.2 ?_
 rintro _ _ _ hp1 (⟨rfl, y1_0, rfl, rfl, k1⟩)
 cbv
 refine W.draw 80 (by rfl) ?_
 cbv
 refine ⟨ndI hA (hA ▸ k1.1), ⟨ndI hA (hA ▸ k1.2.1), ⟨?_, trivial⟩⟩⟩
 refine W.cd k1.2.2 ?_
 rintro _ _ _ hp2 (⟨rfl, y2_0, rfl, rfl, k2⟩)
 cbv
 refine W.draw 80 (by rfl) ?_
 cbv
 subst hA
 exact ⟨k2.1, (W.q k2.2)⟩

theorem E25 {u0 u1 u2 u3 u4 : Int} (h : ∀ EV, V25 EV Q → (u1 ≥ 1 → (u1 ≤ 5 → EZ G67 [] [.i u0] (fun x rs vs => (x = 0 ∧ ∃ y2_0, rs = [] ∧ vs = [.b y2_0] ∧ ((y2_0 = true → EZ G67 [] [.i u2] (fun x rs vs => (x = 0 ∧ ∃ y4_0, rs = [] ∧ vs = [.b y4_0] ∧ ((y4_0 = true → EZ G67 [] [.i u3] (fun x rs vs => (x = 0 ∧ ∃ y6_0, rs = [] ∧ vs = [.b y6_0] ∧ ((y6_0 = true → EZ G67 [] [.i u4] (fun x rs vs => (x = 0 ∧ ∃ y8_0, rs = [] ∧ vs = [.b y8_0] ∧ ((y8_0 = true → (u1 ≠ 5 → (u3 = 0 → (u4 ≠ 0 → Q 0 [] [.s (ByteArray.mk (Array.mk [])), .b false]) ∧ (u4 = 0 → EZ G68 [] [.i u0] (fun x rs vs => (x = 0 ∧ ∃ y13_0, rs = [] ∧ vs = [.s y13_0] ∧ ((((ByteArray.size y13_0) + (ByteArray.size (ByteArray.mk (Array.mk [32])))) ≤ 9223372036854775807) ∧ (EZ G69 [] [] (fun x rs vs => (x = 0 ∧ ∃ y14_0, rs = [] ∧ vs = [.r y14_0] ∧ ((0 ≤ u1) ∧ (y14_0[u1.toNat]? = some [.str (cSS y14_0 u1.toNat 0)]) ∧ (((ByteArray.size (y13_0 ++ (ByteArray.mk (Array.mk [32])))) + (ByteArray.size (cSS y14_0 u1.toNat 0))) ≤ 9223372036854775807) ∧ (((ByteArray.size ((y13_0 ++ (ByteArray.mk (Array.mk [32]))) ++ (cSS y14_0 u1.toNat 0))) + (ByteArray.size (ByteArray.mk (Array.mk [32])))) ≤ 9223372036854775807) ∧ (EZ G68 [] [.i u2] (fun x rs vs => (x = 0 ∧ ∃ y15_0, rs = [] ∧ vs = [.s y15_0] ∧ ((((ByteArray.size (((y13_0 ++ (ByteArray.mk (Array.mk [32]))) ++ (cSS y14_0 u1.toNat 0)) ++ (ByteArray.mk (Array.mk [32])))) + (ByteArray.size y15_0)) ≤ 9223372036854775807) ∧ (EV 12 [] [.s ((((y13_0 ++ (ByteArray.mk (Array.mk [32]))) ++ (cSS y14_0 u1.toNat 0)) ++ (ByteArray.mk (Array.mk [32]))) ++ y15_0), .i u0, .i u1, .i u2, .i u3, .i u4])))))))))))))) ∧ (u3 ≠ 0 → Q 0 [] [.s (ByteArray.mk (Array.mk [])), .b false])) ∧ (u1 = 5 → EZ G68 [] [.i u0] (fun x rs vs => (x = 0 ∧ ∃ y11_0, rs = [] ∧ vs = [.s y11_0] ∧ ((((ByteArray.size y11_0) + (ByteArray.size (ByteArray.mk (Array.mk [32])))) ≤ 9223372036854775807) ∧ (EZ G69 [] [] (fun x rs vs => (x = 0 ∧ ∃ y12_0, rs = [] ∧ vs = [.r y12_0] ∧ ((0 ≤ u1) ∧ (y12_0[u1.toNat]? = some [.str (cSS y12_0 u1.toNat 0)]) ∧ (((ByteArray.size (y11_0 ++ (ByteArray.mk (Array.mk [32])))) + (ByteArray.size (cSS y12_0 u1.toNat 0))) ≤ 9223372036854775807) ∧ (((ByteArray.size ((y11_0 ++ (ByteArray.mk (Array.mk [32]))) ++ (cSS y12_0 u1.toNat 0))) + (ByteArray.size (ByteArray.mk (Array.mk [32])))) ≤ 9223372036854775807) ∧ (EZ G68 [] [.i u2] (fun x rs vs => (x = 0 ∧ ∃ y13_0, rs = [] ∧ vs = [.s y13_0] ∧ ((((ByteArray.size (((y11_0 ++ (ByteArray.mk (Array.mk [32]))) ++ (cSS y12_0 u1.toNat 0)) ++ (ByteArray.mk (Array.mk [32])))) + (ByteArray.size y13_0)) ≤ 9223372036854775807) ∧ (EV 12 [] [.s ((((y11_0 ++ (ByteArray.mk (Array.mk [32]))) ++ (cSS y12_0 u1.toNat 0)) ++ (ByteArray.mk (Array.mk [32]))) ++ y13_0), .i u0, .i u1, .i u2, .i u3, .i u4])))))))))))))) ∧ (y8_0 = false → Q 0 [] [.s (ByteArray.mk (Array.mk [])), .b false]))))) ∧ (y6_0 = false → Q 0 [] [.s (ByteArray.mk (Array.mk [])), .b false]))))) ∧ (y4_0 = false → Q 0 [] [.s (ByteArray.mk (Array.mk [])), .b false]))))) ∧ (y2_0 = false → Q 0 [] [.s (ByteArray.mk (Array.mk [])), .b false]))))) ∧ (u1 > 5 → Q 0 [] [.s (ByteArray.mk (Array.mk [])), .b false])) ∧ (u1 < 1 → Q 0 [] [.s (ByteArray.mk (Array.mk [])), .b false])) : EZ G25 [] [.i u0, .i u1, .i u2, .i u3, .i u4] Q := by
 refine Inst.en (I := I25) (L := L25) F25_at fun A hA CE CK Dn EV RR W hp => ?_
 have h := h  EV (V25.of W)
 cbv
 refine ⟨imI hA fun e0 => have j0 := h.1 (cmpE (op := .lss) hA e0); ⟨imI hA fun e1 => have j1 := j0.1 (cmpE (op := .gtr) hA e1); ?_, imI hA fun e1 => have j1 := j0.2 (cmpE (op := .gtr) hA e1); (W.q j1)⟩, imI hA fun e0 => have j0 := h.2 (cmpE (op := .lss) hA e0); (W.q j0)⟩
 refine W.cl j1 ?_
 rintro _ _ _ hp2 (⟨rfl, y2_0, rfl, rfl, k2⟩)
 cbv
 refine ⟨imI hA fun e3 => have j3 := k2.1 (by subst hA; exact (notE rfl e3)); ?_, imI hA fun e3 => have j3 := k2.2 (by subst hA; exact (notE rfl e3)); (W.q j3)⟩
 refine W.cl j3 ?_
 rintro _ _ _ hp4 (⟨rfl, y4_0, rfl, rfl, k4⟩)
 cbv
 refine ⟨imI hA fun e5 => have j5 := k4.1 (by subst hA; exact (notE rfl e5)); ?_, imI hA fun e5 => have j5 := k4.2 (by subst hA; exact (notE rfl e5)); (W.q j5)⟩
 refine W.cl j5 ?_
 rintro _ _ _ hp6 (⟨rfl, y6_0, rfl, rfl, k6⟩)
 cbv
 refine ⟨imI hA fun e7 => have j7 := k6.1 (by subst hA; exact (notE rfl e7)); ?_, imI hA fun e7 => have j7 := k6.2 (by subst hA; exact (notE rfl e7)); (W.q j7)⟩
 refine W.cl j7 ?_
 rintro _ _ _ hp8 (⟨rfl, y8_0, rfl, rfl, k8⟩)
 cbv
 refine ⟨imI hA fun e9 => have j9 := k8.1 (by subst hA; exact (notE rfl e9)); ⟨imI hA fun e10 => have j10 := j9.1 (cmpE (op := .neq) hA e10); ⟨imI hA fun e11 => have j11 := j10.1 (cmpE (op := .neq) hA e11); ⟨imI hA fun e12 => have j12 := j11.1 (cmpE (op := .neq) hA e12); (W.q j12), imI hA fun e12 => have j12 := j11.2 (cmpE (op := .neq) hA e12); ⟨?_, trivial⟩⟩, imI hA fun e11 => have j11 := j10.2 (cmpE (op := .neq) hA e11); (W.q j11)⟩, imI hA fun e10 => have j10 := j9.2 (cmpE (op := .neq) hA e10); ⟨?_, trivial⟩⟩, imI hA fun e9 => have j9 := k8.2 (by subst hA; exact (notE rfl e9)); (W.q j9)⟩
 ·refine W.cd j12 ?_
  rintro _ _ _ hp13 (⟨rfl, y13_0, rfl, rfl, k13⟩)
  cbv
  refine W.draw 80 (by rfl) ?_
  cbv
  refine ⟨ndI hA (hA ▸ k13.1), ⟨?_, trivial⟩⟩
  refine W.cd k13.2 ?_
  rintro _ _ _ hp14 (⟨rfl, y14_0, rfl, rfl, k14⟩)
  cbv
  refine W.draw 80 (by rfl) ?_
  cbv
  refine ⟨ndI hA (An k14.1 (hA ▸ k14.2.1)), ⟨ndI hA (hA ▸ k14.2.2.1), ⟨ndI hA (hA ▸ k14.2.2.2.1), ⟨?_, trivial⟩⟩⟩⟩
  refine W.cd k14.2.2.2.2 ?_
  rintro _ _ _ hp15 (⟨rfl, y15_0, rfl, rfl, k15⟩)
  cbv
  refine W.draw 80 (by rfl) ?_
  cbv
  subst hA
  exact ⟨k15.1, k15.2⟩
 ·refine W.cd j10 ?_
  rintro _ _ _ hp11 (⟨rfl, y11_0, rfl, rfl, k11⟩)
  cbv
  refine W.draw 80 (by rfl) ?_
  cbv
  refine ⟨ndI hA (hA ▸ k11.1), ⟨?_, trivial⟩⟩
  refine W.cd k11.2 ?_
  rintro _ _ _ hp12 (⟨rfl, y12_0, rfl, rfl, k12⟩)
  cbv
  refine W.draw 80 (by rfl) ?_
  cbv
  refine ⟨ndI hA (An k12.1 (hA ▸ k12.2.1)), ⟨ndI hA (hA ▸ k12.2.2.1), ⟨ndI hA (hA ▸ k12.2.2.2.1), ⟨?_, trivial⟩⟩⟩⟩
  refine W.cd k12.2.2.2.2 ?_
  rintro _ _ _ hp13 (⟨rfl, y13_0, rfl, rfl, k13⟩)
  cbv
  refine W.draw 80 (by rfl) ?_
  cbv
  subst hA
  exact ⟨k13.1, k13.2⟩

-- 53: slices.Index[[]string,string]
structure V53 (EV Q : EP) : Prop where
  p7 : ∀ {t0 : RW} {t1 : ByteArray} {t7 t8 : Int}, ((t8 < t7 → (0 ≤ t8) ∧ (t0[t8.toNat]? = some [.str (cSS t0 t8.toNat 0)]) ∧ ((sopS .eql t1 (cSS t0 t8.toNat 0)) = true → Q 0 [] [.i t8]) ∧ ((sopS .eql t1 (cSS t0 t8.toNat 0)) = false → EV 7 [] [.r t0, .s t1, .i t7, .i (IntKind.wrap .i64 (t8 + 1))])) ∧ (t8 ≥ t7 → Q 0 [] [.i (-1)])) → EV 7 [] [.r t0, .s t1, .i t7, .i t8]

theorem V53.of (W : Wk Tryd.prog Tryd.f53 I53 L53 Q A sg CE CK Dn EV RR) : V53 EV Q := by
 have hA := W.hA
 refine ⟨?_⟩
 intro t0 t1 t7 t8 h
 refine W.step 80 fun hp => ?_
 cbv
 subst hA
 exact ⟨fun e0 => have j0 := h.1 (cmpE (op := .lss) rfl e0); ⟨(An j0.1 j0.2.1), ⟨fun e1 => have j1 := j0.2.2.1 e1; (W.q j1), fun e1 => have j1 := j0.2.2.2 e1; j1⟩⟩, fun e0 => have j0 := h.2 (cmpE (op := .lss) rfl e0); (W.q j0)⟩

theorem E53 {a0 : RW} {a1 : ByteArray} (h : ∀ EV, V53 EV Q → EV 7 [] [.r a0, .s a1, .i (a0.length : Int), .i 0]) : EZ G53 [] [.r a0, .s a1] Q := by
 refine Inst.en (I := I53) (L := L53) F53_at fun A hA CE CK Dn EV RR W hp => ?_
 have h := h  EV (V53.of W)
 cbv
 subst hA
 exact h

-- 70: signalbox/script.number
structure V70 (EV Q : EP) : Prop where
  none : True

theorem E70 {a0 : ByteArray} (h : ∀ EV, V70 EV Q → EZ G91 [] [.s a0] (fun x rs vs => (x = 0 ∧ ∃ y0_0, rs = [] ∧ vs = [.i y0_0] ∧ (EZ G63 [] [.r (List.take 1 (List.drop 0 [[(AV.int .i64 y0_0)]]))] (fun x rs vs => (x = 0 ∧ ∃ y1_0, rs = [] ∧ vs = [.b y1_0] ∧ ((y1_0 = true → EZ G48 [] [.i y0_0] (fun x rs vs => (x = 0 ∧ ∃ y3_0, rs = [] ∧ vs = [.s y3_0] ∧ (Q 0 [] [.i y0_0, .b (sopS .eql y3_0 a0)])))) ∧ (y1_0 = false → Q 0 [] [.i y0_0, .b false])))))))) : EZ G70 [] [.s a0] Q := by
 refine Inst.en (I := I70) (L := L70) F70_at fun A hA CE CK Dn EV RR W hp => ?_
 have h := h  EV ⟨trivial⟩
 cbv
 refine W.cl h ?_
 rintro _ _ _ hp0 (⟨rfl, y0_0, rfl, rfl, k0⟩)
 cbv
 refine ⟨ndI hA (An (An vpur trivial) (An (hA ▸ rfl) trivial)), ?_⟩
 refine W.cl k0 ?_
 rintro _ _ _ hp1 (⟨rfl, y1_0, rfl, rfl, k1⟩)
 cbv
 refine ⟨imI hA fun e2 => have j2 := k1.1 e2; ?_, imI hA fun e2 => have j2 := k1.2 e2; (W.q j2)⟩
 refine W.cl j2 ?_
 rintro _ _ _ hp3 (⟨rfl, y3_0, rfl, rfl, k3⟩)
 cbv
 subst hA
 exact (W.q k3)

-- 6: signalbox/signalboxlaw21.ScriptLines
structure V6 (EV Q : EP) : Prop where
  none : True

theorem E6 {u0 u1 u2 u3 u4 : Int} (h : ∀ EV, V6 EV Q → EZ G23 [] [] (fun x rs vs => (x = 0 ∧ ∃ y0_0, rs = [] ∧ vs = [.b y0_0] ∧ ((y0_0 = false → Q 0 [] [.b false]) ∧ (y0_0 = true → EZ G24 [] [.i u0, .i u1, .i u2, .i u3, .i u4] (fun x rs vs => (x = 0 ∧ ∃ y2_0 y2_1, rs = [] ∧ vs = [.s y2_0, .b y2_1] ∧ (EZ G25 [] [.i u0, .i u1, .i u2, .i u3, .i u4] (fun x rs vs => (x = 0 ∧ ∃ y3_0 y3_1, rs = [] ∧ vs = [.s y3_0, .b y3_1] ∧ (EZ G26 [] [.s y2_0] (fun x rs vs => (x = 0 ∧ ∃ y4a0 y4a1 y4a2 y4a3 y4a4 y4_1, rs = [] ∧ vs = [.i y4a0, .i y4a1, .i y4a2, .i y4a3, .i y4a4, .b y4_1] ∧ (((sopS .eql y2_0 y3_0) = true → ((y2_1 == y3_1) = true → ((y4_1 == y2_1) = true → (y2_1 = true → Q 0 [] [.b ((y4a0 == u0) && ((y4a1 == u1) && ((y4a2 == u2) && ((y4a3 == u3) && ((y4a4 == u4) && true)))))]) ∧ (y2_1 = false → Q 0 [] [.b true])) ∧ ((y4_1 == y2_1) = false → Q 0 [] [.b false])) ∧ ((y2_1 == y3_1) = false → Q 0 [] [.b false])) ∧ ((sopS .eql y2_0 y3_0) = false → Q 0 [] [.b false]))))))))))))))) : EZ G6 [] [.i u0, .i u1, .i u2, .i u3, .i u4] Q := by
 refine Inst.en (I := I6) (L := L6) F6_at fun A hA CE CK Dn EV RR W hp => ?_
 have h := h  EV ⟨trivial⟩
 cbv
 refine W.cl h ?_
 rintro _ _ _ hp0 (⟨rfl, y0_0, rfl, rfl, k0⟩)
 cbv
 refine ⟨imI hA fun e1 => have j1 := k0.1 (by subst hA; exact (notE rfl e1)); (W.q j1), imI hA fun e1 => have j1 := k0.2 (by subst hA; exact (notE rfl e1)); ?_⟩
 refine W.cl j1 ?_
 rintro _ _ _ hp2 (⟨rfl, y2_0, y2_1, rfl, rfl, k2⟩)
 cbv
 refine W.cl k2 ?_
 rintro _ _ _ hp3 (⟨rfl, y3_0, y3_1, rfl, rfl, k3⟩)
 cbv
 refine W.cl k3 ?_
 rintro _ _ _ hp4 (⟨rfl, y4a0, y4a1, y4a2, y4a3, y4a4, y4_1, rfl, rfl, k4⟩)
 cbv
 subst hA
 exact ⟨fun e5 => have j5 := k4.1 e5; ⟨fun e6 => have j6 := j5.1 e6; ⟨fun e7 => have j7 := j6.1 e7; ⟨fun e8 => have j8 := j7.1 ((notE rfl e8)); (W.q j8), fun e8 => have j8 := j7.2 ((notE rfl e8)); (W.q j8)⟩, fun e7 => have j7 := j6.2 e7; (W.q j7)⟩, fun e6 => have j6 := j5.2 e6; (W.q j6)⟩, fun e5 => have j5 := k4.2 e5; (W.q j5)⟩

end Go.Ab
