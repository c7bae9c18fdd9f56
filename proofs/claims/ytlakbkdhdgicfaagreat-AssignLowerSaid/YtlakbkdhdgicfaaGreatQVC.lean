import Derived.Test.YtlakbkdhdgicfaaGreatQS
import Derived.Test.YtlakbkdhdgicfaaGreatLayE
/- PRINTED BY A PROGRAM (wip/tools/vc.py, AbVc.lean): what is to be shown of each function, from place to place, and that it is enough. -/
namespace Go.Ab
open Go Go.Proofs
set_option linter.unusedVariables false
set_option linter.unusedSimpArgs false
set_option maxRecDepth 100000
set_option maxHeartbeats 0
variable {Q EV RR : EP} {A : Ar} {CE : Nat → Rs → List Lf → EP → Prop} {CK : Nat → Rs → List Lf → Cont → Prop} {Dn : Nat → List Bool → List bf → Nat → List Bool → List AV → List aj → Prop}

-- 114: signalbox/preempt.Higher$1
structure V114 (EV Q : EP) : Prop where
  none : True

theorem E114 {u0 u1 u2 u3 u4 u5 : Int} {u6 : RW} {v0 v1 v2 v3 v4 v5 : Int} {v6 : RW} (h : ∀ EV, V114 EV Q → Q 0 [] [.b (decide (u0 ≥ v0))]) : EZ G114 [] [.i u0, .i u1, .i u2, .i u3, .i u4, .i u5, .r u6, .i v0, .i v1, .i v2, .i v3, .i v4, .i v5, .r v6] Q := by
 refine ak.en (I := I114) (L := L114) LH fun A hA CE CK Dn EV RR W hp => ?_
 have h := h  EV ⟨trivial⟩
 cbv
 subst hA
 exact (W.q h)

-- 113a: signalbox/preempt.some DRAWN
structure V113a (EV Q : EP) : Prop where
  p17 : ∀ {R0 : RW} {t1 : Int} {t15 : RW} {t16 t17 b0 b1 b2 b3 : Int} {b4 : RW} {b5 : Int} {b6 b7 b8 b9 : RW}, (aB R0 = true → (t17 < t16 → (0 ≤ t17) ∧ (t15[t17.toNat]? = some (r7 t15 t17.toNat)) ∧ (0 ≤ t1) ∧ (b8[t1.toNat]? = some (r7 b8 t1.toNat)) ∧ (EZ G114 [] [.i (cIS t15 t17.toNat 0), .i (cIS t15 t17.toNat 1), .i (cIS t15 t17.toNat 2), .i (cIS t15 t17.toNat 3), .i (cIS t15 t17.toNat 4), .i (cIS t15 t17.toNat 5), .r (cRS t15 t17.toNat 6), .i (cIS b8 t1.toNat 0), .i (cIS b8 t1.toNat 1), .i (cIS b8 t1.toNat 2), .i (cIS b8 t1.toNat 3), .i (cIS b8 t1.toNat 4), .i (cIS b8 t1.toNat 5), .r (cRS b8 t1.toNat 6)] (fun x rs vs => (x = 0 ∧ ∃ y1_0, rs = [] ∧ vs = [.b y1_0] ∧ ((y1_0 = true → ((R0.length + (List.length (List.take 1 (List.drop 0 [[(AV.int .i64 t17)]])))) ≤ 140737488355328) ∧ (((R0.length + (List.length (List.take 1 (List.drop 0 [[(AV.int .i64 t17)]])))) * 8) ≤ 140737488355328) ∧ (EV 17 [(R0 ++ (List.take 1 (List.drop 0 [[(AV.int .i64 t17)]])))] [.i t1, .r t15, .i t16, .i (IntKind.wrap .i64 (t17 + 1)), .i b0, .i b1, .i b2, .i b3, .r b4, .i b5, .r b6, .r b7, .r b8, .r b9])) ∧ (y1_0 = false → EV 17 [R0] [.i t1, .r t15, .i t16, .i (IntKind.wrap .i64 (t17 + 1)), .i b0, .i b1, .i b2, .i b3, .r b4, .i b5, .r b6, .r b7, .r b8, .r b9])))))) ∧ (t17 ≥ t16 → Q 0 [R0] [])) → EV 17 [R0] [.i t1, .r t15, .i t16, .i t17, .i b0, .i b1, .i b2, .i b3, .r b4, .i b5, .r b6, .r b7, .r b8, .r b9]

theorem V113a.of (W : Wk Tryz.prog Tryz.f113 I113a L113a Q A sg CE CK Dn EV RR) : V113a EV Q := by
 have hA := W.hA
 refine ⟨?_⟩
 intro R0 t1 t15 t16 t17 b0 b1 b2 b3 b4 b5 b6 b7 b8 b9 h
 refine W.step 80 fun hp => ?_
 have h := h hp.1
 cbv
 refine ⟨imI hA fun e0 => have j0 := h.1 (ah (op := .lss) hA e0); ⟨ndI hA (An j0.1 (hA ▸ j0.2.1)), ⟨ndI hA (An j0.2.2.1 (hA ▸ j0.2.2.2.1)), ⟨?_, trivial⟩⟩⟩, imI hA fun e0 => have j0 := h.2 (ah (op := .lss) hA e0); ⟨ndI hA (An rfl (An rfl rfl)), ⟨ndI hA hp.1, (W.q j0)⟩⟩⟩
 refine W.cd j0.2.2.2.2 ?_
 rintro _ _ _ hp1 (⟨rfl, y1_0, rfl, rfl, k1⟩)
 cbv
 refine W.draw 80 (by rfl) ?_
 cbv
 subst hA
 exact ⟨fun e2 => have j2 := k1.1 e2; ⟨(An rfl (by show (0 + 1) ≤ 1; (first | rfl | simp [af] | (simp [af]; omega)))), ⟨(An rfl (An (Nat.le_refl _) (An j2.1 j2.2.1))), ⟨(An rfl (An rfl (by show (R0.length + (List.length (List.take 1 (List.drop 0 [[(AV.int .i64 t17)]])))) = (List.length (aP R0 R0.length (List.take 1 (List.drop 0 [[(AV.int .i64 t17)]])))); (first | rfl | simp [af] | (simp [af]; omega))))), ⟨((fA hp.1 (dw (dA aQ)))), (by show EV 17 [(aP R0 R0.length (List.take 1 (List.drop 0 [[(AV.int .i64 t17)]])))] [.i t1, .r t15, .i t16, .i (IntKind.wrap .i64 (t17 + 1)), .i b0, .i b1, .i b2, .i b3, .r b4, .i b5, .r b6, .r b7, .r b8, .r b9]; (try simp only [af, Nat.zero_add, Int.toNat_natCast]); exact j2.2.2)⟩⟩⟩⟩, fun e2 => have j2 := k1.2 e2; ⟨(An rfl (An rfl rfl)), ⟨hp.1, j2⟩⟩⟩

theorem E113a {u0 u1 u2 u3 : Int} {u4 : RW} {u5 : Int} {u6 u7 u8 u9 : RW} {a1 : Int} (h : ∀ EV, V113a EV Q → EZ G145 [] [.i u0, .i u1, .i u2, .i u3, .r u4, .i u5, .r u6, .r u7, .r u8, .r u9, .i a1] (fun x rs vs => (x = 0 ∧ ∃ y0_0, rs = [] ∧ vs = [.b y0_0] ∧ ((y0_0 = false → Q 0 [[]] []) ∧ (y0_0 = true → EV 17 [[]] [.i a1, .r u8, .i (u8.length : Int), .i 0, .i u0, .i u1, .i u2, .i u3, .r u4, .i u5, .r u6, .r u7, .r u8, .r u9]))))) : EZ G113a [] [.i u0, .i u1, .i u2, .i u3, .r u4, .i u5, .r u6, .r u7, .r u8, .r u9, .i a1] Q := by
 refine ak.en (I := I113a) (L := L113a) D6 fun A hA CE CK Dn EV RR W hp => ?_
 have h := h  EV (V113a.of W)
 cbv
 refine W.cl h ?_
 rintro _ _ _ hp0 (⟨rfl, y0_0, rfl, rfl, k0⟩)
 cbv
 subst hA
 exact ⟨fun e1 => have j1 := k0.1 (notE rfl e1); ⟨(An rfl (An rfl rfl)), ⟨aQ, (W.q j1)⟩⟩, fun e1 => have j1 := k0.2 (notE rfl e1); ⟨(An rfl (An rfl rfl)), ⟨aQ, j1⟩⟩⟩

-- 88: signalbox/preempt.Higher
structure V88 (EV Q : EP) : Prop where
  none : True

theorem E88 {u0 u1 u2 u3 : Int} {u4 : RW} {u5 : Int} {u6 u7 u8 u9 : RW} {a1 : Int} (h : ∀ EV, V88 EV Q → EZ G113a [] [.i u0, .i u1, .i u2, .i u3, .r u4, .i u5, .r u6, .r u7, .r u8, .r u9, .i a1] (fun x rs vs => (x = 0 ∧ ∃ Y0_0, rs = [Y0_0] ∧ vs = [] ∧ (Q 0 [Y0_0] [])))) : EZ G88 [] [.i u0, .i u1, .i u2, .i u3, .r u4, .i u5, .r u6, .r u7, .r u8, .r u9, .i a1] Q := by
 refine ak.en (I := I88) (L := L88) Qu fun A hA CE CK Dn EV RR W hp => ?_
 have h := h  EV ⟨trivial⟩
 cbv
 refine W.cl h ?_
 rintro _ _ _ hp0 (⟨rfl, Y0_0, rfl, rfl, k0⟩)
 cbv
 subst hA
 exact ⟨(An rfl (An rfl rfl)), ⟨hp0.1, (W.q k0)⟩⟩

-- 54: signalbox/admit.Loads
structure V54 (EV Q : EP) : Prop where
  p9 : ∀ {R0 R1 : RW} {t11 t12 b0 b1 b2 b3 : Int} {b4 : RW} {b5 : Int} {b6 b7 b8 b9 : RW}, (aB R0 = true → aB R1 = true → (t12 < t11 → (0 ≤ t12) ∧ (t12 < (R1.length : Int)) ∧ (R1[t12.toNat]? = some [.int .i64 (cIS R1 t12.toNat 0)]) ∧ (EZ G59 [] [.i b0, .i b1, .i b2, .i b3, .r b4, .i b5, .r b6, .r b7, .r b8, .r b9, .i (cIS R1 t12.toNat 0)] (fun x rs vs => (x = 0 ∧ ∃ y1a0 y1a1, rs = [] ∧ vs = [.i y1a0, .i y1a1] ∧ (((R0.length + 1) ≤ 140737488355328) ∧ (((R0.length + 1) * 16) ≤ 140737488355328) ∧ (EV 9 [(R0 ++ [[(AV.int .u64 y1a0), (AV.int .u64 y1a1)]]), R1] [.i t11, .i (IntKind.wrap .i64 (t12 + 1)), .i b0, .i b1, .i b2, .i b3, .r b4, .i b5, .r b6, .r b7, .r b8, .r b9])))))) ∧ (t12 ≥ t11 → Q 0 [R0] [])) → EV 9 [R0, R1] [.i t11, .i t12, .i b0, .i b1, .i b2, .i b3, .r b4, .i b5, .r b6, .r b7, .r b8, .r b9]

theorem V54.of (W : Wk Tryz.prog Tryz.f54 I54 L54 Q A sg CE CK Dn EV RR) : V54 EV Q := by
 have hA := W.hA
 refine ⟨?_⟩
 intro R0 R1 t11 t12 b0 b1 b2 b3 b4 b5 b6 b7 b8 b9 h
 refine W.step 80 fun hp => ?_
 have h := h hp.1 hp.2.1
 cbv
 refine ⟨imI hA fun e0 => have j0 := h.1 (ah (op := .lss) hA e0); ⟨ndI hA (An j0.1 (An (hA ▸ j0.2.1) rfl)), ⟨ndI hA (An rfl (hA ▸ j0.2.2.1)), ?_⟩⟩, imI hA fun e0 => have j0 := h.2 (ah (op := .lss) hA e0); ⟨ndI hA (An rfl (An rfl rfl)), ⟨ndI hA hp.1, (W.q j0)⟩⟩⟩
 refine W.cl j0.2.2.2 ?_
 rintro _ _ _ hp1 (⟨rfl, y1a0, y1a1, rfl, rfl, k1⟩)
 cbv
 subst hA
 exact ⟨(An rfl (An (Nat.le_refl _) (An k1.1 k1.2.1))), ⟨(An rfl (An rfl (by show (R0.length + 1) = (List.length (aP R0 R0.length [[(AV.int .u64 y1a0), (AV.int .u64 y1a1)]])); (first | rfl | simp [af] | (simp [af]; omega))))), ⟨(An rfl (An rfl rfl)), ⟨((fA hp.1 aQ)), ⟨hp.2.1, (by show EV 9 [(aP R0 R0.length [[(AV.int .u64 y1a0), (AV.int .u64 y1a1)]]), R1] [.i t11, .i (IntKind.wrap .i64 (t12 + 1)), .i b0, .i b1, .i b2, .i b3, .r b4, .i b5, .r b6, .r b7, .r b8, .r b9]; (try simp only [af, Nat.zero_add, Int.toNat_natCast]); exact k1.2.2)⟩⟩⟩⟩⟩

theorem E54 {u0 u1 u2 u3 : Int} {u4 : RW} {u5 : Int} {u6 u7 u8 u9 : RW} {a1 : Int} (h : ∀ EV, V54 EV Q → EZ G88 [] [.i u0, .i u1, .i u2, .i u3, .r u4, .i u5, .r u6, .r u7, .r u8, .r u9, .i a1] (fun x rs vs => (x = 0 ∧ ∃ Y0_0, rs = [Y0_0] ∧ vs = [] ∧ (EV 9 [[], Y0_0] [.i (Y0_0.length : Int), .i 0, .i u0, .i u1, .i u2, .i u3, .r u4, .i u5, .r u6, .r u7, .r u8, .r u9])))) : EZ G54 [] [.i u0, .i u1, .i u2, .i u3, .r u4, .i u5, .r u6, .r u7, .r u8, .r u9, .i a1] Q := by
 refine ak.en (I := I54) (L := L54) QZ fun A hA CE CK Dn EV RR W hp => ?_
 have h := h  EV (V54.of W)
 cbv
 refine W.cl h ?_
 rintro _ _ _ hp0 (⟨rfl, Y0_0, rfl, rfl, k0⟩)
 cbv
 subst hA
 exact ⟨rfl, ⟨(An rfl (An rfl rfl)), ⟨(An rfl (An rfl rfl)), ⟨aQ, ⟨hp0.1, k0⟩⟩⟩⟩⟩

-- 134: signalbox/sat.Ceil
structure V134 (EV Q : EP) : Prop where
  none : True

theorem E134 {a0 a1 : Int} (h : ∀ EV, V134 EV Q → (a0 = 0 → Q 0 [] [.i 0]) ∧ (a0 ≠ 0 → (a1 ≠ 0 → (a0 = 18446744073709551615 → Q 0 [] [.i 18446744073709551615]) ∧ (a0 ≠ 18446744073709551615 → (a1 ≠ 0) ∧ (Q 0 [] [.i (IntKind.wrap .u64 ((IntKind.wrap .u64 (Int.tdiv (IntKind.wrap .u64 (a0 - 1)) a1)) + 1))]))) ∧ (a1 = 0 → Q 0 [] [.i 18446744073709551615]))) : EZ G134 [] [.i a0, .i a1] Q := by
 refine ak.en (I := I134) (L := L134) KX fun A hA CE CK Dn EV RR W hp => ?_
 have h := h  EV ⟨trivial⟩
 cbv
 subst hA
 exact ⟨fun e0 => have j0 := h.1 (ah (op := .eql) rfl e0); (W.q j0), fun e0 => have j0 := h.2 (ah (op := .eql) rfl e0); ⟨fun e1 => have j1 := j0.1 (ah (op := .eql) rfl e1); ⟨fun e2 => have j2 := j1.1 (ah (op := .eql) rfl e2); (W.q j2), fun e2 => have j2 := j1.2 (ah (op := .eql) rfl e2); ⟨j2.1, (W.q j2.2)⟩⟩, fun e1 => have j1 := j0.2 (ah (op := .eql) rfl e1); (W.q j1)⟩⟩

-- 99: math/bits.Mul64
structure V99 (EV Q : EP) : Prop where
  none : True

theorem E99 {a0 a1 : Int} (h : ∀ EV, V99 EV Q → ((0 : Int) ≤ 32) ∧ (Q 0 [] [.i (IntKind.wrap .u64 ((IntKind.wrap .u64 ((IntKind.wrap .u64 ((cO .shr .u64 a0 32) * (cO .shr .u64 a1 32))) + (cO .shr .u64 (IntKind.wrap .u64 ((IntKind.wrap .u64 ((cO .shr .u64 a0 32) * (cO .and .u64 a1 4294967295))) + (cO .shr .u64 (IntKind.wrap .u64 ((cO .and .u64 a0 4294967295) * (cO .and .u64 a1 4294967295))) 32))) 32))) + (cO .shr .u64 (IntKind.wrap .u64 ((cO .and .u64 (IntKind.wrap .u64 ((IntKind.wrap .u64 ((cO .shr .u64 a0 32) * (cO .and .u64 a1 4294967295))) + (cO .shr .u64 (IntKind.wrap .u64 ((cO .and .u64 a0 4294967295) * (cO .and .u64 a1 4294967295))) 32))) 4294967295) + (IntKind.wrap .u64 ((cO .and .u64 a0 4294967295) * (cO .shr .u64 a1 32))))) 32))), .i (IntKind.wrap .u64 (a0 * a1))])) : EZ G99 [] [.i a0, .i a1] Q := by
 refine ak.en (I := I99) (L := L99) Qj fun A hA CE CK Dn EV RR W hp => ?_
 have h := h  EV ⟨trivial⟩
 cbv
 subst hA
 exact ⟨h.1, ⟨h.1, ⟨h.1, ⟨h.1, ⟨h.1, (W.q h.2)⟩⟩⟩⟩⟩

-- 61: signalbox/sat.Mul
structure V61 (EV Q : EP) : Prop where
  none : True

theorem E61 {a0 a1 : Int} (h : ∀ EV, V61 EV Q → EZ G99 [] [.i a0, .i a1] (fun x rs vs => (x = 0 ∧ ∃ y0_0 y0_1, rs = [] ∧ vs = [.i y0_0, .i y0_1] ∧ ((y0_0 > 0 → Q 0 [] [.i 18446744073709551615]) ∧ (y0_0 ≤ 0 → Q 0 [] [.i y0_1]))))) : EZ G61 [] [.i a0, .i a1] Q := by
 refine ak.en (I := I61) (L := L61) QS fun A hA CE CK Dn EV RR W hp => ?_
 have h := h  EV ⟨trivial⟩
 cbv
 refine W.cl h ?_
 rintro _ _ _ hp0 (⟨rfl, y0_0, y0_1, rfl, rfl, k0⟩)
 cbv
 subst hA
 exact ⟨fun e1 => have j1 := k0.1 (ah (op := .gtr) rfl e1); (W.q j1), fun e1 => have j1 := k0.2 (ah (op := .gtr) rfl e1); (W.q j1)⟩

-- 159: signalbox/busy.Demand DRAWN
structure V159 (EV Q : EP) : Prop where
  p9 : ∀ {R0 : RW} {t2 t7 t12 t13 : Int}, (aB R0 = true → (t13 < t12 → (0 ≤ t13) ∧ (t13 < (R0.length : Int)) ∧ (R0[t13.toNat]? = some [.int .u64 (cIS R0 t13.toNat 0), .int .u64 (cIS R0 t13.toNat 1)]) ∧ (EZ G134 [] [.i t2, .i (cIS R0 t13.toNat 1)] (fun x rs vs => (x = 0 ∧ ∃ y1_0, rs = [] ∧ vs = [.i y1_0] ∧ (EZ G61 [] [.i (cIS R0 t13.toNat 0), .i y1_0] (fun x rs vs => (x = 0 ∧ ∃ y2_0, rs = [] ∧ vs = [.i y2_0] ∧ (EZ G60 [] [.i t7, .i y2_0] (fun x rs vs => (x = 0 ∧ ∃ y3_0, rs = [] ∧ vs = [.i y3_0] ∧ (EV 9 [R0] [.i t2, .i y3_0, .i t12, .i (IntKind.wrap .i64 (t13 + 1))]))))))))))) ∧ (t13 ≥ t12 → Q 0 [R0] [.i t7])) → EV 9 [R0] [.i t2, .i t7, .i t12, .i t13]

theorem V159.of (W : Wk Tryz.prog Tryz.f159 I159 L159 Q A sg CE CK Dn EV RR) : V159 EV Q := by
 have hA := W.hA
 refine ⟨?_⟩
 intro R0 t2 t7 t12 t13 h
 refine W.step 80 fun hp => ?_
 have h := h hp.1
 cbv
 refine ⟨imI hA fun e0 => have j0 := h.1 (ah (op := .lss) hA e0); ⟨ndI hA (An j0.1 (An (hA ▸ j0.2.1) rfl)), ⟨ndI hA (An rfl (hA ▸ j0.2.2.1)), ⟨?_, trivial⟩⟩⟩, imI hA fun e0 => have j0 := h.2 (ah (op := .lss) hA e0); ⟨ndI hA hp.1, (W.q j0)⟩⟩
 refine W.cd j0.2.2.2 ?_
 rintro _ _ _ hp1 (⟨rfl, y1_0, rfl, rfl, k1⟩)
 cbv
 refine W.draw 80 (by rfl) ?_
 cbv
 refine ⟨?_, trivial⟩
 refine W.cd k1 ?_
 rintro _ _ _ hp2 (⟨rfl, y2_0, rfl, rfl, k2⟩)
 cbv
 refine W.draw 80 (by rfl) ?_
 cbv
 refine ⟨?_, trivial⟩
 refine W.cd k2 ?_
 rintro _ _ _ hp3 (⟨rfl, y3_0, rfl, rfl, k3⟩)
 cbv
 refine W.draw 80 (by rfl) ?_
 cbv
 subst hA
 exact ⟨(An rfl (An rfl rfl)), ⟨hp.1, k3⟩⟩

theorem E159 {R0 : RW} {a0 a2 : Int} (h : aB R0 = true → ∀ EV, V159 EV Q → EV 9 [R0] [.i a2, .i a0, .i (R0.length : Int), .i 0]) : EZ G159 [R0] [.i a0, .i a2] Q := by
 refine ak.en (I := I159) (L := L159) Kw fun A hA CE CK Dn EV RR W hp => ?_
 have h := h hp.1 EV (V159.of W)
 cbv
 subst hA
 exact ⟨rfl, ⟨(An rfl (An rfl rfl)), ⟨hp.1, h⟩⟩⟩

-- 133: (signalbox/busy.work).demand
structure V133 (EV Q : EP) : Prop where
  none : True

theorem E133 {R0 : RW} {a0 a1 : Int} (h : aB R0 = true → ∀ EV, V133 EV Q → EZ G159 [R0] [.i a0, .i a1] (fun x rs vs => (x = 0 ∧ ∃ Y0_0 y0_0, rs = [Y0_0] ∧ vs = [.i y0_0] ∧ (Q 0 [Y0_0] [.i y0_0])))) : EZ G133 [R0] [.i a0, .i a1] Q := by
 refine ak.en (I := I133) (L := L133) KY fun A hA CE CK Dn EV RR W hp => ?_
 have h := h hp.1 EV ⟨trivial⟩
 cbv
 refine ⟨ndI hA (An rfl (An rfl rfl)), ⟨ndI hA hp.1, ?_⟩⟩
 refine W.cl h ?_
 rintro _ _ _ hp0 (⟨rfl, Y0_0, y0_0, rfl, rfl, k0⟩)
 cbv
 subst hA
 exact ⟨hp0.1, (W.q k0)⟩

-- 132: signalbox/sat.Least
structure V132 (EV Q : EP) : Prop where
  p9 : ∀ {R0 : RW} {t0 t2 t8 t11 : Int}, (aB R0 = true → (t11 < 1048576 → (t8 > t2 → Q 0 [R0] [.i 18446744073709551615, .b false]) ∧ (t8 ≤ t2 → EZ G133 [R0] [.i t0, .i t8] (fun x rs vs => (x = 0 ∧ ∃ Y2_0 y2_0, rs = [Y2_0] ∧ vs = [.i y2_0] ∧ ((y2_0 ≤ t8 → Q 0 [Y2_0] [.i t8, .b true]) ∧ (y2_0 > t8 → (R0.length = Y2_0.length) ∧ (EV 9 [Y2_0] [.i t0, .i t2, .i y2_0, .i (IntKind.wrap .i64 (t11 + 1))]))))))) ∧ (t11 ≥ 1048576 → Q 0 [R0] [.i 18446744073709551615, .b false])) → EV 9 [R0] [.i t0, .i t2, .i t8, .i t11]

theorem V132.of (W : Wk Tryz.prog Tryz.f132 I132 L132 Q A sg CE CK Dn EV RR) : V132 EV Q := by
 have hA := W.hA
 refine ⟨?_⟩
 intro R0 t0 t2 t8 t11 h
 refine W.step 80 fun hp => ?_
 have h := h hp.1
 cbv
 refine ⟨imI hA fun e0 => have j0 := h.1 (ah (op := .lss) hA e0); ⟨imI hA fun e1 => have j1 := j0.1 (ah (op := .gtr) hA e1); ⟨ndI hA hp.1, (W.q j1)⟩, imI hA fun e1 => have j1 := j0.2 (ah (op := .gtr) hA e1); ⟨ndI hA (An rfl (An rfl rfl)), ⟨ndI hA hp.1, ?_⟩⟩⟩, imI hA fun e0 => have j0 := h.2 (ah (op := .lss) hA e0); ⟨ndI hA hp.1, (W.q j0)⟩⟩
 refine W.cl j1 ?_
 rintro _ _ _ hp2 (⟨rfl, Y2_0, y2_0, rfl, rfl, k2⟩)
 cbv
 subst hA
 exact ⟨fun e3 => have j3 := k2.1 (ah (op := .leq) rfl e3); ⟨hp2.1, (W.q j3)⟩, fun e3 => have j3 := k2.2 (ah (op := .leq) rfl e3); ⟨(An j3.1 (An rfl j3.1)), ⟨hp2.1, j3.2⟩⟩⟩

theorem E132 {R0 : RW} {a0 a1 a2 : Int} (h : aB R0 = true → ∀ EV, V132 EV Q → EV 9 [R0] [.i a0, .i a2, .i a1, .i 0]) : EZ G132 [R0] [.i a0, .i a1, .i a2] Q := by
 refine ak.en (I := I132) (L := L132) KZ fun A hA CE CK Dn EV RR W hp => ?_
 have h := h hp.1 EV (V132.of W)
 cbv
 subst hA
 exact ⟨(An rfl (An rfl rfl)), ⟨hp.1, h⟩⟩

-- 95: signalbox/busy.Window
structure V95 (EV Q : EP) : Prop where
  none : True

theorem E95 {R0 : RW} {a0 a2 : Int} (h : aB R0 = true → ∀ EV, V95 EV Q → EZ G132 [R0] [.i a0, .i 1, .i (arS.mn a2 16777216)] (fun x rs vs => (x = 0 ∧ ∃ Y0_0 y0_0 y0_1, rs = [Y0_0] ∧ vs = [.i y0_0, .b y0_1] ∧ (Q 0 [Y0_0] [.i y0_0, .b y0_1])))) : EZ G95 [R0] [.i a0, .i a2] Q := by
 refine ak.en (I := I95) (L := L95) Qm fun A hA CE CK Dn EV RR W hp => ?_
 have h := h hp.1 EV ⟨trivial⟩
 cbv
 refine ⟨ndI hA (An rfl (An rfl rfl)), ⟨ndI hA hp.1, ?_⟩⟩
 refine W.cl h ?_
 rintro _ _ _ hp0 (⟨rfl, Y0_0, y0_0, y0_1, rfl, rfl, k0⟩)
 cbv
 subst hA
 exact ⟨hp0.1, (W.q k0)⟩

-- 96: signalbox/preempt.Count
structure V96 (EV Q : EP) : Prop where
  p9 : ∀ {R0 : RW} {t2 t7 t13 t14 b0 b1 b2 b3 : Int} {b4 : RW} {b5 : Int} {b6 b7 b8 b9 : RW}, (aB R0 = true → (t14 < t13 → (0 ≤ t14) ∧ (t14 < (R0.length : Int)) ∧ (R0[t14.toNat]? = some [.int .i64 (cIS R0 t14.toNat 0)]) ∧ (0 ≤ (cIS R0 t14.toNat 0)) ∧ (b8[(Int.toNat (cIS R0 t14.toNat 0))]? = some (r7 b8 (Int.toNat (cIS R0 t14.toNat 0)))) ∧ (EZ G58 [] [.i (cIS b8 (Int.toNat (cIS R0 t14.toNat 0)) 2)] (fun x rs vs => (x = 0 ∧ ∃ y1_0, rs = [] ∧ vs = [.i y1_0] ∧ (EZ G134 [] [.i t2, .i y1_0] (fun x rs vs => (x = 0 ∧ ∃ y2_0, rs = [] ∧ vs = [.i y2_0] ∧ (EZ G60 [] [.i t7, .i y2_0] (fun x rs vs => (x = 0 ∧ ∃ y3_0, rs = [] ∧ vs = [.i y3_0] ∧ (EV 9 [R0] [.i t2, .i y3_0, .i t13, .i (IntKind.wrap .i64 (t14 + 1)), .i b0, .i b1, .i b2, .i b3, .r b4, .i b5, .r b6, .r b7, .r b8, .r b9]))))))))))) ∧ (t14 ≥ t13 → Q 0 [] [.i t7])) → EV 9 [R0] [.i t2, .i t7, .i t13, .i t14, .i b0, .i b1, .i b2, .i b3, .r b4, .i b5, .r b6, .r b7, .r b8, .r b9]

theorem V96.of (W : Wk Tryz.prog Tryz.f96 I96 L96 Q A sg CE CK Dn EV RR) : V96 EV Q := by
 have hA := W.hA
 refine ⟨?_⟩
 intro R0 t2 t7 t13 t14 b0 b1 b2 b3 b4 b5 b6 b7 b8 b9 h
 refine W.step 80 fun hp => ?_
 have h := h hp.1
 cbv
 refine ⟨imI hA fun e0 => have j0 := h.1 (ah (op := .lss) hA e0); ⟨ndI hA (An j0.1 (An (hA ▸ j0.2.1) rfl)), ⟨ndI hA (An rfl (hA ▸ j0.2.2.1)), ⟨ndI hA (An (hA ▸ j0.2.2.2.1) (hA ▸ j0.2.2.2.2.1)), ?_⟩⟩⟩, imI hA fun e0 => have j0 := h.2 (ah (op := .lss) hA e0); (W.q j0)⟩
 refine W.cl j0.2.2.2.2.2 ?_
 rintro _ _ _ hp1 (⟨rfl, y1_0, rfl, rfl, k1⟩)
 cbv
 refine W.cl k1 ?_
 rintro _ _ _ hp2 (⟨rfl, y2_0, rfl, rfl, k2⟩)
 cbv
 refine W.cl k2 ?_
 rintro _ _ _ hp3 (⟨rfl, y3_0, rfl, rfl, k3⟩)
 cbv
 subst hA
 exact ⟨(An rfl (An rfl rfl)), ⟨hp.1, k3⟩⟩

theorem E96 {u0 u1 u2 u3 : Int} {u4 : RW} {u5 : Int} {u6 u7 u8 u9 : RW} {a1 a2 : Int} (h : ∀ EV, V96 EV Q → EZ G131 [] [.i u0, .i u1, .i u2, .i u3, .r u4, .i u5, .r u6, .r u7, .r u8, .r u9, .i a1] (fun x rs vs => (x = 0 ∧ ∃ Y0_0, rs = [Y0_0] ∧ vs = [] ∧ (EV 9 [Y0_0] [.i a2, .i 0, .i (Y0_0.length : Int), .i 0, .i u0, .i u1, .i u2, .i u3, .r u4, .i u5, .r u6, .r u7, .r u8, .r u9])))) : EZ G96 [] [.i u0, .i u1, .i u2, .i u3, .r u4, .i u5, .r u6, .r u7, .r u8, .r u9, .i a1, .i a2] Q := by
 refine ak.en (I := I96) (L := L96) Ql fun A hA CE CK Dn EV RR W hp => ?_
 have h := h  EV (V96.of W)
 cbv
 refine W.cl h ?_
 rintro _ _ _ hp0 (⟨rfl, Y0_0, rfl, rfl, k0⟩)
 cbv
 subst hA
 exact ⟨rfl, ⟨(An rfl (An rfl rfl)), ⟨hp0.1, k0⟩⟩⟩

-- 57: signalbox/admit.line DRAWN
structure V57 (EV Q : EP) : Prop where
  p4 : ∀ {t1 b0 b1 b2 b3 : Int} {b4 : RW} {b5 : Int} {b6 b7 b8 b9 : RW} {d0 d1 d2 d3 d4 d5 f0 f1 f2 f3 f4 f5 : Int}, (EZ G54 [] [.i b0, .i b1, .i b2, .i b3, .r b4, .i b5, .r b6, .r b7, .r b8, .r b9, .i t1] (fun x rs vs => (x = 0 ∧ ∃ Y0_0, rs = [Y0_0] ∧ vs = [] ∧ (EZ G95 [Y0_0] [.i f1, .i 16777216] (fun x rs vs => (x = 0 ∧ ∃ Y1_0 y1_0 y1_1, rs = [Y1_0] ∧ vs = [.i y1_0, .b y1_1] ∧ (EV 9 [] [.i t1, .b y1_1, .i b0, .i b1, .i b2, .i b3, .r b4, .i b5, .r b6, .r b7, .r b8, .r b9, .i d0, .i d1, .i d2, .i d3, .i d4, .i d5, .i f0, .i f1, .i y1_0, .i f3, .i f4, .i f5]))))))) → EV 4 [] [.i t1, .i b0, .i b1, .i b2, .i b3, .r b4, .i b5, .r b6, .r b7, .r b8, .r b9, .i d0, .i d1, .i d2, .i d3, .i d4, .i d5, .i f0, .i f1, .i f2, .i f3, .i f4, .i f5]
  p9 : ∀ {t1 : Int} {t6 : Bool} {b0 b1 b2 b3 : Int} {b4 : RW} {b5 : Int} {b6 b7 b8 b9 : RW} {d0 d1 d2 d3 d4 d5 f0 f1 f2 f3 f4 f5 : Int}, ((t6 = true → EZ G96 [] [.i b0, .i b1, .i b2, .i b3, .r b4, .i b5, .r b6, .r b7, .r b8, .r b9, .i t1, .i f2] (fun x rs vs => (x = 0 ∧ ∃ y1_0, rs = [] ∧ vs = [.i y1_0] ∧ (EZ G61 [] [.i y1_0, .i f4] (fun x rs vs => (x = 0 ∧ ∃ y2_0, rs = [] ∧ vs = [.i y2_0] ∧ (Q 0 [] [.i f0, .i f1, .i f2, .i y1_0, .i f4, .i y2_0]))))))) ∧ (t6 = false → Q 0 [] [.i f0, .i f1, .i f2, .i f3, .i f4, .i f5])) → EV 9 [] [.i t1, .b t6, .i b0, .i b1, .i b2, .i b3, .r b4, .i b5, .r b6, .r b7, .r b8, .r b9, .i d0, .i d1, .i d2, .i d3, .i d4, .i d5, .i f0, .i f1, .i f2, .i f3, .i f4, .i f5]

theorem V57.of (W : Wk Tryz.prog Tryz.f57 I57 L57 Q A sg CE CK Dn EV RR) : V57 EV Q := by
 have hA := W.hA
 refine ⟨?_, ?_⟩
 ·intro t1 b0 b1 b2 b3 b4 b5 b6 b7 b8 b9 d0 d1 d2 d3 d4 d5 f0 f1 f2 f3 f4 f5 h
  refine W.step 80 fun hp => ?_
  cbv
  refine ⟨⟨?_, trivial⟩, ⟨?_, trivial⟩⟩
  ·refine W.cd h ?_
   rintro _ _ _ hp0 (⟨rfl, Y0_0, rfl, rfl, k0⟩)
   cbv
   refine W.draw 80 (by rfl) ?_
   cbv
   refine ⟨⟨ndI hA (An rfl (An rfl rfl)), ⟨ndI hA hp0.1, ?_⟩⟩, trivial⟩
   refine W.cd k0 ?_
   rintro _ _ _ hp1 (⟨rfl, Y1_0, y1_0, y1_1, rfl, rfl, k1⟩)
   cbv
   refine W.draw 80 (by rfl) ?_
   cbv
   subst hA
   exact ⟨k1, trivial⟩
  ·refine W.cd h ?_
   rintro _ _ _ hp0 (⟨rfl, Y0_0, rfl, rfl, k0⟩)
   cbv
   refine W.draw 80 (by rfl) ?_
   cbv
   refine ⟨⟨⟨ndI hA (An rfl (An rfl rfl)), ⟨ndI hA hp0.1, ?_⟩⟩, trivial⟩, trivial⟩
   refine W.cd k0 ?_
   rintro _ _ _ hp1 (⟨rfl, Y1_0, y1_0, y1_1, rfl, rfl, k1⟩)
   cbv
   refine W.draw 80 (by rfl) ?_
   cbv
   subst hA
   exact ⟨k1, trivial⟩
 ·intro t1 t6 b0 b1 b2 b3 b4 b5 b6 b7 b8 b9 d0 d1 d2 d3 d4 d5 f0 f1 f2 f3 f4 f5 h
  refine W.step 80 fun hp => ?_
  cbv
  refine ⟨imI hA fun e0 => have j0 := h.1 e0; ?_, imI hA fun e0 => have j0 := h.2 e0; (W.q j0)⟩
  refine W.cl j0 ?_
  rintro _ _ _ hp1 (⟨rfl, y1_0, rfl, rfl, k1⟩)
  cbv
  refine W.cl k1 ?_
  rintro _ _ _ hp2 (⟨rfl, y2_0, rfl, rfl, k2⟩)
  cbv
  subst hA
  exact (W.q k2)

theorem E57 {u0 u1 u2 u3 : Int} {u4 : RW} {u5 : Int} {u6 u7 u8 u9 : RW} {a1 : Int} (h : ∀ EV, V57 EV Q → ∃ y0a0 y0a1, EZ G59 [] [.i u0, .i u1, .i u2, .i u3, .r u4, .i u5, .r u6, .r u7, .r u8, .r u9, .i a1] (fun x rs vs => x = 0 ∧ rs = [] ∧ vs = [.i y0a0, .i y0a1]) ∧ (∃ y1_0, EZ G93 [] [.i u0, .i u1, .i u2, .i u3, .r u4, .i u5, .r u6, .r u7, .r u8, .r u9, .i a1] (fun x rs vs => x = 0 ∧ rs = [] ∧ vs = [.i y1_0]) ∧ (∃ y2_0, EZ G94 [] [.i u0, .i u1, .i u2, .i u3, .r u4, .i u5, .r u6, .r u7, .r u8, .r u9, .i a1] (fun x rs vs => x = 0 ∧ rs = [] ∧ vs = [.i y2_0]) ∧ (∃ y3_0, EZ G58 [] [.i y2_0] (fun x rs vs => x = 0 ∧ rs = [] ∧ vs = [.i y3_0]) ∧ (EV 4 [] [.i a1, .i u0, .i u1, .i u2, .i u3, .r u4, .i u5, .r u6, .r u7, .r u8, .r u9, .i 0, .i 0, .i 0, .i 0, .i 0, .i 0, .i y0a0, .i y1_0, .i 0, .i 18446744073709551615, .i y3_0, .i 18446744073709551615]))))) : EZ G57 [] [.i u0, .i u1, .i u2, .i u3, .r u4, .i u5, .r u6, .r u7, .r u8, .r u9, .i a1] Q := by
 refine ak.en (I := I57) (L := L57) QW fun A hA CE CK Dn EV RR W hp => ?_
 have h := h  EV (V57.of W)
 cbv
 obtain ⟨y0a0, y0a1, he0, hk0⟩ := h
 refine ⟨(AV.agg [.int .u64 y0a0, .int .u64 y0a1]), ?_⟩
 cbv
 refine ⟨?_, ?_⟩
 · refine W.cd he0 ?_
   rintro _ _ _ _ ⟨rfl, rfl, rfl⟩
   cbv
   try first | exact ⟨rfl, rfl⟩ | rfl
 refine W.draw 80 (by rfl) ?_
 cbv
 obtain ⟨y1_0, he1, hk1⟩ := hk0
 refine ⟨(AV.int .u64 y1_0), ?_⟩
 cbv
 refine ⟨?_, ?_⟩
 · refine W.cd he1 ?_
   rintro _ _ _ _ ⟨rfl, rfl, rfl⟩
   cbv
   try first | exact ⟨rfl, rfl⟩ | rfl
 refine W.draw 80 (by rfl) ?_
 cbv
 obtain ⟨y2_0, he2, hk2⟩ := hk1
 refine ⟨(AV.int .i64 y2_0), ?_⟩
 cbv
 refine ⟨?_, ?_⟩
 · refine W.cd he2 ?_
   rintro _ _ _ _ ⟨rfl, rfl, rfl⟩
   cbv
   try first | exact ⟨rfl, rfl⟩ | rfl
 refine W.draw 80 (by rfl) ?_
 cbv
 obtain ⟨y3_0, he3, hk3⟩ := hk2
 refine ⟨(AV.int .u64 y3_0), ?_⟩
 cbv
 refine ⟨?_, ?_⟩
 · refine W.cd he3 ?_
   rintro _ _ _ _ ⟨rfl, rfl, rfl⟩
   cbv
   try first | exact ⟨rfl, rfl⟩ | rfl
 refine W.draw 80 (by rfl) ?_
 cbv
 subst hA
 exact ⟨⟨hk3, trivial⟩, trivial⟩

-- 16: signalbox/admit.Analyse DRAWN
structure V16 (EV Q : EP) : Prop where
  p19 : ∀ {R0 R1 : RW} {t6 : Int} {t20 : RW} {t21 t22 b0 b1 b2 b3 : Int} {b4 : RW} {b5 : Int} {b6 b7 b8 b9 : RW} {tb1 tb2 : Int}, (aB R0 = true → aB R1 = true → (t22 < t21 → (0 ≤ t22) ∧ (t20[t22.toNat]? = some (r7 t20 t22.toNat)) ∧ (EZ G57 [] [.i b0, .i b1, .i b2, .i b3, .r b4, .i b5, .r b6, .r b7, .r b8, .r b9, .i t22] (fun x rs vs => (x = 0 ∧ ∃ y1a0 y1a1 y1a2 y1a3 y1a4 y1a5, rs = [] ∧ vs = [.i y1a0, .i y1a1, .i y1a2, .i y1a3, .i y1a4, .i y1a5] ∧ (EZ G58 [] [.i (cIS t20 t22.toNat 3)] (fun x rs vs => (x = 0 ∧ ∃ y2_0, rs = [] ∧ vs = [.i y2_0] ∧ ((y1a2 > y2_0 → ((R1.length + 1) ≤ 140737488355328) ∧ (((R1.length + 1) * 48) ≤ 140737488355328) ∧ (EV 19 [R0, (R1 ++ [[(AV.int .u64 y1a0), (AV.int .u64 y1a1), (AV.int .u64 y1a2), (AV.int .u64 y1a3), (AV.int .u64 y1a4), (AV.int .u64 y1a5)]])] [.i 12, .r t20, .i t21, .i (IntKind.wrap .i64 (t22 + 1)), .i b0, .i b1, .i b2, .i b3, .r b4, .i b5, .r b6, .r b7, .r b8, .r b9, .i tb1, .i tb2])) ∧ (y1a2 ≤ y2_0 → ((R1.length + 1) ≤ 140737488355328) ∧ (((R1.length + 1) * 48) ≤ 140737488355328) ∧ (EV 19 [R0, (R1 ++ [[(AV.int .u64 y1a0), (AV.int .u64 y1a1), (AV.int .u64 y1a2), (AV.int .u64 y1a3), (AV.int .u64 y1a4), (AV.int .u64 y1a5)]])] [.i t6, .r t20, .i t21, .i (IntKind.wrap .i64 (t22 + 1)), .i b0, .i b1, .i b2, .i b3, .r b4, .i b5, .r b6, .r b7, .r b8, .r b9, .i tb1, .i tb2])))))))))) ∧ (t22 ≥ t21 → Q 0 [] [.r (List.take R1.length (List.drop 0 R1)), .i tb2, .i t6])) → EV 19 [R0, R1] [.i t6, .r t20, .i t21, .i t22, .i b0, .i b1, .i b2, .i b3, .r b4, .i b5, .r b6, .r b7, .r b8, .r b9, .i tb1, .i tb2]

theorem V16.of (W : Wk Tryz.prog Tryz.f16 I16 L16 Q A sg CE CK Dn EV RR) : V16 EV Q := by
 have hA := W.hA
 refine ⟨?_⟩
 intro R0 R1 t6 t20 t21 t22 b0 b1 b2 b3 b4 b5 b6 b7 b8 b9 tb1 tb2 h
 refine W.step 80 fun hp => ?_
 have h := h hp.1 hp.2.1
 cbv
 refine ⟨imI hA fun e0 => have j0 := h.1 (ah (op := .lss) hA e0); ⟨ndI hA (An j0.1 (hA ▸ j0.2.1)), ?_⟩, imI hA fun e0 => have j0 := h.2 (ah (op := .lss) hA e0); ⟨ndI hA (An (An hp.1 (An hp.2.1 trivial)) (An (An rfl trivial) trivial)), ⟨ndI hA (An (An rfl trivial) (An (An rfl trivial) trivial)), (W.q (hA ▸ j0))⟩⟩⟩
 refine W.cl j0.2.2 ?_
 rintro _ _ _ hp1 (⟨rfl, y1a0, y1a1, y1a2, y1a3, y1a4, y1a5, rfl, rfl, k1⟩)
 cbv
 refine ⟨?_, trivial⟩
 refine W.cd k1 ?_
 rintro _ _ _ hp2 (⟨rfl, y2_0, rfl, rfl, k2⟩)
 cbv
 refine W.draw 80 (by rfl) ?_
 cbv
 subst hA
 exact ⟨fun e3 => have j3 := k2.1 (ah (op := .gtr) rfl e3); ⟨(An rfl (An (Nat.le_refl _) (An j3.1 j3.2.1))), ⟨(An rfl (An rfl rfl)), ⟨(An rfl (An rfl (by show (R1.length + 1) = (List.length (aP R1 R1.length [[(AV.int .u64 y1a0), (AV.int .u64 y1a1), (AV.int .u64 y1a2), (AV.int .u64 y1a3), (AV.int .u64 y1a4), (AV.int .u64 y1a5)]])); (first | rfl | simp [af] | (simp [af]; omega))))), ⟨hp.1, ⟨((fA hp.2.1 aQ)), (by show EV 19 [R0, (aP R1 R1.length [[(AV.int .u64 y1a0), (AV.int .u64 y1a1), (AV.int .u64 y1a2), (AV.int .u64 y1a3), (AV.int .u64 y1a4), (AV.int .u64 y1a5)]])] [.i 12, .r t20, .i t21, .i (IntKind.wrap .i64 (t22 + 1)), .i b0, .i b1, .i b2, .i b3, .r b4, .i b5, .r b6, .r b7, .r b8, .r b9, .i tb1, .i tb2]; (try simp only [af, Nat.zero_add, Int.toNat_natCast]); exact j3.2.2)⟩⟩⟩⟩⟩, fun e3 => have j3 := k2.2 (ah (op := .gtr) rfl e3); ⟨(An rfl (An (Nat.le_refl _) (An j3.1 j3.2.1))), ⟨(An rfl (An rfl rfl)), ⟨(An rfl (An rfl (by show (R1.length + 1) = (List.length (aP R1 R1.length [[(AV.int .u64 y1a0), (AV.int .u64 y1a1), (AV.int .u64 y1a2), (AV.int .u64 y1a3), (AV.int .u64 y1a4), (AV.int .u64 y1a5)]])); (first | rfl | simp [af] | (simp [af]; omega))))), ⟨hp.1, ⟨((fA hp.2.1 aQ)), (by show EV 19 [R0, (aP R1 R1.length [[(AV.int .u64 y1a0), (AV.int .u64 y1a1), (AV.int .u64 y1a2), (AV.int .u64 y1a3), (AV.int .u64 y1a4), (AV.int .u64 y1a5)]])] [.i t6, .r t20, .i t21, .i (IntKind.wrap .i64 (t22 + 1)), .i b0, .i b1, .i b2, .i b3, .r b4, .i b5, .r b6, .r b7, .r b8, .r b9, .i tb1, .i tb2]; (try simp only [af, Nat.zero_add, Int.toNat_natCast]); exact j3.2.2)⟩⟩⟩⟩⟩⟩

theorem E16 {u0 u1 u2 u3 : Int} {u4 : RW} {u5 : Int} {u6 u7 u8 u9 : RW} (h : ∀ EV, V16 EV Q → EZ G55 [] [.i u0, .i u1, .i u2, .i u3, .r u4, .i u5, .r u6, .r u7, .r u8, .r u9] (fun x rs vs => (x = 0 ∧ ∃ y0_0, rs = [] ∧ vs = [.i y0_0] ∧ ((y0_0 ≠ 0 → Q 0 [] [.r [], .i 0, .i y0_0]) ∧ (y0_0 = 0 → EZ G56 [] [.i u0, .i u1, .i u2, .i u3, .r u4, .i u5, .r u6, .r u7, .r u8, .r u9] (fun x rs vs => (x = 0 ∧ ∃ y2_0, rs = [] ∧ vs = [.i y2_0] ∧ (EV 19 [[], []] [.i 0, .r u8, .i (u8.length : Int), .i 0, .i u0, .i u1, .i u2, .i u3, .r u4, .i u5, .r u6, .r u7, .r u8, .r u9, .i 0, .i y2_0])))))))) : EZ G16 [] [.i u0, .i u1, .i u2, .i u3, .r u4, .i u5, .r u6, .r u7, .r u8, .r u9] Q := by
 refine ak.en (I := I16) (L := L16) Sm fun A hA CE CK Dn EV RR W hp => ?_
 have h := h  EV (V16.of W)
 cbv
 refine W.cl h ?_
 rintro _ _ _ hp0 (⟨rfl, y0_0, rfl, rfl, k0⟩)
 cbv
 refine ⟨imI hA fun e1 => have j1 := k0.1 (ah (op := .neq) hA e1); (W.q j1), imI hA fun e1 => have j1 := k0.2 (ah (op := .neq) hA e1); ?_⟩
 refine W.cl j1 ?_
 rintro _ _ _ hp2 (⟨rfl, y2_0, rfl, rfl, k2⟩)
 cbv
 subst hA
 exact ⟨(An rfl (An rfl rfl)), ⟨(An rfl (An rfl rfl)), ⟨aQ, ⟨aQ, k2⟩⟩⟩⟩

-- 17: signalbox/admit.Used DRAWN
structure V19 (EV Q : EP) : Prop where
  none : True

theorem E19 {u0 u1 u2 u3 : Int} {u4 : RW} {u5 : Int} {u6 u7 u8 u9 : RW} (h : ∀ EV, V19 EV Q → EZ G16 [] [.i u0, .i u1, .i u2, .i u3, .r u4, .i u5, .r u6, .r u7, .r u8, .r u9] (fun x rs vs => (x = 0 ∧ ∃ y0a0 y0a1 y0_1, rs = [] ∧ vs = [.r y0a0, .i y0a1, .i y0_1] ∧ (Q 0 [] [.b (y0_1 == 0)])))) : EZ G19 [] [.i u0, .i u1, .i u2, .i u3, .r u4, .i u5, .r u6, .r u7, .r u8, .r u9] Q := by
 refine ak.en (I := I19) (L := L19) Si fun A hA CE CK Dn EV RR W hp => ?_
 have h := h  EV ⟨trivial⟩
 cbv
 refine W.cl h ?_
 rintro _ _ _ hp0 (⟨rfl, y0a0, y0a1, y0_1, rfl, rfl, k0⟩)
 cbv
 subst hA
 exact (W.q k0)

-- 110: signalbox/signalboxref09.clamp
end Go.Ab
