import Derived.Test.YtlakbkdhdgicfaaGreatQS
import Derived.Test.YtlakbkdhdgicfaaGreatLayE
/- PRINTED BY A PROGRAM (wip/tools/vc.py, AbVc.lean): what is to be shown of each function, from place to place, and that it is enough. -/
namespace Go.Ab
open Go Go.Proofs
set_option linter.unusedVariables false
set_option linter.unusedSimpArgs false
set_option maxRecDepth 100000
set_option maxHeartbeats 0
variable {Q EV RR : EP} {A : Ar} {CE : Nat → Rs → List Lf → EP → Prop} {CK : Nat → Rs → List Lf → Cont → Prop} {Dn : Nat → List Bool → List bf → Nat → List Bool → List AV → List aj → Prop}

-- 53: signalbox/signalboxlaw28.one
structure V78 (EV Q : EP) : Prop where
  none : True

theorem E78 {a0 : RW} (h : ∀ EV, V78 EV Q → ((a0.length : Int) = 0 → Q 0 [[]] []) ∧ (a0.length ≤ 140737488355328) ∧ ((a0.length * 72) ≤ 140737488355328) ∧ (aB a0 = true) ∧ (Q 0 [a0] [])) : EZ G78 [] [.r a0] Q := by
 refine ak.en (I := I78) (L := L78) QD fun A hA CE CK Dn EV RR W hp => ?_
 have h := h  EV ⟨trivial⟩
 cbv
 subst hA
 exact ⟨fun e0 => have j0 := h.1 ((ah (op := .eql) rfl e0)); ⟨(An rfl (An rfl rfl)), ⟨aQ, (W.q j0)⟩⟩, ⟨(An h.2.1 h.2.2.1), ⟨(An rfl (An rfl rfl)), ⟨h.2.2.2.1, (W.q h.2.2.2.2)⟩⟩⟩⟩

-- 74a: signalbox/floating.is
structure V79 (EV Q : EP) : Prop where
  none : True

theorem E79  (h : ∀ EV, V79 EV Q → Q 0 [[[(AV.int .i64 1), (AV.int .i64 1), (AV.int .i64 10), (AV.int .i64 10), (AV.int .i64 0), (AV.int .i64 0), (AV.inl 3 [[(AV.int .i64 1), (AV.int .i64 5), (AV.int .i64 0)]])]]] [.i 1, .i 1, .i 1, .i 5, .i 0]) : EZ G79 [] [] Q := by
 refine ak.en (I := I79) (L := L79) QC fun A hA CE CK Dn EV RR W hp => ?_
 have h := h  EV ⟨trivial⟩
 cbv
 subst hA
 exact ⟨(An rfl (An rfl rfl)), ⟨aQ, (W.q h)⟩⟩

-- 41: signalbox/assign.Least
structure V41 (EV Q : EP) : Prop where
  p9 : ∀ {R0 t7 : RW} {t8 t9 : Int}, (aB R0 = true → (t9 < t8 → (0 ≤ t9) ∧ (t7[t9.toNat]? = some (r7 t7 t9.toNat)) ∧ ((R0.length + (List.length (List.take 1 (List.drop 0 [[(AV.int .i64 (cIS t7 t9.toNat 0))]])))) ≤ 140737488355328) ∧ (((R0.length + (List.length (List.take 1 (List.drop 0 [[(AV.int .i64 (cIS t7 t9.toNat 0))]])))) * 8) ≤ 140737488355328) ∧ (EV 9 [(R0 ++ (List.take 1 (List.drop 0 [[(AV.int .i64 (cIS t7 t9.toNat 0))]])))] [.r t7, .i t8, .i (IntKind.wrap .i64 (t9 + 1))])) ∧ (t9 ≥ t8 → Q 0 [R0] [])) → EV 9 [R0] [.r t7, .i t8, .i t9]

theorem V41.of (W : Wk Tryz.prog Tryz.f41 I41 L41 Q A sg CE CK Dn EV RR) : V41 EV Q := by
 have hA := W.hA
 refine ⟨?_⟩
 intro R0 t7 t8 t9 h
 refine W.step 80 fun hp => ?_
 have h := h hp.1
 cbv
 subst hA
 exact ⟨fun e0 => have j0 := h.1 (ah (op := .lss) rfl e0); ⟨(An j0.1 j0.2.1), ⟨(An rfl (by show (0 + 1) ≤ 1; (first | rfl | simp [af] | (simp [af]; omega)))), ⟨(An rfl (An (Nat.le_refl _) (An j0.2.2.1 j0.2.2.2.1))), ⟨(An rfl (An rfl (by show (R0.length + (List.length (List.take 1 (List.drop 0 [[(AV.int .i64 (cIS t7 t9.toNat 0))]])))) = (List.length (aP R0 R0.length (List.take 1 (List.drop 0 [[(AV.int .i64 (cIS t7 t9.toNat 0))]])))); (first | rfl | simp [af] | (simp [af]; omega))))), ⟨((fA hp.1 (dw (dA aQ)))), (by show EV 9 [(aP R0 R0.length (List.take 1 (List.drop 0 [[(AV.int .i64 (cIS t7 t9.toNat 0))]])))] [.r t7, .i t8, .i (IntKind.wrap .i64 (t9 + 1))]; (try simp only [af, Nat.zero_add, Int.toNat_natCast]); exact j0.2.2.2.2)⟩⟩⟩⟩⟩, fun e0 => have j0 := h.2 (ah (op := .lss) rfl e0); ⟨(An rfl (An rfl rfl)), ⟨hp.1, (W.q j0)⟩⟩⟩

theorem E41 {u0 u1 u2 u3 : Int} {u4 : RW} {u5 : Int} {u6 u7 u8 u9 : RW} (h : ∀ EV, V41 EV Q → EV 9 [[]] [.r u8, .i (u8.length : Int), .i 0]) : EZ G41 [] [.i u0, .i u1, .i u2, .i u3, .r u4, .i u5, .r u6, .r u7, .r u8, .r u9] Q := by
 refine ak.en (I := I41) (L := L41) Ro fun A hA CE CK Dn EV RR W hp => ?_
 have h := h  EV (V41.of W)
 cbv
 subst hA
 exact ⟨(An rfl (An rfl rfl)), ⟨aQ, h⟩⟩

-- 38: signalbox/assign.With
structure V38 (EV Q : EP) : Prop where
  p17 : ∀ {R0 R1 R2 R3 R4 R5 t20 : RW} {t21 t22 b0 b1 b2 b3 : Int} {b4 : RW} {b5 : Int} {b6 b7 b8 : RW} {d0 d1 d2 d3 d4 : Int}, (aB R0 = true → aB R1 = true → aB R2 = true → aB R3 = true → aB R4 = true → aB R5 = true → (t22 < t21 → (0 ≤ t22) ∧ (t20[t22.toNat]? = some [.int .i64 (cIS t20 t22.toNat 0)]) ∧ (t22 < (R0.length : Int)) ∧ (R0[t22.toNat]? = some (r7 R0 t22.toNat)) ∧ (EV 17 [(List.set R0 t22.toNat [.int .i64 (cIS R0 t22.toNat 0), .int .i64 (cIS t20 t22.toNat 0), .int .i64 (cIS R0 t22.toNat 2), .int .i64 (cIS R0 t22.toNat 3), .int .i64 (cIS R0 t22.toNat 4), .int .i64 (cIS R0 t22.toNat 5), .inl 3 (cRS R0 t22.toNat 6)]), R1, R2, R3, R4, R5] [.r t20, .i t21, .i (IntKind.wrap .i64 (t22 + 1)), .i b0, .i b1, .i b2, .i b3, .r b4, .i b5, .r b6, .r b7, .r b8, .i d0, .i d1, .i d2, .i d3, .i d4])) ∧ (t22 ≥ t21 → EZ G55 [] [.i b0, .i b1, .i b2, .i b3, .r b4, .i b5, .r b6, .r b7, .r (List.take R0.length (List.drop 0 R0)), .r b8] (fun x rs vs => (x = 0 ∧ ∃ y1_0, rs = [] ∧ vs = [.i y1_0] ∧ ((y1_0 ≠ 0 → Q 0 [] [.i 0, .i 0, .i 0, .i 0, .r [], .i 0, .r [], .r [], .r [], .r [], .i y1_0]) ∧ (y1_0 = 0 → Q 0 [] [.i b0, .i b1, .i b2, .i b3, .r b4, .i b5, .r b6, .r b7, .r (List.take R0.length (List.drop 0 R0)), .r b8, .i 0])))))) → EV 17 [R0, R1, R2, R3, R4, R5] [.r t20, .i t21, .i t22, .i b0, .i b1, .i b2, .i b3, .r b4, .i b5, .r b6, .r b7, .r b8, .i d0, .i d1, .i d2, .i d3, .i d4]

theorem V38.of (W : Wk Tryz.prog Tryz.f38 I38 L38 Q A sg CE CK Dn EV RR) : V38 EV Q := by
 have hA := W.hA
 refine ⟨?_⟩
 intro R0 R1 R2 R3 R4 R5 t20 t21 t22 b0 b1 b2 b3 b4 b5 b6 b7 b8 d0 d1 d2 d3 d4 h
 refine W.step 80 fun hp => ?_
 have h := h hp.1 hp.2.1 hp.2.2.1 hp.2.2.2.1 hp.2.2.2.2.1 hp.2.2.2.2.2.1
 cbv
 refine ⟨imI hA fun e0 => have j0 := h.1 (ah (op := .lss) hA e0); ⟨ndI hA (An j0.1 (hA ▸ j0.2.1)), ⟨ndI hA (An j0.1 (An (hA ▸ j0.2.2.1) rfl)), ⟨ndI hA (An rfl (hA ▸ j0.2.2.2.1)), ⟨ndI hA (An (by subst hA; show R0.length = (List.length (List.set R0 t22.toNat [.int .i64 (cIS R0 t22.toNat 0), .int .i64 (cIS t20 t22.toNat 0), .int .i64 (cIS R0 t22.toNat 2), .int .i64 (cIS R0 t22.toNat 3), .int .i64 (cIS R0 t22.toNat 4), .int .i64 (cIS R0 t22.toNat 5), .inl 3 (cRS R0 t22.toNat 6)])); (first | rfl | simp [af] | (simp [af]; omega))) (An rfl (by subst hA; show R0.length = (List.length (List.set R0 t22.toNat [.int .i64 (cIS R0 t22.toNat 0), .int .i64 (cIS t20 t22.toNat 0), .int .i64 (cIS R0 t22.toNat 2), .int .i64 (cIS R0 t22.toNat 3), .int .i64 (cIS R0 t22.toNat 4), .int .i64 (cIS R0 t22.toNat 5), .inl 3 (cRS R0 t22.toNat 6)])); (first | rfl | simp [af] | (simp [af]; omega))))), ⟨ndI hA (An rfl (An rfl rfl)), ⟨ndI hA (An rfl (An rfl rfl)), ⟨ndI hA (An rfl (An rfl rfl)), ⟨ndI hA (An rfl (An rfl rfl)), ⟨ndI hA (An rfl (An rfl rfl)), ⟨ndI hA (hA ▸ (dU hp.1 rfl)), ⟨ndI hA hp.2.1, ⟨ndI hA hp.2.2.1, ⟨ndI hA hp.2.2.2.1, ⟨ndI hA hp.2.2.2.2.1, ⟨ndI hA hp.2.2.2.2.2.1, (hA ▸ j0.2.2.2.2)⟩⟩⟩⟩⟩⟩⟩⟩⟩⟩⟩⟩⟩⟩⟩, imI hA fun e0 => have j0 := h.2 (ah (op := .lss) hA e0); ⟨ndI hA (An (An hp.1 (An hp.2.1 (An hp.2.2.1 (An hp.2.2.2.1 (An hp.2.2.2.2.1 (An hp.2.2.2.2.2.1 trivial)))))) (An (An rfl trivial) trivial)), ⟨ndI hA (An (An rfl trivial) trivial), ?_⟩⟩⟩
 refine W.cl j0 ?_
 rintro _ _ _ hp1 (⟨rfl, y1_0, rfl, rfl, k1⟩)
 cbv
 subst hA
 exact ⟨fun e2 => have j2 := k1.1 (ah (op := .neq) rfl e2); (W.q j2), fun e2 => have j2 := k1.2 (ah (op := .neq) rfl e2); (W.q j2)⟩

theorem E38 {u0 u1 u2 u3 : Int} {u4 : RW} {u5 : Int} {u6 u7 u8 u9 a1 : RW} (h : ∀ EV, V38 EV Q → ((a1.length : Int) ≠ (u8.length : Int) → Q 0 [] [.i 0, .i 0, .i 0, .i 0, .r [], .i 0, .r [], .r [], .r [], .r [], .i 1]) ∧ ((a1.length : Int) = (u8.length : Int) → EZ G78 [] [.r u8] (fun x rs vs => (x = 0 ∧ ∃ Y1_0, rs = [Y1_0] ∧ vs = [] ∧ (EV 17 [Y1_0, [], [], [], [], []] [.r a1, .i (a1.length : Int), .i 0, .i u0, .i u1, .i u2, .i u3, .r u4, .i u5, .r u6, .r u7, .r u9, .i 0, .i 0, .i 0, .i 0, .i 0]))))) : EZ G38 [] [.i u0, .i u1, .i u2, .i u3, .r u4, .i u5, .r u6, .r u7, .r u8, .r u9, .r a1] Q := by
 refine ak.en (I := I38) (L := L38) Ru fun A hA CE CK Dn EV RR W hp => ?_
 have h := h  EV (V38.of W)
 cbv
 refine ⟨imI hA fun e0 => have j0 := h.1 (by subst hA; exact (ah (op := .neq) rfl e0)); (W.q j0), imI hA fun e0 => have j0 := h.2 (by subst hA; exact (ah (op := .neq) rfl e0)); ?_⟩
 refine W.cl j0 ?_
 rintro _ _ _ hp1 (⟨rfl, Y1_0, rfl, rfl, k1⟩)
 cbv
 subst hA
 exact ⟨(An rfl (An rfl rfl)), ⟨(An rfl (An rfl rfl)), ⟨(An rfl (An rfl rfl)), ⟨(An rfl (An rfl rfl)), ⟨(An rfl (An rfl rfl)), ⟨(An rfl (An rfl rfl)), ⟨hp1.1, ⟨aQ, ⟨aQ, ⟨aQ, ⟨aQ, ⟨aQ, k1⟩⟩⟩⟩⟩⟩⟩⟩⟩⟩⟩⟩

-- 39: signalbox/assign.Passes
structure V39 (EV Q : EP) : Prop where
  none : True

theorem E39 {u0 u1 u2 u3 : Int} {u4 : RW} {u5 : Int} {u6 u7 u8 u9 a1 : RW} (h : ∀ EV, V39 EV Q → EZ G38 [] [.i u0, .i u1, .i u2, .i u3, .r u4, .i u5, .r u6, .r u7, .r u8, .r u9, .r a1] (fun x rs vs => (x = 0 ∧ ∃ y0a0 y0a1 y0a2 y0a3 y0a4 y0a5 y0a6 y0a7 y0a8 y0a9 y0_1, rs = [] ∧ vs = [.i y0a0, .i y0a1, .i y0a2, .i y0a3, .r y0a4, .i y0a5, .r y0a6, .r y0a7, .r y0a8, .r y0a9, .i y0_1] ∧ ((y0_1 = 0 → EZ G19 [] [.i y0a0, .i y0a1, .i y0a2, .i y0a3, .r y0a4, .i y0a5, .r y0a6, .r y0a7, .r y0a8, .r y0a9] (fun x rs vs => (x = 0 ∧ ∃ y2_0, rs = [] ∧ vs = [.b y2_0] ∧ (Q 0 [] [.b y2_0])))) ∧ (y0_1 ≠ 0 → Q 0 [] [.b false]))))) : EZ G39 [] [.i u0, .i u1, .i u2, .i u3, .r u4, .i u5, .r u6, .r u7, .r u8, .r u9, .r a1] Q := by
 refine ak.en (I := I39) (L := L39) Rq fun A hA CE CK Dn EV RR W hp => ?_
 have h := h  EV ⟨trivial⟩
 cbv
 refine W.cl h ?_
 rintro _ _ _ hp0 (⟨rfl, y0a0, y0a1, y0a2, y0a3, y0a4, y0a5, y0a6, y0a7, y0a8, y0a9, y0_1, rfl, rfl, k0⟩)
 cbv
 refine ⟨imI hA fun e1 => have j1 := k0.1 (ah (op := .eql) hA e1); ?_, imI hA fun e1 => have j1 := k0.2 (ah (op := .eql) hA e1); (W.q j1)⟩
 refine W.cl j1 ?_
 rintro _ _ _ hp2 (⟨rfl, y2_0, rfl, rfl, k2⟩)
 cbv
 subst hA
 exact (W.q k2)

-- 111: signalbox/assign.steps DRAWN
structure V111 (EV Q : EP) : Prop where
  p9 : ∀ {R0 : RW} {t1 : Int} {t10 : RW} {t11 t12 b0 b1 b2 b3 : Int} {b4 : RW} {b5 : Int} {b6 b7 b8 b9 : RW}, (aB R0 = true → (t12 < t11 → (0 ≤ t12) ∧ (t10[t12.toNat]? = some (r7 t10 t12.toNat)) ∧ (0 ≤ t1) ∧ (b8[t1.toNat]? = some (r7 b8 t1.toNat)) ∧ ((cIS t10 t12.toNat 0) > (cIS b8 t1.toNat 0) → ((R0.length + (List.length (List.take 1 (List.drop 0 [[(AV.int .i64 (IntKind.wrap .i64 ((cIS t10 t12.toNat 0) - 1)))]])))) ≤ 140737488355328) ∧ (((R0.length + (List.length (List.take 1 (List.drop 0 [[(AV.int .i64 (IntKind.wrap .i64 ((cIS t10 t12.toNat 0) - 1)))]])))) * 8) ≤ 140737488355328) ∧ (EV 9 [(R0 ++ (List.take 1 (List.drop 0 [[(AV.int .i64 (IntKind.wrap .i64 ((cIS t10 t12.toNat 0) - 1)))]])))] [.i t1, .r t10, .i t11, .i (IntKind.wrap .i64 (t12 + 1)), .i b0, .i b1, .i b2, .i b3, .r b4, .i b5, .r b6, .r b7, .r b8, .r b9])) ∧ ((cIS t10 t12.toNat 0) ≤ (cIS b8 t1.toNat 0) → EV 9 [R0] [.i t1, .r t10, .i t11, .i (IntKind.wrap .i64 (t12 + 1)), .i b0, .i b1, .i b2, .i b3, .r b4, .i b5, .r b6, .r b7, .r b8, .r b9])) ∧ (t12 ≥ t11 → EZ G144 [R0] [] (fun x rs vs => (x = 0 ∧ ∃ Y1_0, rs = [Y1_0] ∧ vs = [] ∧ ((R0.length = Y1_0.length) ∧ (Q 0 [Y1_0] [])))))) → EV 9 [R0] [.i t1, .r t10, .i t11, .i t12, .i b0, .i b1, .i b2, .i b3, .r b4, .i b5, .r b6, .r b7, .r b8, .r b9]

theorem V111.of (W : Wk Tryz.prog Tryz.f111 I111 L111 Q A sg CE CK Dn EV RR) : V111 EV Q := by
 have hA := W.hA
 refine ⟨?_⟩
 intro R0 t1 t10 t11 t12 b0 b1 b2 b3 b4 b5 b6 b7 b8 b9 h
 refine W.step 80 fun hp => ?_
 have h := h hp.1
 cbv
 refine ⟨imI hA fun e0 => have j0 := h.1 (ah (op := .lss) hA e0); ⟨ndI hA (An j0.1 (hA ▸ j0.2.1)), ⟨ndI hA (An j0.2.2.1 (hA ▸ j0.2.2.2.1)), ⟨imI hA fun e1 => have j1 := j0.2.2.2.2.1 (by subst hA; exact (ah (op := .gtr) rfl e1)); ⟨ndI hA (An (hA ▸ rfl) (by subst hA; show (0 + 1) ≤ 1; (first | rfl | simp [af] | (simp [af]; omega)))), ⟨ndI hA (An rfl (An (Nat.le_refl _) (An (hA ▸ j1.1) (hA ▸ j1.2.1)))), ⟨ndI hA (An rfl (An rfl (by subst hA; show (R0.length + (List.length (List.take 1 (List.drop 0 [[(AV.int .i64 (IntKind.wrap .i64 ((cIS t10 t12.toNat 0) - 1)))]])))) = (List.length (aP R0 R0.length (List.take 1 (List.drop 0 [[(AV.int .i64 (IntKind.wrap .i64 ((cIS t10 t12.toNat 0) - 1)))]])))); (first | rfl | simp [af] | (simp [af]; omega))))), ⟨ndI hA (hA ▸ (fA hp.1 (dw (dA aQ)))), (by subst hA; show EV 9 [(aP R0 R0.length (List.take 1 (List.drop 0 [[(AV.int .i64 (IntKind.wrap .i64 ((cIS t10 t12.toNat 0) - 1)))]])))] [.i t1, .r t10, .i t11, .i (IntKind.wrap .i64 (t12 + 1)), .i b0, .i b1, .i b2, .i b3, .r b4, .i b5, .r b6, .r b7, .r b8, .r b9]; (try simp only [af, Nat.zero_add, Int.toNat_natCast]); exact j1.2.2)⟩⟩⟩⟩, imI hA fun e1 => have j1 := j0.2.2.2.2.2 (by subst hA; exact (ah (op := .gtr) rfl e1)); ⟨ndI hA (An rfl (An rfl rfl)), ⟨ndI hA hp.1, (hA ▸ j1)⟩⟩⟩⟩⟩, imI hA fun e0 => have j0 := h.2 (ah (op := .lss) hA e0); ⟨ndI hA (An rfl (An rfl rfl)), ⟨ndI hA hp.1, ?_⟩⟩⟩
 refine W.cl j0 ?_
 rintro _ _ _ hp1 (⟨rfl, Y1_0, rfl, rfl, k1⟩)
 cbv
 subst hA
 exact ⟨(An k1.1 (An rfl k1.1)), ⟨hp1.1, (W.q k1.2)⟩⟩

theorem E111 {u0 u1 u2 u3 : Int} {u4 : RW} {u5 : Int} {u6 u7 u8 u9 : RW} {a1 : Int} (h : ∀ EV, V111 EV Q → EV 9 [[[(AV.int .i64 63)]]] [.i a1, .r u8, .i (u8.length : Int), .i 0, .i u0, .i u1, .i u2, .i u3, .r u4, .i u5, .r u6, .r u7, .r u8, .r u9]) : EZ G111 [] [.i u0, .i u1, .i u2, .i u3, .r u4, .i u5, .r u6, .r u7, .r u8, .r u9, .i a1] Q := by
 refine ak.en (I := I111) (L := L111) LK fun A hA CE CK Dn EV RR W hp => ?_
 have h := h  EV (V111.of W)
 cbv
 subst hA
 exact ⟨(An rfl (An rfl rfl)), ⟨aQ, h⟩⟩

-- 112: slices.Clone[[]int,int]
structure V112 (EV Q : EP) : Prop where
  none : True

theorem E112 {a0 : RW} (h : ∀ EV, V112 EV Q → ((a0.length : Int) = 0 → Q 0 [[]] []) ∧ (a0.length ≤ 140737488355328) ∧ ((a0.length * 8) ≤ 140737488355328) ∧ (aB a0 = true) ∧ (Q 0 [a0] [])) : EZ G112 [] [.r a0] Q := by
 refine ak.en (I := I112) (L := L112) LJ fun A hA CE CK Dn EV RR W hp => ?_
 have h := h  EV ⟨trivial⟩
 cbv
 subst hA
 exact ⟨fun e0 => have j0 := h.1 ((ah (op := .eql) rfl e0)); ⟨(An rfl (An rfl rfl)), ⟨aQ, (W.q j0)⟩⟩, ⟨(An h.2.1 h.2.2.1), ⟨(An rfl (An rfl rfl)), ⟨h.2.2.2.1, (W.q h.2.2.2.2)⟩⟩⟩⟩

-- 80: signalbox/assign.raise
structure V80 (EV Q : EP) : Prop where
  p9 : ∀ {R0 t1 : RW} {t2 t7 t18 t19 b0 b1 b2 b3 : Int} {b4 : RW} {b5 : Int} {b6 b7 b8 b9 : RW}, (aB R0 = true → (t19 < t18 → (0 ≤ t19) ∧ (t19 < (R0.length : Int)) ∧ (R0[t19.toNat]? = some [.int .i64 (cIS R0 t19.toNat 0)]) ∧ (EZ G112 [] [.r t1] (fun x rs vs => (x = 0 ∧ ∃ Y1_0, rs = [Y1_0] ∧ vs = [] ∧ ((0 ≤ t2) ∧ (t2 < (Y1_0.length : Int)) ∧ (Y1_0[t2.toNat]? = some [.int .i64 (cIS Y1_0 t2.toNat 0)]) ∧ (EZ G39 [] [.i b0, .i b1, .i b2, .i b3, .r b4, .i b5, .r b6, .r b7, .r b8, .r b9, .r (List.take Y1_0.length (List.drop 0 (List.set Y1_0 t2.toNat [.int .i64 (cIS R0 t19.toNat 0)])))] (fun x rs vs => (x = 0 ∧ ∃ y2_0, rs = [] ∧ vs = [.b y2_0] ∧ ((y2_0 = false → Q 0 [] [.i t7]) ∧ (y2_0 = true → EV 9 [R0] [.r t1, .i t2, .i (cIS R0 t19.toNat 0), .i t18, .i (IntKind.wrap .i64 (t19 + 1)), .i b0, .i b1, .i b2, .i b3, .r b4, .i b5, .r b6, .r b7, .r b8, .r b9])))))))))) ∧ (t19 ≥ t18 → Q 0 [] [.i t7])) → EV 9 [R0] [.r t1, .i t2, .i t7, .i t18, .i t19, .i b0, .i b1, .i b2, .i b3, .r b4, .i b5, .r b6, .r b7, .r b8, .r b9]

theorem V80.of (W : Wk Tryz.prog Tryz.f80 I80 L80 Q A sg CE CK Dn EV RR) : V80 EV Q := by
 have hA := W.hA
 refine ⟨?_⟩
 intro R0 t1 t2 t7 t18 t19 b0 b1 b2 b3 b4 b5 b6 b7 b8 b9 h
 refine W.step 80 fun hp => ?_
 have h := h hp.1
 cbv
 refine ⟨imI hA fun e0 => have j0 := h.1 (ah (op := .lss) hA e0); ⟨ndI hA (An j0.1 (An (hA ▸ j0.2.1) rfl)), ⟨ndI hA (An rfl (hA ▸ j0.2.2.1)), ?_⟩⟩, imI hA fun e0 => have j0 := h.2 (ah (op := .lss) hA e0); (W.q j0)⟩
 refine W.cl j0.2.2.2 ?_
 rintro _ _ _ hp1 (⟨rfl, Y1_0, rfl, rfl, k1⟩)
 cbv
 refine ⟨ndI hA (An k1.1 (An (hA ▸ k1.2.1) rfl)), ⟨ndI hA (An rfl (hA ▸ k1.2.2.1)), ⟨ndI hA (An (An hp.1 (An (hA ▸ (dU hp1.1 rfl)) trivial)) (An (by subst hA; show Y1_0.length = (List.length (List.set Y1_0 t2.toNat [.int .i64 (cIS R0 t19.toNat 0)])); (first | rfl | simp [af] | (simp [af]; omega))) trivial)), ?_⟩⟩⟩
 refine W.cl k1.2.2.2 ?_
 rintro _ _ _ hp2 (⟨rfl, y2_0, rfl, rfl, k2⟩)
 cbv
 subst hA
 exact ⟨fun e3 => have j3 := k2.1 ((notE rfl e3)); (W.q j3), fun e3 => have j3 := k2.2 ((notE rfl e3)); ⟨(An rfl (An rfl rfl)), ⟨hp.1, j3⟩⟩⟩

theorem E80 {u0 u1 u2 u3 : Int} {u4 : RW} {u5 : Int} {u6 u7 u8 u9 a1 : RW} {a2 : Int} (h : ∀ EV, V80 EV Q → (0 ≤ a2) ∧ (a1[a2.toNat]? = some [.int .i64 (cIS a1 a2.toNat 0)]) ∧ (EZ G111 [] [.i u0, .i u1, .i u2, .i u3, .r u4, .i u5, .r u6, .r u7, .r u8, .r u9, .i a2] (fun x rs vs => (x = 0 ∧ ∃ Y0_0, rs = [Y0_0] ∧ vs = [] ∧ (EV 9 [Y0_0] [.r a1, .i a2, .i (cIS a1 a2.toNat 0), .i (Y0_0.length : Int), .i 0, .i u0, .i u1, .i u2, .i u3, .r u4, .i u5, .r u6, .r u7, .r u8, .r u9]))))) : EZ G80 [] [.i u0, .i u1, .i u2, .i u3, .r u4, .i u5, .r u6, .r u7, .r u8, .r u9, .r a1, .i a2] Q := by
 refine ak.en (I := I80) (L := L80) QB fun A hA CE CK Dn EV RR W hp => ?_
 have h := h  EV (V80.of W)
 cbv
 refine ⟨ndI hA (An h.1 (hA ▸ h.2.1)), ?_⟩
 refine W.cl h.2.2 ?_
 rintro _ _ _ hp0 (⟨rfl, Y0_0, rfl, rfl, k0⟩)
 cbv
 subst hA
 exact ⟨rfl, ⟨(An rfl (An rfl rfl)), ⟨hp0.1, k0⟩⟩⟩

-- 43: signalbox/assign.Search
structure V43 (EV Q : EP) : Prop where
  p19 : ∀ {R0 t4 : RW} {t15 t16 b0 b1 b2 b3 : Int} {b4 : RW} {b5 : Int} {b6 b7 b8 b9 : RW}, (aB R0 = true → (t16 < t15 → EZ G80 [] [.i b0, .i b1, .i b2, .i b3, .r b4, .i b5, .r b6, .r b7, .r b8, .r b9, .r t4, .i t16] (fun x rs vs => (x = 0 ∧ ∃ y1_0, rs = [] ∧ vs = [.i y1_0] ∧ (((R0.length + (List.length (List.take 1 (List.drop 0 [[(AV.int .i64 y1_0)]])))) ≤ 140737488355328) ∧ (((R0.length + (List.length (List.take 1 (List.drop 0 [[(AV.int .i64 y1_0)]])))) * 8) ≤ 140737488355328) ∧ (EV 19 [(R0 ++ (List.take 1 (List.drop 0 [[(AV.int .i64 y1_0)]])))] [.r t4, .i t15, .i (IntKind.wrap .i64 (t16 + 1)), .i b0, .i b1, .i b2, .i b3, .r b4, .i b5, .r b6, .r b7, .r b8, .r b9]))))) ∧ (t16 ≥ t15 → Q 0 [R0] [.b true])) → EV 19 [R0] [.r t4, .i t15, .i t16, .i b0, .i b1, .i b2, .i b3, .r b4, .i b5, .r b6, .r b7, .r b8, .r b9]

theorem V43.of (W : Wk Tryz.prog Tryz.f43 I43 L43 Q A sg CE CK Dn EV RR) : V43 EV Q := by
 have hA := W.hA
 refine ⟨?_⟩
 intro R0 t4 t15 t16 b0 b1 b2 b3 b4 b5 b6 b7 b8 b9 h
 refine W.step 80 fun hp => ?_
 have h := h hp.1
 cbv
 refine ⟨imI hA fun e0 => have j0 := h.1 (ah (op := .lss) hA e0); ?_, imI hA fun e0 => have j0 := h.2 (ah (op := .lss) hA e0); ⟨ndI hA (An rfl (An rfl rfl)), ⟨ndI hA hp.1, (W.q j0)⟩⟩⟩
 refine W.cl j0 ?_
 rintro _ _ _ hp1 (⟨rfl, y1_0, rfl, rfl, k1⟩)
 cbv
 subst hA
 exact ⟨(An rfl (by show (0 + 1) ≤ 1; (first | rfl | simp [af] | (simp [af]; omega)))), ⟨(An rfl (An (Nat.le_refl _) (An k1.1 k1.2.1))), ⟨(An rfl (An rfl (by show (R0.length + (List.length (List.take 1 (List.drop 0 [[(AV.int .i64 y1_0)]])))) = (List.length (aP R0 R0.length (List.take 1 (List.drop 0 [[(AV.int .i64 y1_0)]])))); (first | rfl | simp [af] | (simp [af]; omega))))), ⟨((fA hp.1 (dw (dA aQ)))), (by show EV 19 [(aP R0 R0.length (List.take 1 (List.drop 0 [[(AV.int .i64 y1_0)]])))] [.r t4, .i t15, .i (IntKind.wrap .i64 (t16 + 1)), .i b0, .i b1, .i b2, .i b3, .r b4, .i b5, .r b6, .r b7, .r b8, .r b9]; (try simp only [af, Nat.zero_add, Int.toNat_natCast]); exact k1.2.2)⟩⟩⟩⟩

theorem E43 {u0 u1 u2 u3 : Int} {u4 : RW} {u5 : Int} {u6 u7 u8 u9 : RW} (h : ∀ EV, V43 EV Q → EZ G41 [] [.i u0, .i u1, .i u2, .i u3, .r u4, .i u5, .r u6, .r u7, .r u8, .r u9] (fun x rs vs => (x = 0 ∧ ∃ Y0_0, rs = [Y0_0] ∧ vs = [] ∧ (EZ G39 [] [.i u0, .i u1, .i u2, .i u3, .r u4, .i u5, .r u6, .r u7, .r u8, .r u9, .r (List.take Y0_0.length (List.drop 0 Y0_0))] (fun x rs vs => (x = 0 ∧ ∃ y1_0, rs = [] ∧ vs = [.b y1_0] ∧ ((y1_0 = false → Q 0 [[]] [.b false]) ∧ (y1_0 = true → EV 19 [[]] [.r (List.take Y0_0.length (List.drop 0 Y0_0)), .i (u8.length : Int), .i 0, .i u0, .i u1, .i u2, .i u3, .r u4, .i u5, .r u6, .r u7, .r u8, .r u9])))))))) : EZ G43 [] [.i u0, .i u1, .i u2, .i u3, .r u4, .i u5, .r u6, .r u7, .r u8, .r u9] Q := by
 refine ak.en (I := I43) (L := L43) Rk fun A hA CE CK Dn EV RR W hp => ?_
 have h := h  EV (V43.of W)
 cbv
 refine W.cl h ?_
 rintro _ _ _ hp0 (⟨rfl, Y0_0, rfl, rfl, k0⟩)
 cbv
 refine ⟨ndI hA (An (An hp0.1 trivial) (An rfl (An rfl trivial))), ?_⟩
 refine W.cl k0 ?_
 rintro _ _ _ hp1 (⟨rfl, y1_0, rfl, rfl, k1⟩)
 cbv
 subst hA
 exact ⟨fun e2 => have j2 := k1.1 ((notE rfl e2)); ⟨(An rfl (An rfl rfl)), ⟨aQ, (W.q j2)⟩⟩, fun e2 => have j2 := k1.2 ((notE rfl e2)); ⟨(An rfl (An rfl rfl)), ⟨aQ, j2⟩⟩⟩

-- 42: signalbox/assign.Tries
structure V42 (EV Q : EP) : Prop where
  none : True

theorem E42 {u0 u1 u2 u3 : Int} {u4 : RW} {u5 : Int} {u6 u7 u8 u9 : RW} (h : ∀ EV, V42 EV Q → Q 0 [] [.i (IntKind.wrap .i64 (1 + (IntKind.wrap .i64 ((u8.length : Int) * (IntKind.wrap .i64 ((u8.length : Int) + 1))))))]) : EZ G42 [] [.i u0, .i u1, .i u2, .i u3, .r u4, .i u5, .r u6, .r u7, .r u8, .r u9] Q := by
 refine ak.en (I := I42) (L := L42) Rl fun A hA CE CK Dn EV RR W hp => ?_
 have h := h  EV ⟨trivial⟩
 cbv
 subst hA
 exact (W.q h)

-- 36: signalbox/signalboxlaw29.fixed
structure V36 (EV Q : EP) : Prop where
  none : True

theorem E36  (h : ∀ EV, V36 EV Q → EZ G79 [] [] (fun x rs vs => (x = 0 ∧ ∃ Y0_0 y0a0 y0a1 y0a2 y0a3 y0a4, rs = [Y0_0] ∧ vs = [.i y0a0, .i y0a1, .i y0a2, .i y0a3, .i y0a4] ∧ (EZ G43 [] [.i y0a0, .i y0a1, .i y0a2, .i y0a3, .r [], .i y0a4, .r [], .r [], .r (List.take Y0_0.length (List.drop 0 Y0_0)), .r []] (fun x rs vs => (x = 0 ∧ ∃ Y1_0 y1_1, rs = [Y1_0] ∧ vs = [.b y1_1] ∧ (EZ G79 [] [] (fun x rs vs => (x = 0 ∧ ∃ Y2_0 y2a0 y2a1 y2a2 y2a3 y2a4, rs = [Y2_0] ∧ vs = [.i y2a0, .i y2a1, .i y2a2, .i y2a3, .i y2a4] ∧ ((0 < (Y2_0.length : Int)) ∧ (Y2_0[(Int.toNat 0)]? = some (r7 Y2_0 (Int.toNat 0))) ∧ (EZ G43 [] [.i y2a0, .i y2a1, .i y2a2, .i y2a3, .r [], .i y2a4, .r [], .r [], .r (List.take Y2_0.length (List.drop 0 (List.set Y2_0 (Int.toNat 0) [.int .i64 (cIS Y2_0 (Int.toNat 0) 0), .int .i64 (cIS Y2_0 (Int.toNat 0) 1), .int .i64 (cIS Y2_0 (Int.toNat 0) 2), .int .i64 4, .int .i64 (cIS Y2_0 (Int.toNat 0) 4), .int .i64 (cIS Y2_0 (Int.toNat 0) 5), .inl 3 (cRS Y2_0 (Int.toNat 0) 6)]))), .r []] (fun x rs vs => (x = 0 ∧ ∃ Y3_0 y3_1, rs = [Y3_0] ∧ vs = [.b y3_1] ∧ (EZ G38 [] [.i y2a0, .i y2a1, .i y2a2, .i y2a3, .r [], .i y2a4, .r [], .r [], .r (List.take Y2_0.length (List.drop 0 (List.set Y2_0 (Int.toNat 0) [.int .i64 (cIS Y2_0 (Int.toNat 0) 0), .int .i64 (cIS Y2_0 (Int.toNat 0) 1), .int .i64 (cIS Y2_0 (Int.toNat 0) 2), .int .i64 4, .int .i64 (cIS Y2_0 (Int.toNat 0) 4), .int .i64 (cIS Y2_0 (Int.toNat 0) 5), .inl 3 (cRS Y2_0 (Int.toNat 0) 6)]))), .r [], .r []] (fun x rs vs => (x = 0 ∧ ∃ y4a0 y4a1 y4a2 y4a3 y4a4 y4a5 y4a6 y4a7 y4a8 y4a9 y4_1, rs = [] ∧ vs = [.i y4a0, .i y4a1, .i y4a2, .i y4a3, .r y4a4, .i y4a5, .r y4a6, .r y4a7, .r y4a8, .r y4a9, .i y4_1] ∧ ((y1_1 = true → ((Y1_0.length : Int) = 1 → (0 < (Y1_0.length : Int)) ∧ (Y1_0[(Int.toNat 0)]? = some [.int .i64 (cIS Y1_0 (Int.toNat 0) 0)]) ∧ ((cIS Y1_0 (Int.toNat 0) 0) = 63 → (y3_1 = false → (y4_1 = 1 → EZ G79 [] [] (fun x rs vs => (x = 0 ∧ ∃ Y10_0 y10a0 y10a1 y10a2 y10a3 y10a4, rs = [Y10_0] ∧ vs = [.i y10a0, .i y10a1, .i y10a2, .i y10a3, .i y10a4] ∧ (EZ G39 [] [.i y10a0, .i y10a1, .i y10a2, .i y10a3, .r [], .i y10a4, .r [], .r [], .r (List.take Y10_0.length (List.drop 0 Y10_0)), .r [], .r (List.take 1 (List.drop 0 [[(AV.int .i64 9)]]))] (fun x rs vs => (x = 0 ∧ ∃ y11_0, rs = [] ∧ vs = [.b y11_0] ∧ ((y11_0 = true → EZ G79 [] [] (fun x rs vs => (x = 0 ∧ ∃ Y13_0 y13a0 y13a1 y13a2 y13a3 y13a4, rs = [Y13_0] ∧ vs = [.i y13a0, .i y13a1, .i y13a2, .i y13a3, .i y13a4] ∧ (EZ G39 [] [.i y13a0, .i y13a1, .i y13a2, .i y13a3, .r [], .i y13a4, .r [], .r [], .r (List.take Y13_0.length (List.drop 0 Y13_0)), .r [], .r (List.take 1 (List.drop 0 [[(AV.int .i64 0)]]))] (fun x rs vs => (x = 0 ∧ ∃ y14_0, rs = [] ∧ vs = [.b y14_0] ∧ ((y14_0 = false → EZ G79 [] [] (fun x rs vs => (x = 0 ∧ ∃ Y16_0 y16a0 y16a1 y16a2 y16a3 y16a4, rs = [Y16_0] ∧ vs = [.i y16a0, .i y16a1, .i y16a2, .i y16a3, .i y16a4] ∧ (EZ G42 [] [.i y16a0, .i y16a1, .i y16a2, .i y16a3, .r [], .i y16a4, .r [], .r [], .r (List.take Y16_0.length (List.drop 0 Y16_0)), .r []] (fun x rs vs => (x = 0 ∧ ∃ y17_0, rs = [] ∧ vs = [.i y17_0] ∧ (Q 0 [] [.b (y17_0 == 3)]))))))) ∧ (y14_0 = true → Q 0 [] [.b false])))))))) ∧ (y11_0 = false → Q 0 [] [.b false])))))))) ∧ (y4_1 ≠ 1 → Q 0 [] [.b false])) ∧ (y3_1 = true → Q 0 [] [.b false])) ∧ ((cIS Y1_0 (Int.toNat 0) 0) ≠ 63 → Q 0 [] [.b false])) ∧ ((Y1_0.length : Int) ≠ 1 → Q 0 [] [.b false])) ∧ (y1_1 = false → Q 0 [] [.b false])))))))))))))))))) : EZ G36 [] [] Q := by
 refine ak.en (I := I36) (L := L36) Rx fun A hA CE CK Dn EV RR W hp => ?_
 have h := h  EV ⟨trivial⟩
 cbv
 refine W.cl h ?_
 rintro _ _ _ hp0 (⟨rfl, Y0_0, y0a0, y0a1, y0a2, y0a3, y0a4, rfl, rfl, k0⟩)
 cbv
 refine ⟨ndI hA (An (An hp0.1 trivial) (An (An rfl trivial) trivial)), ?_⟩
 refine W.cl k0 ?_
 rintro _ _ _ hp1 (⟨rfl, Y1_0, y1_1, rfl, rfl, k1⟩)
 cbv
 refine W.cl k1 ?_
 rintro _ _ _ hp2 (⟨rfl, Y2_0, y2a0, y2a1, y2a2, y2a3, y2a4, rfl, rfl, k2⟩)
 cbv
 refine ⟨ndI hA (An (Int.le_refl _) (An (hA ▸ k2.1) rfl)), ⟨ndI hA (An rfl (hA ▸ k2.2.1)), ⟨ndI hA (An (An hp1.1 (An (hA ▸ (dU hp2.1 rfl)) trivial)) (An (An (by subst hA; show Y2_0.length = (List.length (List.set Y2_0 (Int.toNat 0) [.int .i64 (cIS Y2_0 (Int.toNat 0) 0), .int .i64 (cIS Y2_0 (Int.toNat 0) 1), .int .i64 (cIS Y2_0 (Int.toNat 0) 2), .int .i64 4, .int .i64 (cIS Y2_0 (Int.toNat 0) 4), .int .i64 (cIS Y2_0 (Int.toNat 0) 5), .inl 3 (cRS Y2_0 (Int.toNat 0) 6)])); (first | rfl | simp [af] | (simp [af]; omega))) trivial) trivial)), ⟨ndI hA (An (An (by subst hA; show Y2_0.length = (List.length (List.set Y2_0 (Int.toNat 0) [.int .i64 (cIS Y2_0 (Int.toNat 0) 0), .int .i64 (cIS Y2_0 (Int.toNat 0) 1), .int .i64 (cIS Y2_0 (Int.toNat 0) 2), .int .i64 4, .int .i64 (cIS Y2_0 (Int.toNat 0) 4), .int .i64 (cIS Y2_0 (Int.toNat 0) 5), .inl 3 (cRS Y2_0 (Int.toNat 0) 6)])); (first | rfl | simp [af] | (simp [af]; omega))) trivial) trivial), ?_⟩⟩⟩⟩
 refine W.cl k2.2.2 ?_
 rintro _ _ _ hp3 (⟨rfl, Y3_0, y3_1, rfl, rfl, k3⟩)
 cbv
 refine W.cl k3 ?_
 rintro _ _ _ hp4 (⟨rfl, y4a0, y4a1, y4a2, y4a3, y4a4, y4a5, y4a6, y4a7, y4a8, y4a9, y4_1, rfl, rfl, k4⟩)
 cbv
 refine ⟨imI hA fun e5 => have j5 := k4.1 e5; ⟨ndI hA rfl, ⟨imI hA fun e6 => have j6 := j5.1 (by subst hA; exact (ah (op := .eql) rfl e6)); ⟨ndI hA (An (Int.le_refl _) (An (hA ▸ j6.1) rfl)), ⟨ndI hA (An rfl (hA ▸ j6.2.1)), ⟨imI hA fun e7 => have j7 := j6.2.2.1 (by subst hA; exact (ah (op := .eql) rfl e7)); ⟨imI hA fun e8 => have j8 := j7.1 (by subst hA; exact (notE rfl e8)); ⟨imI hA fun e9 => have j9 := j8.1 (ah (op := .eql) hA e9); ?_, imI hA fun e9 => have j9 := j8.2 (ah (op := .eql) hA e9); (W.q j9)⟩, imI hA fun e8 => have j8 := j7.2 (by subst hA; exact (notE rfl e8)); (W.q j8)⟩, imI hA fun e7 => have j7 := j6.2.2.2 (by subst hA; exact (ah (op := .eql) rfl e7)); (W.q j7)⟩⟩⟩, imI hA fun e6 => have j6 := j5.2 (by subst hA; exact (ah (op := .eql) rfl e6)); (W.q j6)⟩⟩, imI hA fun e5 => have j5 := k4.2 e5; (W.q j5)⟩
 refine W.cl j9 ?_
 rintro _ _ _ hp10 (⟨rfl, Y10_0, y10a0, y10a1, y10a2, y10a3, y10a4, rfl, rfl, k10⟩)
 cbv
 refine ⟨ndI hA (An (An hp1.1 (An hp3.1 (An hp10.1 (An aQ trivial)))) (An (hA ▸ rfl) trivial)), ⟨ndI hA (An (An hp1.1 (An hp3.1 (An hp10.1 trivial))) (An (An rfl trivial) trivial)), ?_⟩⟩
 refine W.cl k10 ?_
 rintro _ _ _ hp11 (⟨rfl, y11_0, rfl, rfl, k11⟩)
 cbv
 refine ⟨imI hA fun e12 => have j12 := k11.1 e12; ?_, imI hA fun e12 => have j12 := k11.2 e12; (W.q j12)⟩
 refine W.cl j12 ?_
 rintro _ _ _ hp13 (⟨rfl, Y13_0, y13a0, y13a1, y13a2, y13a3, y13a4, rfl, rfl, k13⟩)
 cbv
 refine ⟨ndI hA (An (An hp1.1 (An hp3.1 (An hp13.1 (An aQ trivial)))) (An (hA ▸ rfl) trivial)), ⟨ndI hA (An (An hp1.1 (An hp3.1 (An hp13.1 trivial))) (An (An rfl trivial) trivial)), ?_⟩⟩
 refine W.cl k13 ?_
 rintro _ _ _ hp14 (⟨rfl, y14_0, rfl, rfl, k14⟩)
 cbv
 refine ⟨imI hA fun e15 => have j15 := k14.1 (by subst hA; exact (notE rfl e15)); ?_, imI hA fun e15 => have j15 := k14.2 (by subst hA; exact (notE rfl e15)); (W.q j15)⟩
 refine W.cl j15 ?_
 rintro _ _ _ hp16 (⟨rfl, Y16_0, y16a0, y16a1, y16a2, y16a3, y16a4, rfl, rfl, k16⟩)
 cbv
 refine ⟨ndI hA (An (An hp1.1 (An hp3.1 (An hp16.1 trivial))) (An (An rfl trivial) trivial)), ?_⟩
 refine W.cl k16 ?_
 rintro _ _ _ hp17 (⟨rfl, y17_0, rfl, rfl, k17⟩)
 cbv
 subst hA
 exact (W.q k17)

-- 37: signalbox/signalboxlaw29.few
structure V37 (EV Q : EP) : Prop where
  none : True

theorem E37 {u0 u1 u2 u3 : Int} {u4 : RW} {u5 : Int} {u6 u7 u8 u9 : RW} (h : ∀ EV, V37 EV Q → EZ G15 [] [.i u0, .i u1, .i u2, .i u3, .r u4, .i u5, .r u6, .r u7, .r u8, .r u9] (fun x rs vs => (x = 0 ∧ ∃ y0_0, rs = [] ∧ vs = [.b y0_0] ∧ ((y0_0 = true → (u5 < 1000 → (u5 > (-1000) → EZ G20 [] [.i u0, .i u1, .i u2, .i u3, .r u4, .i u5, .r u6, .r u7, .r u8, .r u9] (fun x rs vs => (x = 0 ∧ ∃ y4_0, rs = [] ∧ vs = [.b y4_0] ∧ (Q 0 [] [.b y4_0])))) ∧ (u5 ≤ (-1000) → Q 0 [] [.b false])) ∧ (u5 ≥ 1000 → Q 0 [] [.b false])) ∧ (y0_0 = false → Q 0 [] [.b false]))))) : EZ G37 [] [.i u0, .i u1, .i u2, .i u3, .r u4, .i u5, .r u6, .r u7, .r u8, .r u9] Q := by
 refine ak.en (I := I37) (L := L37) Rw fun A hA CE CK Dn EV RR W hp => ?_
 have h := h  EV ⟨trivial⟩
 cbv
 refine W.cl h ?_
 rintro _ _ _ hp0 (⟨rfl, y0_0, rfl, rfl, k0⟩)
 cbv
 refine ⟨imI hA fun e1 => have j1 := k0.1 e1; ⟨imI hA fun e2 => have j2 := j1.1 (ah (op := .lss) hA e2); ⟨imI hA fun e3 => have j3 := j2.1 (ah (op := .gtr) hA e3); ?_, imI hA fun e3 => have j3 := j2.2 (ah (op := .gtr) hA e3); (W.q j3)⟩, imI hA fun e2 => have j2 := j1.2 (ah (op := .lss) hA e2); (W.q j2)⟩, imI hA fun e1 => have j1 := k0.2 e1; (W.q j1)⟩
 refine W.cl j3 ?_
 rintro _ _ _ hp4 (⟨rfl, y4_0, rfl, rfl, k4⟩)
 cbv
 subst hA
 exact (W.q k4)

-- 40: signalbox/signalboxlaw29.passes DRAWN
structure V10 (EV Q : EP) : Prop where
  p25 : ∀ {R0 t2 : RW} {t29 t30 b0 b1 b2 b3 : Int} {b4 : RW} {b5 : Int} {b6 b7 b8 b9 : RW}, (aB R0 = true → (t30 < t29 → (t30 < (t2.length : Int) → (0 ≤ t30) ∧ (t2[t30.toNat]? = some [.int .u8 (cIS t2 t30.toNat 0)]) ∧ (b8[t30.toNat]? = some (r7 b8 t30.toNat)) ∧ (t30 < (R0.length : Int)) ∧ (R0[t30.toNat]? = some [.int .i64 (cIS R0 t30.toNat 0)]) ∧ (EV 25 [(List.set R0 t30.toNat [.int .i64 (arS.mx (IntKind.wrap .i64 ((cIS R0 t30.toNat 0) - (IntKind.wrap .i64 (cIS t2 t30.toNat 0)))) (cIS b8 t30.toNat 0))])] [.r t2, .i t29, .i (IntKind.wrap .i64 (t30 + 1)), .i b0, .i b1, .i b2, .i b3, .r b4, .i b5, .r b6, .r b7, .r b8, .r b9])) ∧ (t30 ≥ (t2.length : Int) → EV 25 [R0] [.r t2, .i t29, .i (IntKind.wrap .i64 (t30 + 1)), .i b0, .i b1, .i b2, .i b3, .r b4, .i b5, .r b6, .r b7, .r b8, .r b9])) ∧ (t30 ≥ t29 → EZ G39 [] [.i b0, .i b1, .i b2, .i b3, .r b4, .i b5, .r b6, .r b7, .r b8, .r b9, .r (List.take R0.length (List.drop 0 R0))] (fun x rs vs => (x = 0 ∧ ∃ y1_0, rs = [] ∧ vs = [.b y1_0] ∧ (Q 0 [] [.b y1_0]))))) → EV 25 [R0] [.r t2, .i t29, .i t30, .i b0, .i b1, .i b2, .i b3, .r b4, .i b5, .r b6, .r b7, .r b8, .r b9]

theorem V10.of (W : Wk Tryz.prog Tryz.f10 I10 L10 Q A sg CE CK Dn EV RR) : V10 EV Q := by
 have hA := W.hA
 refine ⟨?_⟩
 intro R0 t2 t29 t30 b0 b1 b2 b3 b4 b5 b6 b7 b8 b9 h
 refine W.step 80 fun hp => ?_
 have h := h hp.1
 cbv
 refine ⟨imI hA fun e0 => have j0 := h.1 (ah (op := .lss) hA e0); ⟨imI hA fun e1 => have j1 := j0.1 (by subst hA; exact (ah (op := .lss) rfl e1)); ⟨ndI hA (An j1.1 (hA ▸ j1.2.1)), ⟨ndI hA (An j1.1 (hA ▸ j1.2.2.1)), ⟨⟨ndI hA (An j1.1 (An (hA ▸ j1.2.2.2.1) rfl)), ⟨⟨ndI hA (An rfl (hA ▸ j1.2.2.2.2.1)), ⟨⟨ndI hA (An j1.1 (An (hA ▸ j1.2.2.2.1) rfl)), ⟨⟨ndI hA (An rfl (hA ▸ j1.2.2.2.2.1)), ⟨ndI hA (An (by subst hA; show R0.length = (List.length (List.set R0 t30.toNat [.int .i64 (arS.mx (IntKind.wrap .i64 ((cIS R0 t30.toNat 0) - (IntKind.wrap .i64 (cIS t2 t30.toNat 0)))) (cIS b8 t30.toNat 0))])); (first | rfl | simp [af] | (simp [af]; omega))) (An rfl (by subst hA; show R0.length = (List.length (List.set R0 t30.toNat [.int .i64 (arS.mx (IntKind.wrap .i64 ((cIS R0 t30.toNat 0) - (IntKind.wrap .i64 (cIS t2 t30.toNat 0)))) (cIS b8 t30.toNat 0))])); (first | rfl | simp [af] | (simp [af]; omega))))), ⟨ndI hA (hA ▸ (dU hp.1 rfl)), (hA ▸ j1.2.2.2.2.2)⟩⟩⟩, trivial⟩⟩, trivial⟩⟩, trivial⟩⟩, trivial⟩⟩⟩, imI hA fun e1 => have j1 := j0.2 (by subst hA; exact (ah (op := .lss) rfl e1)); ⟨ndI hA (An rfl (An rfl rfl)), ⟨ndI hA hp.1, (hA ▸ j1)⟩⟩⟩, imI hA fun e0 => have j0 := h.2 (ah (op := .lss) hA e0); ⟨ndI hA (An (An hp.1 trivial) (An rfl trivial)), ?_⟩⟩
 refine W.cl j0 ?_
 rintro _ _ _ hp1 (⟨rfl, y1_0, rfl, rfl, k1⟩)
 cbv
 subst hA
 exact (W.q k1)

theorem E10 {u0 u1 u2 u3 : Int} {u4 : RW} {u5 : Int} {u6 u7 u8 u9 a1 a2 : RW} (h : ∀ EV, V10 EV Q → EZ G36 [] [] (fun x rs vs => (x = 0 ∧ ∃ y0_0, rs = [] ∧ vs = [.b y0_0] ∧ ((y0_0 = false → Q 0 [] [.b false]) ∧ (y0_0 = true → EZ G37 [] [.i u0, .i u1, .i u2, .i u3, .r u4, .i u5, .r u6, .r u7, .r u8, .r u9] (fun x rs vs => (x = 0 ∧ ∃ y2_0, rs = [] ∧ vs = [.b y2_0] ∧ ((y2_0 = true → ((a1.length : Int) ≤ 30 → EZ G39 [] [.i u0, .i u1, .i u2, .i u3, .r u4, .i u5, .r u6, .r u7, .r u8, .r u9, .r a1] (fun x rs vs => (x = 0 ∧ ∃ y5_0, rs = [] ∧ vs = [.b y5_0] ∧ ((y5_0 = false → Q 0 [] [.b true]) ∧ (y5_0 = true → (a1.length ≤ 140737488355328) ∧ ((a1.length * 8) ≤ 140737488355328) ∧ (aB a1 = true) ∧ (EV 25 [a1] [.r a2, .i (a1.length : Int), .i 0, .i u0, .i u1, .i u2, .i u3, .r u4, .i u5, .r u6, .r u7, .r u8, .r u9])))))) ∧ ((a1.length : Int) > 30 → Q 0 [] [.b true])) ∧ (y2_0 = false → Q 0 [] [.b true]))))))))) : EZ G10 [] [.i u0, .i u1, .i u2, .i u3, .r u4, .i u5, .r u6, .r u7, .r u8, .r u9, .r a1, .r a2] Q := by
 refine ak.en (I := I10) (L := L10) SC fun A hA CE CK Dn EV RR W hp => ?_
 have h := h  EV (V10.of W)
 cbv
 refine W.cl h ?_
 rintro _ _ _ hp0 (⟨rfl, y0_0, rfl, rfl, k0⟩)
 cbv
 refine ⟨imI hA fun e1 => have j1 := k0.1 (by subst hA; exact (notE rfl e1)); (W.q j1), imI hA fun e1 => have j1 := k0.2 (by subst hA; exact (notE rfl e1)); ?_⟩
 refine W.cl j1 ?_
 rintro _ _ _ hp2 (⟨rfl, y2_0, rfl, rfl, k2⟩)
 cbv
 refine ⟨imI hA fun e3 => have j3 := k2.1 (by subst hA; exact (notE rfl e3)); ⟨imI hA fun e4 => have j4 := j3.1 (by subst hA; exact (ah (op := .gtr) rfl e4)); ?_, imI hA fun e4 => have j4 := j3.2 (by subst hA; exact (ah (op := .gtr) rfl e4)); (W.q j4)⟩, imI hA fun e3 => have j3 := k2.2 (by subst hA; exact (notE rfl e3)); (W.q j3)⟩
 refine W.cl j4 ?_
 rintro _ _ _ hp5 (⟨rfl, y5_0, rfl, rfl, k5⟩)
 cbv
 subst hA
 exact ⟨fun e6 => have j6 := k5.1 ((notE rfl e6)); (W.q j6), fun e6 => have j6 := k5.2 ((notE rfl e6)); ⟨(An j6.1 j6.2.1), ⟨rfl, ⟨(An rfl (An rfl rfl)), ⟨j6.2.2.1, j6.2.2.2⟩⟩⟩⟩⟩

end Go.Ab
