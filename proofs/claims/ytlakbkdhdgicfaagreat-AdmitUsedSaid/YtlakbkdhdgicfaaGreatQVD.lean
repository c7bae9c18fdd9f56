import Derived.Test.YtlakbkdhdgicfaaGreatQS
import Derived.Test.YtlakbkdhdgicfaaGreatLayE
/- PRINTED BY A PROGRAM (wip/tools/vc.py, AbVc.lean): what is to be shown of each function, from place to place, and that it is enough. -/
namespace Go.Ab
open Go Go.Proofs
set_option linter.unusedVariables false
set_option linter.unusedSimpArgs false
set_option maxRecDepth 100000
set_option maxHeartbeats 0
variable {Q EV RR : EP} {A : Ar} {CE : Nat → Rs → List Lf → EP → Prop} {CK : Nat → Rs → List Lf → Cont → Prop} {Dn : Nat → List Bool → List AItem → Nat → List Bool → List AV → List ABlk → Prop}

-- 53: signalbox/signalboxlaw28.one
structure V53 (EV Q : EP) : Prop where
  none : True

theorem E53  (h : ∀ EV, V53 EV Q → Q 0 [[[(AV.int .i64 1), (AV.int .i64 1), (AV.int .i64 10), (AV.int .i64 10), (AV.int .i64 4), (AV.int .i64 0), (AV.inl 3 [[(AV.int .i64 1), (AV.int .i64 5), (AV.int .i64 0)]])]]] [.i 1, .i 1, .i 1, .i 5, .i 0]) : EZ G53 [] [] Q := by
 refine Inst.en (I := I53) (L := L53) F53_at fun A hA CE CK Dn EV RR W hp => ?_
 have h := h  EV ⟨trivial⟩
 cbv
 subst hA
 exact ⟨(An rfl (An rfl rfl)), ⟨vpur, (W.q h)⟩⟩

-- 14: signalbox/signalboxlaw28.fixed
structure V14 (EV Q : EP) : Prop where
  none : True

theorem E14  (h : ∀ EV, V14 EV Q → EZ G53 [] [] (fun x rs vs => (x = 0 ∧ ∃ Y0_0 y0a0 y0a1 y0a2 y0a3 y0a4, rs = [Y0_0] ∧ vs = [.i y0a0, .i y0a1, .i y0a2, .i y0a3, .i y0a4] ∧ (EZ G16 [] [.i y0a0, .i y0a1, .i y0a2, .i y0a3, .r [], .i y0a4, .r [], .r [], .r (List.take Y0_0.length (List.drop 0 Y0_0)), .r []] (fun x rs vs => (x = 0 ∧ ∃ y1a0 y1a1 y1_1, rs = [] ∧ vs = [.r y1a0, .i y1a1, .i y1_1] ∧ (EZ G53 [] [] (fun x rs vs => (x = 0 ∧ ∃ Y2_0 y2a0 y2a1 y2a2 y2a3 y2a4, rs = [Y2_0] ∧ vs = [.i y2a0, .i y2a1, .i y2a2, .i y2a3, .i y2a4] ∧ ((0 < (Y2_0.length : Int)) ∧ (Y2_0[(Int.toNat 0)]? = some (r7 Y2_0 (Int.toNat 0))) ∧ (EZ G16 [] [.i y2a0, .i y2a1, .i y2a2, .i y2a3, .r [], .i y2a4, .r [], .r [], .r (List.take Y2_0.length (List.drop 0 (List.set Y2_0 (Int.toNat 0) [.int .i64 (cIS Y2_0 (Int.toNat 0) 0), .int .i64 (cIS Y2_0 (Int.toNat 0) 1), .int .i64 (cIS Y2_0 (Int.toNat 0) 2), .int .i64 4, .int .i64 (cIS Y2_0 (Int.toNat 0) 4), .int .i64 (cIS Y2_0 (Int.toNat 0) 5), .inl 3 (cRS Y2_0 (Int.toNat 0) 6)]))), .r []] (fun x rs vs => (x = 0 ∧ ∃ y3a0 y3a1 y3_1, rs = [] ∧ vs = [.r y3a0, .i y3a1, .i y3_1] ∧ (EZ G16 [] [.i 0, .i 0, .i 0, .i 0, .r [], .i 0, .r [], .r [], .r [], .r []] (fun x rs vs => (x = 0 ∧ ∃ y4a0 y4a1 y4_1, rs = [] ∧ vs = [.r y4a0, .i y4a1, .i y4_1] ∧ (EZ G53 [] [] (fun x rs vs => (x = 0 ∧ ∃ Y5_0 y5a0 y5a1 y5a2 y5a3 y5a4, rs = [Y5_0] ∧ vs = [.i y5a0, .i y5a1, .i y5a2, .i y5a3, .i y5a4] ∧ (EZ G17 [] [.i y5a0, .i y5a1, .i y5a2, .i y5a3, .r [], .i y5a4, .r [], .r [], .r (List.take Y5_0.length (List.drop 0 Y5_0)), .r []] (fun x rs vs => (x = 0 ∧ ∃ y6_0 y6_1, rs = [] ∧ vs = [.i y6_0, .i y6_1] ∧ ((y1_1 = 0 → ((y1a0.length : Int) = 1 → (y1a0[(Int.toNat 0)]? = some [.int .u64 (cIS y1a0 (Int.toNat 0) 0), .int .u64 (cIS y1a0 (Int.toNat 0) 1), .int .u64 (cIS y1a0 (Int.toNat 0) 2), .int .u64 (cIS y1a0 (Int.toNat 0) 3), .int .u64 (cIS y1a0 (Int.toNat 0) 4), .int .u64 (cIS y1a0 (Int.toNat 0) 5)]) ∧ ((cIS y1a0 (Int.toNat 0) 2) = 5 → (y1a1 = 4 → (y3_1 = 12 → (y4_1 = 5 → EZ G19 [] [.i y2a0, .i y2a1, .i y2a2, .i y2a3, .r [], .i y2a4, .r [], .r [], .r (List.take Y2_0.length (List.drop 0 (List.set Y2_0 (Int.toNat 0) [.int .i64 (cIS Y2_0 (Int.toNat 0) 0), .int .i64 (cIS Y2_0 (Int.toNat 0) 1), .int .i64 (cIS Y2_0 (Int.toNat 0) 2), .int .i64 4, .int .i64 (cIS Y2_0 (Int.toNat 0) 4), .int .i64 (cIS Y2_0 (Int.toNat 0) 5), .inl 3 (cRS Y2_0 (Int.toNat 0) 6)]))), .r []] (fun x rs vs => (x = 0 ∧ ∃ y13_0, rs = [] ∧ vs = [.b y13_0] ∧ ((y13_0 = false → (y6_0 = 5 → (y6_1 = 10 → EZ G54 [] [.i y2a0, .i y2a1, .i y2a2, .i y2a3, .r [], .i y2a4, .r [], .r [], .r (List.take Y2_0.length (List.drop 0 (List.set Y2_0 (Int.toNat 0) [.int .i64 (cIS Y2_0 (Int.toNat 0) 0), .int .i64 (cIS Y2_0 (Int.toNat 0) 1), .int .i64 (cIS Y2_0 (Int.toNat 0) 2), .int .i64 4, .int .i64 (cIS Y2_0 (Int.toNat 0) 4), .int .i64 (cIS Y2_0 (Int.toNat 0) 5), .inl 3 (cRS Y2_0 (Int.toNat 0) 6)]))), .r [], .i 0] (fun x rs vs => (x = 0 ∧ ∃ Y17_0, rs = [Y17_0] ∧ vs = [] ∧ (Q 0 [] [.b ((Y17_0.length : Int) == 1)])))) ∧ (y6_1 ≠ 10 → Q 0 [] [.b false])) ∧ (y6_0 ≠ 5 → Q 0 [] [.b false])) ∧ (y13_0 = true → Q 0 [] [.b false]))))) ∧ (y4_1 ≠ 5 → Q 0 [] [.b false])) ∧ (y3_1 ≠ 12 → Q 0 [] [.b false])) ∧ (y1a1 ≠ 4 → Q 0 [] [.b false])) ∧ ((cIS y1a0 (Int.toNat 0) 2) ≠ 5 → Q 0 [] [.b false])) ∧ ((y1a0.length : Int) ≠ 1 → Q 0 [] [.b false])) ∧ (y1_1 ≠ 0 → Q 0 [] [.b false])))))))))))))))))))))))) : EZ G14 [] [] Q := by
 refine Inst.en (I := I14) (L := L14) F14_at fun A hA CE CK Dn EV RR W hp => ?_
 have h := h  EV ⟨trivial⟩
 cbv
 refine W.cl h ?_
 rintro _ _ _ hp0 (⟨rfl, Y0_0, y0a0, y0a1, y0a2, y0a3, y0a4, rfl, rfl, k0⟩)
 cbv
 refine ⟨ndI hA (An (An hp0.1 trivial) (An (An rfl trivial) trivial)), ?_⟩
 refine W.cl k0 ?_
 rintro _ _ _ hp1 (⟨rfl, y1a0, y1a1, y1_1, rfl, rfl, k1⟩)
 cbv
 refine W.cl k1 ?_
 rintro _ _ _ hp2 (⟨rfl, Y2_0, y2a0, y2a1, y2a2, y2a3, y2a4, rfl, rfl, k2⟩)
 cbv
 refine ⟨ndI hA (An (Int.le_refl _) (An (hA ▸ k2.1) rfl)), ⟨ndI hA (An rfl (hA ▸ k2.2.1)), ⟨ndI hA (An (An (hA ▸ (vset hp2.1 rfl)) trivial) (An (An (by subst hA; show Y2_0.length = (List.length (List.set Y2_0 (Int.toNat 0) [.int .i64 (cIS Y2_0 (Int.toNat 0) 0), .int .i64 (cIS Y2_0 (Int.toNat 0) 1), .int .i64 (cIS Y2_0 (Int.toNat 0) 2), .int .i64 4, .int .i64 (cIS Y2_0 (Int.toNat 0) 4), .int .i64 (cIS Y2_0 (Int.toNat 0) 5), .inl 3 (cRS Y2_0 (Int.toNat 0) 6)])); (first | rfl | simp [rappS_end] | (simp [rappS_end]; omega))) trivial) trivial)), ⟨ndI hA (An (An (by subst hA; show Y2_0.length = (List.length (List.set Y2_0 (Int.toNat 0) [.int .i64 (cIS Y2_0 (Int.toNat 0) 0), .int .i64 (cIS Y2_0 (Int.toNat 0) 1), .int .i64 (cIS Y2_0 (Int.toNat 0) 2), .int .i64 4, .int .i64 (cIS Y2_0 (Int.toNat 0) 4), .int .i64 (cIS Y2_0 (Int.toNat 0) 5), .inl 3 (cRS Y2_0 (Int.toNat 0) 6)])); (first | rfl | simp [rappS_end] | (simp [rappS_end]; omega))) trivial) trivial), ?_⟩⟩⟩⟩
 refine W.cl k2.2.2 ?_
 rintro _ _ _ hp3 (⟨rfl, y3a0, y3a1, y3_1, rfl, rfl, k3⟩)
 cbv
 refine W.cl k3 ?_
 rintro _ _ _ hp4 (⟨rfl, y4a0, y4a1, y4_1, rfl, rfl, k4⟩)
 cbv
 refine W.cl k4 ?_
 rintro _ _ _ hp5 (⟨rfl, Y5_0, y5a0, y5a1, y5a2, y5a3, y5a4, rfl, rfl, k5⟩)
 cbv
 refine ⟨ndI hA (An (An hp5.1 trivial) (An (An rfl trivial) trivial)), ?_⟩
 refine W.cl k5 ?_
 rintro _ _ _ hp6 (⟨rfl, y6_0, y6_1, rfl, rfl, k6⟩)
 cbv
 refine ⟨imI hA fun e7 => have j7 := k6.1 (cmpE (op := .eql) hA e7); ⟨imI hA fun e8 => have j8 := j7.1 (by subst hA; exact (cmpE (op := .eql) rfl e8)); ⟨ndI hA (An (Int.le_refl _) (hA ▸ j8.1)), ⟨imI hA fun e9 => have j9 := j8.2.1 (by subst hA; exact (cmpE (op := .eql) rfl e9)); ⟨imI hA fun e10 => have j10 := j9.1 (cmpE (op := .eql) hA e10); ⟨imI hA fun e11 => have j11 := j10.1 (cmpE (op := .eql) hA e11); ⟨imI hA fun e12 => have j12 := j11.1 (cmpE (op := .eql) hA e12); ?_, imI hA fun e12 => have j12 := j11.2 (cmpE (op := .eql) hA e12); (W.q j12)⟩, imI hA fun e11 => have j11 := j10.2 (cmpE (op := .eql) hA e11); (W.q j11)⟩, imI hA fun e10 => have j10 := j9.2 (cmpE (op := .eql) hA e10); (W.q j10)⟩, imI hA fun e9 => have j9 := j8.2.2 (by subst hA; exact (cmpE (op := .eql) rfl e9)); (W.q j9)⟩⟩, imI hA fun e8 => have j8 := j7.2 (by subst hA; exact (cmpE (op := .eql) rfl e8)); (W.q j8)⟩, imI hA fun e7 => have j7 := k6.2 (cmpE (op := .eql) hA e7); (W.q j7)⟩
 refine W.cl j12 ?_
 rintro _ _ _ hp13 (⟨rfl, y13_0, rfl, rfl, k13⟩)
 cbv
 refine ⟨imI hA fun e14 => have j14 := k13.1 (notE hA e14); ⟨imI hA fun e15 => have j15 := j14.1 (cmpE (op := .eql) hA e15); ⟨imI hA fun e16 => have j16 := j15.1 (cmpE (op := .eql) hA e16); ?_, imI hA fun e16 => have j16 := j15.2 (cmpE (op := .eql) hA e16); (W.q j16)⟩, imI hA fun e15 => have j15 := j14.2 (cmpE (op := .eql) hA e15); (W.q j15)⟩, imI hA fun e14 => have j14 := k13.2 (notE hA e14); (W.q j14)⟩
 refine W.cl j16 ?_
 rintro _ _ _ hp17 (⟨rfl, Y17_0, rfl, rfl, k17⟩)
 cbv
 subst hA
 exact ⟨rfl, (W.q k17)⟩

-- 4: signalbox/signalboxlaw28.AdmitUsed
structure V4 (EV Q : EP) : Prop where
  none : True

theorem E4 {u0 u1 u2 u3 : Int} {u4 : RW} {u5 : Int} {u6 u7 u8 u9 : RW} (h : ∀ EV, V4 EV Q → EZ G14 [] [] (fun x rs vs => (x = 0 ∧ ∃ y0_0, rs = [] ∧ vs = [.b y0_0] ∧ ((y0_0 = false → Q 0 [] [.b false]) ∧ (y0_0 = true → EZ G15 [] [.i u0, .i u1, .i u2, .i u3, .r u4, .i u5, .r u6, .r u7, .r u8, .r u9] (fun x rs vs => (x = 0 ∧ ∃ y2_0, rs = [] ∧ vs = [.b y2_0] ∧ ((y2_0 = true → ((u8.length : Int) ≤ 3 → EZ G19 [] [.i u0, .i u1, .i u2, .i u3, .r u4, .i u5, .r u6, .r u7, .r u8, .r u9] (fun x rs vs => (x = 0 ∧ ∃ y5_0, rs = [] ∧ vs = [.b y5_0] ∧ ((y5_0 = false → Q 0 [] [.b true]) ∧ (y5_0 = true → EZ G17 [] [.i u0, .i u1, .i u2, .i u3, .r u4, .i u5, .r u6, .r u7, .r u8, .r u9] (fun x rs vs => (x = 0 ∧ ∃ y7_0 y7_1, rs = [] ∧ vs = [.i y7_0, .i y7_1] ∧ ((y7_0 > y7_1 → Q 0 [] [.b (y7_0 == 18446744073709551615)]) ∧ (y7_0 ≤ y7_1 → Q 0 [] [.b true]))))))))) ∧ ((u8.length : Int) > 3 → Q 0 [] [.b true])) ∧ (y2_0 = false → Q 0 [] [.b true]))))))))) : EZ G4 [] [.i u0, .i u1, .i u2, .i u3, .r u4, .i u5, .r u6, .r u7, .r u8, .r u9] Q := by
 refine Inst.en (I := I4) (L := L4) F4_at fun A hA CE CK Dn EV RR W hp => ?_
 have h := h  EV ⟨trivial⟩
 cbv
 refine W.cl h ?_
 rintro _ _ _ hp0 (⟨rfl, y0_0, rfl, rfl, k0⟩)
 cbv
 refine ⟨imI hA fun e1 => have j1 := k0.1 (notE hA e1); (W.q j1), imI hA fun e1 => have j1 := k0.2 (notE hA e1); ?_⟩
 refine W.cl j1 ?_
 rintro _ _ _ hp2 (⟨rfl, y2_0, rfl, rfl, k2⟩)
 cbv
 refine ⟨imI hA fun e3 => have j3 := k2.1 (notE hA e3); ⟨imI hA fun e4 => have j4 := j3.1 (by subst hA; exact (cmpE (op := .gtr) rfl e4)); ?_, imI hA fun e4 => have j4 := j3.2 (by subst hA; exact (cmpE (op := .gtr) rfl e4)); (W.q j4)⟩, imI hA fun e3 => have j3 := k2.2 (notE hA e3); (W.q j3)⟩
 refine W.cl j4 ?_
 rintro _ _ _ hp5 (⟨rfl, y5_0, rfl, rfl, k5⟩)
 cbv
 refine ⟨imI hA fun e6 => have j6 := k5.1 (notE hA e6); (W.q j6), imI hA fun e6 => have j6 := k5.2 (notE hA e6); ?_⟩
 refine W.cl j6 ?_
 rintro _ _ _ hp7 (⟨rfl, y7_0, y7_1, rfl, rfl, k7⟩)
 cbv
 subst hA
 exact ⟨fun e8 => have j8 := k7.1 (cmpE (op := .leq) rfl e8); (W.q j8), fun e8 => have j8 := k7.2 (cmpE (op := .leq) rfl e8); (W.q j8)⟩

-- 72: signalbox/signalboxlaw30.one
end Go.Ab
