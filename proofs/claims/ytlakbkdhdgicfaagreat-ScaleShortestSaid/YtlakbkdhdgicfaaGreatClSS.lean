/- ScaleShortest: the row's step, from the walk by shapes. -/
import Derived.Test.YtlakbkdhdgicfaaGreatRows
import Derived.WalkKit
import Derived.ProofKit
import Derived.OpenShut
import Derived.ShutString
import Derived.ChangeOld
import Derived.Below
import Derived.Test.YtlakbkdhdgicfaaGreatLayE
import Derived.Test.YtlakbkdhdgicfaaGreatQDqX
namespace Go.Proofs.YtlakbkdhdgicfaaGreat.scaleShortest
open Go.ChangeShapes Go.WideShapes Go.ChangeAt Go.RowKit
open Go.ChangeMaps (open_string shut_string)
set_option linter.unusedVariables false
theorem own : ownKnob Tryz.prog.godebug = none := by kernel_rfl
theorem laidOut : laidOutB Tryz.prog = true := by kernel_rfl
set_option maxRecDepth 100000 in
theorem lifted (os : Os) (started : os.Started) (H : Type) (enc : TypeId × Value → H) :
  ReturnsInHanded {} Tryz.checked os 13 .any (Rows.scaleShortestSpec.pre6 enc Tryz.prog Tryz.f13 Rows.scaleShortestRow.domain false) (Rows.scaleShortestSpec.post enc Tryz.prog Tryz.f13 false true false false) := by
 refine returnsInHanded_of_change (C := Tryz.checked) own started (by kernel_rfl) Tryz.func13
  (ChangeSpec.witness6 (enc := enc) (C := Tryz.checked) false ⟨#[], #[.agg #[.int .i64 0, .int .i64 0, .int .i64 0, .int .i64 0, .slice none 0 0, .int .i64 0, .slice none 0 0, .slice none 0 0, .slice none 0 0, .slice none 0 0], .int .i64 0, .int .u16 0], []⟩ 12 (by kernel_rfl) (by kernel_rfl) (by kernel_rfl) (by kernel_rfl)) ?_
 intro W base args ds gs before hval0 hW hcnd _
 have hval : ∀ (j : Nat) t v, Tryz.f13.params[j]? = some t → args[j]? = some v → Value.okWide Tryz.prog W .any base t v := hval0
 have hW' := hW
 obtain ⟨p, q, hA0, hV, rfl, hfz, hnd⟩ := hW
 have hA : DataW.TrodAll enc Tryz.prog W 0 (fun _ => true) true Tryz.f13.params.toList args.toList ds p := hA0
 rw [Tryz.params13] at hA hval
 obtain ⟨v0, vs0, d0, ds0, p0, q0, hargs, rfl, rfl, h0, r0⟩ := trodAll_cons hA
 obtain ⟨v1, vs1, d1, ds1, p1, q1, rfl, rfl, rfl, h1, r1⟩ := trodAll_cons r0
 obtain ⟨v2, vs2, d2, ds2, p2, q2, rfl, rfl, rfl, h2, r2⟩ := trodAll_cons r1
 obtain ⟨rfl, rfl, rfl⟩ := trodAll_nil r2
 obtain rfl : args = #[v0, v1, v2] := by cases args; simp_all
 obtain ⟨rfl, rfl⟩ := trodVars_none hV
 obtain ⟨cs0, rfl, _⟩ := okWide_struct Tryz.underlying27 (hval 0 27 v0 rfl rfl)
 obtain ⟨a0, e0, g0⟩ := Go.Ab.oW (n := 12) (w := W) (ds := [.int .i64, .int .i64, .int .i64, .int .i64, .rows [.int .i64], .int .i64, .rows [.int .i64], .rows [.int .i64], .rows [.int .i64, .int .i64, .int .i64, .int .i64, .int .i64, .int .i64, .rows [.int .i64, .int .i64, .int .i64]], .rows [.int .i64]]) (by kernel_rfl) h0
 simp only [Go.Ab.GdL, Go.Ab.GdC] at g0
 obtain ⟨_, _, rfl, ⟨x0_0, rfl, wx0_0⟩, _, _, rfl, ⟨x0_1, rfl, wx0_1⟩, _, _, rfl, ⟨x0_2, rfl, wx0_2⟩, _, _, rfl, ⟨x0_3, rfl, wx0_3⟩, _, _, rfl, ⟨x0_4, rfl, wx0_4, gx0_4⟩, _, _, rfl, ⟨x0_5, rfl, wx0_5⟩, _, _, rfl, ⟨x0_6, rfl, wx0_6, gx0_6⟩, _, _, rfl, ⟨x0_7, rfl, wx0_7, gx0_7⟩, _, _, rfl, ⟨x0_8, rfl, wx0_8, gx0_8⟩, _, _, rfl, ⟨x0_9, rfl, wx0_9, gx0_9⟩, rfl⟩ := g0
 have lt0 : ∀ x ∈ p0, x.block < W.heap.size := by have hk := h0; obtain ⟨m, hm⟩ := hk; exact DataW.trod_lt m _ _ _ hm
 obtain ⟨z1, rfl⟩ := okWide_int Tryz.underlying3 (hval 1 3 v1 rfl rfl)
 obtain ⟨a1, e1, g1⟩ := Go.Ab.jG (n := 12) (w := W) (dt := .int .i64) (by kernel_rfl) (by simp [Value.cells]) h1
 simp only [Go.Ab.GdC] at g1
 obtain ⟨x1, rfl, wx1⟩ := g1
 have lt1 : ∀ x ∈ p1, x.block < W.heap.size := by have hk := h1; obtain ⟨m, hm⟩ := hk; exact DataW.trod_lt m _ _ _ hm
 obtain ⟨z2, rfl⟩ := okWide_int Tryz.underlying72 (hval 2 72 v2 rfl rfl)
 obtain ⟨a2, e2, g2⟩ := Go.Ab.jG (n := 12) (w := W) (dt := .int .u16) (by kernel_rfl) (by simp [Value.cells]) h2
 simp only [Go.Ab.GdC] at g2
 obtain ⟨x2, rfl, wx2⟩ := g2
 have lt2 : ∀ x ∈ p2, x.block < W.heap.size := by have hk := h2; obtain ⟨m, hm⟩ := hk; exact DataW.trod_lt m _ _ _ hm
 clear hA0 hval0
 have hwalk := Go.Ab.EC.law (P := Tryz.prog) (f := 13) (args := Go.Ab.G13.args) (rs := []) (vs := [.i x0_0, .i x0_1, .i x0_2, .i x0_3, .r x0_4, .i x0_5, .r x0_6, .r x0_7, .r x0_8, .r x0_9, .i x1, .i x2]) (w := W) (vals := [.agg cs0, .int .i64 z1, .int .u16 z2]) (Go.Ab.Wx x0_0 wx0_0 x0_1 wx0_1 x0_2 wx0_2 x0_3 wx0_3 x0_4 wx0_4 gx0_4 x0_5 wx0_5 x0_6 wx0_6 gx0_6 x0_7 wx0_7 gx0_7 x0_8 wx0_8 gx0_8 x0_9 wx0_9 gx0_9 x1 wx1 x2 wx2) trivial (by
  simp only [Go.Ab.G13, Go.Ab.eu, Go.Ab.pO, Go.Ab.bld, Go.Ab.aG]
  exact ⟨_, _, rfl, e0, _, _, rfl, e1, _, _, rfl, e2, rfl⟩)
 refine hwalk.mono fun e W' ⟨he, bel⟩ => ?_
 subst he
 exact ⟨_, rfl, _, _, _, [], _, [], hW', trodAll_mk1 (shut_bool Tryz.underlying4 _), (trodAll_cons_mk (Below.trod laidOut (by kernel_rfl) (of_decide_eq_true (by kernel_rfl)) h0 bel lt0) (trodAll_cons_mk (Below.trod laidOut (by kernel_rfl) (of_decide_eq_true (by kernel_rfl)) h1 bel lt1) (trodAll_cons_mk (Below.trod laidOut (by kernel_rfl) (of_decide_eq_true (by kernel_rfl)) h2 bel lt2) trodAll_mk0))), rfl, bel.frame _, fun h => by cases h⟩
theorem over : Rows.scaleShortestRow.holds Tryz.pinned (OpenSpec.ofChange Rows.scaleShortestSpec) :=
 OpenClaim.holds_of_wide 13 Tryz.f13 rfl rfl rfl rfl rfl rfl rfl ⟨rfl, rfl, rfl, rfl, rfl⟩ rfl rfl rfl rfl rfl (by kernel_rfl) Tryz.func13 (by kernel_rfl)
  (of_decide_eq_true (by kernel_rfl)) (by unfold Func.isWrapper; first | (rw [if_pos (by decide +kernel)]; kernel_rfl) | (rw [if_neg (by decide +kernel)]; exact ⟨rfl, rfl⟩))
  (fun os started H enc _ => lifted os started H enc)
theorem proved : Rows.ScaleShortestSaid := over
end Go.Proofs.YtlakbkdhdgicfaaGreat.scaleShortest
