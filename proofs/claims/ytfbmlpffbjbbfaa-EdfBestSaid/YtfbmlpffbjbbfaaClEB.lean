/- EdfBest: the row's step, from the walk by shapes. -/
import Derived.Test.YtfbmlpffbjbbfaaRows
import Derived.WalkKit
import Derived.ProofKit
import Derived.OpenShut
import Derived.ShutString
import Derived.ChangeOld
import Derived.Below
import Derived.Test.YtfbmlpffbjbbfaaLayG
import Derived.Test.YtfbmlpffbjbbfaaQsW
namespace Go.Proofs.Ytfbmlpffbjbbfaa.edfBest
open Go.ChangeShapes Go.WideShapes Go.ChangeAt Go.RowKit
open Go.ChangeMaps (open_string shut_string)
set_option linter.unusedVariables false
theorem own : ownKnob Try.prog.godebug = none := by kernel_rfl
theorem laidOut : laidOutB Try.prog = true := by kernel_rfl
set_option maxRecDepth 100000 in
theorem lifted (os : Os) (started : os.Started) (H : Type) (enc : TypeId × Value → H) :
  ReturnsInHanded {} Try.checked os 3 .any (Rows.edfBestSpec.pre6 enc Try.prog Try.f3 Rows.edfBestRow.domain false) (Rows.edfBestSpec.post enc Try.prog Try.f3 false true false false) := by
 refine returnsInHanded_of_change (C := Try.checked) own started (by kernel_rfl) Try.func3
  (ChangeSpec.witness6 (enc := enc) (C := Try.checked) false ⟨#[], #[.slice none 0 0, .slice none 0 0, .slice none 0 0], []⟩ 12 (by kernel_rfl) (by kernel_rfl) (by kernel_rfl) (by kernel_rfl)) ?_
 intro W base args ds gs before hval0 hW hcnd _
 have hval : ∀ (j : Nat) t v, Try.f3.params[j]? = some t → args[j]? = some v → Value.okWide Try.prog W .any base t v := hval0
 have hW' := hW
 obtain ⟨p, q, hA0, hV, rfl, hfz, hnd⟩ := hW
 have hA : DataW.TrodAll enc Try.prog W 0 (fun _ => true) true Try.f3.params.toList args.toList ds p := hA0
 rw [Try.params3] at hA hval
 obtain ⟨v0, vs0, d0, ds0, p0, q0, hargs, rfl, rfl, h0, r0⟩ := trodAll_cons hA
 obtain ⟨v1, vs1, d1, ds1, p1, q1, rfl, rfl, rfl, h1, r1⟩ := trodAll_cons r0
 obtain ⟨v2, vs2, d2, ds2, p2, q2, rfl, rfl, rfl, h2, r2⟩ := trodAll_cons r1
 obtain ⟨rfl, rfl, rfl⟩ := trodAll_nil r2
 obtain rfl : args = #[v0, v1, v2] := by cases args; simp_all
 obtain ⟨rfl, rfl⟩ := trodVars_none hV
 obtain ⟨z0, y0, c0, rfl⟩ := okWide_slice Try.underlying22 (hval 0 22 v0 rfl rfl)
 obtain ⟨a0, e0, g0⟩ := Go.Ab.arg_one (n := 12) (w := W) (dt := .rows [.int .u8]) (by kernel_rfl) (by simp [Value.cells]) h0
 simp only [Go.Ab.GdC] at g0
 obtain ⟨x0, rfl, wx0, gx0⟩ := g0
 have lt0 : ∀ x ∈ p0, x.block < W.heap.size := by have hk := h0; obtain ⟨m, hm⟩ := hk; exact DataW.trod_lt m _ _ _ hm
 obtain ⟨z1, y1, c1, rfl⟩ := okWide_slice Try.underlying22 (hval 1 22 v1 rfl rfl)
 obtain ⟨a1, e1, g1⟩ := Go.Ab.arg_one (n := 12) (w := W) (dt := .rows [.int .u8]) (by kernel_rfl) (by simp [Value.cells]) h1
 simp only [Go.Ab.GdC] at g1
 obtain ⟨x1, rfl, wx1, gx1⟩ := g1
 have lt1 : ∀ x ∈ p1, x.block < W.heap.size := by have hk := h1; obtain ⟨m, hm⟩ := hk; exact DataW.trod_lt m _ _ _ hm
 obtain ⟨z2, y2, c2, rfl⟩ := okWide_slice Try.underlying22 (hval 2 22 v2 rfl rfl)
 obtain ⟨a2, e2, g2⟩ := Go.Ab.arg_one (n := 12) (w := W) (dt := .rows [.int .u8]) (by kernel_rfl) (by simp [Value.cells]) h2
 simp only [Go.Ab.GdC] at g2
 obtain ⟨x2, rfl, wx2, gx2⟩ := g2
 have lt2 : ∀ x ∈ p2, x.block < W.heap.size := by have hk := h2; obtain ⟨m, hm⟩ := hk; exact DataW.trod_lt m _ _ _ hm
 clear hA0 hval0
 have hwalk := Go.Ab.EC.law (P := Try.prog) (f := 3) (args := Go.Ab.G3.args) (rs := []) (vs := [.r x0, .r x1, .r x2]) (w := W) (vals := [.slice z0 y0 c0, .slice z1 y1 c1, .slice z2 y2 c2]) (Go.Ab.EdfBest3 x0 wx0 gx0 x1 wx1 gx1 x2 wx2 gx2) trivial (by
  simp only [Go.Ab.G3, Go.Ab.bldC, Go.Ab.blds, Go.Ab.bld, Go.Ab.rels]
  exact ⟨_, _, rfl, e0, _, _, rfl, e1, _, _, rfl, e2, rfl⟩)
 refine hwalk.mono fun e W' ⟨he, bel⟩ => ?_
 subst he
 exact ⟨_, rfl, _, _, _, [], _, [], hW', trodAll_mk1 (shut_bool Try.underlying4 _), (trodAll_cons_mk (Below.trod laidOut (by kernel_rfl) (of_decide_eq_true (by kernel_rfl)) h0 bel lt0) (trodAll_cons_mk (Below.trod laidOut (by kernel_rfl) (of_decide_eq_true (by kernel_rfl)) h1 bel lt1) (trodAll_cons_mk (Below.trod laidOut (by kernel_rfl) (of_decide_eq_true (by kernel_rfl)) h2 bel lt2) trodAll_mk0))), rfl, bel.frame _, fun h => by cases h⟩
theorem over : Rows.edfBestRow.holds Try.pinned (OpenSpec.ofChange Rows.edfBestSpec) :=
 OpenClaim.holds_of_wide 3 Try.f3 rfl rfl rfl rfl rfl rfl rfl ⟨rfl, rfl, rfl, rfl, rfl⟩ rfl rfl rfl rfl rfl (by kernel_rfl) Try.func3 (by kernel_rfl)
  (of_decide_eq_true (by kernel_rfl)) (by unfold Func.isWrapper; first | (rw [if_pos (by decide +kernel)]; kernel_rfl) | (rw [if_neg (by decide +kernel)]; exact ⟨rfl, rfl⟩))
  (fun os started H enc _ => lifted os started H enc)
theorem proved : Rows.EdfBestSaid := over
end Go.Proofs.Ytfbmlpffbjbbfaa.edfBest
