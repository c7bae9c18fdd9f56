/- EdfFits: the row's step, from the walk by shapes. -/
import Derived.Test.YtdmpiondalhonaaRows
import Derived.WalkKit
import Derived.ProofKit
import Derived.OpenShut
import Derived.ShutString
import Derived.ChangeOld
import Derived.Below
import Derived.Test.YtdmpiondalhonaaAbLaw
import Derived.Test.YtdmpiondalhonaaEdY
namespace Go.Proofs.Ytdmpiondalhonaa.edfFits
open Go.ChangeShapes Go.WideShapes Go.ChangeAt Go.RowKit
open Go.ChangeMaps (open_string shut_string)
set_option linter.unusedVariables false

theorem own : ownKnob Try.prog.godebug = none := by kernel_rfl
theorem laidOut : laidOutB Try.prog = true := by kernel_rfl

set_option maxRecDepth 100000 in
theorem lifted (os : Os) (started : os.Started) (H : Type) (enc : TypeId × Value → H) :
    ReturnsInHanded {} Try.checked os 9 .any (Rows.edfFitsSpec.pre6 enc Try.prog Try.f9 Rows.edfFitsRow.domain false) (Rows.edfFitsSpec.post enc Try.prog Try.f9 false true false false) := by
  refine returnsInHanded_of_change (C := Try.checked) own started (by kernel_rfl) Try.func9
    (ChangeSpec.witness6 (enc := enc) (C := Try.checked) false ⟨#[], #[.slice none 0 0, .int .u16 0], []⟩ 12 (by kernel_rfl) (by kernel_rfl) (by kernel_rfl) (by kernel_rfl)) ?_
  intro W base args ds gs before hval0 hW hcnd _
  have hval : ∀ (j : Nat) t v, Try.f9.params[j]? = some t → args[j]? = some v → Value.okWide Try.prog W .any base t v := hval0
  have hW' := hW
  obtain ⟨p, q, hA0, hV, rfl, hfz, hnd⟩ := hW
  have hA : DataW.TrodAll enc Try.prog W 0 (fun _ => true) true Try.f9.params.toList args.toList ds p := hA0
  rw [Try.params9] at hA hval
  obtain ⟨v0, vs0, d0, ds0, p0, q0, hargs, rfl, rfl, h0, r0⟩ := trodAll_cons hA
  obtain ⟨v1, vs1, d1, ds1, p1, q1, rfl, rfl, rfl, h1, r1⟩ := trodAll_cons r0
  obtain ⟨rfl, rfl, rfl⟩ := trodAll_nil r1
  obtain rfl : args = #[v0, v1] := by cases args; simp_all
  obtain ⟨rfl, rfl⟩ := trodVars_none hV
  obtain ⟨z0, y0, c0, rfl⟩ := okWide_slice Try.underlying57 (hval 0 57 v0 rfl rfl)
  obtain ⟨a0, e0, g0⟩ := Go.Ab.arg_one (n := 12) (w := W) (dt := .rows [.int .u64, .int .u64, .int .u64]) (by kernel_rfl) (by simp [Value.cells]) h0
  simp only [Go.Ab.GdC] at g0
  obtain ⟨x0, rfl, wx0, gx0⟩ := g0
  have lt0 : ∀ x ∈ p0, x.block < W.heap.size := by have hk := h0; obtain ⟨m, hm⟩ := hk; exact DataW.trod_lt m _ _ _ hm
  obtain ⟨z1, rfl⟩ := okWide_int Try.underlying66 (hval 1 66 v1 rfl rfl)
  obtain ⟨a1, e1, g1⟩ := Go.Ab.arg_one (n := 12) (w := W) (dt := .int .u16) (by kernel_rfl) (by simp [Value.cells]) h1
  simp only [Go.Ab.GdC] at g1
  obtain ⟨x1, rfl, wx1⟩ := g1
  have lt1 : ∀ x ∈ p1, x.block < W.heap.size := by have hk := h1; obtain ⟨m, hm⟩ := hk; exact DataW.trod_lt m _ _ _ hm
  clear hA0 hval0
  have hwalk := Go.Ab.EC.law (P := Try.prog) (f := 9) (args := Go.Ab.G9.args) (rs := []) (vs := [.r x0, .i x1]) (w := W) (vals := [.slice z0 y0 c0, .int .u16 z1]) (Go.Ab.Fits33 x0 wx0 gx0 x1 wx1) trivial (by
    simp only [Go.Ab.G9, Go.Ab.bldC, Go.Ab.blds, Go.Ab.bld, Go.Ab.rels]
    exact ⟨_, _, rfl, e0, _, _, rfl, e1, rfl⟩)
  refine hwalk.mono fun e W' ⟨he, bel⟩ => ?_
  subst he
  exact ⟨_, rfl, _, _, _, [], _, [], hW', trodAll_mk1 (shut_bool Try.underlying4 _), (trodAll_cons_mk (Below.trod laidOut (by kernel_rfl) (of_decide_eq_true (by kernel_rfl)) h0 bel lt0) (trodAll_cons_mk (Below.trod laidOut (by kernel_rfl) (of_decide_eq_true (by kernel_rfl)) h1 bel lt1) trodAll_mk0)), rfl, bel.frame _, fun h => by cases h⟩

theorem over : Rows.edfFitsRow.holds Try.pinned (OpenSpec.ofChange Rows.edfFitsSpec) :=
  OpenClaim.holds_of_wide 9 Try.f9 rfl rfl rfl rfl rfl rfl rfl ⟨rfl, rfl, rfl, rfl, rfl⟩ rfl rfl rfl rfl rfl (by kernel_rfl) Try.func9 (by kernel_rfl)
    (of_decide_eq_true (by kernel_rfl)) (by unfold Func.isWrapper; first | (rw [if_pos (by decide +kernel)]; kernel_rfl) | (rw [if_neg (by decide +kernel)]; exact ⟨rfl, rfl⟩))
    (fun os started H enc _ => lifted os started H enc)

/-- THE STATEMENT. -/
theorem proved : Rows.EdfFitsSaid := over
end Go.Proofs.Ytdmpiondalhonaa.edfFits
