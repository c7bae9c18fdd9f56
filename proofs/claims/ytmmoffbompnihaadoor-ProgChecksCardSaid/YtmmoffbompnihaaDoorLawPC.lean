/- ProgChecks: the row's step, from the walk by shapes. -/
import Derived.Test.YtmmoffbompnihaaDoorRows
import Derived.Test.YtmmoffbompnihaaDoorTie
import Derived.Test.YtmmoffbompnihaaDoorCards
import Derived.Test.YtmmoffbompnihaaDoorLayS
import Derived.WalkKit
import Derived.ProofKit
import Derived.OpenShut
import Derived.ShutString
import Derived.ChangeOld
import Derived.Below
import Derived.Test.YtmmoffbompnihaaDoorLayG
import Derived.Test.YtmmoffbompnihaaDoorQPcA
import Derived.Test.YtmmoffbompnihaaDoorQSo
namespace Go.Proofs.YtmmoffbompnihaaDoor.progChecks
open Go.ChangeShapes Go.WideShapes Go.ChangeAt Go.RowKit
open Go.ChangeMaps (open_string shut_string)
set_option linter.unusedVariables false
theorem own : ownKnob Tryd.prog.godebug = none := by kernel_rfl
theorem laidOut : laidOutB Tryd.prog = true := by kernel_rfl
theorem gvok {W : World} (h : laidMetH Tryd.prog Rows.progChecksRow.laid W) (hs : W.ShapedOpen Tryd.prog) : Go.Ab.GvOk W := by
 intro k o p hp
 unfold Go.Ab.gvOk at hp
 split at hp <;> first | (obtain rfl := Option.some.inj hp; obtain ⟨m, hm⟩ := Tryd.lays146.s1_3 W hs; exact ⟨_, hm, m, rfl⟩) | cases hp
set_option maxRecDepth 100000 in
theorem lifted (os : Os) (started : os.Started) (H : Type) (enc : TypeId × Value → H) :
  ReturnsInHanded {} Tryd.checked os 9 .any (fun w args => (Rows.progChecksSpec.pre enc Tryd.prog Tryd.f9 Rows.progChecksRow.domain false w args ∧ laidMetH Tryd.prog Rows.progChecksRow.laid w) ∧ sizedMet enc Tryd.prog Tryd.f9 (OpenSpec.ofChange Rows.progChecksSpec) false w args) (Rows.progChecksSpec.post enc Tryd.prog Tryd.f9 false true false false) := by
 refine Go.Ab.returnsInHanded_laid (C := Tryd.checked) (X := fun w _ => laidMetH Tryd.prog Rows.progChecksRow.laid w) (fun _ _ _ hh h => h.of_heap hh) own started (by kernel_rfl) Tryd.func9
  (ChangeSpec.witness_shaped (enc := enc) (C := Tryd.checked) (os := os) (X := fun w _ => laidMetH Tryd.prog Rows.progChecksRow.laid w) false (World.laidAll Tryd.prog os Rows.progChecksRow.laid) #[.slice none 0 0, .agg #[.int .i64 0, .int .i64 0, .int .i64 0, .int .i64 0]] 12 (World.laidAll_os _ _ _) (World.shaped_of_ZipB (by kernel_rfl) (by kernel_rfl)) (by kernel_rfl) (by kernel_rfl) (by kernel_rfl) (by rw [MakeChecks.laidMetH_plain _ _ _ (by kernel_rfl)]; exact laidMet_laidAll _ (by kernel_rfl) (by kernel_rfl))) ?_
 intro W base args ds gs before hval0 hW hcnd hsz0 hL hshp
 have hval : ∀ (j : Nat) t v, Tryd.f9.params[j]? = some t → args[j]? = some v → Value.okWide Tryd.prog W .any base t v := hval0
 have hW' := hW
 obtain ⟨p, q, hA0, hV, rfl, hfz, hnd⟩ := hW
 have hA : DataW.TrodAll enc Tryd.prog W 0 (fun _ => true) true Tryd.f9.params.toList args.toList ds p := hA0
 rw [Tryd.params9] at hA hval
 obtain ⟨v0, vs0, d0, ds0, p0, q0, hargs, rfl, rfl, h0, r0⟩ := trodAll_cons hA
 obtain ⟨v1, vs1, d1, ds1, p1, q1, rfl, rfl, rfl, h1, r1⟩ := trodAll_cons r0
 obtain ⟨rfl, rfl, rfl⟩ := trodAll_nil r1
 obtain rfl : args = #[v0, v1] := by cases args; simp_all
 obtain ⟨rfl, rfl⟩ := trodVars_none hV
 obtain ⟨z0, y0, c0, rfl⟩ := okWide_slice Tryd.underlying52 (hval 0 52 v0 rfl rfl)
 obtain ⟨a0, e0, g0⟩ := Go.Ab.arg_one (n := 12) (w := W) (dt := .rows [.int .i64, .int .i64, .int .i64]) (by kernel_rfl) (by simp [Value.cells]) h0
 simp only [Go.Ab.GdC] at g0
 obtain ⟨x0, rfl, wx0, gx0⟩ := g0
 have lt0 : ∀ x ∈ p0, x.block < W.heap.size := by have hk := h0; obtain ⟨m, hm⟩ := hk; exact DataW.trod_lt m _ _ _ hm
 obtain ⟨cs1, rfl, _⟩ := okWide_struct Tryd.underlying54 (hval 1 54 v1 rfl rfl)
 obtain ⟨a1, e1, g1⟩ := Go.Ab.arg_agg (n := 12) (w := W) (ds := [.int .i64, .int .i64, .int .i64, .int .i64]) (by kernel_rfl) h1
 simp only [Go.Ab.GdL, Go.Ab.GdC] at g1
 obtain ⟨_, _, rfl, ⟨x1_0, rfl, wx1_0⟩, _, _, rfl, ⟨x1_1, rfl, wx1_1⟩, _, _, rfl, ⟨x1_2, rfl, wx1_2⟩, _, _, rfl, ⟨x1_3, rfl, wx1_3⟩, rfl⟩ := g1
 have lt1 : ∀ x ∈ p1, x.block < W.heap.size := by have hk := h1; obtain ⟨m, hm⟩ := hk; exact DataW.trod_lt m _ _ _ hm
 clear hA0 hval0
 have hwalk := Go.Ab.EC.law (P := Tryd.prog) (f := 9) (args := Go.Ab.G9.args) (rs := []) (vs := [.r x0, .i x1_0, .i x1_1, .i x1_2, .i x1_3]) (w := W) (vals := [.slice z0 y0 c0, .agg cs1]) (Go.Ab.Checks9 x0 wx0 gx0 x1_0 wx1_0 x1_1 wx1_1 x1_2 wx1_2 x1_3 wx1_3) trivial (by
  simp only [Go.Ab.G9, Go.Ab.bldC, Go.Ab.blds, Go.Ab.bld, Go.Ab.rels]
  exact ⟨_, _, rfl, e0, _, _, rfl, e1, rfl⟩) (gvok hL hshp)
 refine hwalk.mono fun e W' ⟨he, bel⟩ => ?_
 subst he
 exact ⟨_, rfl, _, _, _, [], _, [], hW', trodAll_mk1 (shut_bool Tryd.underlying4 _), (trodAll_cons_mk (Below.trod laidOut (by kernel_rfl) (of_decide_eq_true (by kernel_rfl)) h0 bel lt0) (trodAll_cons_mk (Below.trod laidOut (by kernel_rfl) (of_decide_eq_true (by kernel_rfl)) h1 bel lt1) trodAll_mk0)), rfl, bel.frame _, fun h => by cases h⟩
theorem over : Rows.progChecksRow.holds Tryd.pinned (OpenSpec.ofChange Rows.progChecksSpec) :=
 OpenClaim.holds_of_wide 9 Tryd.f9 rfl rfl rfl rfl rfl rfl rfl ⟨rfl, rfl, rfl, rfl, rfl⟩ rfl rfl rfl rfl rfl (by kernel_rfl) Tryd.func9 (by kernel_rfl)
  (of_decide_eq_true (by kernel_rfl)) (by unfold Func.isWrapper; first | (rw [if_pos (by decide +kernel)]; kernel_rfl) | (rw [if_neg (by decide +kernel)]; exact ⟨rfl, rfl⟩))
  (fun os started H enc _ => lifted os started H enc)
theorem proved : Rows.ProgChecksCardSaid :=
 Claim7.holds_tied_plain_at .later [] [.data, .data, .data, .data, .sentinel, .sentinel, .pinned] true (true, "f95bd3bf727605d0865b944d5f750fe85c221c33f9cf826df39585fed3e0022f") true
  over (fun _ h => by cases h) (by kernel_rfl) (fun _ h => by cases h) progChecks_row_tie rfl ⟨rfl, rfl⟩ (by kernel_rfl) rfl
  (fun f fn hf hfn => by
   obtain rfl : f = 9 := Option.some.inj ((show Tryd.prog.funcNamed "signalbox/signalboxlaw06.ProgChecks" = some 9 by kernel_rfl).symm.trans hf) |>.symm
   obtain rfl : fn = Tryd.f9 := (Option.some.inj (Tryd.func9.symm.trans hfn)).symm
   exact ⟨by kernel_rfl, fun j t ht => by
    rw [Tryd.params9] at ht
    have hm : t ∈ ([52, 54] : List TypeId) := by simpa using Array.mem_of_getElem? ht
    have hall : (([52, 54] : List TypeId).all fun u => !Tryd.prog.wantsStandIn u) = true := by kernel_rfl
    exact (show Tryd.prog.wantsStandIn t = false by simpa using List.all_eq_true.1 hall t hm)⟩)
  (by kernel_rfl)
end Go.Proofs.YtmmoffbompnihaaDoor.progChecks
