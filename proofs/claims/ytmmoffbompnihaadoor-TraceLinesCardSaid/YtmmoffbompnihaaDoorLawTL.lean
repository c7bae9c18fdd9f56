/- TraceLines: the row's step, from the walk by shapes. -/
import Derived.Test.YtmmoffbompnihaaDoorRows
import Derived.Test.YtmmoffbompnihaaDoorTie
import Derived.Test.YtmmoffbompnihaaDoorCards
import Derived.Test.YtmmoffbompnihaaDoorLayS
import Derived.WalkKit
import Derived.ProofKit
import Derived.OpenShut
import Derived.ShutString
import Derived.ChangeOld
import Derived.Below
import Derived.Test.YtmmoffbompnihaaDoorLayG
import Derived.Test.YtmmoffbompnihaaDoorQTlG
import Derived.Test.YtmmoffbompnihaaDoorQSo
import Derived.Lib.LaidU8
namespace Go.Proofs.YtmmoffbompnihaaDoor.traceLines
open Go.ChangeShapes Go.WideShapes Go.ChangeAt Go.RowKit
open Go.ChangeMaps (open_string shut_string)
set_option linter.unusedVariables false
theorem own : ownKnob Tryd.prog.godebug = none := by kernel_rfl
theorem laidOut : laidOutB Tryd.prog = true := by kernel_rfl
theorem gvok {W : World} (h : laidMetH Tryd.prog Rows.traceLinesRow.laid W) (hs : W.ShapedOpen Tryd.prog) : Go.Ab.GvOk W := by
 rw [MakeChecks.laidMetH_plain _ _ _ (by kernel_rfl)] at h
 obtain ⟨m, hm⟩ := Tryd.lays146.s1_3 W hs
 obtain ⟨g, t, cs, fuel, p0, hg, hty, hvar, hd⟩ := Go.Lib.laidMet.reads h (n := "internal/strconv.uint64pow10") (d := Rows.laid_internal_strconv_uint64pow10) (.tail _ (.tail _ (.head _)))
 have hg1 : Tryd.prog.globalNamed "internal/strconv.uint64pow10" = some 1 := by kernel_rfl
 obtain rfl := Option.some.inj (hg1.symm.trans hg)
 obtain rfl := Option.some.inj ((show (Tryd.prog.globals[1]?).map (·.type) = some 183 by kernel_rfl).symm.trans hty)
 have hcs := Go.Lib.cells_of_tab (k := .u64) (zs := Go.Lib.pow10Tab) (show Tryd.prog.underlying 183 = some (.array 20 132) by kernel_rfl) (by kernel_rfl) (by kernel_rfl) (by kernel_rfl) hd
 obtain rfl : cs = (Go.Lib.pow10Tab.map fun z => Value.int .u64 z).toArray := by rw [← hcs]
 have hb := hvar
 unfold World.var? at hb
 rw [hg1] at hb
 have hc := World.var?_cell hg hvar 0
 intro k o p hp
 unfold Go.Ab.gvOk at hp
 split at hp <;> first | (obtain rfl := Option.some.inj hp; exact ⟨_, hm, ⟨m, rfl⟩, fun h => by cases h⟩) | (obtain rfl := Option.some.inj hp; exact ⟨_, hc, trivial, fun _ => hb⟩) | cases hp
set_option maxRecDepth 100000 in
theorem lifted (os : Os) (started : os.Started) (H : Type) (enc : TypeId × Value → H) :
  ReturnsInHanded {} Tryd.checked os 3 .any (fun w args => (Rows.traceLinesSpec.pre enc Tryd.prog Tryd.f3 Rows.traceLinesRow.domain false w args ∧ laidMetH Tryd.prog Rows.traceLinesRow.laid w) ∧ sizedMet enc Tryd.prog Tryd.f3 (OpenSpec.ofChange Rows.traceLinesSpec) false w args) (Rows.traceLinesSpec.post enc Tryd.prog Tryd.f3 false true false false) := by
 refine Go.Ab.returnsInHanded_laid (C := Tryd.checked) (X := fun w _ => laidMetH Tryd.prog Rows.traceLinesRow.laid w) (fun _ _ _ hh h => h.of_heap hh) own started (by kernel_rfl) Tryd.func3
  (ChangeSpec.witness_shaped (enc := enc) (C := Tryd.checked) (os := os) (X := fun w _ => laidMetH Tryd.prog Rows.traceLinesRow.laid w) false (World.laidAll Tryd.prog os Rows.traceLinesRow.laid) #[.agg #[.int .i64 0, .int .i64 0, .int .i64 0, .int .i64 0, .int .i64 0, .int .i64 0, .int .i64 0]] 12 (World.laidAll_os _ _ _) (World.shaped_of_ZipB (by kernel_rfl) (by kernel_rfl)) (by kernel_rfl) (by kernel_rfl) (by kernel_rfl) (by rw [MakeChecks.laidMetH_plain _ _ _ (by kernel_rfl)]; exact laidMet_laidAll _ (by kernel_rfl) (by kernel_rfl))) ?_
 intro W base args ds gs before hval0 hW hcnd hsz0 hL hshp
 have hval : ∀ (j : Nat) t v, Tryd.f3.params[j]? = some t → args[j]? = some v → Value.okWide Tryd.prog W .any base t v := hval0
 have hW' := hW
 obtain ⟨p, q, hA0, hV, rfl, hfz, hnd⟩ := hW
 have hA : DataW.TrodAll enc Tryd.prog W 0 (fun _ => true) true Tryd.f3.params.toList args.toList ds p := hA0
 rw [Tryd.params3] at hA hval
 obtain ⟨v0, vs0, d0, ds0, p0, q0, hargs, rfl, rfl, h0, r0⟩ := trodAll_cons hA
 obtain ⟨rfl, rfl, rfl⟩ := trodAll_nil r0
 obtain rfl : args = #[v0] := by cases args; simp_all
 obtain ⟨rfl, rfl⟩ := trodVars_none hV
 obtain ⟨cs0, rfl, _⟩ := okWide_struct Tryd.underlying24 (hval 0 24 v0 rfl rfl)
 obtain ⟨a0, e0, g0⟩ := Go.Ab.arg_agg (n := 12) (w := W) (ds := [.int .i64, .int .i64, .int .i64, .int .i64, .int .i64, .int .i64, .int .i64]) (by kernel_rfl) h0
 simp only [Go.Ab.GdL, Go.Ab.GdC] at g0
 obtain ⟨_, _, rfl, ⟨x0_0, rfl, wx0_0⟩, _, _, rfl, ⟨x0_1, rfl, wx0_1⟩, _, _, rfl, ⟨x0_2, rfl, wx0_2⟩, _, _, rfl, ⟨x0_3, rfl, wx0_3⟩, _, _, rfl, ⟨x0_4, rfl, wx0_4⟩, _, _, rfl, ⟨x0_5, rfl, wx0_5⟩, _, _, rfl, ⟨x0_6, rfl, wx0_6⟩, rfl⟩ := g0
 have lt0 : ∀ x ∈ p0, x.block < W.heap.size := by have hk := h0; obtain ⟨m, hm⟩ := hk; exact DataW.trod_lt m _ _ _ hm
 clear hA0 hval0
 have hwalk := Go.Ab.EC.law (P := Tryd.prog) (f := 3) (args := Go.Ab.G3.args) (rs := []) (vs := [.i x0_0, .i x0_1, .i x0_2, .i x0_3, .i x0_4, .i x0_5, .i x0_6]) (w := W) (vals := [.agg cs0]) (Go.Ab.Lines3d x0_0 wx0_0 x0_1 wx0_1 x0_2 wx0_2 x0_3 wx0_3 x0_4 wx0_4 x0_5 wx0_5 x0_6 wx0_6) trivial (by
  simp only [Go.Ab.G3, Go.Ab.bldC, Go.Ab.blds, Go.Ab.bld, Go.Ab.rels]
  exact ⟨_, _, rfl, e0, rfl⟩) (gvok hL hshp)
 refine hwalk.mono fun e W' ⟨he, bel⟩ => ?_
 subst he
 exact ⟨_, rfl, _, _, _, [], _, [], hW', trodAll_mk1 (shut_bool Tryd.underlying4 _), (trodAll_cons_mk (Below.trod laidOut (by kernel_rfl) (of_decide_eq_true (by kernel_rfl)) h0 bel lt0) trodAll_mk0), rfl, bel.frame _, fun h => by cases h⟩
theorem over : Rows.traceLinesRow.holds Tryd.pinned (OpenSpec.ofChange Rows.traceLinesSpec) :=
 OpenClaim.holds_of_wide 3 Tryd.f3 rfl rfl rfl rfl rfl rfl rfl ⟨rfl, rfl, rfl, rfl, rfl⟩ rfl rfl rfl rfl rfl (by kernel_rfl) Tryd.func3 (by kernel_rfl)
  (of_decide_eq_true (by kernel_rfl)) (by unfold Func.isWrapper; first | (rw [if_pos (by decide +kernel)]; kernel_rfl) | (rw [if_neg (by decide +kernel)]; exact ⟨rfl, rfl⟩))
  (fun os started H enc _ => lifted os started H enc)
theorem proved : Rows.TraceLinesCardSaid :=
 Claim7.holds_tied_plain_at .later [] [.data, .data, .data, .data, .sentinel, .sentinel, .pinned] true (true, "f95bd3bf727605d0865b944d5f750fe85c221c33f9cf826df39585fed3e0022f") true
  over (fun _ h => by cases h) (by kernel_rfl) (fun _ h => by cases h) traceLines_row_tie rfl ⟨rfl, rfl⟩ (by kernel_rfl) rfl
  (fun f fn hf hfn => by
   obtain rfl : f = 3 := Option.some.inj ((show Tryd.prog.funcNamed "signalbox/signalboxlaw20.TraceLines" = some 3 by kernel_rfl).symm.trans hf) |>.symm
   obtain rfl : fn = Tryd.f3 := (Option.some.inj (Tryd.func3.symm.trans hfn)).symm
   exact ⟨by kernel_rfl, fun j t ht => by
    rw [Tryd.params3] at ht
    have hm : t ∈ ([24] : List TypeId) := by simpa using Array.mem_of_getElem? ht
    have hall : (([24] : List TypeId).all fun u => !Tryd.prog.wantsStandIn u) = true := by kernel_rfl
    exact (show Tryd.prog.wantsStandIn t = false by simpa using List.all_eq_true.1 hall t hm)⟩)
  (by kernel_rfl)
end Go.Proofs.YtmmoffbompnihaaDoor.traceLines
