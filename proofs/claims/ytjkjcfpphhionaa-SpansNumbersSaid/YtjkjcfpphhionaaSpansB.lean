/- Spans: slices.SortFunc at spans, by their begins and by their ends. -/
import Derived.Test.YtjkjcfpphhionaaSpSf
import Derived.Test.YtjkjcfpphhionaaAbSf
import Derived.Test.YtjkjcfpphhionaaSpansP
import Derived.WalkKit
namespace Go.Ab
open Go Go.Proofs Go.Shelf Go.RowKit Go.Lib Go.Sort
set_option linter.unusedVariables false
set_option linter.unusedSimpArgs false

instance : Inhabited Spn.Sp := ⟨⟨0, 0⟩⟩
def eiS (s : Spn.Sp) : List Int := [s.f, s.t]
def cfF (x y : Spn.Sp) : Int := Lib.compareInt x.f y.f
def cfT (x y : Spn.Sp) : Int := Lib.compareInt x.t y.t
theorem cmp_lt (a b : Int) : decide (Lib.compareInt a b < 0) = decide (a < b) := by
  unfold Lib.compareInt
  by_cases h1 : a < b
  · simp [h1]
  · by_cases h2 : b < a <;> simp [h1, h2]
theorem ltF (x y : Spn.Sp) : ltOf cfF x y = decide (x.f < y.f) := cmp_lt _ _
theorem ltT (x y : Spn.Sp) : ltOf cfT x y = decide (x.t < y.t) := cmp_lt _ _
theorem swoF : SWO (ltOf cfF) where
  irrefl x := by rw [ltF]; simp
  trans x y z h1 h2 := by rw [ltF] at *; simp at *; omega
  ntrans x y z h1 h2 := by rw [ltF] at *; simp at *; omega
theorem swoT : SWO (ltOf cfT) where
  irrefl x := by rw [ltT]; simp
  trans x y z h1 h2 := by rw [ltT] at *; simp at *; omega
  ntrans x y z h1 h2 := by rw [ltT] at *; simp at *; omega

set_option maxHeartbeats 1000000 in
theorem closF (W : World) (x y : Spn.Sp) : Calls Try.prog 68 #[.agg (encF eiS x).toArray, .agg (encF eiS y).toArray] W fun e w' => e = .returned (.int .i64 (cfF x y)) ∧ ∃ q os', w' = grow (W.drewN q) os' := by
  show Calls Try.prog 68 #[.agg #[.int .i64 x.f, .int .i64 x.t], .agg #[.int .i64 y.f, .int .i64 y.t]] W _
  have hcon := fun W' => AnyG.cmp_Compare_int Try.cmpInt x.f y.f W'
  change ∀ W', Calls Try.prog 56 _ _ _ at hcon
  show Calls Try.prog 68 _ W fun e w' => e = .returned (.int .i64 (Lib.compareInt x.f y.f)) ∧ ∃ q os', w' = grow (W.drewN q) os'
  generalize Lib.compareInt x.f y.f = r at hcon ⊢
  go_enter Try.func68, Try.ntmps68
  go_wp2_with (go_at_call 56; refine (hcon _).mono ?_; rintro e w' ⟨rfl, rfl⟩)
  go_ret
  exact ⟨rfl, 0, _, by rw [alloc_eq_grow, alloc_eq_grow, grow_grow]; rfl⟩
set_option maxHeartbeats 1000000 in
theorem closT (W : World) (x y : Spn.Sp) : Calls Try.prog 55 #[.agg (encF eiS x).toArray, .agg (encF eiS y).toArray] W fun e w' => e = .returned (.int .i64 (cfT x y)) ∧ ∃ q os', w' = grow (W.drewN q) os' := by
  show Calls Try.prog 55 #[.agg #[.int .i64 x.f, .int .i64 x.t], .agg #[.int .i64 y.f, .int .i64 y.t]] W _
  have hcon := fun W' => AnyG.cmp_Compare_int Try.cmpInt x.t y.t W'
  change ∀ W', Calls Try.prog 56 _ _ _ at hcon
  show Calls Try.prog 55 _ W fun e w' => e = .returned (.int .i64 (Lib.compareInt x.t y.t)) ∧ ∃ q os', w' = grow (W.drewN q) os'
  generalize Lib.compareInt x.t y.t = r at hcon ⊢
  go_enter Try.func55, Try.ntmps55
  go_wp2_with (go_at_call 56; refine (hcon _).mono ?_; rintro e w' ⟨rfl, rfl⟩)
  go_ret
  exact ⟨rfl, 0, _, by rw [alloc_eq_grow, alloc_eq_grow, grow_grow]; rfl⟩

theorem h1S (x : Spn.Sp) : ∀ v ∈ encF eiS x, v.oneCell' = true := fun v hv => by
  simp [encF, eiS] at hv
  rcases hv with rfl | rfl <;> rfl
theorem sortFC (cf : Spn.Sp → Spn.Sp → Int) (hO : SWO (ltOf cf)) (g : Nat) (eg : ∀ args w, (callFunc g args).run Try.prog w = .ok (.enter g args) w) : SortFC Try.prog 54 g 2 eiS cf :=
  ⟨⟨Try.f54, Try.func54, by kernel_rfl, by kernel_rfl⟩, fun p cap fv w => AnyF.slices_SortFunc_none Try.sortSpan p cap fv w,
    fun blk off cap d w hcm hH hb hl => AnyQ.slices_SortFunc Try.sortSpan 2 Try.isAgg63 Try.sizeOf63 (encF eiS) (fun _ => rfl) h1S cf hO g #[] blk off cap d w (fun args => eg args) hcm hH hb hl⟩
theorem sortFrom (e : TypeId) (L : List Spn.Sp) (hL : L.length < 4611686018427387904) :
    EC Try.prog ⟨54, [.sl 0, .fn 68 [] []], [.arr e 2], [⟨true, ⟨[], [.arr e 2]⟩⟩]⟩ [rowF eiS L] [] fun x rs vs => x = 0 ∧ (∃ L', SortedF cfF L L' ∧ rs = [rowF eiS L']) ∧ vs = [] :=
  sortF_E (sortFC cfF swoF 68 fun args w => enters_of Try.func68 (by kernel_rfl) rfl args w) (fun _ => rfl) (by decide) closF L hL
theorem sortTo (e : TypeId) (L : List Spn.Sp) (hL : L.length < 4611686018427387904) :
    EC Try.prog ⟨54, [.sl 0, .fn 55 [] []], [.arr e 2], [⟨true, ⟨[], [.arr e 2]⟩⟩]⟩ [rowF eiS L] [] fun x rs vs => x = 0 ∧ (∃ L', SortedF cfT L L' ∧ rs = [rowF eiS L']) ∧ vs = [] :=
  sortF_E (sortFC cfT swoT 55 fun args w => enters_of Try.func55 (by kernel_rfl) rfl args w) (fun _ => rfl) (by decide) closT L hL
end Go.Ab
