/- Spans: the calls that the document fixes; the sets' law. For every input. -/
import Derived.Test.YtjkjcfpphhionaaSpansE
import Derived.Test.YtjkjcfpphhionaaSpansR
import Derived.Test.YtjkjcfpphhionaaAbZk
import Derived.Test.YtjkjcfpphhionaaAbLaw
namespace Go.Ab
open Go Go.Proofs Spn
set_option linter.unusedVariables false
set_option linter.unusedSimpArgs false
set_option maxRecDepth 100000
set_option maxHeartbeats 1000000

def l0 : List Sp := [⟨4, 9⟩, ⟨3, 5⟩, ⟨9, 2⟩]
def exA : Exit := ⟨false, ⟨[(0, .sl 0)], [.arr 63 2]⟩⟩
def KN : List Kn := [knOf G26 exA [.r (R2 l0)] [R2 (JN l0)] [],
  knOf G36 ⟨true, ⟨[(0, .int .i64), (1, .int .i64)], []⟩⟩ [.r (R2 l0)] [] [.i (DP l0).1, .i (DP l0).2],
  knOf G29 exA [.r (R2 l0), .i 0, .i 12] [R2 (GP l0 0 12)] [],
  knOf G35 ⟨true, ⟨[(0, .agg [.int .i64, .int .i64]), (1, .sb)], []⟩⟩ [.r (R2 l0)] [] (match longF (JN l0) with | some s => [.i s.f, .i s.t, .b true] | none => [.i 0, .i 0, .b false]),
  knOf G37 ⟨false, ⟨[(0, .int .i64)], []⟩⟩ [.r (R2 l0)] [] [.i (totF (JN l0))],
  knOf G31 exA [.r (R2 l0), .r (R2 [⟨8, 20⟩])] [R2 (MT l0 [⟨8, 20⟩])] []]
theorem KN_ok : ∀ k ∈ KN, KnOk Try.prog k := by
  intro k hk
  simp only [KN, List.mem_cons, List.not_mem_nil, or_false] at hk
  rcases hk with rfl | rfl | rfl | rfl | rfl | rfl
  · exact EC.kn (Join_E l0 (by decide)) rfl rfl ⟨rowF_pure _ _, trivial⟩
  · exact EC.kn (Deepest_E l0 (by decide)) rfl rfl trivial
  · exact EC.kn (Gaps_E l0 0 12 (by decide)) rfl rfl ⟨rowF_pure _ _, trivial⟩
  · exact EC.kn (Longest_E l0 (by decide)) rfl rfl trivial
  · exact EC.kn (Total_E l0 (by decide)) rfl rfl trivial
  · exact EC.kn (Meet_E l0 [⟨8, 20⟩] (by decide) (by decide)) rfl rfl ⟨rowF_pure _ _, trivial⟩
theorem fixed24 : EC Try.prog G24 [] [] fun x rs vs => x = 0 ∧ rs = [] ∧ vs = [.b true] := EC.closedK mixed TT_at KN_ok (n := 1000) (by kernel_rfl)

theorem exSp : ∀ {rows : List (List AV)}, (∀ r ∈ rows, GdL [.int .i64, .int .i64] r) → ∃ L : List Sp, rows = R2 L
  | [], _ => ⟨[], rfl⟩
  | r :: rows, h => by
    obtain ⟨L, hL⟩ := exSp fun x hx => h x (List.mem_cons_of_mem _ hx)
    have h0 := h r (List.mem_cons_self ..)
    simp only [GdL, GdC] at h0
    obtain ⟨_, _, e, ⟨a, rfl, _⟩, _, _, e2, ⟨b, rfl, _⟩, e3⟩ := h0
    exact ⟨⟨a, b⟩ :: L, by rw [e, e2, e3, hL]; rfl⟩

theorem Sets50 (a : List (List AV)) (_ : a.length ≤ maxLen) (ga : ∀ r ∈ a, GdL [.int .i64, .int .i64] r) (b : List (List AV)) (_ : b.length ≤ maxLen) (gb : ∀ r ∈ b, GdL [.int .i64, .int .i64] r) (f : Int) (_ : (Lit.int .i64 f).wf = true) (t : Int) (_ : (Lit.int .i64 t).wf = true) : EC Try.prog G8 [] [.r a, .r b, .i f, .i t] fun x rs vs => x = 0 ∧ vs = [.b true] := by
  obtain ⟨A, rfl⟩ := exSp ga
  obtain ⟨B, rfl⟩ := exSp gb
  refine E8 fun EV V => fixed24.mono ?_
  rintro _ _ _ ⟨rfl, rfl, rfl⟩
  rw [R2_len, R2_len]
  refine ⟨rfl, _, rfl, rfl, fun h => (by cases h), fun _ => ⟨fun h1 => ⟨fun h2 => ⟨rfl, rfl⟩, fun h2 => ?_⟩, fun _ => ⟨rfl, rfl⟩⟩⟩
  have hA : A.length ≤ 1000 := by omega
  have hB : B.length ≤ 1000 := by omega
  have l1 := JN_len A
  have l2 := GP_len A f t
  have l3 := MT_len A B
  refine (Join_E A hA).mono ?_
  rintro _ _ _ ⟨rfl, rfl, rfl⟩
  refine ⟨rfl, _, rfl, rfl, (Rows_E A (by omega)).mono ?_⟩
  rintro _ _ _ ⟨rfl, rfl, rfl⟩
  refine ⟨rfl, _, rfl, rfl, ?_⟩
  rw [R2_take_all]
  refine (RJoin_E A hA).mono ?_
  rintro _ _ _ ⟨rfl, rfl, rfl⟩
  refine ⟨rfl, _, rfl, rfl, ?_⟩
  rw [R2_take_all]
  refine (Same_E (JN A) (by omega)).mono ?_
  rintro _ _ _ ⟨rfl, rfl, rfl⟩
  refine ⟨rfl, _, rfl, rfl, fun _ => ?_, fun h => by cases h⟩
  refine (Gaps_E A f t hA).mono ?_
  rintro _ _ _ ⟨rfl, rfl, rfl⟩
  refine ⟨rfl, _, rfl, rfl, (Rows_E A (by omega)).mono ?_⟩
  rintro _ _ _ ⟨rfl, rfl, rfl⟩
  refine ⟨rfl, _, rfl, rfl, ?_⟩
  rw [R2_take_all]
  refine (RGaps_E A f t hA).mono ?_
  rintro _ _ _ ⟨rfl, rfl, rfl⟩
  refine ⟨rfl, _, rfl, rfl, ?_⟩
  rw [R2_take_all]
  refine (Same_E (GP A f t) (by omega)).mono ?_
  rintro _ _ _ ⟨rfl, rfl, rfl⟩
  refine ⟨rfl, _, rfl, rfl, fun _ => ?_, fun h => by cases h⟩
  refine (Meet_E A B hA hB).mono ?_
  rintro _ _ _ ⟨rfl, rfl, rfl⟩
  refine ⟨rfl, _, rfl, rfl, (Rows_E A (by omega)).mono ?_⟩
  rintro _ _ _ ⟨rfl, rfl, rfl⟩
  refine ⟨rfl, _, rfl, rfl, (Rows_E B (by omega)).mono ?_⟩
  rintro _ _ _ ⟨rfl, rfl, rfl⟩
  refine ⟨rfl, _, rfl, rfl, ?_⟩
  rw [R2_take_all, R2_take_all]
  refine (RMeet_E A B hA hB).mono ?_
  rintro _ _ _ ⟨rfl, rfl, rfl⟩
  refine ⟨rfl, _, rfl, rfl, ?_⟩
  rw [R2_take_all]
  refine (Same_E (MT A B) (by omega)).mono ?_
  rintro _ _ _ ⟨rfl, rfl, rfl⟩
  exact ⟨rfl, _, rfl, rfl, rfl, rfl⟩
end Go.Ab
