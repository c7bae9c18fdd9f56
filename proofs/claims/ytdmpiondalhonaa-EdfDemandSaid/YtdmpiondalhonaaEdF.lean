/- EdfDemand: the calls that the document fixes. -/
import Derived.Test.YtdmpiondalhonaaEdE
import Derived.Test.YtdmpiondalhonaaFixA
import Derived.Test.YtdmpiondalhonaaFixB
import Derived.Test.YtdmpiondalhonaaFixC
namespace Go.Ab
open Go Go.Proofs
set_option linter.unusedVariables false
set_option maxRecDepth 100000

theorem fixed22 : EC Try.prog G22 [] [] fun x rs vs => x = 0 ∧ rs = [] ∧ vs = [.b true] := by
  have u1 : ∀ s ∈ ([⟨2, 5, 10⟩] : List Sm), SmU s := fun s h => by
    obtain rfl := List.mem_singleton.1 h
    exact ⟨⟨by decide, by decide⟩, ⟨by decide, by decide⟩, ⟨by decide, by decide⟩⟩
  have u2 : ∀ s ∈ ([⟨2, 1, 10⟩] : List Sm), SmU s := fun s h => by
    obtain rfl := List.mem_singleton.1 h
    exact ⟨⟨by decide, by decide⟩, ⟨by decide, by decide⟩, ⟨by decide, by decide⟩⟩
  refine E22 fun EV V => fxA.mono ?_
  rintro _ _ _ ⟨rfl, rfl, rfl⟩
  refine ⟨rfl, _, rfl, rfl, fxB.mono ?_⟩
  rintro _ _ _ ⟨rfl, rfl, rfl⟩
  refine ⟨rfl, _, rfl, rfl, fun _ => ⟨by decide, rfl, fun _ => ⟨by decide, by decide, rfl, fun _ => ⟨fun _ => ⟨by decide, rfl, fun _ => ⟨by decide, by decide, rfl, fun _ => fxC.mono ?_, fun h => absurd rfl h⟩, fun h => absurd rfl h⟩, fun h => absurd rfl h⟩, fun h => absurd rfl h⟩, fun h => absurd rfl h⟩, fun h => absurd rfl h⟩
  rintro _ _ _ ⟨rfl, rfl, rfl⟩
  refine ⟨rfl, _, rfl, rfl, fun _ => (Demand_E [⟨2, 5, 10⟩] u1 (by decide) (x := 15) ⟨by decide, by decide⟩).mono ?_, fun h => absurd rfl h⟩
  rintro _ _ _ ⟨rfl, rfl, rfl⟩
  refine ⟨rfl, _, rfl, rfl, fun _ => (Fits_E [⟨2, 1, 10⟩] u2 (by decide) 5 (by decide)).mono ?_, fun h => absurd (by decide) h⟩
  rintro _ _ _ ⟨rfl, rfl, rfl⟩
  have hf : fitsZ [⟨2, 1, 10⟩] 5 = false := by decide
  exact ⟨rfl, _, rfl, rfl, rfl, rfl, by rw [hf]; rfl⟩

theorem Demand33F (l : List (List AV)) (hl : l.length ≤ maxLen) (g : ∀ r ∈ l, GdL [.int .u64, .int .u64, .int .u64] r) (x : Int) (hx : (Lit.int .u64 x).wf = true) (upto : Int) (hu : (Lit.int .u64 upto).wf = true) : EC Try.prog G8 [] [.r l, .i x, .i upto] fun y rs vs => y = 0 ∧ vs = [.b true] := Demand33 fixed22 l hl g x hx upto hu
end Go.Ab
