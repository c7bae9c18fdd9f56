import Derived.Test.YtmmoffbompnihaaDoorQDqB
import Derived.Test.YtmmoffbompnihaaDoorQPcF
namespace Go.Ab
open Go Go.Proofs
set_option linter.unusedVariables false
set_option linter.unusedSimpArgs false
set_option maxRecDepth 100000
set_option maxHeartbeats 1000000
def numZ (k : Int) : Int := if k < 1 ∨ 15 < k then -1 else if k = 9 ∨ k = 11 ∨ k = 12 ∨ k = 13 then 2 else if k = 3 ∨ k = 4 then 0 else 1
theorem kindsX_E : EC Tryd.prog G77 [] [] fun x rs vs => x = 0 ∧ rs = [] ∧ ∃ R, vs = [.r R] ∧ R.length = 16 ∧ ∀ i : Nat, i < 16 → R[i]? = some [.str (cSS R i 0), .int .i64 (cIS R i 1)] ∧ cIS R i 1 = numZ i := by
 refine E77 fun _ _ => ⟨rfl, rfl, _, rfl, rfl, fun i hi => ?_⟩
 have : i = 0 ∨ i = 1 ∨ i = 2 ∨ i = 3 ∨ i = 4 ∨ i = 5 ∨ i = 6 ∨ i = 7 ∨ i = 8 ∨ i = 9 ∨ i = 10 ∨ i = 11 ∨ i = 12 ∨ i = 13 ∨ i = 14 ∨ i = 15 := by omega
 rcases this with rfl | rfl | rfl | rfl | rfl | rfl | rfl | rfl | rfl | rfl | rfl | rfl | rfl | rfl | rfl | rfl <;> exact ⟨rfl, by decide⟩
theorem numX_E (k : Int) : EC Tryd.prog G37 [] [.i k] fun x rs vs => x = 0 ∧ rs = [] ∧ vs = [.i (numZ k)] := by
 have out : k < 1 ∨ 15 < k → numZ k = -1 := fun h => by unfold numZ; rw [if_pos h]
 refine E37 fun _ _ => kindsX_E.mono ?_
 rintro _ _ _ ⟨rfl, rfl, R, rfl, hl, hR⟩
 refine ⟨rfl, _, rfl, rfl, fun h0 => ⟨fun h1 => ⟨rfl, rfl, by rw [hl] at h1; rw [out (by omega)]⟩, fun h1 => ?_⟩, fun h0 => ⟨rfl, rfl, by rw [out (by omega)]⟩⟩
 rw [hl] at h1
 have := hR k.toNat (by omega)
 refine ⟨h0, this.1, rfl, rfl, ?_⟩
 rw [this.2, show ((k.toNat : Nat) : Int) = k by omega]
theorem RnumX_E (k : Int) : EC Tryd.prog G38 [] [.i k] fun x rs vs => x = 0 ∧ rs = [] ∧ vs = [.i (numZ k)] := by
 have out : k < 1 ∨ 15 < k → numZ k = -1 := fun h => by unfold numZ; rw [if_pos h]
 refine E38 fun EV V => ?_
 have h35 : k ≠ 3 → k ≠ 4 → ¬ (k = 9 ∨ k = 11 ∨ k = 12 ∨ k = 13) → EV 35 [] [.i k] := fun h3 h4 h9 =>
  V.p35 ⟨fun h => ⟨fun h1 => ⟨rfl, rfl, by rw [out (by omega)]⟩, fun h1 => ⟨rfl, rfl, by unfold numZ; rw [if_neg (by omega), if_neg h9, if_neg (by omega)]⟩⟩, fun h => ⟨rfl, rfl, by rw [out (by omega)]⟩⟩
 have h30 : ∀ b : Bool, k ≠ 3 → k ≠ 4 → (b = true ↔ (k = 9 ∨ k = 11 ∨ k = 12 ∨ k = 13)) → EV 30 [] [.i k, .b b] := fun b h3 h4 hb =>
  V.p30 ⟨fun h => ⟨rfl, rfl, by rcases hb.1 h with rfl | rfl | rfl | rfl <;> rfl⟩, fun h => h35 h3 h4 fun h9 => by rw [hb.2 h9] at h; cases h⟩
 have h12 : ∀ b : Bool, (b = true ↔ (k = 3 ∨ k = 4)) → EV 12 [] [.i k, .i k, .b b] := fun b hb =>
  V.p12 ⟨fun h => ⟨rfl, rfl, by rcases hb.1 h with rfl | rfl <;> rfl⟩, fun h => by
   have h34 : ¬ (k = 3 ∨ k = 4) := fun h1 => by rw [hb.2 h1] at h; cases h
   refine ⟨fun h1 => h30 _ (by omega) (by omega) ⟨fun _ => by omega, fun _ => rfl⟩, fun h1 => ⟨fun h2 => h30 _ (by omega) (by omega) ⟨fun _ => by omega, fun _ => rfl⟩, fun h2 => ⟨fun h3 => h30 _ (by omega) (by omega) ⟨fun _ => by omega, fun _ => rfl⟩, fun h3 => h30 _ (by omega) (by omega) ⟨fun h4 => by simp at h4; omega, fun h4 => by simp; omega⟩⟩⟩⟩⟩
 exact ⟨fun h => h12 _ ⟨fun _ => .inl h, fun _ => rfl⟩, fun h => h12 _ ⟨fun h4 => by simp at h4; omega, fun h4 => by simp; omega⟩⟩
end Go.Ab
