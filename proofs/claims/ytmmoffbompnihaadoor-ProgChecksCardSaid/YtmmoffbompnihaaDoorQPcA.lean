import Derived.Test.YtmmoffbompnihaaDoorQDqC
import Derived.Test.YtmmoffbompnihaaDoorQPcF
namespace Go.Ab
open Go Go.Proofs
set_option linter.unusedVariables false
set_option linter.unusedSimpArgs false
set_option maxRecDepth 100000
set_option maxHeartbeats 1000000
def numZ (k : Int) : Int := if k < 1 ∨ 15 < k then -1 else if k = 9 ∨ k = 11 ∨ k = 12 ∨ k = 13 then 2 else if k = 3 ∨ k = 4 then 0 else 1
theorem kindsX_E : EC Tryd.prog G77 [] [] fun x rs vs => x = 0 ∧ rs = [] ∧ ∃ R, vs = [.r R] ∧ R.length = 16 ∧ ∀ i : Nat, i < 16 → R[i]? = some [.str (cSS R i 0), .int .i64 (cIS R i 1)] ∧ cIS R i 1 = numZ i := by
 refine E77 fun _ _ => ⟨rfl, rfl, _, rfl, rfl, fun i hi => ?_⟩
 have : i = 0 ∨ i = 1 ∨ i = 2 ∨ i = 3 ∨ i = 4 ∨ i = 5 ∨ i = 6 ∨ i = 7 ∨ i = 8 ∨ i = 9 ∨ i = 10 ∨ i = 11 ∨ i = 12 ∨ i = 13 ∨ i = 14 ∨ i = 15 := by omega
 rcases this with rfl | rfl | rfl | rfl | rfl | rfl | rfl | rfl | rfl | rfl | rfl | rfl | rfl | rfl | rfl | rfl <;> exact ⟨rfl, by decide⟩
theorem numX_E (k : Int) : EC Tryd.prog G37 [] [.i k] fun x rs vs => x = 0 ∧ rs = [] ∧ vs = [.i (numZ k)] := by
 have out : k < 1 ∨ 15 < k → numZ k = -1 := fun h => by unfold numZ; rw [if_pos h]
 refine E37 fun _ _ => kindsX_E.mono ?_
 rintro _ _ _ ⟨rfl, rfl, R, rfl, hl, hR⟩
 refine ⟨rfl, _, rfl, rfl, fun h0 => ⟨fun h1 => ⟨rfl, rfl, by rw [hl] at h1; rw [out (by omega)]⟩, fun h1 => ?_⟩, fun h0 => ⟨rfl, rfl, by rw [out (by omega)]⟩⟩
 rw [hl] at h1
 have := hR k.toNat (by omega)
 refine ⟨h0, this.1, rfl, rfl, ?_⟩
 rw [this.2, show ((k.toNat : Nat) : Int) = k by omega]
theorem RnumX_E (k : Int) : EC Tryd.prog G38 [] [.i k] fun x rs vs => x = 0 ∧ rs = [] ∧ vs = [.i (numZ k)] := by
 have out : k < 1 ∨ 15 < k → numZ k = -1 := fun h => by unfold numZ; rw [if_pos h]
 refine E38 fun EV V => ?_
 have h35 : k ≠ 3 → k ≠ 4 → ¬ (k = 9 ∨ k = 11 ∨ k = 12 ∨ k = 13) → EV 35 [] [.i k] := fun h3 h4 h9 =>
  V.p35 ⟨fun h => ⟨fun h1 => ⟨rfl, rfl, by rw [out (by omega)]⟩, fun h1 => ⟨rfl, rfl, by unfold numZ; rw [if_neg (by omega), if_neg h9, if_neg (by omega)]⟩⟩, fun h => ⟨rfl, rfl, by rw [out (by omega)]⟩⟩
 have h30 : ∀ b : Bool, k ≠ 3 → k ≠ 4 → (b = true ↔ (k = 9 ∨ k = 11 ∨ k = 12 ∨ k = 13)) → EV 30 [] [.i k, .b b] := fun b h3 h4 hb =>
  V.p30 ⟨fun h => ⟨rfl, rfl, by rcases hb.1 h with rfl | rfl | rfl | rfl <;> rfl⟩, fun h => h35 h3 h4 fun h9 => by rw [hb.2 h9] at h; cases h⟩
 have h12 : ∀ b : Bool, (b = true ↔ (k = 3 ∨ k = 4)) → EV 12 [] [.i k, .i k, .b b] := fun b hb =>
  V.p12 ⟨fun h => ⟨rfl, rfl, by rcases hb.1 h with rfl | rfl <;> rfl⟩, fun h => by
   have h34 : ¬ (k = 3 ∨ k = 4) := fun h1 => by rw [hb.2 h1] at h; cases h
   refine ⟨fun h1 => h30 _ (by omega) (by omega) ⟨fun _ => by omega, fun _ => rfl⟩, fun h1 => ⟨fun h2 => h30 _ (by omega) (by omega) ⟨fun _ => by omega, fun _ => rfl⟩, fun h2 => ⟨fun h3 => h30 _ (by omega) (by omega) ⟨fun _ => by omega, fun _ => rfl⟩, fun h3 => h30 _ (by omega) (by omega) ⟨fun h4 => by simp at h4; omega, fun h4 => by simp; omega⟩⟩⟩⟩⟩
 exact ⟨fun h => h12 _ ⟨fun _ => .inl h, fun _ => rfl⟩, fun h => h12 _ ⟨fun h4 => by simp at h4; omega, fun h4 => by simp; omega⟩⟩
theorem exOp : ∀ {rows : List (List AV)}, (∀ r ∈ rows, GdL [.int .i64, .int .i64, .int .i64] r) → ∃ l : List Op3, rows = l.map encO
 | [], _ => ⟨[], rfl⟩
 | r :: rows, h => by
  obtain ⟨l, rfl⟩ := exOp (rows := rows) fun r hr => h r (by simp [hr])
  have h0 := h r (by simp)
  simp only [GdL, GdC] at h0
  obtain ⟨x, _, rfl, ⟨a, rfl, _⟩, y, _, rfl, ⟨b, rfl, _⟩, z, _, rfl, ⟨c, rfl, _⟩, rfl⟩ := h0
  exact ⟨⟨a, b, c⟩ :: l, rfl⟩
theorem Checks9 (l : List (List AV)) (_ : l.length ≤ maxLen) (g : ∀ r ∈ l, GdL [.int .i64, .int .i64, .int .i64] r) (a : Int) (_ : (Lit.int .i64 a).wf = true) (b : Int) (_ : (Lit.int .i64 b).wf = true) (c : Int) (_ : (Lit.int .i64 c).wf = true) (d : Int) (_ : (Lit.int .i64 d).wf = true) :
  EC Tryd.prog G9 [] [.r l, .i a, .i b, .i c, .i d] fun x rs vs => x = 0 ∧ vs = [.b true] := by
 obtain ⟨P, rfl⟩ := exOp g
 refine E9 fun EV V => fixed33.mono ?_
 rintro _ _ _ ⟨rfl, rfl, rfl⟩
 refine ⟨rfl, _, rfl, rfl, fun h => (by cases h), fun _ => E34 fun _ _ => ?_⟩
 refine ⟨rfl, _, rfl, rfl, fun _ => ⟨rfl, rfl⟩, fun h80 => ?_⟩
 have h80 : (P.length : Int) ≤ 80 := by simpa using h80
 have p46 : Rm a b c d → ∀ (n m : Nat), m + n = P.length → EV 46 [] [.r (P.map encO), .r (P.map encO), .i (P.length : Int), .i (m : Int), .i a, .i b, .i c, .i d] := by
  intro hr n
  induction n with
  | zero =>
   intro m hm
   refine V.p46 ⟨fun h => by omega, fun _ => (PCheck_E hr P).mono ?_⟩
   rintro _ _ _ ⟨rfl, rfl, rfl⟩
   refine ⟨rfl, _, rfl, rfl, (RPCheck_E hr P).mono ?_⟩
   rintro _ _ _ ⟨rfl, rfl, rfl⟩
   exact ⟨rfl, _, rfl, rfl, rfl, by simp⟩
  | succ n ih =>
   intro m hm
   have hlt : m < P.length := by omega
   refine V.p46 ⟨fun _ => ⟨by omega, op3_get hlt, ?_⟩, fun h => by omega⟩
   rw [Int.toNat_natCast, op30, op31, op32]
   refine (Op_E hr (op3 P m)).mono ?_
   rintro _ _ _ ⟨rfl, rfl, rfl⟩
   refine ⟨rfl, _, rfl, rfl, (ROp_E hr (op3 P m)).mono ?_⟩
   rintro _ _ _ ⟨rfl, rfl, rfl⟩
   refine ⟨rfl, _, rfl, rfl, fun h => absurd rfl h, fun _ => (numX_E _).mono ?_⟩
   rintro _ _ _ ⟨rfl, rfl, rfl⟩
   refine ⟨rfl, _, rfl, rfl, (RnumX_E _).mono ?_⟩
   rintro _ _ _ ⟨rfl, rfl, rfl⟩
   refine ⟨rfl, _, rfl, rfl, V.p58 ⟨fun h => by simp at h, fun _ => ?_⟩⟩
   rw [wrap64 (by omega) (by omega), show (m : Int) + 1 = ((m + 1 : Nat) : Int) by omega]
   exact ih (m + 1) (by omega)
 have p23 : ∀ (n m : Nat), m + n = 4 → (∀ j : Nat, j < m → -1000 ≤ [a, b, c, d].getD j 0 ∧ [a, b, c, d].getD j 0 ≤ 1000) → EV 23 [] [.r (P.map encO), .r (ints [a, b, c, d]), .i 4, .i (m : Int), .i a, .i b, .i c, .i d] := by
  intro n
  induction n with
  | zero =>
   intro m hm hj
   have h0 := hj 0 (by omega)
   have h1 := hj 1 (by omega)
   have h2 := hj 2 (by omega)
   have h3 := hj 3 (by omega)
   simp at h0 h1 h2 h3
   refine V.p23 ⟨fun h => by omega, fun _ => ?_⟩
   rw [List.length_map]
   exact p46 ⟨h0, h1, h2, h3⟩ P.length 0 (by omega)
  | succ n ih =>
   intro m hm hj
   have hlt : m < [a, b, c, d].length := by simp; omega
   refine V.p23 ⟨fun _ => ⟨by omega, ints_get hlt, fun h1 => ⟨fun _ => ⟨rfl, rfl⟩, fun h2 => ?_⟩, fun _ => ⟨rfl, rfl⟩⟩, fun h => by omega⟩
   rw [Int.toNat_natCast, ints_cI] at h1 h2
   rw [wrap64 (by omega) (by omega), show (m : Int) + 1 = ((m + 1 : Nat) : Int) by omega]
   refine ih (m + 1) (by omega) fun j hj2 => ?_
   rcases Nat.lt_or_ge j m with h3 | h3
   ·exact hj j h3
   ·obtain rfl : j = m := by omega
    exact ⟨h1, h2⟩
 exact p23 4 0 (by omega) (fun j hj => by omega)
end Go.Ab
