/- Packing: the bounds. For every input. -/
import Derived.Test.YtdmpiondalhonaaPackM
namespace Go.Ab
open Go Go.Proofs Stb Pak
set_option linter.unusedVariables false
set_option linter.unusedSimpArgs false
set_option maxRecDepth 100000
set_option maxHeartbeats 1000000

theorem sumP_succ (l : List Int) (m : Nat) : sumP l (rngF (m + 1)) = sumP l (rngF m) + l.getD m 0 := by
  unfold sumP rngF
  rw [List.range_succ]
  simp
theorem sumP_bd {l : List Int} (h : ∀ k < l.length, 1 ≤ l.getD k 0 ∧ l.getD k 0 ≤ 1048576) : ∀ m, m ≤ l.length → 0 ≤ sumP l (rngF m) ∧ sumP l (rngF m) ≤ m * 1048576
  | 0, _ => ⟨Int.le_refl 0, by show (0 : Int) ≤ _; omega⟩
  | m + 1, hm => by
    have := sumP_bd h m (by omega)
    have := h m (by omega)
    rw [sumP_succ]
    omega
theorem Least_E (l : List Int) (room : Int) (hl : l.length ≤ 1000) (hr : RightP l room) : EC Try.prog G38 [] [.r (ints l), .i room] fun x rs vs => x = 0 ∧ rs = [] ∧ vs = [.i (leastF (sumP l (rngF l.length)) room)] := by
  have hbd0 : ∀ k < l.length, 1 ≤ l.getD k 0 ∧ l.getD k 0 ≤ room := (AllP_iff l room).1 hr.1
  have hroom := hr.2.2
  have hbd : ∀ k < l.length, 1 ≤ l.getD k 0 ∧ l.getD k 0 ≤ 1048576 := fun k hk => by have := hbd0 k hk; omega
  refine E38 fun EV V => (Right_E l room).mono ?_
  rintro _ _ _ ⟨rfl, rfl, rfl⟩
  refine ⟨rfl, _, rfl, rfl, fun h => absurd hr (of_decide_eq_false h), fun _ => ?_⟩
  rw [ints_length]
  have p17 : ∀ (d m : Nat), l.length - m < d → m ≤ l.length → EV 17 [] [.i room, .i (sumP l (rngF m)), .r (ints l), .i l.length, .i m] := by
    intro d
    induction d with
    | zero => intro m hd; omega
    | succ d ih =>
      intro m hd hm
      refine V.p17 ⟨fun hlt => ?_, fun hge => ?_⟩
      · have hmL : m < l.length := by omega
        have b1 := sumP_bd hbd m hm
        have b2 := hbd m hmL
        have nxt := ih (m + 1) (by omega) (by omega)
        rw [sumP_succ] at nxt
        rw [Int.toNat_natCast]
        refine ⟨by omega, ints_get hmL, ?_⟩
        rw [ints_cI, w1 m (by omega), wrap64 (by omega) (by omega)]
        exact nxt
      · have e : m = l.length := by omega
        subst e
        have b1 := sumP_bd hbd l.length (Nat.le_refl _)
        have e1 : (sumP l (rngF l.length) + room - 1).tdiv room = leastF (sumP l (rngF l.length)) room := Int.tdiv_eq_ediv_of_nonneg (by omega)
        have e2 : 0 ≤ leastF (sumP l (rngF l.length)) room := Int.ediv_nonneg (by omega) (by omega)
        have e3 : leastF (sumP l (rngF l.length)) room ≤ sumP l (rngF l.length) := leastF_le (by omega) (by
          have := Int.mul_le_mul_of_nonneg_left hroom.1 b1.1
          omega)
        refine ⟨by omega, rfl, rfl, ?_⟩
        rw [wrap64 (x := sumP l (rngF l.length) + room) (by omega) (by omega), wrap64 (x := sumP l (rngF l.length) + room - 1) (by omega) (by omega), e1, wrap64 (by omega) (by omega)]
  exact p17 _ 0 (Nat.lt_succ_self _) (by omega)

theorem Bounds44 (a : List (List AV)) (_ : a.length ≤ maxLen) (ga : ∀ r ∈ a, GdL [.int .i64] r) (room : Int) (_ : (Lit.int .i64 room).wf = true) : EC Try.prog G12 [] [.r a, .i room] fun x rs vs => x = 0 ∧ vs = [.b true] := by
  obtain ⟨l, rfl⟩ := exC ga
  refine E12 fun EV V => fixed44.mono ?_
  rintro _ _ _ ⟨rfl, rfl, rfl⟩
  rw [ints_length]
  refine ⟨rfl, _, rfl, rfl, fun h => (by cases h), fun _ => ⟨fun h1 => (RRight_E l room (by omega)).mono ?_, fun h1 => ⟨rfl, rfl⟩⟩⟩
  rintro _ _ _ ⟨rfl, rfl, rfl⟩
  refine ⟨rfl, _, rfl, rfl, fun h2 => ⟨rfl, rfl⟩, fun h2 => ?_⟩
  have hr : RightP l room := of_decide_eq_true h2
  have hbd0 : ∀ k < l.length, 1 ≤ l.getD k 0 ∧ l.getD k 0 ≤ room := (AllP_iff l room).1 hr.1
  have hroom := hr.2.2
  have hbd : ∀ k < l.length, 1 ≤ l.getD k 0 ∧ l.getD k 0 ≤ 1048576 := fun k hk => by have := hbd0 k hk; omega
  refine (Least_E l room (by omega) hr).mono ?_
  rintro _ _ _ ⟨rfl, rfl, rfl⟩
  refine ⟨rfl, _, rfl, rfl, ?_⟩
  obtain ⟨S, hS⟩ : ∃ S, sumP l (rngF l.length) = S := ⟨_, rfl⟩
  have bS := sumP_bd hbd l.length (Nat.le_refl _)
  rw [hS] at bS
  have up := leastF_up (S := S) hroom.1
  have le0 : 0 ≤ leastF S room := Int.ediv_nonneg (by omega) (by omega)
  have leS : leastF S room ≤ S := leastF_le (by omega) (by
    have := Int.mul_le_mul_of_nonneg_left hroom.1 bS.1
    omega)
  rw [hS]
  have hRg := List.Perm.refl (rngF l.length)
  have k1 := lay_ok (tight := false) hr hRg
  have k2 := lay_ok (tight := true) hr hRg
  rw [hS] at k1 k2
  have p53 : ∀ x y z : Int, (leastF S room ≤ x ∧ x < 2 * leastF S room + 1) → (leastF S room ≤ y ∧ y < 2 * leastF S room + 1) → (leastF S room ≤ z ∧ z < 2 * leastF S room + 1) → EV 53 [] [.i (leastF S room), .i x, .i y, .i z] := fun x y z hx hy hz => by
    refine V.p53 ?_
    rw [wrap64 (x := 2 * leastF S room) (by omega) (by omega), wrap64 (x := 2 * leastF S room + 1) (by omega) (by omega)]
    exact ⟨fun _ => ⟨fun _ => ⟨fun _ => ⟨fun _ => ⟨fun _ => ⟨rfl, by rw [decide_eq_true hz.2]⟩, fun h => absurd h (by omega)⟩, fun h => absurd h (by omega)⟩, fun h => absurd h (by omega)⟩, fun h => absurd h (by omega)⟩, fun h => absurd h (by omega)⟩
  have p39 : EV 39 [] [.r (ints l), .i room, .i (leastF S room), .i S] := by
    refine V.p39 ((First_E l room (by omega)).mono ?_)
    rintro _ _ _ ⟨rfl, rfl, rfl⟩
    refine ⟨rfl, _, _, rfl, rfl, (Falling_E l room (by omega)).mono ?_⟩
    rintro _ _ _ ⟨rfl, C, hC1, hC2, rfl, rfl⟩
    have k3 := lay_ok (tight := false) hr hC1
    rw [hS] at k3
    refine ⟨rfl, _, _, rfl, rfl, (Best_E l room (by omega)).mono ?_⟩
    rintro _ _ _ ⟨rfl, rfl, rfl⟩
    refine ⟨rfl, _, _, rfl, rfl, ?_⟩
    rw [take_drop0, take_drop0, take_drop0]
    refine (Check_E l room _ (by omega) (by rw [k1.1.2.1]; omega)).mono ?_
    rintro _ _ _ ⟨rfl, rfl, rfl⟩
    rw [decide_eq_true k1.1]
    refine ⟨rfl, _, rfl, rfl, fun _ => ?_, fun h => by cases h⟩
    refine (Check_E l room _ (by omega) (by rw [k3.1.2.1]; omega)).mono ?_
    rintro _ _ _ ⟨rfl, rfl, rfl⟩
    rw [decide_eq_true k3.1]
    refine ⟨rfl, _, rfl, rfl, fun _ => ?_, fun h => by cases h⟩
    refine (Check_E l room _ (by omega) (by rw [k2.1.2.1]; omega)).mono ?_
    rintro _ _ _ ⟨rfl, rfl, rfl⟩
    rw [decide_eq_true k2.1]
    refine ⟨rfl, _, rfl, rfl, fun _ => ?_, fun h => by cases h⟩
    have m1 : leastF S room * room ≤ S * 1048576 := Int.mul_le_mul leS hroom.2 (by omega) (by omega)
    have m0 : 0 ≤ leastF S room * room := Int.mul_nonneg le0 (by omega)
    have m2 : (leastF S room - 1) * room = leastF S room * room - room := by rw [Int.sub_mul, Int.one_mul]
    rw [wrap64 (x := leastF S room - 1) (by omega) (by omega), wrap64 (x := (leastF S room - 1) * room) (by omega) (by omega), wrap64 (x := leastF S room * room) (by omega) (by omega)]
    exact ⟨fun h => absurd h (by omega), fun _ => ⟨fun h => absurd h (by omega), fun _ => p53 _ _ _ k1.2 k3.2 k2.2⟩⟩
  have p27 : ∀ (d m : Nat), l.length - m < d → m ≤ l.length → EV 27 [] [.r (ints l), .i room, .i (leastF S room), .i (sumP l (rngF m)), .r (ints l), .i l.length, .i m] := by
    intro d
    induction d with
    | zero => intro m hd; omega
    | succ d ih =>
      intro m hd hm
      refine V.p27 ⟨fun hlt => ?_, fun hge => ?_⟩
      · have hmL : m < l.length := by omega
        have b1 := sumP_bd hbd m hm
        have b2 := hbd m hmL
        have nxt := ih (m + 1) (by omega) (by omega)
        rw [sumP_succ] at nxt
        rw [Int.toNat_natCast]
        refine ⟨by omega, ints_get hmL, ?_⟩
        rw [ints_cI, w1 m (by omega), wrap64 (by omega) (by omega)]
        exact nxt
      · have e : m = l.length := by omega
        subst e
        rw [hS]
        exact p39
  exact p27 _ 0 (Nat.lt_succ_self _) (by omega)
end Go.Ab
