/- EdfDemand: numbers that stop at the greatest. For every input. -/
import Derived.Test.YtdmpiondalhonaaEdfV
import Derived.Test.YtdmpiondalhonaaFixA
import Derived.Test.YtdmpiondalhonaaFixB
import Derived.Test.YtdmpiondalhonaaFixC
import Derived.Test.YtdmpiondalhonaaAbLaw
import Derived.Lib.Mul64
namespace Go.Ab
open Go Go.Proofs
set_option linter.unusedVariables false
set_option linter.unusedSimpArgs false
set_option maxRecDepth 100000
set_option maxHeartbeats 1000000

abbrev UM : Int := 18446744073709551615
def U64 (x : Int) : Prop := 0 ≤ x ∧ x ≤ 18446744073709551615
def addZ (a b : Int) : Int := min (a + b) UM
def mulZ (a b : Int) : Int := min (a * b) UM
theorem addZ_u {a b : Int} (ha : U64 a) (hb : U64 b) : U64 (addZ a b) := by unfold U64 addZ UM at *; omega
theorem mulZ_u {a b : Int} (ha : U64 a) (hb : U64 b) : U64 (mulZ a b) := by
  have := Int.mul_nonneg ha.1 hb.1
  unfold U64 mulZ UM at *; omega
theorem wrapu {x : Int} (h : U64 x) : IntKind.wrap .u64 x = x := by
  unfold U64 at h
  have : IntKind.wrap .u64 x = x % 18446744073709551616 := rfl
  rw [this, Int.emod_eq_of_lt h.1 (by omega)]

theorem RAdd_E {a b : Int} (ha : U64 a) (hb : U64 b) : EC Try.prog G28 [] [.i a, .i b] fun x rs vs => x = 0 ∧ rs = [] ∧ vs = [.i (addZ a b)] := by
  unfold U64 at ha hb
  refine E28 fun EV V => ?_
  rw [wrapu (x := 18446744073709551615 - b) (by unfold U64; omega)]
  refine ⟨fun h => ⟨rfl, rfl, ?_⟩, fun h => ⟨rfl, rfl, ?_⟩⟩
  · congr 2; unfold addZ UM; omega
  · rw [wrapu (by unfold U64; omega)]; congr 2; unfold addZ UM; omega

theorem RMul_E {a : Int} (ha : U64 a) : ∀ (n : Nat) (b : Int), b.toNat = n → U64 b → EC Try.prog G55 [] [.i a, .i b] fun x rs vs => x = 0 ∧ rs = [] ∧ vs = [.i (mulZ a b)] := by
  intro n
  induction n using Nat.strongRecOn with
  | ind n ih =>
    intro b hn hb
    have hb' := hb
    have ha' := ha
    unfold U64 at hb' ha'
    refine E55 fun EV V => ⟨fun h0 => ⟨fun h1 => ⟨rfl, rfl, ?_⟩, fun h1 => ⟨fun h2 => ?_, fun h2 => ?_⟩⟩, fun h0 => ⟨rfl, rfl, ?_⟩⟩
    · subst h1; rw [show mulZ a 0 = 0 by simp [mulZ, UM]; omega]
    · rw [Int.tmod_eq_emod_of_nonneg hb'.1] at h2
      rw [Int.tdiv_eq_ediv_of_nonneg hb'.1, wrapu (by unfold U64; omega)]
      refine (ih (b / 2).toNat (by omega) (b / 2) rfl (by unfold U64; omega)).mono ?_
      rintro _ _ _ ⟨rfl, rfl, rfl⟩
      have hm : U64 (mulZ a (b / 2)) := mulZ_u ha (by unfold U64; omega)
      refine ⟨rfl, _, rfl, rfl, (RAdd_E hm hm).mono ?_⟩
      rintro _ _ _ ⟨rfl, rfl, rfl⟩
      refine ⟨rfl, _, rfl, rfl, rfl, rfl, ?_⟩
      have e : a * b = 2 * (a * (b / 2)) := by rw [Int.mul_left_comm, show 2 * (b / 2) = b by omega]
      have q0 : 0 ≤ a * (b / 2) := Int.mul_nonneg ha'.1 (by omega)
      congr 2
      unfold addZ mulZ UM
      rw [e]; omega
    · rw [Int.tmod_eq_emod_of_nonneg hb'.1] at h2
      rw [wrapu (x := b - 1) (by unfold U64; omega)]
      refine (ih (b - 1).toNat (by omega) (b - 1) rfl (by unfold U64; omega)).mono ?_
      rintro _ _ _ ⟨rfl, rfl, rfl⟩
      have hm : U64 (mulZ a (b - 1)) := mulZ_u ha (by unfold U64; omega)
      refine ⟨rfl, _, rfl, rfl, (RAdd_E ha hm).mono ?_⟩
      rintro _ _ _ ⟨rfl, rfl, rfl⟩
      refine ⟨rfl, _, rfl, rfl, rfl, rfl, ?_⟩
      have e : a * b = a * (b - 1) + a := by rw [Int.mul_sub, Int.mul_one]; omega
      have q0 : 0 ≤ a * (b - 1) := Int.mul_nonneg ha'.1 (by omega)
      congr 2
      unfold addZ mulZ UM
      rw [e]; omega
    · subst h0; rw [show mulZ 0 b = 0 by simp [mulZ, UM]; omega]

theorem Mul64_E {a b : Int} (ha : U64 a) (hb : U64 b) : EC Try.prog G74 [] [.i a, .i b] fun x rs vs => x = 0 ∧ rs = [] ∧ vs = [.i (a * b / 18446744073709551616), .i (a * b % 18446744073709551616)] := by
  obtain ⟨m, rfl⟩ := Int.eq_ofNat_of_zero_le ha.1
  obtain ⟨n, rfl⟩ := Int.eq_ofNat_of_zero_le hb.1
  unfold U64 at ha hb
  have hm : m < 18446744073709551616 := by omega
  have hn : n < 18446744073709551616 := by omega
  obtain ⟨l1, l2, l3, l4⟩ := Go.Lib.mul64_hi m n hm hn
  have W : ∀ k : Nat, k < 18446744073709551616 → IntKind.wrap .u64 ((k : Nat) : Int) = ((k : Nat) : Int) := fun k hk => wrapu (by unfold U64; omega)
  have SH : ∀ k : Nat, iopS .shr .u64 ((k : Nat) : Int) 32 = ((k / 4294967296 : Nat) : Int) := fun k => by
    show Int.fdiv (k : Int) 4294967296 = _
    rw [Int.fdiv_eq_ediv_of_nonneg _ (by omega)]; omega
  have AN : ∀ k : Nat, k < 18446744073709551616 → iopS .and .u64 ((k : Nat) : Int) 4294967295 = ((k % 4294967296 : Nat) : Int) := fun k hk => by
    show IntKind.wrap .u64 (((BitVec.ofInt 64 (k : Int) &&& BitVec.ofInt 64 4294967295).toNat : Nat) : Int) = _
    have h1 : (BitVec.ofInt 64 (k : Int)).toNat = k := by rw [BitVec.toNat_ofInt]; omega
    have h2 : (BitVec.ofInt 64 4294967295).toNat = 4294967295 := by decide
    rw [BitVec.toNat_and, h1, h2, show k &&& 4294967295 = k % 4294967296 from Nat.and_two_pow_sub_one_eq_mod k 32]
    exact W _ (by omega)
  have hx1 : m / 4294967296 ≤ 4294967295 := by omega
  have hy1 : n / 4294967296 ≤ 4294967295 := by omega
  have hx0 : m % 4294967296 ≤ 4294967295 := by omega
  have hy0 : n % 4294967296 ≤ 4294967295 := by omega
  have b11 := Go.Lib.half_mul_le hx1 hy1
  have b10 := Go.Lib.half_mul_le hx1 hy0
  have b01 := Go.Lib.half_mul_le hx0 hy1
  have b00 := Go.Lib.half_mul_le hx0 hy0
  refine E74 fun EV V => ⟨by omega, rfl, rfl, ?_⟩
  rw [SH m, SH n, AN m hm, AN n hn]
  have hmn : m * n / 18446744073709551616 < 18446744073709551616 := Nat.div_lt_of_lt_mul (Nat.mul_lt_mul_of_lt_of_lt hm hn)
  have lo : IntKind.wrap .u64 ((m : Int) * (n : Int)) = (m : Int) * (n : Int) % 18446744073709551616 := rfl
  rw [lo]
  generalize m / 4294967296 = x1 at *
  generalize m % 4294967296 = x0 at *
  generalize n / 4294967296 = y1 at *
  generalize n % 4294967296 = y0 at *
  rw [← Int.natCast_mul x1 y1, ← Int.natCast_mul x1 y0, ← Int.natCast_mul x0 y0, ← Int.natCast_mul x0 y1, W (x1 * y1) (by omega), W (x1 * y0) (by omega), W (x0 * y0) (by omega), W (x0 * y1) (by omega), SH (x0 * y0), ← Int.natCast_add, W (x1 * y0 + x0 * y0 / 4294967296) (by omega)]
  generalize x1 * y0 + x0 * y0 / 4294967296 = t at *
  rw [SH t, AN t (by omega), ← Int.natCast_add, W (x1 * y1 + t / 4294967296) (by omega), ← Int.natCast_add, W (t % 4294967296 + x0 * y1) (by omega), SH (t % 4294967296 + x0 * y1), ← Int.natCast_add, W _ (by omega), l4]
  rfl

theorem Add_E {a b : Int} (ha : U64 a) (hb : U64 b) : EC Try.prog G56 [] [.i a, .i b] fun x rs vs => x = 0 ∧ rs = [] ∧ vs = [.i (addZ a b)] := by
  unfold U64 at ha hb
  have ec : arS.c0 a b = (a + b) / 18446744073709551616 := by show ((a.toNat + b.toNat : Nat) : Int) / 18446744073709551616 = _; omega
  have es : arS.s0 a b = (a + b) % 18446744073709551616 := by show ((a.toNat + b.toNat : Nat) : Int) % 18446744073709551616 = _; omega
  refine E56 fun EV V => ?_
  rw [ec, es]
  refine ⟨fun h => ⟨rfl, rfl, ?_⟩, fun h => ⟨rfl, rfl, ?_⟩⟩ <;> (congr 2; unfold addZ UM; omega)
theorem Mul_E {a b : Int} (ha : U64 a) (hb : U64 b) : EC Try.prog G57 [] [.i a, .i b] fun x rs vs => x = 0 ∧ rs = [] ∧ vs = [.i (mulZ a b)] := by
  refine E57 fun EV V => (Mul64_E ha hb).mono ?_
  rintro _ _ _ ⟨rfl, rfl, rfl⟩
  have q := Int.mul_nonneg ha.1 hb.1
  refine ⟨rfl, _, _, rfl, rfl, fun h => ⟨rfl, rfl, ?_⟩, fun h => ⟨rfl, rfl, ?_⟩⟩ <;> (congr 2; unfold mulZ UM; omega)
end Go.Ab
