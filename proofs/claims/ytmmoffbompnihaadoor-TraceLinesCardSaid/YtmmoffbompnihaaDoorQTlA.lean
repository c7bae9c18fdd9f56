import Derived.Test.YtmmoffbompnihaaDoorQTxA
import Derived.Lib.AtoiAllCases
namespace Go.Ab
open Go Go.Lib
set_option linter.unusedVariables false
set_option linter.unusedSimpArgs false
theorem parse_app : ∀ (l m : List UInt8) (acc n : Nat), parseUint10 acc l = .ok n → parseUint10 acc (l ++ m) = parseUint10 n m
 | [], m, acc, n, h => by simp only [parseUint10, NumEnd.ok.injEq] at h; rw [h]; rfl
 | c :: l, m, acc, n, h => by
  simp only [parseUint10, List.cons_append] at h ⊢
  by_cases h1 : 48 ≤ c.toNat ∧ c.toNat ≤ 57
  ·rw [if_pos h1] at h ⊢
   by_cases h2 : 1844674407370955162 ≤ acc
   ·rw [if_pos h2] at h; cases h
   ·rw [if_neg h2] at h ⊢
    by_cases h3 : 18446744073709551616 ≤ acc * 10 + (c.toNat - 48)
    ·rw [if_pos h3] at h; cases h
    ·rw [if_neg h3] at h ⊢
     exact parse_app l m _ n h
  ·rw [if_neg h1] at h; cases h
theorem parse_dec (u : Nat) : u < 18446744073709551616 → parseUint10 0 (decDigits u) = .ok u := by
 induction u using Nat.strongRecOn with
 | _ u ih =>
  intro hu
  rw [decDigits]
  split
  ·rename_i h
   have e : (UInt8.ofNat (48 + u)).toNat = 48 + u := UInt8.toNat_ofNat_of_lt' (by show 48 + u < 256; omega)
   simp only [parseUint10]
   rw [e, if_pos (by omega), if_neg (by omega), if_neg (by omega)]
   simp
  ·rename_i h
   rw [parse_app _ _ 0 _ (ih (u / 10) (by omega) (by omega))]
   have e : (UInt8.ofNat (48 + u % 10)).toNat = 48 + u % 10 := UInt8.toNat_ofNat_of_lt' (by show 48 + u % 10 < 256; omega)
   simp only [parseUint10]
   rw [e, if_pos (by omega), if_neg (by omega), if_neg (by omega)]
   simp only [NumEnd.ok.injEq]
   omega
theorem mag_dec {u : Nat} (h : u < 18446744073709551616) : parseMag (decDigits u) = .ok u := by
 unfold parseMag
 rw [if_neg (decDigits_ne u), parse_dec u h]
theorem atoi_itoa {n : Int} (h0 : -9223372036854775808 ≤ n) (h1 : n ≤ 9223372036854775807) : atoiAll (itoa n) = .ok n := by
 unfold itoa
 split
 ·rename_i hn
  rw [atoiAll_minus, mag_dec (by omega)]
  simp only [signed]
  rw [if_neg (by omega)]
  congr 1
  omega
 ·rename_i hn
  have hm := mag_dec (u := n.toNat) (by omega)
  have hd := decDigits_num n.toNat
  cases he : decDigits n.toNat with
  | nil => exact absurd he (decDigits_ne _)
  | cons c r =>
   rw [he] at hm hd
   have hc := hd c (by simp)
   rw [atoiAll_plain c r (by omega) (by omega), hm]
   simp only [signless]
   rw [if_neg (by omega)]
   congr 1
   omega
end Go.Ab
