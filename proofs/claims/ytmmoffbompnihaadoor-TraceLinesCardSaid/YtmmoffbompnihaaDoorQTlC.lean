import Derived.Test.YtmmoffbompnihaaDoorQVL
import Derived.Test.YtmmoffbompnihaaDoorQTlB
import Derived.Test.YtmmoffbompnihaaDoorLayG
namespace Go.Ab
open Go Go.Proofs Go.Lib
set_option linter.unusedVariables false
set_option linter.unusedSimpArgs false
set_option maxRecDepth 100000
set_option maxHeartbeats 1000000
theorem wrapu {x : Int} (h0 : 0 ≤ x) (h1 : x < 18446744073709551616) : IntKind.wrap .u64 x = x := by
 simp only [IntKind.wrap]
 have hb : IntKind.u64.bits = 64 := rfl
 simp [IntKind.signed, hb]
 omega
theorem wrap8 {x : Int} (h0 : 0 ≤ x) (h1 : x < 256) : IntKind.wrap .u8 x = x := by
 simp only [IntKind.wrap]
 have hb : IntKind.u8.bits = 8 := rfl
 first
  | (simp [IntKind.signed, hb]; done)
  | (simp [IntKind.signed, hb]; omega)
theorem dgB {d : Nat} (h : d < 10) : bstrS (List.take 1 (List.drop 0 [[(AV.int .u8 (IntKind.wrap .u8 (IntKind.wrap .u64 (48 + (d : Int)))))]])) = By [UInt8.ofNat (48 + d)] := by
 rw [wrapu (by omega) (by omega), wrap8 (by omega) (by omega)]
 show By [((48 + (d : Int)).toNat).toUInt8] = _
 rw [show (48 + (d : Int)).toNat = 48 + d by omega]
theorem dgOk (z : Int) : ∀ r ∈ (List.take 1 (List.drop 0 [[(AV.int .u8 z)]])), ∃ n : Int, r = [.int .u8 n] := fun r hr => by
 simp at hr
 exact ⟨z, hr⟩
theorem nDig_le {u : Nat} (h : u ≤ 9223372036854775808) : nDigits u ≤ 21 := by
 have key : ∀ (k u : Nat), u < 10 ^ (k + 1) → nDigits u ≤ k + 1 := by
  intro k
  induction k with
  | zero => intro u h; rw [nDigits_small (by simpa using h)]; omega
  | succ k ih =>
   intro u h
   by_cases h0 : u < 10
   ·rw [nDigits_small h0]; omega
   ·rw [nDigits_big h0]
    have := ih (u / 10) (by rw [Nat.pow_succ] at h; omega)
    omega
 exact key 20 u (Nat.lt_of_le_of_lt h (by decide))
theorem Digits_E (u0 : Nat) (hu : u0 ≤ 9223372036854775808) : EC Tryd.prog G89 [] [.i (u0 : Int)] fun x rs vs => x = 0 ∧ rs = [] ∧ vs = [.s (By (decDigits u0))] := by
 refine E89 fun EV V => ?_
 have loop : ∀ (f u : Nat) (m : List UInt8), u < f → u ≤ u0 → m.length ≤ 21 → decDigits u ++ m = decDigits u0 → EV 7 [] [.i (u : Int), .s (By m)] := by
  intro f
  induction f with
  | zero => intro u m h; omega
  | succ f ih =>
   intro u m hf hu0 hm he
   have hlen : (decDigits u0).length ≤ 21 := by rw [decDigits_length]; exact nDig_le hu
   have e1 : Int.tmod (u : Int) 10 = ((u % 10 : Nat) : Int) := by rw [Int.tmod_eq_emod_of_nonneg (by omega)]; omega
   have e2 : Int.tdiv (u : Int) 10 = ((u / 10 : Nat) : Int) := by rw [Int.tdiv_eq_ediv_of_nonneg (by omega)]; omega
   refine V.p7 ⟨fun h10 => ?_, fun h10 => ?_⟩
   ·rw [e1, e2, dgB (by omega), By_app, wrapu (x := ((u / 10 : Nat) : Int)) (by omega) (by omega)]
    have hx : decDigits (u / 10) ++ (UInt8.ofNat (48 + u % 10) :: m) = decDigits u0 := by
     rw [← he]
     conv => rhs; rw [decDigits, dif_neg (show ¬ u < 10 by omega)]
     simp
    refine ⟨dgOk _, by rw [By_size, By_size]; simp only [List.length_cons, List.length_nil]; omega, ih (u / 10) _ (by omega) (by omega) ?_ hx⟩
    have := congrArg List.length hx
    simp only [List.length_append, List.length_cons, List.length_nil] at this ⊢
    omega
   ·have hu10 : u < 10 := by omega
    rw [dgB hu10, By_app]
    refine ⟨dgOk _, by rw [By_size, By_size]; simp only [List.length_cons, List.length_nil]; omega, rfl, rfl, ?_⟩
    rw [← he, decDigits, dif_pos hu10]
 exact loop (u0 + 1) u0 [] (by omega) (Nat.le_refl _) (by simp) (by simp)
structure I64 (n : Int) : Prop where
 lo : -9223372036854775808 ≤ n
 hi : n ≤ 9223372036854775807
theorem I64.len {n : Int} (h : I64 n) : (itoa n).length ≤ 21 := itoa_length_le n h.lo h.hi
theorem Num_E {n : Int} (h : I64 n) : EC Tryd.prog G50 [] [.i n] fun x rs vs => x = 0 ∧ rs = [] ∧ vs = [.s (By (itoa n))] := by
 have h0 := h.lo
 have h1 := h.hi
 refine E50 fun _ _ => ⟨fun hn => ?_, fun hn => ?_⟩
 ·have e : IntKind.wrap .u64 ((IntKind.wrap .u64 (arS.neg .i64 (IntKind.wrap .i64 (n + 1)))) + 1) = ((n.natAbs : Nat) : Int) := by
   rw [wrap64 (by omega) (by omega)]
   rw [show arS.neg .i64 (n + 1) = IntKind.wrap .i64 (0 - (n + 1)) from rfl, wrap64 (by omega) (by omega), wrapu (x := 0 - (n + 1)) (by omega) (by omega), wrapu (by omega) (by omega)]
   omega
  rw [e]
  refine (Digits_E n.natAbs (by omega)).mono ?_
  rintro _ _ _ ⟨rfl, rfl, rfl⟩
  have hl : (decDigits n.natAbs).length ≤ 21 := by rw [decDigits_length]; exact nDig_le (by omega)
  refine ⟨rfl, _, rfl, rfl, by simp only [By_size, List.length_cons, List.length_nil]; omega, rfl, rfl, ?_⟩
  rw [By_app]
  unfold itoa
  rw [if_pos hn]
  rfl
 ·rw [wrapu (by omega) (by omega)]
  have := Digits_E n.toNat (by omega)
  rw [show ((n.toNat : Nat) : Int) = n by omega] at this
  refine this.mono ?_
  rintro _ _ _ ⟨rfl, rfl, rfl⟩
  refine ⟨rfl, _, rfl, rfl, rfl, rfl, ?_⟩
  unfold itoa
  rw [if_neg (by omega)]
theorem sopE (l m : List UInt8) : sopS .eql (By l) (By m) = (l == m) := by
 show ((By l).toList == (By m).toList) = _
 rw [toList_data, toList_data]
theorem itoa_chars {z : Int} : ∀ c ∈ itoa z, c ≠ 32 ∧ c ≠ 59 := by
 have key : ∀ u : Nat, ∀ c ∈ decDigits u, c ≠ 32 ∧ c ≠ 59 := fun u c hc => by
  have := decDigits_num _ c hc
  refine ⟨fun e => ?_, fun e => ?_⟩ <;> subst e
  ·exact absurd this.1 (by decide)
  ·exact absurd this.2 (by decide)
 unfold itoa
 split
 ·intro c hc
  rcases List.mem_cons.1 hc with h | h
  ·rw [h]; decide
  ·exact key _ c h
 ·exact key _
theorem wf_i64 {x : Int} (h : (Lit.int .i64 x).wf = true) : -9223372036854775808 ≤ x ∧ x ≤ 9223372036854775807 := by
 simp only [Lit.wf, Bool.and_eq_true, decide_eq_true_eq] at h
 have e1 : IntKind.min .i64 = -9223372036854775808 := rfl
 have e2 : IntKind.max .i64 = 9223372036854775807 := rfl
 rw [e1, e2] at h; exact h
def namL : List (List UInt8) := [[], [114, 101, 108, 101, 97, 115, 101], [108, 111, 115, 116], [115, 116, 97, 114, 116], [100, 105, 115, 112, 108, 97, 99, 101], [114, 101, 115, 117, 109, 101], [100, 111, 110, 101], [102, 97, 117, 108, 116], [99, 97, 108, 108]]
def nam (k : Int) : List UInt8 := namL.getD k.toNat []
theorem nam_len (k : Int) : (nam k).length ≤ 8 := by
 unfold nam
 rw [List.getD_eq_getElem?_getD]
 cases h : namL[k.toNat]? with
 | none => simp
 | some l =>
  have : ∀ l ∈ namL, l.length ≤ 8 := by decide
  exact this l (List.mem_of_getElem? h)
theorem nam_inj : ∀ i k : Nat, i < 9 → k < 9 → nam i = nam k → i = k := by
 have : ∀ i : Fin 9, ∀ k : Fin 9, namL.getD i.val [] = namL.getD k.val [] → i = k := by decide
 intro i k hi hk h
 have := this ⟨i, hi⟩ ⟨k, hk⟩ h
 exact congrArg Fin.val this
theorem nam_chars (k : Int) : ∀ c ∈ nam k, c ≠ 32 ∧ c ≠ 59 := by
 unfold nam
 rw [List.getD_eq_getElem?_getD]
 cases h : namL[k.toNat]? with
 | none => intro c hc; simp at hc
 | some l =>
  have : ∀ l ∈ namL, ∀ c ∈ l, c ≠ 32 ∧ c ≠ 59 := by decide
  exact this l (List.mem_of_getElem? h)
def NamR (R : List (List AV)) : Prop := R.length = 9 ∧ ∀ i : Nat, i < 9 → R[i]? = some [.str (cSS R i 0)] ∧ cSS R i 0 = By (nam i)
theorem names_E : EC Tryd.prog G47 [] [] fun x rs vs => x = 0 ∧ rs = [] ∧ ∃ R, vs = [.r R] ∧ NamR R := by
 refine E47 fun _ _ => ⟨rfl, rfl, _, rfl, rfl, fun i hi => ?_⟩
 have : i = 0 ∨ i = 1 ∨ i = 2 ∨ i = 3 ∨ i = 4 ∨ i = 5 ∨ i = 6 ∨ i = 7 ∨ i = 8 := by omega
 rcases this with rfl | rfl | rfl | rfl | rfl | rfl | rfl | rfl | rfl <;> exact ⟨rfl, rfl⟩
theorem Rnames_E : EC Tryd.prog G51 [] [] fun x rs vs => x = 0 ∧ rs = [] ∧ ∃ R, vs = [.r R] ∧ NamR R := by
 refine E51 fun _ _ => ⟨rfl, rfl, _, rfl, rfl, fun i hi => ?_⟩
 have : i = 0 ∨ i = 1 ∨ i = 2 ∨ i = 3 ∨ i = 4 ∨ i = 5 ∨ i = 6 ∨ i = 7 ∨ i = 8 := by omega
 rcases this with rfl | rfl | rfl | rfl | rfl | rfl | rfl | rfl | rfl <;> exact ⟨rfl, rfl⟩
theorem Idx_E {R : List (List AV)} (hR : NamR R) {k : Nat} (hk : k < 9) : EC Tryd.prog G53 [] [.r R, .s (By (nam k))] fun x rs vs => x = 0 ∧ rs = [] ∧ vs = [.i (k : Int)] := by
 refine E53 fun EV V => ?_
 rw [hR.1]
 have loop : ∀ (n m : Nat), m + n = k → EV 7 [] [.r R, .s (By (nam k)), .i ((9 : Nat) : Int), .i (m : Int)] := by
  intro n
  induction n with
  | zero =>
   intro m hm
   obtain rfl : m = k := by omega
   have h := hR.2 m hk
   refine V.p7 ⟨fun _ => ?_, fun h => by omega⟩
   rw [show ((m : Int).toNat) = m by omega]
   refine ⟨by omega, h.1, fun _ => ⟨rfl, rfl, rfl⟩, fun hf => ?_⟩
   rw [h.2, sopE] at hf
   simp at hf
  | succ n ih =>
   intro m hm
   have h := hR.2 m (by omega)
   refine V.p7 ⟨fun _ => ?_, fun h => by omega⟩
   rw [show ((m : Int).toNat) = m by omega]
   refine ⟨by omega, h.1, fun hf => ?_, fun _ => ?_⟩
   ·rw [h.2, sopE] at hf
    have := nam_inj k m hk (by omega) (by simpa using hf)
    omega
   ·rw [wrap64 (by omega) (by omega), show (m : Int) + 1 = ((m + 1 : Nat) : Int) by omega]
    exact ih (m + 1) (by omega)
 exact loop k 0 (by omega)
theorem join_len {c : UInt8} {d : Nat} : ∀ (L : List (List UInt8)), (∀ x ∈ L, x.length ≤ d) → (Lib.join L [c]).length ≤ (d + 1) * L.length
 | [], _ => by simp [Lib.join_nil]
 | [a], h => by rw [Lib.join_one]; have := h a (by simp); simp; omega
 | a :: b :: L, h => by
  have ih := join_len (c := c) (b :: L) fun x hx => h x (List.mem_cons_of_mem _ hx)
  have := h a (by simp)
  rw [join_cc]
  simp only [List.length_append, List.length_cons, List.length_nil, Nat.mul_add, Nat.mul_one] at ih ⊢
  omega
theorem Number_E {n : Int} (h : I64 n) : EC Tryd.prog G55 [] [.s (By (itoa n))] fun x rs vs => x = 0 ∧ rs = [] ∧ vs = [.i n, .b true] := by
 refine E55 fun _ _ => (AtoiZ_E h.lo h.hi).mono ?_
 rintro _ _ _ ⟨rfl, rfl, rfl⟩
 refine ⟨rfl, _, rfl, rfl, (Itoa_E _ h.lo h.hi).mono ?_⟩
 rintro _ _ _ ⟨rfl, rfl, rfl⟩
 refine ⟨rfl, _, rfl, rfl, rfl, rfl, ?_⟩
 rw [sopE]
 simp
end Go.Ab
