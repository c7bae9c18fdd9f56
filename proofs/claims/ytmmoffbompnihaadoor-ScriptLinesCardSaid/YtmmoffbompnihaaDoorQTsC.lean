import Derived.Test.YtmmoffbompnihaaDoorQVK
import Derived.Test.YtmmoffbompnihaaDoorQVM
import Derived.Test.YtmmoffbompnihaaDoorQTsB
import Derived.Test.YtmmoffbompnihaaDoorLayG
namespace Go.Ab
open Go Go.Proofs Go.Lib
set_option linter.unusedVariables false
set_option linter.unusedSimpArgs false
set_option maxRecDepth 100000
set_option maxHeartbeats 1000000
theorem wrap8 {x : Int} (h0 : 0 ≤ x) (h1 : x < 256) : IntKind.wrap .u8 x = x := by
 simp only [IntKind.wrap]
 have hb : IntKind.u8.bits = 8 := rfl
 first
  | (simp [IntKind.signed, hb]; done)
  | (simp [IntKind.signed, hb]; omega)
theorem dgB {d : Nat} (h : d < 10) : bstrS (List.take 1 (List.drop 0 [[(AV.int .u8 (IntKind.wrap .u8 (IntKind.wrap .i64 (48 + (d : Int)))))]])) = By [UInt8.ofNat (48 + d)] := by
 rw [wrap64 (by omega) (by omega), wrap8 (by omega) (by omega)]
 show By [((48 + (d : Int)).toNat).toUInt8] = _
 rw [show (48 + (d : Int)).toNat = 48 + d by omega]
theorem dgOk (z : Int) : ∀ r ∈ (List.take 1 (List.drop 0 [[(AV.int .u8 z)]])), ∃ n : Int, r = [.int .u8 n] := fun r hr => by
 simp at hr
 exact ⟨z, hr⟩
theorem nDig_le {u : Nat} (h : u ≤ 9223372036854775807) : nDigits u ≤ 21 := by
 have := itoa_length_le (u : Int) (by omega) (by omega)
 rw [itoa_nonneg, decDigits_length] at this
 exact this
theorem Digits_E (u0 : Nat) (hu : u0 ≤ 9223372036854775807) : EC Tryd.prog G68 [] [.i (u0 : Int)] fun x rs vs => x = 0 ∧ rs = [] ∧ vs = [.s (By (decDigits u0))] := by
 refine E68 fun EV V => ?_
 have loop : ∀ (f u : Nat) (m : List UInt8), u < f → u ≤ u0 → m.length ≤ 21 → decDigits u ++ m = decDigits u0 → EV 7 [] [.i (u : Int), .s (By m)] := by
  intro f
  induction f with
  | zero => intro u m h; omega
  | succ f ih =>
   intro u m hf hu0 hm he
   have hlen : (decDigits u0).length ≤ 21 := by rw [decDigits_length]; exact nDig_le hu
   have e1 : Int.tmod (u : Int) 10 = ((u % 10 : Nat) : Int) := by rw [Int.tmod_eq_emod_of_nonneg (by omega)]; omega
   have e2 : Int.tdiv (u : Int) 10 = ((u / 10 : Nat) : Int) := by rw [Int.tdiv_eq_ediv_of_nonneg (by omega)]; omega
   refine V.p7 ⟨fun h10 => ?_, fun h10 => ?_⟩
   ·rw [e1, e2, dgB (by omega), By_app, wrap64 (x := ((u / 10 : Nat) : Int)) (by omega) (by omega)]
    have hx : decDigits (u / 10) ++ (UInt8.ofNat (48 + u % 10) :: m) = decDigits u0 := by
     rw [← he]
     conv => rhs; rw [decDigits, dif_neg (show ¬ u < 10 by omega)]
     simp
    refine ⟨dgOk _, by rw [By_size, By_size]; simp only [List.length_cons, List.length_nil]; omega, ih (u / 10) _ (by omega) (by omega) ?_ hx⟩
    have := congrArg List.length hx
    simp only [List.length_append, List.length_cons, List.length_nil] at this ⊢
    omega
   ·have hu10 : u < 10 := by omega
    rw [dgB hu10, By_app]
    refine ⟨dgOk _, by rw [By_size, By_size]; simp only [List.length_cons, List.length_nil]; omega, rfl, rfl, ?_⟩
    rw [← he, decDigits, dif_pos hu10]
 exact loop (u0 + 1) u0 [] (by omega) (Nat.le_refl _) (by simp) (by simp)
theorem DigitsZ_E {n : Int} (h0 : 0 ≤ n) (h1 : n ≤ 9223372036854775807) : EC Tryd.prog G68 [] [.i n] fun x rs vs => x = 0 ∧ rs = [] ∧ vs = [.s (By (itoa n))] := by
 have := Digits_E n.toNat (by omega)
 rw [show ((n.toNat : Nat) : Int) = n by omega] at this
 rw [show itoa n = decDigits n.toNat by unfold itoa; rw [if_neg (by omega)]]
 exact this
theorem sopE (l m : List UInt8) : sopS .eql (By l) (By m) = (l == m) := by
 show ((By l).toList == (By m).toList) = _
 rw [toList_data, toList_data]
theorem sopN (l m : List UInt8) : sopS .neq (By l) (By m) = !(l == m) := by
 show (!((By l).toList == (By m).toList)) = _
 rw [toList_data, toList_data]
theorem itoa_dec {z : Int} (h : 0 ≤ z) : itoa z = decDigits z.toNat := by unfold itoa; rw [if_neg (by omega)]
theorem itoa_chars {z : Int} (h : 0 ≤ z) : ∀ c ∈ itoa z, c ≠ 32 ∧ c ≠ 59 := by
 rw [itoa_dec h]
 intro c hc
 have := decDigits_num _ c hc
 refine ⟨fun e => ?_, fun e => ?_⟩ <;> subst e
 ·exact absurd this.1 (by decide)
 ·exact absurd this.2 (by decide)
def namL : List (List UInt8) := [[], [114, 101, 108, 101, 97, 115, 101], [114, 97, 105, 115, 101], [109, 97, 115, 107], [117, 110, 109, 97, 115, 107], [116, 105, 109, 101, 114]]
def nam (k : Int) : List UInt8 := namL.getD k.toNat []
theorem nam_len (k : Int) : (nam k).length ≤ 7 := by
 unfold nam
 rw [List.getD_eq_getElem?_getD]
 cases h : namL[k.toNat]? with
 | none => simp
 | some l =>
  have : ∀ l ∈ namL, l.length ≤ 7 := by decide
  exact this l (List.mem_of_getElem? h)
theorem nam_inj : ∀ i k : Nat, i < 6 → k < 6 → nam i = nam k → i = k := by
 have : ∀ i : Fin 6, ∀ k : Fin 6, namL.getD i.val [] = namL.getD k.val [] → i = k := by decide
 intro i k hi hk h
 have := this ⟨i, hi⟩ ⟨k, hk⟩ h
 exact congrArg Fin.val this
theorem nam_chars (k : Int) : ∀ c ∈ nam k, c ≠ 32 ∧ c ≠ 59 := by
 unfold nam
 rw [List.getD_eq_getElem?_getD]
 cases h : namL[k.toNat]? with
 | none => intro c hc; simp at hc
 | some l =>
  have : ∀ l ∈ namL, ∀ c ∈ l, c ≠ 32 ∧ c ≠ 59 := by decide
  exact this l (List.mem_of_getElem? h)
def NamR (R : List (List AV)) : Prop := R.length = 6 ∧ ∀ i : Nat, i < 6 → R[i]? = some [.str (cSS R i 0)] ∧ cSS R i 0 = By (nam i)
theorem names_E : EC Tryd.prog G62 [] [] fun x rs vs => x = 0 ∧ rs = [] ∧ ∃ R, vs = [.r R] ∧ NamR R := by
 refine E62 fun _ _ => ⟨rfl, rfl, _, rfl, rfl, fun i hi => ?_⟩
 have : i = 0 ∨ i = 1 ∨ i = 2 ∨ i = 3 ∨ i = 4 ∨ i = 5 := by omega
 rcases this with rfl | rfl | rfl | rfl | rfl | rfl <;> exact ⟨rfl, rfl⟩
theorem Rnames_E : EC Tryd.prog G69 [] [] fun x rs vs => x = 0 ∧ rs = [] ∧ ∃ R, vs = [.r R] ∧ NamR R := by
 refine E69 fun _ _ => ⟨rfl, rfl, _, rfl, rfl, fun i hi => ?_⟩
 have : i = 0 ∨ i = 1 ∨ i = 2 ∨ i = 3 ∨ i = 4 ∨ i = 5 := by omega
 rcases this with rfl | rfl | rfl | rfl | rfl | rfl <;> exact ⟨rfl, rfl⟩
def inZ (z : Int) : Prop := 0 ≤ z ∧ z ≤ 999999999
instance (z : Int) : Decidable (inZ z) := by unfold inZ; infer_instance
theorem big_E (z : Int) : EC Tryd.prog G95 [] [.i z] fun x rs vs => x = 0 ∧ rs = [] ∧ vs = [.b (decide ¬ inZ z)] := by
 refine E95 fun _ _ => ⟨fun h => ⟨rfl, rfl, ?_⟩, fun h => ⟨rfl, rfl, ?_⟩⟩
 ·rw [decide_eq_decide.2 (show z > 999999999 ↔ ¬ inZ z by unfold inZ; omega)]
 ·rw [decide_eq_true (show ¬ inZ z from fun hh => by have := hh.1; omega)]
theorem in_E (z : Int) : EC Tryd.prog G67 [] [.i z] fun x rs vs => x = 0 ∧ rs = [] ∧ vs = [.b (decide (inZ z))] := by
 refine E67 fun _ _ => ⟨fun h => ⟨rfl, rfl, ?_⟩, fun h => ⟨rfl, rfl, ?_⟩⟩
 ·rw [decide_eq_decide.2 (show z ≤ 999999999 ↔ inZ z by unfold inZ; omega)]
 ·rw [decide_eq_false (show ¬ inZ z from fun hh => by have := hh.1; omega)]
theorem IdxBig_E (W : List Int) (hl : W.length ≤ 100) : EC Tryd.prog G120 [] [.r (W.map fun z => [.int .i64 z])] fun x rs vs => x = 0 ∧ rs = [] ∧ ∃ i, vs = [.i i] ∧ (i ≥ 0 ↔ ¬ ∀ z ∈ W, inZ z) := by
 refine E120 fun EV V => ?_
 rw [List.length_map]
 have loop : ∀ (n m : Nat), m + n = W.length → (∀ z ∈ W.take m, inZ z) → EV 7 [] [.r (W.map fun z => [.int .i64 z]), .i (W.length : Int), .i (m : Int)] := by
  intro n
  induction n with
  | zero =>
   intro m hm h
   rw [List.take_of_length_le (by omega)] at h
   exact V.p7 ⟨fun h => by omega, fun _ => ⟨rfl, rfl, _, rfl, ⟨fun h => by omega, fun hn => absurd h hn⟩⟩⟩
  | succ n ih =>
   intro m hm h
   have hmW : m < W.length := by omega
   have ec : cIS (W.map fun z => [AV.int .i64 z]) m 0 = W[m] := by
    unfold cIS cellS; rw [List.getElem?_map, List.getElem?_eq_getElem hmW]; rfl
   refine V.p7 ⟨fun _ => ?_, fun h => by omega⟩
   rw [show ((m : Int).toNat) = m by omega, ec]
   refine ⟨by omega, by rw [List.getElem?_map, List.getElem?_eq_getElem hmW]; rfl, (big_E _).mono ?_⟩
   rintro _ _ _ ⟨rfl, rfl, rfl⟩
   refine ⟨rfl, _, rfl, rfl, fun hb => ⟨rfl, rfl, _, rfl, ⟨fun _ ha => ?_, fun _ => by omega⟩⟩, fun hb => ?_⟩
   ·exact absurd (ha _ (List.getElem_mem hmW)) (of_decide_eq_true hb)
   ·rw [wrap64 (by omega) (by omega), show (m : Int) + 1 = ((m + 1 : Nat) : Int) by omega]
    refine ih (m + 1) (by omega) fun z hz => ?_
    rw [List.take_succ_eq_append_getElem hmW] at hz
    rcases List.mem_append.1 hz with hz | hz
    ·exact h z hz
    ·simp at hz; rw [hz]; exact Decidable.not_not.1 (of_decide_eq_false hb)
 exact loop W.length 0 (by omega) (by simp)
theorem Small_E (W : List Int) (hl : W.length ≤ 100) : EC Tryd.prog G63 [] [.r (W.map fun z => [.int .i64 z])] fun x rs vs => x = 0 ∧ rs = [] ∧ vs = [.b (decide (∀ z ∈ W, inZ z))] := by
 refine E63 fun _ _ => E94 fun _ _ => (IdxBig_E W hl).mono ?_
 rintro _ _ _ ⟨rfl, rfl, i, rfl, hi⟩
 refine ⟨rfl, _, rfl, rfl, rfl, _, rfl, rfl, rfl, rfl, ?_⟩
 by_cases h : ∀ z ∈ W, inZ z
 ·rw [decide_eq_true h, decide_eq_false (fun h1 => (hi.1 h1) h)]; rfl
 ·rw [decide_eq_false h, decide_eq_true (hi.2 h)]; rfl
theorem IdxNz_E (L : List (List UInt8)) (hl : L.length ≤ 100) : EC Tryd.prog G96 [] [.r (L.map fun l => [.str (By l)])] fun x rs vs => x = 0 ∧ rs = [] ∧ ∃ i, vs = [.i i] ∧ (i ≥ 0 ↔ ¬ ∀ w ∈ L, w = [48]) := by
 refine E96 fun EV V => ?_
 rw [List.length_map]
 have loop : ∀ (n m : Nat), m + n = L.length → (∀ w ∈ L.take m, w = [48]) → EV 7 [] [.r (L.map fun l => [.str (By l)]), .i (L.length : Int), .i (m : Int)] := by
  intro n
  induction n with
  | zero =>
   intro m hm h
   rw [List.take_of_length_le (by omega)] at h
   exact V.p7 ⟨fun h => by omega, fun _ => ⟨rfl, rfl, _, rfl, ⟨fun h => by omega, fun hn => absurd h hn⟩⟩⟩
  | succ n ih =>
   intro m hm h
   have hmW : m < L.length := by omega
   have ec : cSS (L.map fun l => [AV.str (By l)]) m 0 = By L[m] := by
    unfold cSS cellS; rw [List.getElem?_map, List.getElem?_eq_getElem hmW]; rfl
   refine V.p7 ⟨fun _ => ?_, fun h => by omega⟩
   rw [show ((m : Int).toNat) = m by omega, ec]
   refine ⟨by omega, by rw [List.getElem?_map, List.getElem?_eq_getElem hmW]; rfl, E66 fun _ _ => ?_⟩
   have e0 : sopS .neq (By L[m]) (ByteArray.mk (Array.mk [48])) = !(L[m] == [48]) := sopN _ _
   rw [e0]
   refine ⟨rfl, _, rfl, rfl, fun hb => ⟨rfl, rfl, _, rfl, ⟨fun _ ha => ?_, fun _ => by omega⟩⟩, fun hb => ?_⟩
   ·have := ha _ (List.getElem_mem hmW); rw [this] at hb; simp at hb
   ·rw [wrap64 (by omega) (by omega), show (m : Int) + 1 = ((m + 1 : Nat) : Int) by omega]
    refine ih (m + 1) (by omega) fun z hz => ?_
    rw [List.take_succ_eq_append_getElem hmW] at hz
    rcases List.mem_append.1 hz with hz | hz
    ·exact h z hz
    ·simp at hz; rw [hz]; simpa using hb
 exact loop L.length 0 (by omega) (by simp)
theorem Nz_E (L : List (List UInt8)) (hl : L.length ≤ 100) : EC Tryd.prog G65 [] [.r (L.map fun l => [.str (By l)])] fun x rs vs => x = 0 ∧ rs = [] ∧ vs = [.b (decide ¬ ∀ w ∈ L, w = [48])] := by
 refine E65 fun _ _ => (IdxNz_E L hl).mono ?_
 rintro _ _ _ ⟨rfl, rfl, i, rfl, hi⟩
 refine ⟨rfl, _, rfl, rfl, rfl, rfl, ?_⟩
 by_cases h : ∀ w ∈ L, w = [48]
 ·rw [decide_eq_false (fun h1 => (hi.1 h1) h), decide_eq_false (fun hn => hn h)]
 ·rw [decide_eq_true (hi.2 h), decide_eq_true h]
theorem itoa_zero {z : Int} (h : 0 ≤ z) : itoa z = [48] ↔ z = 0 := by
 rw [itoa_dec h]
 constructor
 ·intro e
  have := decFrom_dec z.toNat
  rw [e] at this
  simp [decFrom, digitVal] at this
  omega
 ·rintro rfl
  rw [show (0 : Int).toNat = 0 from rfl, decDigits, dif_pos (by decide)]
  rfl
theorem Number_E {z : Int} (h : inZ z) : EC Tryd.prog G70 [] [.s (By (itoa z))] fun x rs vs => x = 0 ∧ rs = [] ∧ vs = [.i z, .b true] := by
 have h0 := h.1
 have h1 := h.2
 have hs : z.toNat ≤ 999999999 := by omega
 rw [itoa_dec h0]
 refine E70 fun _ _ => (Atoi_E hs).mono ?_
 rintro _ _ _ ⟨rfl, rfl, rfl⟩
 rw [show ((z.toNat : Nat) : Int) = z by omega]
 refine ⟨rfl, _, rfl, rfl, (Small_E [z] (by simp)).mono ?_⟩
 rintro _ _ _ ⟨rfl, rfl, rfl⟩
 refine ⟨rfl, _, rfl, rfl, fun _ => (Itoa_E _ (by omega) (by omega)).mono ?_, fun hf => ?_⟩
 ·rintro _ _ _ ⟨rfl, rfl, rfl⟩
  refine ⟨rfl, _, rfl, rfl, rfl, rfl, ?_⟩
  rw [itoa_dec h0, sopE]
  simp
 ·exact absurd (fun w hw => by simp at hw; rw [hw]; exact h) (of_decide_eq_false hf)
theorem Idx_E {R : List (List AV)} (hR : NamR R) {k : Nat} (hk : k < 6) : EC Tryd.prog G53 [] [.r R, .s (By (nam k))] fun x rs vs => x = 0 ∧ rs = [] ∧ vs = [.i (k : Int)] := by
 refine E53 fun EV V => ?_
 rw [hR.1]
 have loop : ∀ (n m : Nat), m + n = k → EV 7 [] [.r R, .s (By (nam k)), .i ((6 : Nat) : Int), .i (m : Int)] := by
  intro n
  induction n with
  | zero =>
   intro m hm
   obtain rfl : m = k := by omega
   have h := hR.2 m hk
   refine V.p7 ⟨fun _ => ?_, fun h => by omega⟩
   rw [show ((m : Int).toNat) = m by omega]
   refine ⟨by omega, h.1, fun _ => ⟨rfl, rfl, rfl⟩, fun hf => ?_⟩
   rw [h.2, sopE] at hf
   simp at hf
  | succ n ih =>
   intro m hm
   have h := hR.2 m (by omega)
   refine V.p7 ⟨fun _ => ?_, fun h => by omega⟩
   rw [show ((m : Int).toNat) = m by omega]
   refine ⟨by omega, h.1, fun hf => ?_, fun _ => ?_⟩
   ·rw [h.2, sopE] at hf
    have := nam_inj k m hk (by omega) (by simpa using hf)
    omega
   ·rw [wrap64 (by omega) (by omega), show (m : Int) + 1 = ((m + 1 : Nat) : Int) by omega]
    exact ih (m + 1) (by omega)
 exact loop k 0 (by omega)
end Go.Ab
