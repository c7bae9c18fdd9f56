/- PreemptTells: configurations as data; saturating sums; costs. For every input. -/
import Derived.Test.YtkcnlpelbcpmgaaTellsV
import Derived.Test.YtkcnlpelbcpmgaaAbLaw
namespace Go.Ab
open Go Go.Proofs
set_option linter.unusedVariables false
set_option linter.unusedSimpArgs false
set_option maxRecDepth 100000
set_option maxHeartbeats 1000000

structure Op3 where
  k : Int
  a : Int
  b : Int
  deriving Inhabited
def encO (o : Op3) : List AV := [.int .i64 o.k, .int .i64 o.a, .int .i64 o.b]
structure Tk where
  p : Int
  th : Int
  pe : Int
  de : Int
  fr : Int
  fl : Int
  pg : List Op3
  deriving Inhabited
def encT (t : Tk) : List AV := [.int .i64 t.p, .int .i64 t.th, .int .i64 t.pe, .int .i64 t.de, .int .i64 t.fr, .int .i64 t.fl, .inl 3 (t.pg.map encO)]
def tk (T : List Tk) (i : Nat) : Tk := T.getD i default
def op3 (P : List Op3) (i : Nat) : Op3 := P.getD i default
theorem tk_lt {T : List Tk} {i : Nat} (h : i < T.length) : tk T i = T[i] := by
  unfold tk; rw [List.getD_eq_getElem?_getD, List.getElem?_eq_getElem h]; rfl
theorem op3_lt {T : List Op3} {i : Nat} (h : i < T.length) : op3 T i = T[i] := by
  unfold op3; rw [List.getD_eq_getElem?_getD, List.getElem?_eq_getElem h]; rfl
section
variable (T : List Tk) (i : Nat)
theorem tk0 : cIS (T.map encT) i 0 = (tk T i).p := by
  unfold cIS cellS tk; rw [List.getElem?_map, List.getD_eq_getElem?_getD]; cases T[i]? <;> rfl
theorem tk1 : cIS (T.map encT) i 1 = (tk T i).th := by
  unfold cIS cellS tk; rw [List.getElem?_map, List.getD_eq_getElem?_getD]; cases T[i]? <;> rfl
theorem tk2 : cIS (T.map encT) i 2 = (tk T i).pe := by
  unfold cIS cellS tk; rw [List.getElem?_map, List.getD_eq_getElem?_getD]; cases T[i]? <;> rfl
theorem tk3 : cIS (T.map encT) i 3 = (tk T i).de := by
  unfold cIS cellS tk; rw [List.getElem?_map, List.getD_eq_getElem?_getD]; cases T[i]? <;> rfl
theorem tk4 : cIS (T.map encT) i 4 = (tk T i).fr := by
  unfold cIS cellS tk; rw [List.getElem?_map, List.getD_eq_getElem?_getD]; cases T[i]? <;> rfl
theorem tk5 : cIS (T.map encT) i 5 = (tk T i).fl := by
  unfold cIS cellS tk; rw [List.getElem?_map, List.getD_eq_getElem?_getD]; cases T[i]? <;> rfl
theorem tk6 : cRS (T.map encT) i 6 = (tk T i).pg.map encO := by
  unfold cRS cellS tk; rw [List.getElem?_map, List.getD_eq_getElem?_getD]; cases T[i]? <;> rfl
end
section
variable (P : List Op3) (i : Nat)
theorem op30 : cIS (P.map encO) i 0 = (op3 P i).k := by
  unfold cIS cellS op3; rw [List.getElem?_map, List.getD_eq_getElem?_getD]; cases P[i]? <;> rfl
theorem op31 : cIS (P.map encO) i 1 = (op3 P i).a := by
  unfold cIS cellS op3; rw [List.getElem?_map, List.getD_eq_getElem?_getD]; cases P[i]? <;> rfl
theorem op32 : cIS (P.map encO) i 2 = (op3 P i).b := by
  unfold cIS cellS op3; rw [List.getElem?_map, List.getD_eq_getElem?_getD]; cases P[i]? <;> rfl
end
theorem tk_get {T : List Tk} {i : Nat} (h : i < T.length) : (T.map encT)[i]? = some [.int .i64 (cIS (T.map encT) i 0), .int .i64 (cIS (T.map encT) i 1), .int .i64 (cIS (T.map encT) i 2), .int .i64 (cIS (T.map encT) i 3), .int .i64 (cIS (T.map encT) i 4), .int .i64 (cIS (T.map encT) i 5), .inl 3 (cRS (T.map encT) i 6)] := by
  rw [tk0, tk1, tk2, tk3, tk4, tk5, tk6, tk_lt h, List.getElem?_map, List.getElem?_eq_getElem h]
  rfl
theorem op3_get {P : List Op3} {i : Nat} (h : i < P.length) : (P.map encO)[i]? = some [.int .i64 (cIS (P.map encO) i 0), .int .i64 (cIS (P.map encO) i 1), .int .i64 (cIS (P.map encO) i 2)] := by
  rw [op30, op31, op32, op3_lt h, List.getElem?_map, List.getElem?_eq_getElem h]
  rfl

theorem wrapu {x : Int} (h0 : 0 ≤ x) (h1 : x < 18446744073709551616) : IntKind.wrap .u64 x = x := by
  simp only [IntKind.wrap]
  have hb : IntKind.u64.bits = 64 := rfl
  simp [IntKind.signed, hb]
  omega

/-! ### saturating sums -/
def topZ : Int := 18446744073709551615
def addZ (a b : Int) : Int := if a + b > topZ then topZ else a + b
def ceilZ (a b : Int) : Int := if a = 0 then 0 else if b = 0 ∨ a = topZ then topZ else (a - 1) / b + 1
def U (a : Int) : Prop := 0 ≤ a ∧ a ≤ 18446744073709551615
theorem addZ_U {a b : Int} (ha : U a) (hb : U b) : U (addZ a b) := by
  unfold addZ topZ U at *; split <;> omega
theorem ceil_div {a b : Int} (ha : 0 < a) (hb : 0 < b) : (a / b * b = a → a / b = (a - 1) / b + 1) ∧ (a / b * b ≠ a → a / b + 1 = (a - 1) / b + 1) := by
  have h1 := Int.mul_ediv_add_emod a b
  have h2 := Int.emod_nonneg a (by omega : b ≠ 0)
  have h3 := Int.emod_lt_of_pos a hb
  generalize a / b = q at *
  generalize a % b = r at *
  constructor
  · intro h
    have hr : r = 0 := by rw [Int.mul_comm] at h1; omega
    have e : a - 1 = (b - 1) + b * (q - 1) := by rw [Int.mul_sub]; omega
    rw [e, Int.add_mul_ediv_left _ _ (by omega), Int.ediv_eq_zero_of_lt (by omega) (by omega)]
    omega
  · intro h
    have hr : r ≠ 0 := by intro e; apply h; rw [Int.mul_comm] ; omega
    have e : a - 1 = (r - 1) + b * q := by omega
    rw [e, Int.add_mul_ediv_left _ _ (by omega), Int.ediv_eq_zero_of_lt (by omega) (by omega)]
    omega
theorem ceilZ_U {a b : Int} (ha : U a) (hb : U b) : U (ceilZ a b) := by
  unfold ceilZ
  split
  · unfold U; omega
  · split
    · unfold U topZ; omega
    · rename_i h1 h2
      unfold U topZ at *
      have : (a - 1) / b ≤ a - 1 := Int.ediv_le_self _ (by omega)
      have : 0 ≤ (a - 1) / b := Int.ediv_nonneg (by omega) (by omega)
      omega

theorem Add_E {a b : Int} (ha : U a) (hb : U b) : EC Try.prog G41 [] [.i a, .i b] fun x rs vs => x = 0 ∧ rs = [] ∧ vs = [.i (addZ a b)] := by
  have e1 : arS.c0 a b = ((a.toNat + b.toNat : Nat) : Int) / 18446744073709551616 := rfl
  have e2 : arS.s0 a b = ((a.toNat + b.toNat : Nat) : Int) % 18446744073709551616 := rfl
  unfold U at ha hb
  refine E41 fun EV V => ⟨fun h => ⟨rfl, rfl, ?_⟩, fun h => ⟨rfl, rfl, ?_⟩⟩
  · rw [e1] at h
    unfold addZ topZ
    rw [if_pos (by omega)]
  · rw [e1] at h
    rw [e2]
    unfold addZ topZ
    rw [if_neg (by omega)]
    congr 2; omega
theorem RAdd_E {a b : Int} (ha : U a) (hb : U b) : EC Try.prog G52 [] [.i a, .i b] fun x rs vs => x = 0 ∧ rs = [] ∧ vs = [.i (addZ a b)] := by
  unfold U at ha hb
  have e : IntKind.wrap .u64 (18446744073709551615 - b) = 18446744073709551615 - b := wrapu (by omega) (by omega)
  refine E52 fun EV V => ⟨fun h => ⟨rfl, rfl, ?_⟩, fun h => ⟨rfl, rfl, ?_⟩⟩
  · rw [e] at h
    unfold addZ topZ
    rw [if_pos (by omega)]
  · rw [e] at h
    unfold addZ topZ
    rw [if_neg (by omega), wrapu (by omega) (by omega)]
theorem Ceil_E {a b : Int} (ha : U a) (hb : U b) : EC Try.prog G42 [] [.i a, .i b] fun x rs vs => x = 0 ∧ rs = [] ∧ vs = [.i (ceilZ a b)] := by
  unfold U at ha hb
  refine E42 fun EV V => ⟨fun h => ⟨rfl, rfl, by simp [ceilZ, h]⟩, fun h => ⟨fun h1 => ⟨fun h2 => ⟨rfl, rfl, by simp [ceilZ, topZ, h, h2]⟩, fun h2 => ⟨h1, rfl, rfl, ?_⟩⟩, fun h1 => ⟨rfl, rfl, by simp [ceilZ, topZ, h, h1]⟩⟩⟩
  have q1 : (a - 1) / b ≤ a - 1 := Int.ediv_le_self _ (by omega)
  have q2 : 0 ≤ (a - 1) / b := Int.ediv_nonneg (by omega) (by omega)
  rw [wrapu (x := a - 1) (by omega) (by omega), Int.tdiv_eq_ediv_of_nonneg (by omega), wrapu q2 (by omega), wrapu (by omega) (by omega)]
  unfold ceilZ topZ
  rw [if_neg h, if_neg (by omega)]
theorem RCeil_E {a b : Int} (ha : U a) (hb : U b) : EC Try.prog G53 [] [.i a, .i b] fun x rs vs => x = 0 ∧ rs = [] ∧ vs = [.i (ceilZ a b)] := by
  unfold U at ha hb
  refine E53 fun EV V => ⟨fun h => ⟨rfl, rfl, by simp [ceilZ, h]⟩, fun h => ⟨fun h1 => ⟨fun h2 => ⟨rfl, rfl, by simp [ceilZ, topZ, h, h2]⟩, fun h2 => ⟨h1, ?_⟩⟩, fun h1 => ⟨rfl, rfl, by simp [ceilZ, topZ, h, h1]⟩⟩⟩
  have q1 : a / b ≤ a := Int.ediv_le_self _ (by omega)
  have q2 : 0 ≤ a / b := Int.ediv_nonneg (by omega) (by omega)
  have q3 : a / b * b ≤ a := Int.ediv_mul_le a (by omega)
  have q4 : 0 ≤ a / b * b := Int.mul_nonneg q2 (by omega)
  obtain ⟨d1, d2⟩ := ceil_div (a := a) (b := b) (by omega) (by omega)
  rw [Int.tdiv_eq_ediv_of_nonneg (by omega), wrapu q2 (by omega), wrapu q4 (by omega), wrapu (x := a / b + 1) (by omega) (by omega)]
  have e : ceilZ a b = (a - 1) / b + 1 := by unfold ceilZ topZ; rw [if_neg h, if_neg (by omega)]
  exact ⟨fun hne => ⟨rfl, rfl, by rw [d2 hne, e]⟩, fun he => ⟨rfl, rfl, by rw [d1 he, e]⟩⟩
theorem Of_E {a : Int} (ha : a ≤ 9223372036854775807) : EC Try.prog G43 [] [.i a] fun x rs vs => x = 0 ∧ rs = [] ∧ vs = [.i (max a 0)] :=
  E43 fun EV V => ⟨rfl, rfl, by rw [mxS, wrapu (by omega) (by omega)]⟩
theorem ROf_E {a : Int} (ha : a ≤ 9223372036854775807) : EC Try.prog G54 [] [.i a] fun x rs vs => x = 0 ∧ rs = [] ∧ vs = [.i (max a 0)] :=
  E54 fun EV V => ⟨fun h => ⟨rfl, rfl, by rw [show max a 0 = 0 by omega]⟩, fun h => ⟨rfl, rfl, by rw [wrapu h (by omega), show max a 0 = a by omega]⟩⟩
theorem max_U {a : Int} (ha : a ≤ 9223372036854775807) : U (max a 0) := by unfold U; omega

theorem Sum3_E {a b : Int} (ha : 0 ≤ a ∧ a ≤ 1099511627776) (hb : 0 ≤ b ∧ b ≤ 1099511627776) : EC Try.prog G47 [] [.r [[.int .i64 0]].tail] fun x rs vs => x = 0 ∧ rs = [] ∧ vs = [.i 0] := by
  refine E47 fun EV V => V.p9 ⟨fun h => ?_, fun h => ⟨rfl, rfl, rfl⟩⟩
  simp at h
theorem addZ_small {a b : Int} (h : 0 ≤ a + b ∧ a + b ≤ 1000000000000000) : addZ a b = a + b := by
  unfold addZ topZ; rw [if_neg (by omega)]
/-- Three, summed. -/
theorem SumL_E {a b c : Int} (ha : 0 ≤ a ∧ a ≤ 1099511627776) (hb : 0 ≤ b ∧ b ≤ 1099511627776) (hc : 0 ≤ c ∧ c ≤ 1099511627776) : EC Try.prog G47 [] [.r [[.int .u64 a], [.int .u64 b], [.int .u64 c]]] fun x rs vs => x = 0 ∧ rs = [] ∧ vs = [.i (a + b + c)] := by
  refine E47 fun EV V => ?_
  have u0 : U 0 := by unfold U; omega
  have ua : U a := by unfold U; omega
  have ub : U b := by unfold U; omega
  have uc : U c := by unfold U; omega
  have uab : U (a + b) := by unfold U; omega
  have i1 : IntKind.wrap .i64 ((0 : Int) + 1) = 1 := rfl
  have i2 : IntKind.wrap .i64 ((1 : Int) + 1) = 2 := rfl
  have i3 : IntKind.wrap .i64 ((2 : Int) + 1) = 3 := rfl
  refine V.p9 ⟨fun _ => ⟨by omega, rfl, (Add_E u0 ua).mono ?_⟩, fun h => by simp at h⟩
  rintro _ _ _ ⟨rfl, rfl, rfl⟩
  rw [addZ_small (by omega), i1]
  refine ⟨rfl, _, rfl, rfl, V.p9 ⟨fun _ => ⟨by omega, rfl, (Add_E (by rw [Int.zero_add]; exact ua) ub).mono ?_⟩, fun h => by simp at h⟩⟩
  rintro _ _ _ ⟨rfl, rfl, rfl⟩
  rw [addZ_small (by omega), i2]
  refine ⟨rfl, _, rfl, rfl, V.p9 ⟨fun _ => ⟨by omega, rfl, (Add_E (by rw [Int.zero_add]; exact uab) uc).mono ?_⟩, fun h => by simp at h⟩⟩
  rintro _ _ _ ⟨rfl, rfl, rfl⟩
  rw [addZ_small (by omega), i3]
  refine ⟨rfl, _, rfl, rfl, V.p9 ⟨fun h => by simp at h, fun _ => ⟨rfl, rfl, by rw [Int.zero_add]⟩⟩⟩

/-! ### costs -/
def clampZ (n : Int) : Int := min (max n 0) 1073741824
def costZ (hit miss : Int) (h : Bool) (o : Op3) : Int := if o.k = 1 then clampZ o.a else if o.k = 2 then (if h then clampZ hit else clampZ miss) else 1
theorem clampZ_b (n : Int) : 0 ≤ clampZ n ∧ clampZ n ≤ 1073741824 := by unfold clampZ; omega
theorem costZ_b (hit miss : Int) (h : Bool) (o : Op3) : 0 ≤ costZ hit miss h o ∧ costZ hit miss h o ≤ 1073741824 := by
  unfold costZ
  have := clampZ_b o.a; have := clampZ_b hit; have := clampZ_b miss
  split
  · omega
  · split
    · split <;> omega
    · omega
theorem clamp_E (n : Int) : EC Try.prog G68 [] [.i n] fun x rs vs => x = 0 ∧ rs = [] ∧ vs = [.i (clampZ n)] :=
  E68 fun EV V => ⟨rfl, rfl, by rw [mnS, mxS]; rfl⟩
theorem Rclamp_E (n : Int) : EC Try.prog G69 [] [.i n] fun x rs vs => x = 0 ∧ rs = [] ∧ vs = [.i (clampZ n)] :=
  E69 fun EV V => ⟨fun h => ⟨rfl, rfl, by rw [show clampZ n = 0 by unfold clampZ; omega]⟩, fun h => ⟨fun h1 => ⟨rfl, rfl, by rw [show clampZ n = 1073741824 by unfold clampZ; omega]⟩, fun h1 => ⟨rfl, rfl, by rw [show clampZ n = n by unfold clampZ; omega]⟩⟩⟩
theorem Cost_E (k a b s w hit miss : Int) (h : Bool) : EC Try.prog G63 [] [.i k, .i a, .i b, .i s, .i w, .i hit, .i miss, .b h] fun x rs vs => x = 0 ∧ rs = [] ∧ vs = [.i (costZ hit miss h ⟨k, a, b⟩)] := by
  refine E63 fun EV V => ⟨fun h1 => (clamp_E a).mono ?_, fun h1 => ⟨fun h2 => ⟨rfl, rfl, by simp [costZ, h1, h2]⟩, fun h2 => ⟨fun h3 => (clamp_E hit).mono ?_, fun h3 => (clamp_E miss).mono ?_⟩⟩⟩
  all_goals
    rintro _ _ _ ⟨rfl, rfl, rfl⟩
    refine ⟨rfl, _, rfl, rfl, rfl, rfl, ?_⟩
    simp_all [costZ]
theorem RCost_E (k a b s w hit miss : Int) (h : Bool) : EC Try.prog G64 [] [.i k, .i a, .i b, .i s, .i w, .i hit, .i miss, .b h] fun x rs vs => x = 0 ∧ rs = [] ∧ vs = [.i (costZ hit miss h ⟨k, a, b⟩)] := by
  refine E64 fun EV V => ⟨fun h1 => (Rclamp_E a).mono ?_, fun h1 => ⟨fun h2 => ⟨fun h3 => (Rclamp_E hit).mono ?_, fun h3 => ⟨fun _ => (Rclamp_E miss).mono ?_, fun h4 => (h4 h2).elim⟩⟩, fun h2 => ⟨fun h4 => (h2 h4).elim, fun _ => ⟨rfl, rfl, by simp [costZ, h1, h2]⟩⟩⟩⟩
  all_goals
    rintro _ _ _ ⟨rfl, rfl, rfl⟩
    refine ⟨rfl, _, rfl, rfl, rfl, rfl, ?_⟩
    simp_all [costZ]
def sumZ (hit miss : Int) (h : Bool) (P : List Op3) : Int := (P.map (costZ hit miss h)).sum
theorem sumZ_b (hit miss : Int) (h : Bool) : ∀ P : List Op3, 0 ≤ sumZ hit miss h P ∧ sumZ hit miss h P ≤ P.length * 1073741824
  | [] => by simp [sumZ]
  | o :: P => by
    have := sumZ_b hit miss h P
    have := costZ_b hit miss h o
    simp only [sumZ, List.map_cons, List.sum_cons, List.length_cons] at *
    omega
theorem sumZ_take {hit miss : Int} {h : Bool} {P : List Op3} {m : Nat} (hm : m < P.length) : sumZ hit miss h (P.take (m + 1)) = sumZ hit miss h (P.take m) + costZ hit miss h (op3 P m) := by
  rw [List.take_add_one, List.getElem?_eq_getElem hm, ← op3_lt hm]
  simp [sumZ]
theorem Sum_E (P : List Op3) (hP : P.length ≤ 1000) (s w hit miss : Int) (h : Bool) : EC Try.prog G61 [] [.r (P.map encO), .i s, .i w, .i hit, .i miss, .b h] fun x rs vs => x = 0 ∧ rs = [] ∧ vs = [.i (sumZ hit miss h P)] := by
  refine E61 fun EV V => ?_
  have loop : ∀ (d m : Nat), P.length - m < d → m ≤ P.length → EV 9 [] [.b h, .i (sumZ hit miss h (P.take m)), .r (P.map encO), .i P.length, .i m, .i s, .i w, .i hit, .i miss] := by
    intro d
    induction d with
    | zero => intro m hd; omega
    | succ d ih =>
      intro m hd hm
      refine V.p9 ⟨fun hlt => ?_, fun hge => ?_⟩
      · have hmP : m < P.length := by omega
        refine ⟨by omega, op3_get hmP, (Cost_E _ _ _ s w hit miss h).mono ?_⟩
        rintro _ _ _ ⟨rfl, rfl, rfl⟩
        refine ⟨rfl, _, rfl, rfl, ?_⟩
        rw [op30, op31, op32, Int.toNat_natCast]
        have b1 := sumZ_b hit miss h (P.take m)
        have b2 := costZ_b hit miss h (op3 P m)
        rw [List.length_take] at b1
        have := ih (m + 1) (by omega) (by omega)
        rw [sumZ_take hmP] at this
        have e : costZ hit miss h ⟨(op3 P m).k, (op3 P m).a, (op3 P m).b⟩ = costZ hit miss h (op3 P m) := rfl
        rw [e, wrap64 (x := sumZ hit miss h (P.take m) + costZ hit miss h (op3 P m)) (by omega) (by omega), wrap64 (by omega) (by omega)]
        exact this
      · obtain rfl : m = P.length := by omega
        rw [List.take_length]
        exact ⟨rfl, rfl, rfl⟩
  have := loop _ 0 (Nat.lt_succ_self _) (by omega)
  simpa [sumZ] using this
theorem RSum_E (P : List Op3) (hP : P.length ≤ 1000) (s w hit miss : Int) (h : Bool) : EC Try.prog G55 [] [.r (P.map encO), .i s, .i w, .i hit, .i miss, .b h] fun x rs vs => x = 0 ∧ rs = [] ∧ vs = [.i (sumZ hit miss h P)] := by
  refine E55 fun EV V => ?_
  have loop : ∀ (d m : Nat), P.length - m < d → m ≤ P.length → EV 9 [] [.b h, .i (sumZ hit miss h (P.take m)), .r (P.map encO), .i P.length, .i m, .i s, .i w, .i hit, .i miss] := by
    intro d
    induction d with
    | zero => intro m hd; omega
    | succ d ih =>
      intro m hd hm
      refine V.p9 ⟨fun hlt => ?_, fun hge => ?_⟩
      · have hmP : m < P.length := by omega
        refine ⟨by omega, op3_get hmP, (RCost_E _ _ _ s w hit miss h).mono ?_⟩
        rintro _ _ _ ⟨rfl, rfl, rfl⟩
        refine ⟨rfl, _, rfl, rfl, ?_⟩
        rw [op30, op31, op32, Int.toNat_natCast]
        have b1 := sumZ_b hit miss h (P.take m)
        have b2 := costZ_b hit miss h (op3 P m)
        rw [List.length_take] at b1
        have := ih (m + 1) (by omega) (by omega)
        rw [sumZ_take hmP] at this
        have e : costZ hit miss h ⟨(op3 P m).k, (op3 P m).a, (op3 P m).b⟩ = costZ hit miss h (op3 P m) := rfl
        rw [e, wrap64 (x := sumZ hit miss h (P.take m) + costZ hit miss h (op3 P m)) (by omega) (by omega), wrap64 (by omega) (by omega)]
        exact this
      · obtain rfl : m = P.length := by omega
        rw [List.take_length]
        exact ⟨rfl, rfl, rfl⟩
  have := loop _ 0 (Nat.lt_succ_self _) (by omega)
  simpa [sumZ] using this
theorem Worst_E (P : List Op3) (hP : P.length ≤ 1000) (s w hit miss : Int) : EC Try.prog G45 [] [.r (P.map encO), .i s, .i w, .i hit, .i miss] fun x rs vs => x = 0 ∧ rs = [] ∧ vs = [.i (sumZ hit miss false P)] := by
  refine E45 fun EV V => (Sum_E P hP s w hit miss false).mono ?_
  rintro _ _ _ ⟨rfl, rfl, rfl⟩
  exact ⟨rfl, _, rfl, rfl, rfl, rfl, rfl⟩
end Go.Ab
