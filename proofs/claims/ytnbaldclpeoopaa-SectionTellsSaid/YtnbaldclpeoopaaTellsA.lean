/- SectionFalls: configurations as data; costs. For every input. -/
import Derived.Test.YtnbaldclpeoopaaTellsV
import Derived.Test.YtnbaldclpeoopaaAbLaw
namespace Go.Ab
open Go Go.Proofs
set_option linter.unusedVariables false
set_option linter.unusedSimpArgs false
set_option maxRecDepth 100000
set_option maxHeartbeats 1000000

structure Op3 where
  k : Int
  a : Int
  b : Int
  deriving Inhabited
def encO (o : Op3) : List AV := [.int .i64 o.k, .int .i64 o.a, .int .i64 o.b]
structure Tk where
  p : Int
  th : Int
  pe : Int
  de : Int
  fr : Int
  fl : Int
  pg : List Op3
  deriving Inhabited
def encT (t : Tk) : List AV := [.int .i64 t.p, .int .i64 t.th, .int .i64 t.pe, .int .i64 t.de, .int .i64 t.fr, .int .i64 t.fl, .inl 3 (t.pg.map encO)]
def tk (T : List Tk) (i : Nat) : Tk := T.getD i default
def op3 (P : List Op3) (i : Nat) : Op3 := P.getD i default
theorem tk_lt {T : List Tk} {i : Nat} (h : i < T.length) : tk T i = T[i] := by
  unfold tk; rw [List.getD_eq_getElem?_getD, List.getElem?_eq_getElem h]; rfl
theorem op3_lt {T : List Op3} {i : Nat} (h : i < T.length) : op3 T i = T[i] := by
  unfold op3; rw [List.getD_eq_getElem?_getD, List.getElem?_eq_getElem h]; rfl
section
variable (T : List Tk) (i : Nat)
theorem tk0 : cIS (T.map encT) i 0 = (tk T i).p := by
  unfold cIS cellS tk; rw [List.getElem?_map, List.getD_eq_getElem?_getD]; cases T[i]? <;> rfl
theorem tk1 : cIS (T.map encT) i 1 = (tk T i).th := by
  unfold cIS cellS tk; rw [List.getElem?_map, List.getD_eq_getElem?_getD]; cases T[i]? <;> rfl
theorem tk2 : cIS (T.map encT) i 2 = (tk T i).pe := by
  unfold cIS cellS tk; rw [List.getElem?_map, List.getD_eq_getElem?_getD]; cases T[i]? <;> rfl
theorem tk3 : cIS (T.map encT) i 3 = (tk T i).de := by
  unfold cIS cellS tk; rw [List.getElem?_map, List.getD_eq_getElem?_getD]; cases T[i]? <;> rfl
theorem tk4 : cIS (T.map encT) i 4 = (tk T i).fr := by
  unfold cIS cellS tk; rw [List.getElem?_map, List.getD_eq_getElem?_getD]; cases T[i]? <;> rfl
theorem tk5 : cIS (T.map encT) i 5 = (tk T i).fl := by
  unfold cIS cellS tk; rw [List.getElem?_map, List.getD_eq_getElem?_getD]; cases T[i]? <;> rfl
theorem tk6 : cRS (T.map encT) i 6 = (tk T i).pg.map encO := by
  unfold cRS cellS tk; rw [List.getElem?_map, List.getD_eq_getElem?_getD]; cases T[i]? <;> rfl
end
section
variable (P : List Op3) (i : Nat)
theorem op30 : cIS (P.map encO) i 0 = (op3 P i).k := by
  unfold cIS cellS op3; rw [List.getElem?_map, List.getD_eq_getElem?_getD]; cases P[i]? <;> rfl
theorem op31 : cIS (P.map encO) i 1 = (op3 P i).a := by
  unfold cIS cellS op3; rw [List.getElem?_map, List.getD_eq_getElem?_getD]; cases P[i]? <;> rfl
theorem op32 : cIS (P.map encO) i 2 = (op3 P i).b := by
  unfold cIS cellS op3; rw [List.getElem?_map, List.getD_eq_getElem?_getD]; cases P[i]? <;> rfl
end
theorem tk_get {T : List Tk} {i : Nat} (h : i < T.length) : (T.map encT)[i]? = some [.int .i64 (cIS (T.map encT) i 0), .int .i64 (cIS (T.map encT) i 1), .int .i64 (cIS (T.map encT) i 2), .int .i64 (cIS (T.map encT) i 3), .int .i64 (cIS (T.map encT) i 4), .int .i64 (cIS (T.map encT) i 5), .inl 3 (cRS (T.map encT) i 6)] := by
  rw [tk0, tk1, tk2, tk3, tk4, tk5, tk6, tk_lt h, List.getElem?_map, List.getElem?_eq_getElem h]
  rfl
theorem op3_get {P : List Op3} {i : Nat} (h : i < P.length) : (P.map encO)[i]? = some [.int .i64 (cIS (P.map encO) i 0), .int .i64 (cIS (P.map encO) i 1), .int .i64 (cIS (P.map encO) i 2)] := by
  rw [op30, op31, op32, op3_lt h, List.getElem?_map, List.getElem?_eq_getElem h]
  rfl

theorem wrapu {x : Int} (h0 : 0 ≤ x) (h1 : x < 18446744073709551616) : IntKind.wrap .u64 x = x := by
  simp only [IntKind.wrap]
  have hb : IntKind.u64.bits = 64 := rfl
  simp [IntKind.signed, hb]
  omega

/-! ### costs -/
def clampZ (n : Int) : Int := min (max n 0) 1073741824
def costZ (hit miss : Int) (h : Bool) (o : Op3) : Int := if o.k = 1 then clampZ o.a else if o.k = 2 then (if h then clampZ hit else clampZ miss) else 1
theorem clampZ_b (n : Int) : 0 ≤ clampZ n ∧ clampZ n ≤ 1073741824 := by unfold clampZ; omega
theorem costZ_b (hit miss : Int) (h : Bool) (o : Op3) : 0 ≤ costZ hit miss h o ∧ costZ hit miss h o ≤ 1073741824 := by
  unfold costZ
  have := clampZ_b o.a; have := clampZ_b hit; have := clampZ_b miss
  split
  · omega
  · split
    · split <;> omega
    · omega
theorem clamp_E (n : Int) : EC Try.prog G51 [] [.i n] fun x rs vs => x = 0 ∧ rs = [] ∧ vs = [.i (clampZ n)] :=
  E51 fun EV V => ⟨rfl, rfl, by rw [mnS, mxS]; rfl⟩
theorem Rclamp_E (n : Int) : EC Try.prog G52 [] [.i n] fun x rs vs => x = 0 ∧ rs = [] ∧ vs = [.i (clampZ n)] :=
  E52 fun EV V => ⟨fun h => ⟨rfl, rfl, by rw [show clampZ n = 0 by unfold clampZ; omega]⟩, fun h => ⟨fun h1 => ⟨rfl, rfl, by rw [show clampZ n = 1073741824 by unfold clampZ; omega]⟩, fun h1 => ⟨rfl, rfl, by rw [show clampZ n = n by unfold clampZ; omega]⟩⟩⟩
theorem Cost_E (k a b s w hit miss : Int) (h : Bool) : EC Try.prog G40 [] [.i k, .i a, .i b, .i s, .i w, .i hit, .i miss, .b h] fun x rs vs => x = 0 ∧ rs = [] ∧ vs = [.i (costZ hit miss h ⟨k, a, b⟩)] := by
  refine E40 fun EV V => ⟨fun h1 => (clamp_E a).mono ?_, fun h1 => ⟨fun h2 => ⟨rfl, rfl, by simp [costZ, h1, h2]⟩, fun h2 => ⟨fun h3 => (clamp_E hit).mono ?_, fun h3 => (clamp_E miss).mono ?_⟩⟩⟩
  all_goals
    rintro _ _ _ ⟨rfl, rfl, rfl⟩
    refine ⟨rfl, _, rfl, rfl, rfl, rfl, ?_⟩
    simp_all [costZ]
theorem RCost_E (k a b s w hit miss : Int) (h : Bool) : EC Try.prog G41 [] [.i k, .i a, .i b, .i s, .i w, .i hit, .i miss, .b h] fun x rs vs => x = 0 ∧ rs = [] ∧ vs = [.i (costZ hit miss h ⟨k, a, b⟩)] := by
  refine E41 fun EV V => ⟨fun h1 => (Rclamp_E a).mono ?_, fun h1 => ⟨fun h2 => ⟨fun h3 => (Rclamp_E hit).mono ?_, fun h3 => ⟨fun _ => (Rclamp_E miss).mono ?_, fun h4 => (h4 h2).elim⟩⟩, fun h2 => ⟨fun h4 => (h2 h4).elim, fun _ => ⟨rfl, rfl, by simp [costZ, h1, h2]⟩⟩⟩⟩
  all_goals
    rintro _ _ _ ⟨rfl, rfl, rfl⟩
    refine ⟨rfl, _, rfl, rfl, rfl, rfl, ?_⟩
    simp_all [costZ]
def sumZ (hit miss : Int) (h : Bool) (P : List Op3) : Int := (P.map (costZ hit miss h)).sum
theorem sumZ_b (hit miss : Int) (h : Bool) : ∀ P : List Op3, 0 ≤ sumZ hit miss h P ∧ sumZ hit miss h P ≤ P.length * 1073741824
  | [] => by simp [sumZ]
  | o :: P => by
    have := sumZ_b hit miss h P
    have := costZ_b hit miss h o
    simp only [sumZ, List.map_cons, List.sum_cons, List.length_cons] at *
    omega
theorem sumZ_take {hit miss : Int} {h : Bool} {P : List Op3} {m : Nat} (hm : m < P.length) : sumZ hit miss h (P.take (m + 1)) = sumZ hit miss h (P.take m) + costZ hit miss h (op3 P m) := by
  rw [List.take_add_one, List.getElem?_eq_getElem hm, ← op3_lt hm]
  simp [sumZ]
end Go.Ab
