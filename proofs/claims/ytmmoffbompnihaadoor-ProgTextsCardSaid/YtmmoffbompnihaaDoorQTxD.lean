import Derived.Test.YtmmoffbompnihaaDoorQTxC
import Derived.Test.YtmmoffbompnihaaDoorQVC
namespace Go.Ab
open Go Go.Proofs Go.Lib
set_option linter.unusedVariables false
set_option linter.unusedSimpArgs false
set_option maxRecDepth 100000
set_option maxHeartbeats 1000000
theorem join_snoc (sep x : List UInt8) : ∀ (a : List UInt8) (L : List (List UInt8)), Lib.join ((a :: L) ++ [x]) sep = Lib.join (a :: L) sep ++ (sep ++ x)
 | a, [] => by simp [join_cc, Lib.join_one]
 | a, b :: L => by
  have := join_snoc sep x b L
  rw [List.cons_append, List.cons_append, join_cc, ← List.cons_append, this, join_cc]
  simp
theorem join_len {c : UInt8} {d : Nat} : ∀ (L : List (List UInt8)), (∀ x ∈ L, x.length ≤ d) → (Lib.join L [c]).length ≤ (d + 1) * L.length
 | [], _ => by simp [Lib.join_nil]
 | [a], h => by rw [Lib.join_one]; have := h a (by simp); simp; omega
 | a :: b :: L, h => by
  have ih := join_len (c := c) (b :: L) fun x hx => h x (List.mem_cons_of_mem _ hx)
  have := h a (by simp)
  rw [join_cc]
  simp only [List.length_append, List.length_cons, List.length_nil, Nat.mul_add, Nat.mul_one] at ih ⊢
  omega
def partsP (P : List Op3) : List (List UInt8) := P.map oneL
def allOk (P : List Op3) : Prop := ∀ o ∈ P, okP o
instance (P : List Op3) : Decidable (allOk P) := by unfold allOk; infer_instance
def ansP (P : List Op3) : List Lf := if allOk P then [.s (By (Lib.join (partsP P) [59])), .b true] else [.s (By []), .b false]
theorem partsP_len {P : List Op3} (hw : ∀ o ∈ P, WfO o) (m : Nat) : (Lib.join ((partsP P).take m) [59]).length ≤ 61 * P.length := by
 refine Nat.le_trans (join_len (d := 60) _ fun x hx => ?_) ?_
 ·have := List.mem_of_mem_take hx
  unfold partsP at this
  obtain ⟨o, ho, rfl⟩ := List.mem_map.1 this
  exact oneL_len (hw o ho)
 ·refine Nat.mul_le_mul_left _ ?_
  rw [List.length_take]
  unfold partsP
  rw [List.length_map]
  omega
theorem encO_at {P : List Op3} {m : Nat} (h : m < P.length) : (P.map encO)[m]? = some (r3 (P.map encO) m) ∧ cIS (P.map encO) m 0 = P[m].k ∧ cIS (P.map encO) m 1 = P[m].a ∧ cIS (P.map encO) m 2 = P[m].b := by
 have e : (P.map encO)[m]? = some (encO P[m]) := by rw [List.getElem?_map, List.getElem?_eq_getElem h]; rfl
 have e0 : cIS (P.map encO) m 0 = P[m].k := by unfold cIS cellS; rw [e]; rfl
 have e1 : cIS (P.map encO) m 1 = P[m].a := by unfold cIS cellS; rw [e]; rfl
 have e2 : cIS (P.map encO) m 2 = P[m].b := by unfold cIS cellS; rw [e]; rfl
 refine ⟨?_, e0, e1, e2⟩
 rw [e]
 show _ = some [AV.int .i64 (cIS (P.map encO) m 0), AV.int .i64 (cIS (P.map encO) m 1), AV.int .i64 (cIS (P.map encO) m 2)]
 rw [e0, e1, e2]
 rfl
theorem Text_E (P : List Op3) (hw : ∀ o ∈ P, WfO o) (hl : P.length ≤ 80) : EC Tryd.prog G41 [] [.r (P.map encO)] fun x rs vs => x = 0 ∧ rs = [] ∧ vs = ansP P := by
 refine E41 fun EV V => ?_
 rw [List.length_map]
 have loop : ∀ (n m : Nat), m + n = P.length → (∀ o ∈ P.take m, okP o) → EV 9 [((partsP P).take m).map fun l => [.str (By l)]] [.r (P.map encO), .i (P.length : Int), .i (m : Int)] := by
  intro n
  induction n with
  | zero =>
   intro m hm hok
   have hall : allOk P := by rw [List.take_of_length_le (by omega)] at hok; exact hok
   refine V.p9 fun _ => ⟨fun h => by omega, fun _ => ?_⟩
   rw [List.drop_zero, List.take_length, List.take_of_length_le (show (partsP P).length ≤ m by unfold partsP; rw [List.length_map]; omega)]
   have hb := partsP_len hw P.length
   rw [List.take_of_length_le (show (partsP P).length ≤ P.length by unfold partsP; rw [List.length_map]; omega)] at hb
   refine (Join_E (partsP P) 59 (by unfold partsP; rw [List.length_map]; omega) (by omega)).mono ?_
   rintro _ _ _ ⟨rfl, rfl, rfl⟩
   exact ⟨rfl, _, rfl, rfl, rfl, rfl, by unfold ansP; rw [if_pos hall]⟩
  | succ n ih =>
   intro m hm hok
   have hmP : m < P.length := by omega
   obtain ⟨e, e0, e1, e2⟩ := encO_at hmP
   refine V.p9 fun _ => ⟨fun _ => ?_, fun h => by omega⟩
   rw [show ((m : Int).toNat) = m by omega, e0, e1, e2]
   refine ⟨by omega, e, (One_E (hw _ (List.getElem_mem hmP))).mono ?_⟩
   rintro _ _ _ ⟨rfl, rfl, rfl⟩
   have hlen : ((partsP P).take m).length = m := by unfold partsP; rw [List.length_take, List.length_map]; omega
   by_cases ho : okP P[m]
   ·refine ⟨rfl, By (oneL P[m]), true, rfl, by unfold ansO; rw [if_pos ho], fun h => (by cases h), fun _ => ?_⟩
    refine ⟨by simp only [List.length_map, hlen]; simp; omega, by simp only [List.length_map, hlen]; simp; omega, ?_⟩
    rw [wrap64 (by omega) (by omega)]
    have hmp : m < (partsP P).length := by unfold partsP; rw [List.length_map]; exact hmP
    have eg : (partsP P)[m] = oneL P[m] := by simp [partsP]
    have e' : (((partsP P).take m).map fun l => [AV.str (By l)]) ++ List.take 1 (List.drop 0 [[AV.str (By (oneL P[m]))]]) = ((partsP P).take (m + 1)).map fun l => [AV.str (By l)] := by
     rw [List.take_succ_eq_append_getElem hmp, List.map_append, eg]; rfl
    rw [e', show (m : Int) + 1 = ((m + 1 : Nat) : Int) by omega]
    refine ih (m + 1) (by omega) fun o h => ?_
    rw [List.take_succ_eq_append_getElem hmP] at h
    rcases List.mem_append.1 h with h | h
    ·exact hok o h
    ·simp at h; rw [h]; exact ho
   ·refine ⟨rfl, By [], false, rfl, by unfold ansO; rw [if_neg ho], fun _ => ⟨rfl, rfl, ?_⟩, fun h => (by cases h)⟩
    unfold ansP
    rw [if_neg fun h => ho (h _ (List.getElem_mem hmP))]
 exact loop P.length 0 (by omega) (by simp)
theorem RText_E (P : List Op3) (hw : ∀ o ∈ P, WfO o) (hl : P.length ≤ 80) : EC Tryd.prog G42 [] [.r (P.map encO)] fun x rs vs => x = 0 ∧ rs = [] ∧ vs = ansP P := by
 refine E42 fun EV V => ?_
 rw [List.length_map]
 have loop : ∀ (n m : Nat), m + n = P.length → (∀ o ∈ P.take m, okP o) → EV 9 [] [.s (By (Lib.join ((partsP P).take m) [59])), .r (P.map encO), .i (P.length : Int), .i (m : Int)] := by
  intro n
  induction n with
  | zero =>
   intro m hm hok
   have hall : allOk P := by rw [List.take_of_length_le (by omega)] at hok; exact hok
   refine V.p9 ⟨fun h => by omega, fun _ => ⟨rfl, rfl, ?_⟩⟩
   rw [List.take_of_length_le (show (partsP P).length ≤ m by unfold partsP; rw [List.length_map]; omega)]
   unfold ansP; rw [if_pos hall]
  | succ n ih =>
   intro m hm hok
   have hmP : m < P.length := by omega
   obtain ⟨e, e0, e1, e2⟩ := encO_at hmP
   refine V.p9 ⟨fun _ => ?_, fun h => by omega⟩
   rw [show ((m : Int).toNat) = m by omega, e0, e1, e2]
   refine ⟨by omega, e, (ROne_E (hw _ (List.getElem_mem hmP))).mono ?_⟩
   rintro _ _ _ ⟨rfl, rfl, rfl⟩
   have hb := partsP_len hw m
   have ho60 := oneL_len (hw _ (List.getElem_mem hmP))
   by_cases ho : okP P[m]
   ·refine ⟨rfl, By (oneL P[m]), true, rfl, by unfold ansO; rw [if_pos ho], fun h => (by cases h), fun _ => ?_⟩
    have hmp : m < (partsP P).length := by unfold partsP; rw [List.length_map]; exact hmP
    have eg : (partsP P)[m] = oneL P[m] := by simp [partsP]
    have next : EV 9 [] [.s (By (Lib.join ((partsP P).take (m + 1)) [59])), .r (P.map encO), .i (P.length : Int), .i ((m + 1 : Nat) : Int)] := by
     refine ih (m + 1) (by omega) fun o h => ?_
     rw [List.take_succ_eq_append_getElem hmP] at h
     rcases List.mem_append.1 h with h | h
     ·exact hok o h
     ·simp at h; rw [h]; exact ho
    rw [List.take_succ_eq_append_getElem hmp, eg] at next
    refine ⟨fun h0 => ⟨by rw [By_size]; show _ + 1 ≤ _; omega, by simp only [By_app, By_size, List.length_append, List.length_cons, List.length_nil]; omega, ?_⟩, fun h0 => ⟨by rw [By_size, By_size]; omega, ?_⟩⟩
    ·rw [By_app, By_app, wrap64 (by omega) (by omega)]
     cases hp : (partsP P).take m with
     | nil => have t := congrArg List.length hp; rw [List.length_take, List.length_nil] at t; omega
     | cons a L =>
      rw [hp, join_snoc] at next
      rw [List.append_assoc]
      exact next
    ·obtain rfl : m = 0 := by omega
     rw [By_app, wrap64 (by omega) (by omega)]
     simpa [Lib.join_nil, Lib.join_one] using next
   ·refine ⟨rfl, By [], false, rfl, by unfold ansO; rw [if_neg ho], fun _ => ⟨rfl, rfl, ?_⟩, fun h => (by cases h)⟩
    unfold ansP
    rw [if_neg fun h => ho (h _ (List.getElem_mem hmP))]
 have := loop P.length 0 (by omega) (by simp)
 simpa [Lib.join_nil] using this
end Go.Ab
