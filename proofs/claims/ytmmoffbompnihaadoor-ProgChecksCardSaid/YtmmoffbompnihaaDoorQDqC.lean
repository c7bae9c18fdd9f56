import Derived.Test.YtmmoffbompnihaaDoorQDqB
namespace Go.Ab
open Go Go.Proofs
set_option linter.unusedVariables false
set_option linter.unusedSimpArgs false
set_option maxRecDepth 100000
set_option maxHeartbeats 1000000
def endN : Option NSt → Bool → Bool
 | none, _ => false
 | some s, e => !e || (decide (s.1 = 0) && decide (s.2.2 = []))
theorem Nest_E (P : List Op3) (hP : P.length ≤ 100) (hok : ∀ o ∈ P, okA o) (e : Bool) : EC Tryd.prog G79 [] [.r (P.map encO), .b e] fun x rs vs => x = 0 ∧ rs = [] ∧ vs = [.b (endN (runN P s0) e)] := by
 refine E79 fun EV V => ?_
 rw [List.length_map]
 have bad : ∀ m, runN (P.take m) s0 = none → (0 : Nat) = 0 ∧ ([] : Rs) = [] ∧ [Lf.b false] = [Lf.b (endN (runN P s0) e)] := fun m h => ⟨rfl, rfl, by rw [runN_none h]; rfl⟩
 have loop : ∀ (k m : Nat) (r d : Int) (W : List Int) (n : Nat), m + k = P.length → n ≤ W.length → W.length ≤ m → (0 ≤ r ∧ r ≤ m) → (0 ≤ d ∧ d ≤ 4096 * m) → runN (P.take m) s0 = some (r, d, W.take n) →
   EV 11 [ints W] [.b e, .i r, .i d, .n n, .r (P.map encO), .i (P.length : Int), .i (m : Int)] := by
  intro k
  induction k with
  | zero =>
   intro m r d W n hm hn hW hr hd hg
   rw [List.take_of_length_le (by omega)] at hg
   have en : W.take n = [] ↔ n = 0 := by
    refine ⟨fun h => ?_, fun h => by rw [h]; rfl⟩
    have h5 : (W.take n).length = 0 := by rw [h]; rfl
    rw [List.length_take] at h5
    omega
   refine V.p11 fun _ => ⟨fun h => by omega, fun _ => ⟨fun h1 => ⟨fun h2 => ⟨rfl, rfl, ?_⟩, fun h2 => ⟨rfl, rfl, ?_⟩⟩, fun h1 => ⟨rfl, rfl, ?_⟩⟩⟩
   ·rw [hg, endN, h1]
    by_cases h0 : n = 0
    ·simp [h2, h0]
    ·have : ¬ (W.take n = []) := fun h => h0 (en.1 h)
     simp only [h2, this, h0, decide_true, decide_false, Bool.not_true, Bool.false_or, Bool.true_and]
     simp [h0]
   ·rw [hg, endN, h1]
    simp [h2]
   ·rw [hg, endN, h1]
    simp
  | succ k ih =>
   intro m r d W n hm hn hW hr hd hg
   have hlt : m < P.length := by omega
   have hon : op3 P m ∈ P := by rw [op3_lt hlt]; exact List.getElem_mem hlt
   have ho := hok _ hon
   have hstep := runN_succ hlt hg
   have fail : midN (r, d, W.take n) (op3 P m) = none → runN (P.take (m + 1)) s0 = none := fun h => by rw [hstep, stepN, h]; rfl
   have h81 : ∀ (r' d' : Int) (W' : List Int) (n' : Nat), n' ≤ W'.length → W'.length ≤ m + 1 → midN (r, d, W.take n) (op3 P m) = some (r', d', W'.take n') → EV 81 [ints W'] [.b e, .i r', .i d', .n n', .r (P.map encO), .i (P.length : Int), .i (m : Int)] := by
    intro r' d' W' n' hn' hW' hmid
    have gb := midN_b ho hmid
    simp only at gb
    have hs : stepN (r, d, W.take n) (op3 P m) = finN (r', d', W'.take n') := by rw [stepN, hmid]; rfl
    refine V.p81 fun _ => ⟨fun h1 => ⟨fun h2 => bad (m + 1) ?_, fun h2 => ?_⟩, fun h1 => bad (m + 1) ?_⟩
    ·rw [hstep, hs, finN, if_neg (by simp; omega)]
    ·rw [wrap64 (by omega) (by omega), show (m : Int) + 1 = ((m + 1 : Nat) : Int) by omega]
     exact ih (m + 1) r' d' W' n' (by omega) hn' (by omega) (by omega) (by omega) (by rw [hstep, hs, finN, if_pos ⟨h1, h2⟩])
    ·rw [hstep, hs, finN, if_neg (by simp; omega)]
   refine V.p11 fun _ => ⟨fun _ => ⟨by omega, op3_get hlt, ?_⟩, fun h => by omega⟩
   rw [op30, op31, op32, Int.toNat_natCast]
   refine ⟨fun hk => ?_, fun hk3 => ⟨fun hk => ?_, fun hk4 => ⟨fun hk => ?_, fun hk5 => ⟨fun hk => ?_, fun hk6 => ⟨fun hk => ?_, fun hk7 => ⟨fun hk => ?_, fun hk8 => ?_⟩⟩⟩⟩⟩⟩
   ·rw [wrap64 (by omega) (by omega)]
    exact h81 _ _ W n hn (by omega) (by simp [midN, hk])
   ·rw [wrap64 (by omega) (by omega)]
    exact h81 _ _ W n hn (by omega) (by simp [midN, hk])
   ·have inner : ∀ q j : Nat, j + q = n → (op3 P m).a ∉ W.take j → EV 41 [ints W] [.b e, .i r, .i d, .n n, .r (P.map encO), .i (P.length : Int), .i (m : Int), .n n, .i (n : Int), .i (j : Int), .i (op3 P m).k, .i (op3 P m).a, .i (op3 P m).b] := by
     intro q
     induction q with
     | zero =>
      intro j hj hv
      obtain rfl : j = n := by omega
      refine V.p41 fun _ => ⟨fun h => by omega, fun _ => ⟨by simp; omega, ?_, ?_, ?_⟩⟩
      ·show j + 1 ≤ _; omega
      ·show (j + 1) * 8 ≤ _; omega
      ·rw [rapp_ints]
       refine h81 r d _ (j + 1) (by simp; omega) (by simp; omega) ?_
       rw [take_rapp hn]
       simp [midN, hk, hv]
     | succ q ihq =>
      intro j hj hv
      have hl : j < W.length := by omega
      have e1 : cIS (ints W) (Int.toNat (j : Int)) 0 = W[j] := by rw [ints_cI]; exact getD_get hl
      refine V.p41 fun _ => ⟨fun _ => ⟨by omega, by omega, ints_get hl, ?_⟩, fun h => by omega⟩
      rw [e1]
      refine ⟨fun h => bad (m + 1) (fail ?_), fun h => ?_⟩
      ·have : (op3 P m).a ∈ W.take n := by rw [← h]; exact List.mem_take_iff_getElem.2 ⟨j, by omega, rfl⟩
       simp [midN, hk, this]
      ·rw [wrap64 (by omega) (by omega), show (j : Int) + 1 = ((j + 1 : Nat) : Int) by omega]
       refine ihq (j + 1) (by omega) ?_
       rw [List.take_succ_eq_append_getElem hl, List.mem_append, List.mem_singleton]
       rintro (h1 | h1)
       ·exact hv h1
       ·exact h h1.symm
    exact inner n 0 (by omega) (by simp)
   ·refine ⟨fun h0 => bad (m + 1) (fail ?_), fun h0 => ?_⟩
    ·obtain rfl : n = 0 := by omega
     simp [midN, hk]
    ·obtain ⟨p, rfl⟩ : ∃ p, n = p + 1 := ⟨n - 1, by omega⟩
     have hw : IntKind.wrap .i64 (((p + 1 : Nat) : Int) - 1) = (p : Int) := by rw [wrap64 (by omega) (by omega)]; omega
     have hp : p < W.length := by omega
     have e1 : cIS (ints W) p 0 = W[p] := by rw [ints_cI]; exact getD_get hp
     rw [hw, Int.toNat_natCast]
     refine ⟨by omega, by omega, ints_get hp, fun hne => bad (m + 1) (fail ?_), fun heq => ⟨by omega, by omega, ?_⟩⟩
     ·rw [e1] at hne
      have : (W.take (p + 1)).getLast? ≠ some (op3 P m).a := by rw [getLast_take hp]; simpa using hne
      simp [midN, hk, this]
     ·rw [e1] at heq
      have e2 : (W.take (p + 1)).getLast? = some (op3 P m).a := by rw [getLast_take hp, heq]
      refine h81 r d W p (by omega) (by omega) ?_
      simp only [midN, hk, e2, dropLast_take hp]
      simp
   ·have := ho (.inl hk)
    rw [wrap64 (by omega) (by omega)]
    exact h81 _ _ W n hn (by omega) (by simp [midN, hk])
   ·have := ho (.inr hk)
    rw [wrap64 (by omega) (by omega)]
    exact h81 _ _ W n hn (by omega) (by simp [midN, hk])
   ·exact h81 r d W n hn (by omega) (by simp [midN, hk3, hk4, hk5, hk6, hk7, hk8])
 exact loop P.length 0 0 0 [] 0 (by omega) (by simp) (by simp) (by simp) (by simp) rfl
theorem RPCheck_E {nm ng nc nl : Int} (hr : Rm nm ng nc nl) (P : List Op3) : EC Tryd.prog G40 [] [.r (P.map encO), .i nm, .i ng, .i nc, .i nl] fun x rs vs => x = 0 ∧ rs = [] ∧ vs = [.i (progZ nm ng nc nl P)] := by
 refine E40 fun EV V => ?_
 rw [List.length_map]
 refine ⟨fun h => ⟨rfl, rfl, by rw [progZ, if_pos (by omega)]⟩, fun h0 => ⟨fun h => ⟨rfl, rfl, by rw [progZ, if_neg (by omega), if_pos (by omega)]⟩, fun h1 => ?_⟩⟩
 have hgo : progZ nm ng nc nl P = goZ nm ng nc nl P s0 := by rw [progZ, if_neg (by omega), if_neg (by omega)]
 rw [hgo] at V
 have loop : ∀ (k m : Nat) (s : NSt), m + k = P.length → 0 ≤ s.1 → (∀ i, i < m → okA (op3 P i)) → runN (P.take m) s0 = some s → goZ nm ng nc nl (P.drop m) s = goZ nm ng nc nl P s0 →
   EV 23 [] [.r (P.map encO), .i nm, .i ng, .i nc, .i nl, .r (P.map encO), .i (P.length : Int), .i (m : Int)] := by
  intro k
  induction k with
  | zero =>
   intro m s hm hs hok hrun hg
   rw [List.drop_of_length_le (by omega), goZ] at hg
   rw [List.take_of_length_le (by omega)] at hrun
   have hok' : ∀ o ∈ P, okA o := by
    intro o ho
    obtain ⟨i, hi, rfl⟩ := List.getElem_of_mem ho
    rw [← op3_lt hi]
    exact hok i (by omega)
   refine V.p23 ⟨fun h => by omega, fun _ => (Nest_E P (by omega) hok' true).mono ?_⟩
   rintro _ _ _ ⟨rfl, rfl, rfl⟩
   rw [hrun]
   refine ⟨rfl, _, rfl, rfl, fun h => ⟨rfl, rfl, ?_⟩, fun h => ⟨rfl, rfl, ?_⟩⟩
   ·rw [← hg, if_pos]
    simp only [endN, Bool.not_true, Bool.false_or, Bool.and_eq_false_iff, decide_eq_false_iff_not] at h
    rcases h with h | h
    ·exact .inl (by omega)
    ·exact .inr h
   ·rw [← hg, if_neg]
    simp only [endN, Bool.not_true, Bool.false_or, Bool.and_eq_true, decide_eq_true_eq] at h
    rintro (h2 | h2)
    ·omega
    ·exact h2 h.2
  | succ k ih =>
   intro m s hm hs hok hrun hg
   have hlt : m < P.length := by omega
   have hstep := runN_succ hlt hrun
   rw [drop_op hlt, goZ] at hg
   refine V.p23 ⟨fun _ => ⟨by omega, op3_get hlt, ?_⟩, fun h => by omega⟩
   rw [op30, op31, op32, Int.toNat_natCast]
   refine (ROp_E hr (op3 P m)).mono ?_
   rintro _ _ _ ⟨rfl, rfl, rfl⟩
   refine ⟨rfl, _, rfl, rfl, fun h => ⟨rfl, rfl, by rw [if_pos h] at hg; rw [hg]⟩, fun h => ?_⟩
   rw [if_neg (by simp [h])] at hg
   have ho := opZ_okA h
   have hok2 : ∀ i, i < m + 1 → okA (op3 P i) := by
    intro i hi
    rcases Nat.lt_or_ge i m with h2 | h2
    ·exact hok i h2
    ·obtain rfl : i = m := by omega
     exact ho
   rw [wrap64 (by omega) (by omega), show (m : Int) + 1 = ((m + 1 : Nat) : Int) by omega, Int.toNat_natCast, List.length_map, ← List.map_take]
   refine ⟨by omega, by omega, (Nest_E (P.take (m + 1)) (by simp; omega) ?_ false).mono ?_⟩
   ·intro o hm'
    obtain ⟨i, hi, rfl⟩ := List.mem_take_iff_getElem.1 hm'
    rw [← op3_lt (by omega)]
    exact hok2 i (by omega)
   rintro _ _ _ ⟨rfl, rfl, rfl⟩
   rw [hstep]
   refine ⟨rfl, _, rfl, rfl, fun h2 => ⟨rfl, rfl, ?_⟩, fun h2 => ?_⟩
   ·cases hst : stepN s (op3 P m) with
    | none => rw [hst] at hg; rw [← hg]
    | some t => rw [hst] at h2; simp [endN] at h2
   ·cases hst : stepN s (op3 P m) with
    | none => rw [hst] at h2; cases h2
    | some t =>
     rw [hst] at hg
     exact ih (m + 1) t (by omega) (stepN_some hst).2.1 hok2 (by rw [hstep, hst]) hg
 exact loop P.length 0 s0 (by omega) (by simp [s0]) (fun i hi => by omega) rfl rfl
end Go.Ab
