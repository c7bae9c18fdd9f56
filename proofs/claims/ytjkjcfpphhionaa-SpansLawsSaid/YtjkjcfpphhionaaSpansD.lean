/- Spans: the walks of the document's functions. -/
import Derived.Test.YtjkjcfpphhionaaSpansC
namespace Go.Ab
open Go Go.Proofs Spn
set_option linter.unusedVariables false
set_option linter.unusedSimpArgs false
set_option maxRecDepth 100000
set_option maxHeartbeats 1000000

theorem R2_take_all (L : List Sp) : List.take (R2 L).length (List.drop 0 (R2 L)) = R2 L := by rw [List.drop_zero, List.take_length]

theorem Rows_E (L : List Sp) (hl : L.length ≤ 3000) : EC Try.prog G28 [] [.r (R2 L)] fun x rs vs => x = 0 ∧ rs = [R2 L] ∧ vs = [] := by
  refine E28 fun EV V => ?_
  have loop : ∀ (d m : Nat), L.length - m < d → m ≤ L.length → EV 9 [R2 (L.take m)] [.r (R2 L), .i L.length, .i m] := by
    intro d
    induction d with
    | zero => intro m hd; omega
    | succ d ih =>
      intro m hd hm
      refine V.p9 fun _ => ⟨fun hlt => ?_, fun hge => ?_⟩
      · have hmL : m < L.length := by omega
        have hg := R2_get hmL
        have ih := ih (m + 1) (by omega) (by omega)
        rw [List.take_succ_eq_append_getElem hmL] at ih
        have e : R2 (L.take m) ++ [[AV.int .i64 (cIS (R2 L) m 0), AV.int .i64 (cIS (R2 L) m 1)]] = R2 (L.take m ++ [L[m]]) := by
          rw [R2_app, R2_c0, R2_c1, getD_of hmL]
        rw [Int.toNat_natCast, e, w1 m (by omega)]
        exact ⟨by omega, hg, by rw [R2_len, List.length_take]; omega, by rw [R2_len, List.length_take]; omega, ih⟩
      · obtain rfl : m = L.length := by omega
        rw [List.take_length]
        exact ⟨rfl, rfl, rfl⟩
  have h0 := loop _ 0 (Nat.lt_succ_self _) (Nat.zero_le _)
  rw [R2_len]
  exact h0

theorem Same_E (A : List Sp) (hl : A.length ≤ 3000) : EC Try.prog G25 [] [.r (R2 A), .r (R2 A)] fun x rs vs => x = 0 ∧ rs = [] ∧ vs = [.b true] := by
  refine E25 fun EV V => (Rows_E A hl).mono ?_
  rintro _ _ _ ⟨rfl, rfl, rfl⟩
  refine ⟨rfl, _, rfl, rfl, fun h => absurd rfl h, fun _ => ?_⟩
  have loop : ∀ (d m : Nat), A.length - m < d → m ≤ A.length → EV 17 [R2 A] [.r (R2 A), .i A.length, .i m] := by
    intro d
    induction d with
    | zero => intro m hd; omega
    | succ d ih =>
      intro m hd hm
      refine V.p17 fun _ => ⟨fun hlt => ?_, fun hge => ⟨rfl, rfl, rfl⟩⟩
      have hmL : m < A.length := by omega
      rw [Int.toNat_natCast, w1 m (by omega)]
      refine ⟨by omega, by rw [R2_len]; omega, R2_get hmL, R2_get hmL, fun h => ?_, fun _ => ih (m + 1) (by omega) (by omega)⟩
      simp at h
  have h0 := loop _ 0 (Nat.lt_succ_self _) (Nat.zero_le _)
  rw [R2_len]
  exact h0

theorem depth_app (A B : List Sp) (n : Int) : depthF (A ++ B) n = depthF A n + depthF B n := List.countP_append
theorem CL_take {L : List Sp} {m : Nat} (h : m < L.length) : CL (L.take (m + 1)) = CL (L.take m) ++ [cS L[m]] := by
  unfold CL
  rw [List.take_succ_eq_append_getElem h, List.map_append]; rfl
theorem RDepth_E (L : List Sp) (n : Int) (hl : L.length ≤ 3000) : EC Try.prog G34 [] [.r (R2 L), .i n] fun x rs vs => x = 0 ∧ rs = [] ∧ vs = [.i (depthF (CL L) n)] := by
  refine E34 fun EV V => ?_
  have loop : ∀ (d m : Nat), L.length - m < d → m ≤ L.length → EV 9 [] [.i n, .i (depthF (CL (L.take m)) n), .r (R2 L), .i L.length, .i m] := by
    intro d
    induction d with
    | zero => intro m hd; omega
    | succ d ih =>
      intro m hd hm
      refine V.p9 ⟨fun hlt => ?_, fun hge => ?_⟩
      · have hmL : m < L.length := by omega
        have hdl : depthF (CL (L.take m)) n ≤ m := Nat.le_trans List.countP_le_length (by simp [CL]; omega)
        have ih := ih (m + 1) (by omega) (by omega)
        rw [CL_take hmL, depth_app] at ih
        have e0 : clampI (cIS (R2 L) m 0) = (cS L[m]).f := by rw [R2_c0, getD_of hmL]; rfl
        have e1 : clampI (cIS (R2 L) m 1) = (cS L[m]).t := by rw [R2_c1, getD_of hmL]; rfl
        have d1 : depthF [cS L[m]] n = if (cS L[m]).f ≤ n ∧ n < (cS L[m]).t then 1 else 0 := by
          unfold depthF
          rw [List.countP_singleton]
          by_cases a : (cS L[m]).f ≤ n <;> by_cases b : n < (cS L[m]).t <;> simp [a, b]
        rw [d1] at ih
        rw [Int.toNat_natCast, w1 m (by omega)]
        refine ⟨by omega, R2_get hmL, (RClamp_E _).mono ?_⟩
        rintro _ _ _ ⟨rfl, rfl, rfl⟩
        rw [e0]
        refine ⟨rfl, _, rfl, rfl, fun h1 => (RClamp_E _).mono ?_, fun h1 => ?_⟩
        · rintro _ _ _ ⟨rfl, rfl, rfl⟩
          rw [e1]
          refine ⟨rfl, _, rfl, rfl, fun h2 => ?_, fun h2 => ?_⟩
          · rw [if_pos ⟨h1, h2⟩] at ih
            rw [show IntKind.wrap .i64 ((depthF (CL (L.take m)) n : Int) + 1) = ((depthF (CL (L.take m)) n + 1 : Nat) : Int) from w1 _ (by omega)]
            exact ih
          · rw [if_neg (by omega)] at ih; exact ih
        · rw [if_neg (by omega)] at ih; exact ih
      · obtain rfl : m = L.length := by omega
        rw [List.take_length]
        exact ⟨rfl, rfl, rfl⟩
  have h0 := loop _ 0 (Nat.lt_succ_self _) (Nat.zero_le _)
  rw [R2_len]
  exact h0

/-! ### edges -/
theorem insE_at : ∀ (l : List Int) (n : Int) (k : Nat), k ≤ l.length → (∀ i, i < k → l.getD i 0 < n) → (k < l.length → n ≤ l.getD k 0) → insE l n = if k < l.length ∧ l.getD k 0 = n then l else l.take k ++ [n] ++ l.drop k
  | [], n, k, hk, _, _ => by
    have : k = 0 := by simpa using hk
    subst this; simp [insE]
  | a :: l, n, 0, _, _, h2 => by
    have := h2 (by simp)
    simp only [List.getD_cons_zero] at this
    rw [insE, if_neg (by omega)]
    by_cases e : a = n
    · simp [e]
    · simp [e]
  | a :: l, n, k + 1, hk, h1, h2 => by
    have := h1 0 (by omega)
    simp only [List.getD_cons_zero] at this
    rw [insE, if_pos this, insE_at l n k (by simpa using hk) (fun i hi => by have := h1 (i + 1) (by omega); simpa using this) (fun h => by have := h2 (by simpa using h); simpa using this)]
    simp only [List.length_cons, List.getD_cons_succ, Nat.add_lt_add_iff_right, List.take_succ_cons, List.drop_succ_cons, List.cons_append]
    split <;> rfl
theorem insE_len (l : List Int) (n : Int) : (insE l n).length ≤ l.length + 1 := by
  induction l with
  | nil => simp [insE]
  | cons a l ih =>
    rw [insE]
    split
    · simp; omega
    · split <;> simp
theorem ints_ins (l : List Int) (n : Int) (k : Nat) (hk : k ≤ l.length) : rappS ((ints l).take k ++ [[AV.int .i64 n]]) (k + 1) ((ints l).drop k) = ints (l.take k ++ [n] ++ l.drop k) := by
  have e : k + 1 = ((ints l).take k ++ [[AV.int .i64 n]]).length := by simp [hk]
  rw [e, rappS_end]
  simp [ints, List.map_take, List.map_drop]

theorem REdges_E (L : List Sp) (hl : L.length ≤ 3000) : EC Try.prog G33 [] [.r (R2 L)] fun x rs vs => x = 0 ∧ rs = [ints (edgesF (CL L))] ∧ vs = [] := by
  refine E33 fun EV V => ?_
  -- one number put in
  have ins : ∀ (m j : Nat) (P : List (List AV)) (out : List Int) (n : Int), m ≤ 3000 → j < 2 → out.length ≤ 6010 → EV 23 [ints (insE out n)] [.r (R2 L), .i L.length, .i m, .r P, .i 2, .i ((j + 1 : Nat) : Int)] →
      ∀ (d k : Nat), out.length - k < d → k ≤ out.length → (∀ i, i < k → out.getD i 0 < n) → EV 38 [ints out] [.i n, .i k, .r (R2 L), .i L.length, .i m, .r P, .i 2, .i j] := by
    intro m j P out n hm hj ho hnext d
    induction d with
    | zero => intro k hd; omega
    | succ d ih =>
      intro k hd hk hlt
      have hdrop : List.take (out.length - k) (List.drop k (ints out)) = List.drop k (ints out) := List.take_of_length_le (by simp)
      have hwj : IntKind.wrap .i64 ((j : Int) + 1) = ((j + 1 : Nat) : Int) := w1 j (by omega)
      have hmin : min k (ints out).length = k := by rw [ints_length]; omega
      refine V.p38 fun _ => ?_
      simp only [Int.toNat_natCast, List.drop_zero, List.length_take, List.length_drop, List.length_append, List.length_singleton, ints_length, hdrop, hwj, Nat.min_eq_left hk, ints_ins out n k hk, w1 k (by omega), List.length_cons, List.length_nil, Nat.min_self]
      have len1 : (ints (out.take k ++ [n] ++ out.drop k)).length = out.length + 1 := by simp; omega
      refine ⟨fun h1 => ?_, fun h1 => ?_⟩
      · have hkl : k < out.length := by omega
        have hg := ints_get hkl
        refine ⟨by omega, by omega, hg, fun h2 => ih (k + 1) (by omega) (by omega) (fun i hi => ?_), fun h2 => ⟨fun h3 => ⟨by omega, by omega, hg, fun h4 => ?_, fun h4 => ?_⟩, fun h3 => by omega⟩⟩
        · rw [ints_cI] at h2
          rcases Nat.lt_or_ge i k with h | h
          · exact hlt i h
          · have : i = k := by omega
            subst this; exact h2
        · rw [ints_cI] at h2 h4
          rw [insE_at out n k hk hlt (fun _ => by omega), if_neg (by omega)] at hnext
          exact ⟨by omega, by omega, by omega, by omega, by omega, by omega, by omega, by omega, by omega, by omega, by omega, trivial, hnext⟩
        · rw [ints_cI] at h2 h4
          rw [insE_at out n k hk hlt (fun _ => by omega), if_pos ⟨hkl, h4⟩] at hnext
          exact hnext
      · have hkl : k = out.length := by omega
        rw [insE_at out n k hk hlt (fun h => by omega), if_neg (by omega)] at hnext
        refine ⟨fun h3 => by omega, fun h3 => ⟨by omega, by omega, by omega, by omega, by omega, by omega, by omega, by omega, by omega, by omega, by omega, trivial, hnext⟩⟩
  have loop : ∀ (d m : Nat) (e : List Int), L.length - m < d → m ≤ L.length → e.length ≤ 2 * m → ((L.drop m).map cS).foldl (fun e s => insE (insE e s.f) s.t) e = edgesF (CL L) → EV 9 [ints e] [.r (R2 L), .i L.length, .i m] := by
    intro d
    induction d with
    | zero => intro m e hd; omega
    | succ d ih =>
      intro m e hd hm he hf
      refine V.p9 fun _ => ⟨fun hlt => ?_, fun hge => ?_⟩
      · have hmL : m < L.length := by omega
        rw [List.drop_eq_getElem_cons hmL, List.map_cons, List.foldl_cons] at hf
        have ih := ih (m + 1) _ (by omega) (by omega) (by have h1 := insE_len e (cS L[m]).f; have h2 := insE_len (insE e (cS L[m]).f) (cS L[m]).t; omega) hf
        have e0 : clampI (cIS (R2 L) m 0) = (cS L[m]).f := by rw [R2_c0, getD_of hmL]; rfl
        have e1 : clampI (cIS (R2 L) m 1) = (cS L[m]).t := by rw [R2_c1, getD_of hmL]; rfl
        have hl1 := insE_len e (cS L[m]).f
        rw [Int.toNat_natCast]
        refine ⟨by omega, R2_get hmL, (RClamp_E _).mono ?_⟩
        rintro _ _ _ ⟨rfl, rfl, rfl⟩
        refine ⟨rfl, _, rfl, rfl, (RClamp_E _).mono ?_⟩
        rintro _ _ _ ⟨rfl, rfl, rfl⟩
        rw [e0, e1]
        refine ⟨rfl, _, rfl, rfl, V.p21 fun _ => ?_⟩
        have g0 : ∀ a b : Int, cIS [[AV.int .i64 a], [AV.int .i64 b]] 0 0 = a := fun a b => rfl
        have g1 : ∀ a b : Int, cIS [[AV.int .i64 a], [AV.int .i64 b]] 1 0 = b := fun a b => rfl
        -- the first
        refine V.p23 fun _ => ⟨fun _ => ⟨by omega, rfl, ?_⟩, fun h => absurd h (by decide)⟩
        refine ins m 0 [[.int .i64 (cS L[m]).f], [.int .i64 (cS L[m]).t]] e (cS L[m]).f (by omega) (by omega) (by omega) ?_ _ 0 (Nat.lt_succ_self _) (Nat.zero_le _) (fun i hi => absurd hi (Nat.not_lt_zero _))
        -- the second
        refine V.p23 fun _ => ⟨fun _ => ⟨by omega, rfl, ?_⟩, fun h => absurd h (by decide)⟩
        refine ins m 1 [[.int .i64 (cS L[m]).f], [.int .i64 (cS L[m]).t]] (insE e (cS L[m]).f) (cS L[m]).t (by omega) (by omega) (by omega) ?_ _ 0 (Nat.lt_succ_self _) (Nat.zero_le _) (fun i hi => absurd hi (Nat.not_lt_zero _))
        refine V.p23 fun _ => ⟨fun h => absurd h (by decide), fun _ => ?_⟩
        rw [w1 m (by omega)]
        exact ih
      · rw [List.drop_of_length_le (by omega)] at hf
        have hf : e = edgesF (CL L) := hf
        rw [hf]
        exact ⟨rfl, rfl, rfl⟩
  have h0 := loop _ 0 [] (Nat.lt_succ_self _) (Nat.zero_le _) (Nat.zero_le _) rfl
  rw [R2_len]
  exact h0

theorem REdgesO_E (L : List Sp) (hl : L.length ≤ 3000) : EC Try.prog G33a [R2 L] [] fun x rs vs => x = 0 ∧ rs = [R2 L, ints (edgesF (CL L))] ∧ vs = [] := by
  refine E33a fun _ EV V => ?_
  -- one number put in
  have ins : ∀ (m j : Nat) (P : List (List AV)) (out : List Int) (n : Int), m ≤ 3000 → j < 2 → out.length ≤ 6010 → EV 23 [R2 L, ints (insE out n)] [.i L.length, .i m, .r P, .i 2, .i ((j + 1 : Nat) : Int)] →
      ∀ (d k : Nat), out.length - k < d → k ≤ out.length → (∀ i, i < k → out.getD i 0 < n) → EV 38 [R2 L, ints out] [.i n, .i k, .i L.length, .i m, .r P, .i 2, .i j] := by
    intro m j P out n hm hj ho hnext d
    induction d with
    | zero => intro k hd; omega
    | succ d ih =>
      intro k hd hk hlt
      have hdrop : List.take (out.length - k) (List.drop k (ints out)) = List.drop k (ints out) := List.take_of_length_le (by simp)
      have hwj : IntKind.wrap .i64 ((j : Int) + 1) = ((j + 1 : Nat) : Int) := w1 j (by omega)
      have hmin : min k (ints out).length = k := by rw [ints_length]; omega
      refine V.p38 fun _ _ => ?_
      simp only [Int.toNat_natCast, List.drop_zero, List.length_take, List.length_drop, List.length_append, List.length_singleton, ints_length, hdrop, hwj, Nat.min_eq_left hk, ints_ins out n k hk, w1 k (by omega), List.length_cons, List.length_nil, Nat.min_self]
      have len1 : (ints (out.take k ++ [n] ++ out.drop k)).length = out.length + 1 := by simp; omega
      refine ⟨fun h1 => ?_, fun h1 => ?_⟩
      · have hkl : k < out.length := by omega
        have hg := ints_get hkl
        refine ⟨by omega, by omega, hg, fun h2 => ih (k + 1) (by omega) (by omega) (fun i hi => ?_), fun h2 => ⟨fun h3 => ⟨by omega, by omega, hg, fun h4 => ?_, fun h4 => ?_⟩, fun h3 => by omega⟩⟩
        · rw [ints_cI] at h2
          rcases Nat.lt_or_ge i k with h | h
          · exact hlt i h
          · have : i = k := by omega
            subst this; exact h2
        · rw [ints_cI] at h2 h4
          rw [insE_at out n k hk hlt (fun _ => by omega), if_neg (by omega)] at hnext
          exact ⟨by omega, by omega, by omega, by omega, by omega, by omega, by omega, by omega, by omega, by omega, by omega, trivial, hnext⟩
        · rw [ints_cI] at h2 h4
          rw [insE_at out n k hk hlt (fun _ => by omega), if_pos ⟨hkl, h4⟩] at hnext
          exact hnext
      · have hkl : k = out.length := by omega
        rw [insE_at out n k hk hlt (fun h => by omega), if_neg (by omega)] at hnext
        refine ⟨fun h3 => by omega, fun h3 => ⟨by omega, by omega, by omega, by omega, by omega, by omega, by omega, by omega, by omega, by omega, by omega, trivial, hnext⟩⟩
  have loop : ∀ (d m : Nat) (e : List Int), L.length - m < d → m ≤ L.length → e.length ≤ 2 * m → ((L.drop m).map cS).foldl (fun e s => insE (insE e s.f) s.t) e = edgesF (CL L) → EV 9 [R2 L, ints e] [.i L.length, .i m] := by
    intro d
    induction d with
    | zero => intro m e hd; omega
    | succ d ih =>
      intro m e hd hm he hf
      refine V.p9 fun _ _ => ⟨fun hlt => ?_, fun hge => ?_⟩
      · have hmL : m < L.length := by omega
        rw [List.drop_eq_getElem_cons hmL, List.map_cons, List.foldl_cons] at hf
        have ih := ih (m + 1) _ (by omega) (by omega) (by have h1 := insE_len e (cS L[m]).f; have h2 := insE_len (insE e (cS L[m]).f) (cS L[m]).t; omega) hf
        have e0 : clampI (cIS (R2 L) m 0) = (cS L[m]).f := by rw [R2_c0, getD_of hmL]; rfl
        have e1 : clampI (cIS (R2 L) m 1) = (cS L[m]).t := by rw [R2_c1, getD_of hmL]; rfl
        have hl1 := insE_len e (cS L[m]).f
        rw [Int.toNat_natCast]
        refine ⟨by omega, by rw [R2_len]; omega, R2_get hmL, (RClamp_E _).mono ?_⟩
        rintro _ _ _ ⟨rfl, rfl, rfl⟩
        refine ⟨rfl, _, rfl, rfl, (RClamp_E _).mono ?_⟩
        rintro _ _ _ ⟨rfl, rfl, rfl⟩
        rw [e0, e1]
        refine ⟨rfl, _, rfl, rfl, V.p21 fun _ _ => ?_⟩
        have g0 : ∀ a b : Int, cIS [[AV.int .i64 a], [AV.int .i64 b]] 0 0 = a := fun a b => rfl
        have g1 : ∀ a b : Int, cIS [[AV.int .i64 a], [AV.int .i64 b]] 1 0 = b := fun a b => rfl
        -- the first
        refine V.p23 fun _ _ => ⟨fun _ => ⟨by omega, rfl, ?_⟩, fun h => absurd h (by decide)⟩
        refine ins m 0 [[.int .i64 (cS L[m]).f], [.int .i64 (cS L[m]).t]] e (cS L[m]).f (by omega) (by omega) (by omega) ?_ _ 0 (Nat.lt_succ_self _) (Nat.zero_le _) (fun i hi => absurd hi (Nat.not_lt_zero _))
        -- the second
        refine V.p23 fun _ _ => ⟨fun _ => ⟨by omega, rfl, ?_⟩, fun h => absurd h (by decide)⟩
        refine ins m 1 [[.int .i64 (cS L[m]).f], [.int .i64 (cS L[m]).t]] (insE e (cS L[m]).f) (cS L[m]).t (by omega) (by omega) (by omega) ?_ _ 0 (Nat.lt_succ_self _) (Nat.zero_le _) (fun i hi => absurd hi (Nat.not_lt_zero _))
        refine V.p23 fun _ _ => ⟨fun h => absurd h (by decide), fun _ => ?_⟩
        rw [w1 m (by omega)]
        exact ih
      · rw [List.drop_of_length_le (by omega)] at hf
        have hf : e = edgesF (CL L) := hf
        rw [hf]
        exact ⟨rfl, rfl, rfl⟩
  have h0 := loop _ 0 [] (Nat.lt_succ_self _) (Nat.zero_le _) (Nat.zero_le _) rfl
  rw [R2_len]
  exact h0

end Go.Ab
