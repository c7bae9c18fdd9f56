/- Spans: the numbers' law. For every input. -/
import Derived.Test.YtjkjcfpphhionaaSpansF
namespace Go.Ab
open Go Go.Proofs Spn
set_option linter.unusedVariables false
set_option linter.unusedSimpArgs false
set_option maxRecDepth 100000
set_option maxHeartbeats 1000000

def stepL (s : Bool × Sp) (x : Sp) : Bool × Sp := if s.1 = true then (if x.t - x.f > s.2.t - s.2.f then (true, x) else s) else (true, x)
theorem stepL_true : ∀ (l : List Sp) (b : Sp), l.foldl stepL (true, b) = (true, lgs l b)
  | [], b => rfl
  | x :: l, b => by
    rw [List.foldl_cons]
    show l.foldl stepL (if x.t - x.f > b.t - b.f then (true, x) else (true, b)) = (true, lgs l (if x.t - x.f > b.t - b.f then x else b))
    split
    · exact stepL_true l x
    · exact stepL_true l b
theorem stepL_all (J : List Sp) : J.foldl stepL (false, ⟨0, 0⟩) = match longF J with | some b => (true, b) | none => (false, ⟨0, 0⟩) := by
  cases J with
  | nil => rfl
  | cons x l => exact stepL_true l x

theorem Numbers50 (a : List (List AV)) (_ : a.length ≤ maxLen) (ga : ∀ r ∈ a, GdL [.int .i64, .int .i64] r) : EC Try.prog G9 [] [.r a] fun x rs vs => x = 0 ∧ vs = [.b true] := by
  obtain ⟨A, rfl⟩ := exSp ga
  refine E9 fun EV V => fixed24.mono ?_
  rintro _ _ _ ⟨rfl, rfl, rfl⟩
  rw [R2_len]
  refine ⟨rfl, _, rfl, rfl, fun h => (by cases h), fun _ => ⟨fun h1 => ⟨rfl, rfl⟩, fun h1 => ?_⟩⟩
  have hA : A.length ≤ 1000 := by omega
  refine (Rows_E A (by omega)).mono ?_
  rintro _ _ _ ⟨rfl, rfl, rfl⟩
  refine ⟨rfl, _, rfl, rfl, ?_⟩
  rw [R2_take_all]
  refine (RJoin_E A hA).mono ?_
  rintro _ _ _ ⟨rfl, rfl, rfl⟩
  refine ⟨rfl, _, rfl, rfl, ?_⟩
  rw [R2_len]
  have hJl := JN_len A
  have hb := JN_bd A
  have hJlt := (JN_nf A).1.2
  -- from edge to edge
  have hel := edges_len (CL A)
  rw [CL_len] at hel
  have p50 : ∀ (some_ : Bool) (best : Sp), (match longF (JN A) with | some b => (true, b) | none => (false, ⟨0, 0⟩)) = (some_, best) → ∀ (d m : Nat) (M x : Int), (edgesF (CL A)).length - m < d → m ≤ (edgesF (CL A)).length → deepG (CL A) ((edgesF (CL A)).drop m) (M, x) = DP A → EV 50 [ints (edgesF (CL A))] [.r (R2 A), .i (totF (JN A)), .i M, .i x, .b some_, .i (edgesF (CL A)).length, .i m, .i best.f, .i best.t] := by
    intro some_ best hsb d
    induction d with
    | zero => intro m M x hd; omega
    | succ d ih =>
      intro m M x hd hm hf
      refine V.p50 fun _ => ⟨fun hlt => ?_, fun hge => ?_⟩
      · have hmL : m < (edgesF (CL A)).length := by omega
        rw [List.drop_eq_getElem_cons hmL] at hf
        have hf : deepG (CL A) ((edgesF (CL A)).drop (m + 1)) (if (depthF (CL A) (edgesF (CL A))[m] : Int) > M then ((depthF (CL A) (edgesF (CL A))[m] : Int), (edgesF (CL A))[m]) else (M, x)) = DP A := hf
        have eg : (edgesF (CL A)).getD m 0 = (edgesF (CL A))[m] := by simp [List.getD_eq_getElem?_getD, hmL]
        rw [Int.toNat_natCast, ints_length]
        refine ⟨by omega, by omega, ints_get hmL, (Rows_E A (by omega)).mono ?_⟩
        rintro _ _ _ ⟨rfl, rfl, rfl⟩
        refine ⟨rfl, _, rfl, rfl, ?_⟩
        rw [R2_take_all]
        refine (RDepth_E A _ (by omega)).mono ?_
        rintro _ _ _ ⟨rfl, rfl, rfl⟩
        rw [ints_cI, eg, w1 m (by omega)]
        refine ⟨rfl, _, rfl, rfl, fun h => ?_, fun h => ?_⟩
        · rw [if_pos h] at hf
          exact ih (m + 1) _ _ (by omega) (by omega) hf
        · rw [if_neg (by omega)] at hf
          exact ih (m + 1) _ _ (by omega) (by omega) hf
      · rw [List.drop_of_length_le (by omega)] at hf
        have hf : (M, x) = DP A := hf
        refine (Longest_E A hA).mono ?_
        rintro _ _ _ ⟨rfl, rfl, rfl⟩
        have hM : (DP A).1 = M := by rw [← hf]
        have hx : (DP A).2 = x := by rw [← hf]
        have rest : ∀ (y0 y1 : Int) (y2 : Bool), y0 = best.f → y1 = best.t → y2 = some_ → EC Try.prog G36 [] [.r (R2 A)] (fun x_1 rs vs => x_1 = 0 ∧ ∃ y2_0 y2_1, rs = [] ∧ vs = [.i y2_0, .i y2_1] ∧ EC Try.prog G37 [] [.r (R2 A)] (fun x_2 rs vs => x_2 = 0 ∧ ∃ y3_0, rs = [] ∧ vs = [.i y3_0] ∧ ((y3_0 = totF (JN A) → ((y2 == some_) = true → (y0 = best.f → (y1 = best.t → (y2_0 = M → (0 : Nat) = 0 ∧ [Lf.b (y2_1 == x)] = [Lf.b true]) ∧ (y2_0 ≠ M → (0 : Nat) = 0 ∧ [Lf.b false] = [Lf.b true])) ∧ (y1 ≠ best.t → (0 : Nat) = 0 ∧ [Lf.b false] = [Lf.b true])) ∧ (y0 ≠ best.f → (0 : Nat) = 0 ∧ [Lf.b false] = [Lf.b true])) ∧ ((y2 == some_) = false → (0 : Nat) = 0 ∧ [Lf.b false] = [Lf.b true])) ∧ (y3_0 ≠ totF (JN A) → (0 : Nat) = 0 ∧ [Lf.b false] = [Lf.b true])))) := by
          rintro _ _ _ rfl rfl rfl
          refine (Deepest_E A hA).mono ?_
          rintro _ _ _ ⟨rfl, rfl, rfl⟩
          refine ⟨rfl, _, _, rfl, rfl, (Total_E A hA).mono ?_⟩
          rintro _ _ _ ⟨rfl, rfl, rfl⟩
          refine ⟨rfl, _, rfl, rfl, fun _ => ⟨fun _ => ⟨fun _ => ⟨fun _ => ⟨fun _ => ⟨rfl, by rw [hx]; simp⟩, fun h => absurd hM h⟩, fun h => absurd rfl h⟩, fun h => absurd rfl h⟩, fun h => by simp at h⟩, fun h => absurd rfl h⟩
        cases hlo : longF (JN A) with
        | none =>
          rw [hlo] at hsb
          simp only [Prod.mk.injEq] at hsb
          obtain ⟨rfl, rfl⟩ := hsb
          exact ⟨rfl, 0, 0, false, rfl, rfl, rest 0 0 false rfl rfl rfl⟩
        | some b =>
          rw [hlo] at hsb
          simp only [Prod.mk.injEq] at hsb
          obtain ⟨rfl, rfl⟩ := hsb
          exact ⟨rfl, b.f, b.t, true, rfl, rfl, rest b.f b.t true rfl rfl rfl⟩
  have p27 : ∀ (d m : Nat) (s : Int) (some_ : Bool) (best : Sp), (JN A).length - m < d → m ≤ (JN A).length → (0 ≤ s ∧ s ≤ m * 2199023255552) → Bd best → szs ((JN A).drop m) s = totF (JN A) → ((JN A).drop m).foldl stepL (some_, best) = (JN A).foldl stepL (false, ⟨0, 0⟩) → EV 27 [R2 (JN A)] [.r (R2 A), .i s, .i 0, .i 0, .b some_, .i (JN A).length, .i m, .i best.f, .i best.t] := by
    intro d
    induction d with
    | zero => intro m s some_ best hd; omega
    | succ d ih =>
      intro m s some_ best hd hm hs hbb hf hg
      refine V.p27 fun _ => ⟨fun hlt => ?_, fun hge => ?_⟩
      · have hmL : m < (JN A).length := by omega
        have bm := hb _ (List.getElem_mem hmL)
        have bl := hJlt _ (List.getElem_mem hmL)
        have bm' := bm
        unfold Bd at bm hbb
        rw [List.drop_eq_getElem_cons hmL] at hf hg
        have hf : szs ((JN A).drop (m + 1)) (s + ((JN A)[m].t - (JN A)[m].f)) = totF (JN A) := hf
        rw [List.foldl_cons] at hg
        have hget := R2_get hmL
        rw [Int.toNat_natCast, R2_len]
        refine ⟨by omega, by omega, hget, ?_⟩
        rw [R2_c0, R2_c1, getD_of hmL, w1 m (by omega), wrap64 (x := (JN A)[m].t - (JN A)[m].f) (by omega) (by omega), wrap64 (x := s + ((JN A)[m].t - (JN A)[m].f)) (by omega) (by omega), wrap64 (x := best.t - best.f) (by omega) (by omega)]
        refine ⟨fun hs1 => ⟨fun hgt => ?_, fun hle => ?_⟩, fun hs1 => ?_⟩
        · subst hs1
          have : stepL (true, best) (JN A)[m] = (true, (JN A)[m]) := by simp only [stepL, if_true]; rw [if_pos hgt]
          rw [this] at hg
          exact ih (m + 1) _ _ _ (by omega) (by omega) (by omega) bm' hf hg
        · subst hs1
          have : stepL (true, best) (JN A)[m] = (true, best) := by simp only [stepL, if_true]; rw [if_neg (by omega)]
          rw [this] at hg
          exact ih (m + 1) _ _ _ (by omega) (by omega) (by omega) hbb hf hg
        · subst hs1
          have : stepL (false, best) (JN A)[m] = (true, (JN A)[m]) := rfl
          rw [this] at hg
          exact ih (m + 1) _ _ _ (by omega) (by omega) (by omega) bm' hf hg
      · rw [List.drop_of_length_le (by omega)] at hf hg
        have hf : s = totF (JN A) := hf
        have hg : (some_, best) = (JN A).foldl stepL (false, ⟨0, 0⟩) := hg
        rw [stepL_all] at hg
        rw [hf]
        refine (Rows_E A (by omega)).mono ?_
        rintro _ _ _ ⟨rfl, rfl, rfl⟩
        refine ⟨rfl, _, rfl, rfl, ?_⟩
        rw [R2_take_all]
        refine (REdges_E A (by omega)).mono ?_
        rintro _ _ _ ⟨rfl, rfl, rfl⟩
        refine ⟨rfl, _, rfl, rfl, ?_⟩
        rw [ints_length]
        exact p50 some_ best hg.symm _ 0 0 0 (Nat.lt_succ_self _) (Nat.zero_le _) rfl
  exact p27 _ 0 0 false ⟨0, 0⟩ (Nat.lt_succ_self _) (Nat.zero_le _) (by omega) (by unfold Bd; decide) rfl rfl
end Go.Ab
