/- SectionTells: the walk of the law. For every input. -/
import Derived.Test.YtnbaldclpeoopaaTellsE
namespace Go.Ab
open Go Go.Proofs
set_option linter.unusedVariables false
set_option linter.unusedSimpArgs false
set_option maxRecDepth 100000
set_option maxHeartbeats 1000000

theorem Tells24 (c0 : Int) (_ : (Lit.int .i64 c0).wf = true) (c1 : Int) (_ : (Lit.int .i64 c1).wf = true) (c2 : Int) (_ : (Lit.int .i64 c2).wf = true) (c3 : Int) (_ : (Lit.int .i64 c3).wf = true) (c4 : List (List AV)) (_ : c4.length ≤ maxLen) (g4 : ∀ r ∈ c4, GdL [.int .i64] r) (c5 : Int) (_ : (Lit.int .i64 c5).wf = true) (c6 : List (List AV)) (_ : c6.length ≤ maxLen) (g6 : ∀ r ∈ c6, GdL [.int .i64] r) (c7 : List (List AV)) (h7 : c7.length ≤ maxLen) (g7 : ∀ r ∈ c7, GdL [.int .i64] r) (tasks : List (List AV)) (ht : tasks.length ≤ maxLen) (gt : ∀ r ∈ tasks, GdL TKd r) (c9 : List (List AV)) (_ : c9.length ≤ maxLen) (g9 : ∀ r ∈ c9, GdL [.int .i64] r) (task : Int) (_ : (Lit.int .i64 task).wf = true) (level : Int) (_ : (Lit.int .i64 level).wf = true) : EC Try.prog G4 [] [.i c0, .i c1, .i c2, .i c3, .r c4, .i c5, .r c6, .r c7, .r tasks, .r c9, .i task, .i level] fun x rs vs => x = 0 ∧ vs = [.b true] := by
  obtain ⟨C, rfl⟩ := exC g7
  obtain ⟨T, rfl⟩ := exTk gt
  rw [ints_length] at h7
  rw [List.length_map] at ht
  obtain ⟨a, rfl⟩ : ∃ a, a = task := ⟨_, rfl⟩
  refine E4 fun EV V => fixed14.mono ?_
  rintro _ _ _ ⟨rfl, rfl, rfl⟩
  refine ⟨rfl, _, rfl, rfl, fun h => (by cases h), fun _ => (few_E h7 ht).mono ?_⟩
  rintro _ _ _ ⟨rfl, rfl, b, rfl, hb⟩
  refine ⟨rfl, _, rfl, rfl, fun hbt => ?_, fun _ => ⟨rfl, rfl⟩⟩
  obtain ⟨f1, f2, f3, f4⟩ := hb hbt
  have hpg : ∀ t ∈ T, t.pg.length ≤ 100 := fun t h => by have := (f4 t h).1; omega
  refine (nested_E ht hpg).mono ?_
  rintro _ _ _ ⟨rfl, rfl, b2, rfl⟩
  refine ⟨rfl, _, rfl, rfl, fun _ => ⟨rfl, rfl⟩, fun _ => (Levels_E f1 hpg a).mono ?_⟩
  rintro _ _ _ ⟨rfl, rfl, rfl⟩
  have bad : ¬ (0 ≤ a ∧ a < T.length) → ∀ Y : List (List AV), Y = (if 0 ≤ a ∧ a < T.length then (pairs C (tk T a.toNat).th (tk T a.toNat).pg (tk T a.toNat).pg.length).map encP else []) → EC Try.prog G18 [] [.i c0, .i c1, .i c2, .i c3, .r c4, .i c5, .r c6, .r (ints C), .r (T.map encT), .r c9, .i a] (fun x rs vs => (x = 0 ∧ ∃ (Y9_0 : List (List AV)) (y9_0 : Nat), rs = [Y9_0] ∧ vs = [.n y9_0] ∧
      (∃ (y10_0 : Int), EC Try.prog G19 [] [.i c0, .i c1, .i c2, .i c3, .r c4, .i c5, .r c6, .r (ints C), .r (T.map encT), .r c9, .i a, .i level] (fun x rs vs => x = 0 ∧ rs = [] ∧ vs = [.i y10_0]) ∧ (0 = 0 ∧ [Lf.b ((IntKind.wrap .i64 ((IntKind.wrap .i64 ((((List.length Y) : Nat) : Int) + ((y9_0 : Nat) : Int))) + y10_0)) == (0 : Int))] = [Lf.b true])))) := by
    intro ha Y hY
    rw [if_neg ha] at hY
    subst hY
    refine (Reach_E f1 hpg a).mono ?_
    rintro _ _ _ ⟨rfl, M, n, rfl, rfl, hn, hp, hm⟩
    have h0 : n = 0 := by
      rcases Nat.eq_zero_or_pos n with h | h
      · exact h
      · have : M.getD 0 0 ∈ M.take n := by
          rw [List.getD_eq_getElem?_getD, List.getElem?_eq_getElem (by omega)]
          exact List.mem_take_iff_getElem.2 ⟨0, by omega, rfl⟩
        exact absurd ((hm _).1 this).1 ha
    subst h0
    exact ⟨rfl, _, _, rfl, rfl, 0, Longest_none f1 hpg a level ha, rfl, rfl⟩
  rw [List.length_map]
  refine ⟨rfl, _, rfl, rfl, fun h0 => ⟨fun hge => bad (by omega) _ rfl, fun hlt => ?_⟩, fun hneg => bad (by omega) _ rfl⟩
  have ha : 0 ≤ a ∧ a < T.length := ⟨h0, hlt⟩
  have hat : a.toNat < T.length := by omega
  have ft := f4 _ (List.getElem_mem hat)
  rw [← tk_lt hat] at ft
  obtain ⟨t1, t2, t3⟩ := ft
  rw [if_pos ha]
  have hYl : ((pairs C (tk T a.toNat).th (tk T a.toNat).pg (tk T a.toNat).pg.length).map encP).length = (tk T a.toNat).pg.length := by simp [pairs]
  rw [hYl]
  refine ⟨h0, tk_get hat, ?_⟩
  rw [tk0, tk1, tk2, tk3, tk4, tk5, tk6, List.length_map]
  refine ⟨fun h => absurd rfl h, fun _ => ?_⟩
  have p82 : ∀ (M Z : List Int) (n : Nat), n ≤ M.length → M.take n = Z → n ≤ 1000000 → ∀ (d j : Nat), n - j < d → j ≤ n → EV 82 [ints M, ints Z] [.i a, .i level, .n n, .i (n : Int), .i j, .i c0, .i c1, .i c2, .i c3, .r c4, .i c5, .r c6, .r (ints C), .r (T.map encT), .r c9] := by
    intro M Z n hn hZ hn2 d
    have hZl : Z.length = n := by rw [← hZ, List.length_take]; omega
    induction d with
    | zero => intro j hd; omega
    | succ d ih =>
      intro j hd hj
      refine V.p82 fun _ _ => ⟨fun hlt => ?_, fun hge => ?_⟩
      · have hjn : j < n := by omega
        have e : cIS (ints M) j 0 = cIS (ints Z) j 0 := by
          rw [ints_cI, ints_cI, ← hZ, List.getD_eq_getElem?_getD, List.getD_eq_getElem?_getD, List.getElem?_take, if_pos hjn]
        rw [Int.toNat_natCast, show IntKind.wrap .i64 ((j : Int) + 1) = ((j + 1 : Nat) : Int) by rw [wrap64 (by omega) (by omega)]; rfl]
        exact ⟨by omega, by omega, ints_get (by omega), by rw [ints_length]; omega, ints_get (by omega), fun h => absurd e h, fun _ => ih (j + 1) (by omega) (by omega)⟩
      · refine (Longest_E f1 hpg a level ha).mono ?_
        rintro _ _ _ ⟨rfl, rfl, rfl⟩
        refine ⟨rfl, _, rfl, rfl, (RLongest_E f1 hpg a level ha).mono ?_⟩
        rintro _ _ _ ⟨rfl, rfl, rfl⟩
        exact ⟨rfl, _, rfl, rfl, rfl, by simp⟩
  have p43 : ∀ (d m : Nat), (tk T a.toNat).pg.length - m < d → m ≤ (tk T a.toNat).pg.length → EV 43 [(pairs C (tk T a.toNat).th (tk T a.toNat).pg (tk T a.toNat).pg.length).map encP] [.i a, .i level, .i (tk T a.toNat).pg.length, .i m, .i c0, .i c1, .i c2, .i c3, .r c4, .i c5, .r c6, .r (ints C), .r (T.map encT), .r c9, .i (tk T a.toNat).p, .i (tk T a.toNat).th, .i (tk T a.toNat).pe, .i (tk T a.toNat).de, .i (tk T a.toNat).fr, .i (tk T a.toNat).fl, .r ((tk T a.toNat).pg.map encO)] := by
    intro d
    induction d with
    | zero => intro m hd; omega
    | succ d ih =>
      intro m hd hm
      refine V.p43 fun _ => ⟨fun hlt => ?_, fun hge => ?_⟩
      · have hmP : m < (tk T a.toNat).pg.length := by omega
        obtain ⟨g0, g1, g2⟩ := pairs_get (C := C) (base := (tk T a.toNat).th) (P := (tk T a.toNat).pg) hmP
        rw [Int.toNat_natCast, hYl, List.length_map, ← List.map_take]
        have ev : IntKind.wrap .i64 ((m : Int) + 1) = ((m + 1 : Nat) : Int) := by rw [wrap64 (by omega) (by omega)]; rfl
        refine ⟨by omega, by omega, g0, by omega, (RLevel_E f1 ((tk T a.toNat).pg.take m) (by simp; omega) _ _ _ _ _ _ _).mono ?_⟩
        rintro _ _ _ ⟨rfl, rfl, rfl⟩
        rw [levAt_take C _ _ _ hm]
        refine ⟨rfl, _, rfl, rfl, fun h => absurd g1 h, fun _ => ?_⟩
        rw [ev, Int.toNat_natCast, ← List.map_take]
        refine ⟨by omega, by omega, (RLevel_E f1 ((tk T a.toNat).pg.take (m + 1)) (by simp; omega) _ _ _ _ _ _ _).mono ?_⟩
        rintro _ _ _ ⟨rfl, rfl, rfl⟩
        rw [levAt_take C _ _ _ (by omega)]
        refine ⟨rfl, _, rfl, rfl, V.p55 fun _ => ⟨fun h => ?_, fun _ => ?_⟩⟩
        · rw [g2] at h; simp at h
        · rw [ev]; exact ih (m + 1) (by omega) (by omega)
      · refine (Reach_E f1 hpg a).mono ?_
        rintro _ _ _ ⟨rfl, M, n, rfl, rfl, hn, hp, hmem⟩
        refine ⟨rfl, _, _, rfl, rfl, (RReach_E f1 hpg a ha t3 t2).mono ?_⟩
        rintro _ _ _ ⟨rfl, rfl, rfl⟩
        refine ⟨rfl, _, rfl, rfl, V.p63 fun _ _ => ?_⟩
        rw [List.length_map]
        refine ⟨fun h => V.p69 fun _ _ => ?_, fun h => V.p69 fun _ _ => ?_⟩
        · have e : M.take n = [] := by
            apply List.eq_nil_iff_forall_not_mem.2
            intro v hv
            obtain ⟨_, _, k, hk, _⟩ := (hmem v).1 hv
            omega
          have hn0 : n = 0 := by have := congrArg List.length e; rw [List.length_take, Nat.min_eq_left hn] at this; exact this
          subst hn0
          exact ⟨fun h => absurd rfl h, fun _ => p82 M [] 0 hn rfl (by omega) _ 0 (Nat.lt_succ_self _) (Nat.le_refl _)⟩
        · have e : M.take n = rz C (tk T a.toNat).th (tk T a.toNat).pg (64 - (tk T a.toNat).th).toNat := uniqI hp (rz_lt ..) fun v => by
            rw [hmem, rz_mem f3 t2 (by omega)]
            exact ⟨fun h => h.2, fun h => ⟨ha, h⟩⟩
          have hl := rz_len C (tk T a.toNat).th (tk T a.toNat).pg (64 - (tk T a.toNat).th).toNat
          have hl2 : (rz C (tk T a.toNat).th (tk T a.toNat).pg (64 - (tk T a.toNat).th).toNat).length = n := by rw [← e, List.length_take]; exact Nat.min_eq_left hn
          rw [ints_length, hl2]
          exact ⟨fun h => absurd rfl h, fun _ => p82 M _ n hn e (by omega) _ 0 (Nat.lt_succ_self _) (by omega)⟩
  exact p43 _ 0 (Nat.lt_succ_self _) (by omega)
end Go.Ab
