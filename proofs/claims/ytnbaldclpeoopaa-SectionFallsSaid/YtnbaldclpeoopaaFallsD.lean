/- SectionFalls: the walk of the law, and the plain law of stretches. For every input. -/
import Derived.Test.YtnbaldclpeoopaaFallsB
namespace Go.Ab
open Go Go.Proofs
set_option linter.unusedVariables false
set_option linter.unusedSimpArgs false
set_option maxRecDepth 100000
set_option maxHeartbeats 1000000

def T0 : List Tk := [⟨1, 2, 0, 0, 0, 0, [⟨1, 5, 0⟩, ⟨3, 0, 0⟩, ⟨1, 2, 0⟩, ⟨4, 0, 0⟩, ⟨5, 0, 0⟩, ⟨6, 0, 0⟩]⟩]
theorem one_E : EC Try.prog G34 [] [] fun x rs vs => x = 0 ∧ rs = [] ∧ vs = [.i 1, .i 1, .i 1, .i 5, .i 0, .r (ints [7]), .r (T0.map encT)] := EC.reckon mixed TT_at (n := 2000) (by kernel_rfl)
theorem reach0 : EC Try.prog G18 [] [.i 1, .i 1, .i 1, .i 5, .r [], .i 0, .r [], .r (ints [7]), .r (T0.map encT), .r [], .i 0] fun x rs vs => x = 0 ∧ rs = [] ∧ vs = [.r (ints [7, 64])] :=
  EC.reckonF mixed TT_at (n := 20000) (id := 0) (n0 := 0) (fr := [.sl 0 6 0 2]) (H1 := [.arr 3 1 (ints [7, 64, 0, 0, 0, 0])]) (by kernel_rfl) ⟨⟨⟨rfl, trivial⟩, ⟨rfl, trivial⟩⟩, rfl⟩
theorem fixed14 : EC Try.prog G14 [] [] fun x rs vs => x = 0 ∧ rs = [] ∧ vs = [.b true] := by
  have hT0 : ∀ t ∈ T0, t.pg.length ≤ 100 := by decide
  have hl := fun lv => Longest_E (c0 := 1) (c1 := 1) (c2 := 1) (c3 := 5) (c4 := []) (c5 := 0) (c6 := []) (c9 := []) (C := [7]) (T := T0) (by decide) hT0 0 lv ⟨by decide, by decide⟩
  refine E14 fun EV V => one_E.mono ?_
  rintro _ _ _ ⟨rfl, rfl, rfl⟩
  refine ⟨rfl, _, _, _, _, _, _, _, rfl, rfl, (Levels_E (by decide) hT0 0).mono ?_⟩
  rintro _ _ _ ⟨rfl, rfl, rfl⟩
  refine ⟨rfl, _, rfl, rfl, one_E.mono ?_⟩
  rintro _ _ _ ⟨rfl, rfl, rfl⟩
  refine ⟨rfl, _, _, _, _, _, _, _, rfl, rfl, reach0.mono ?_⟩
  rintro _ _ _ ⟨rfl, rfl, rfl⟩
  refine ⟨rfl, _, rfl, rfl, fun _ => ⟨by decide, by decide, rfl, fun _ => one_E.mono ?_, fun h => absurd h (by decide)⟩, fun h => absurd (by decide) h⟩
  rintro _ _ _ ⟨rfl, rfl, rfl⟩
  refine ⟨rfl, _, _, _, _, _, _, _, rfl, rfl, (hl 64).mono ?_⟩
  rintro _ _ _ ⟨rfl, rfl, rfl⟩
  refine ⟨rfl, _, rfl, rfl, fun _ => one_E.mono ?_, fun h => absurd (by decide) h⟩
  rintro _ _ _ ⟨rfl, rfl, rfl⟩
  refine ⟨rfl, _, _, _, _, _, _, _, rfl, rfl, (hl 7).mono ?_⟩
  rintro _ _ _ ⟨rfl, rfl, rfl⟩
  refine ⟨rfl, _, rfl, rfl, fun _ => one_E.mono ?_, fun h => absurd (by decide) h⟩
  rintro _ _ _ ⟨rfl, rfl, rfl⟩
  refine ⟨rfl, _, _, _, _, _, _, _, rfl, rfl, (hl 2).mono ?_⟩
  rintro _ _ _ ⟨rfl, rfl, rfl⟩
  exact ⟨rfl, _, rfl, rfl, fun _ => ⟨fun _ => ⟨rfl, fun _ => ⟨by decide, rfl, rfl, rfl, rfl⟩, fun h => absurd (by decide) h⟩, fun h => absurd (by decide) h⟩, fun h => absurd (by decide) h⟩

theorem longF_mono {lo hi : Int} (h : lo ≤ hi) : ∀ (l : List (Int × Int)) (n n' b b' : Int), 0 ≤ n → n ≤ n' → b ≤ b' → (∀ p ∈ l, 0 ≤ p.2) → longF hi l n b ≤ longF lo l n' b'
  | [], _, _, _, _, _, _, hb, _ => hb
  | (x, c) :: l, n, n', b, b', h0, hn, hb, hl => by
    have hc : 0 ≤ c := hl (x, c) (List.mem_cons_self ..)
    have hl' : ∀ p ∈ l, 0 ≤ p.2 := fun p hp => hl p (List.mem_cons_of_mem _ hp)
    simp only [longF]
    by_cases h1 : x < lo
    · rw [if_pos h1, if_pos (by omega)]
      exact longF_mono h l 0 0 b b' (Int.le_refl _) (Int.le_refl _) hb hl'
    · rw [if_neg h1]
      by_cases h2 : x < hi
      · rw [if_pos h2]
        exact longF_mono h l 0 (n' + c) b _ (Int.le_refl _) (by omega) (by omega) hl'
      · rw [if_neg h2]
        exact longF_mono h l (n + c) (n' + c) _ _ (by omega) (by omega) (by omega) hl'
theorem longF_all {lv : Int} : ∀ (l : List (Int × Int)) (n : Int), (∀ p ∈ l, lv ≤ p.1 ∧ 0 ≤ p.2) → longF lv l n n = n + (l.map (·.2)).sum
  | [], n, _ => by simp [longF]
  | (x, c) :: l, n, hl => by
    have hx := hl (x, c) (List.mem_cons_self ..)
    simp only at hx
    simp only [longF, List.map_cons, List.sum_cons]
    rw [if_neg (by omega), show max n (n + c) = n + c by omega, longF_all l (n + c) fun p hp => hl p (List.mem_cons_of_mem _ hp)]
    omega
theorem longF_none {lv : Int} : ∀ (l : List (Int × Int)) (n b : Int), (∀ p ∈ l, p.1 < lv) → longF lv l n b = b
  | [], n, b, _ => rfl
  | (x, c) :: l, n, b, hl => by
    have hx := hl (x, c) (List.mem_cons_self ..)
    simp only [longF]
    rw [if_pos hx]
    exact longF_none l 0 b fun p hp => hl p (List.mem_cons_of_mem _ hp)

theorem levH_b : ∀ (C : List Int) (H : List Bool) (n : Int), n ≤ levH C H n ∧ ((∀ c ∈ C, c ≤ 64) → n ≤ 64 → levH C H n ≤ 64)
  | [], _, n => by simp [levH]
  | c :: C, [], n => by simp [levH]
  | c :: C, h :: H, n => by
    have ih := levH_b C H (if h = true then max n c else n)
    simp only [levH]
    refine ⟨by have := ih.1; split at this <;> omega, fun hc hn => ih.2 (fun x hx => hc x (List.mem_cons_of_mem _ hx)) ?_⟩
    have := hc c (List.mem_cons_self ..)
    split <;> omega
theorem levAt_b {C : List Int} {base : Int} (hC : ∀ c ∈ C, c ≤ 64) (hb : base ≤ 64) (P : List Op3) (m : Nat) : base ≤ levAt C base P m ∧ levAt C base P m ≤ 64 := by
  have := levH_b C (stAt C.length P m).1 base
  have h2 := this.2 hC hb
  unfold levAt levS
  split <;> omega
theorem dat_sum (C : List Int) (hit miss base : Int) (P : List Op3) : ((dat C hit miss base P).map (·.2)).sum = sumZ hit miss false P := by
  unfold dat sumZ
  rw [List.map_map]
  congr 1
  apply List.ext_getElem (by simp)
  intro i h1 h2
  simp only [List.length_map, List.length_range] at h1
  simp [op3_lt h1]
theorem dat_mem {C : List Int} {hit miss base : Int} {P : List Op3} {p : Int × Int} (h : p ∈ dat C hit miss base P) : ∃ m, p = (max (levAt C base P m) (levAt C base P (m + 1)), costZ hit miss false (op3 P m)) := by
  simp only [dat, List.mem_map] at h
  obtain ⟨m, _, rfl⟩ := h
  exact ⟨m, rfl⟩

section
variable {c0 c1 c2 c3 c5 : Int} {c4 c6 c9 : List (List AV)} {C : List Int} {T : List Tk}
theorem Few_E (hT : T.length ≤ maxLen) : EC Try.prog G7 [] [.i c0, .i c1, .i c2, .i c3, .r c4, .i c5, .r c6, .r (ints C), .r (T.map encT), .r c9] fun x rs vs => x = 0 ∧ rs = [] ∧ ∃ b, vs = [.b b] ∧ (b = true → C.length ≤ 20 ∧ T.length ≤ 20) := by
  have hT : T.length ≤ 9223372036854775807 := hT
  refine E7 fun EV V => ?_
  have loop : ∀ (d m : Nat), T.length - m < d → m ≤ T.length → EV 7 [] [.r (T.map encT), .i T.length, .i m, .i c0, .i c1, .i c2, .i c3, .r c4, .i c5, .r c6, .r (ints C), .r (T.map encT), .r c9] := by
    intro d
    induction d with
    | zero => intro m hd; omega
    | succ d ih =>
      intro m hd hm
      refine V.p7 ⟨fun hlt => ⟨by omega, tk_get (by omega), fun hx => ⟨rfl, rfl, false, rfl, fun h => by cases h⟩, fun hx => ?_⟩, fun hge => ?_⟩
      · rw [wrap64 (by omega) (by omega)]
        exact ih (m + 1) (by omega) (by omega)
      · rw [ints_length, List.length_map]
        exact ⟨fun _ => ⟨fun _ => ⟨fun h1 => ⟨fun h2 => ⟨rfl, rfl, _, rfl, fun _ => ⟨by omega, by omega⟩⟩, fun _ => ⟨rfl, rfl, false, rfl, fun h => by cases h⟩⟩, fun _ => ⟨rfl, rfl, false, rfl, fun h => by cases h⟩⟩, fun _ => ⟨rfl, rfl, false, rfl, fun h => by cases h⟩⟩, fun _ => ⟨rfl, rfl, false, rfl, fun h => by cases h⟩⟩
  rw [List.length_map]
  exact loop _ 0 (Nat.lt_succ_self _) (by omega)

theorem few_E (hC : C.length ≤ maxLen) (hT : T.length ≤ maxLen) : EC Try.prog G15 [] [.i c0, .i c1, .i c2, .i c3, .r c4, .i c5, .r c6, .r (ints C), .r (T.map encT), .r c9] fun x rs vs => x = 0 ∧ rs = [] ∧ ∃ b, vs = [.b b] ∧ (b = true → C.length ≤ 20 ∧ T.length ≤ 20 ∧ (∀ c ∈ C, c ≤ 64) ∧ ∀ t ∈ T, t.pg.length ≤ 40 ∧ t.th ≤ 64) := by
  have hC : C.length ≤ 9223372036854775807 := hC
  have hT' : T.length ≤ 9223372036854775807 := hT
  refine E15 fun EV V => ?_
  have no : ∀ {p : Prop}, (0 : Nat) = 0 ∧ ([] : Rs) = [] ∧ ∃ b, [Lf.b false] = [.b b] ∧ (b = true → p) := ⟨rfl, rfl, false, rfl, fun h => by cases h⟩
  have p30 : (∀ c ∈ C, c ≤ 64) → ∀ (d m : Nat), T.length - m < d → m ≤ T.length → (∀ i, i < m → (tk T i).pg.length ≤ 40 ∧ (tk T i).th ≤ 64) → EV 30 [] [.r (T.map encT), .i T.length, .i m, .i c0, .i c1, .i c2, .i c3, .r c4, .i c5, .r c6, .r (ints C), .r (T.map encT), .r c9] := by
    intro hc d
    induction d with
    | zero => intro m hd; omega
    | succ d ih =>
      intro m hd hm hinv
      refine V.p30 ⟨fun hlt => ?_, fun hge => (Few_E hT).mono ?_⟩
      · have hmT : m < T.length := by omega
        refine ⟨by omega, tk_get hmT, fun h1 => ⟨fun _ => ⟨fun _ => no, fun h3 => ?_⟩, fun _ => no⟩, fun _ => no⟩
        rw [Int.toNat_natCast, tk1] at h1
        rw [Int.toNat_natCast, tk6, List.length_map] at h3
        rw [wrap64 (by omega) (by omega)]
        exact ih (m + 1) (by omega) (by omega) fun i hi => by
          by_cases e : i = m
          · subst e; exact ⟨by omega, h1⟩
          · exact hinv i (by omega)
      · rintro _ _ _ ⟨rfl, rfl, b, rfl, hb⟩
        obtain rfl : m = T.length := by omega
        refine ⟨rfl, _, rfl, rfl, rfl, rfl, b, rfl, fun h => ⟨(hb h).1, (hb h).2, hc, fun t ht => ?_⟩⟩
        obtain ⟨i, hi, rfl⟩ := List.getElem_of_mem ht
        have := hinv i hi
        rwa [tk_lt hi] at this
  have p7 : ∀ (d m : Nat), C.length - m < d → m ≤ C.length → (∀ i, i < m → C.getD i 0 ≤ 64) → EV 7 [] [.r (ints C), .i C.length, .i m, .i c0, .i c1, .i c2, .i c3, .r c4, .i c5, .r c6, .r (ints C), .r (T.map encT), .r c9] := by
    intro d
    induction d with
    | zero => intro m hd; omega
    | succ d ih =>
      intro m hd hm hinv
      refine V.p7 ⟨fun hlt => ⟨by omega, ints_get (by omega), fun h1 => ⟨fun _ => no, fun _ => ?_⟩, fun _ => no⟩, fun hge => ?_⟩
      · rw [Int.toNat_natCast, ints_cI] at h1
        rw [wrap64 (by omega) (by omega)]
        exact ih (m + 1) (by omega) (by omega) fun i hi => by
          by_cases e : i = m
          · subst e; exact h1
          · exact hinv i (by omega)
      · rw [List.length_map]
        refine p30 (fun c hc => ?_) _ 0 (Nat.lt_succ_self _) (by omega) fun i hi => by omega
        obtain ⟨i, hi, rfl⟩ := List.getElem_of_mem hc
        have := hinv i (by omega)
        rwa [List.getD_eq_getElem?_getD, List.getElem?_eq_getElem hi] at this
  rw [ints_length]
  exact p7 _ 0 (Nat.lt_succ_self _) (by omega) fun i hi => by omega
end

abbrev TKd : List DT := [.int .i64, .int .i64, .int .i64, .int .i64, .int .i64, .int .i64, .rows [.int .i64, .int .i64, .int .i64]]
theorem exO : ∀ {rows : List (List AV)}, (∀ r ∈ rows, GdL [.int .i64, .int .i64, .int .i64] r) → ∃ l : List Op3, rows = l.map encO
  | [], _ => ⟨[], rfl⟩
  | r :: rows, h => by
    obtain ⟨l, hl⟩ := exO fun x hx => h x (List.mem_cons_of_mem _ hx)
    have h0 := h r (List.mem_cons_self ..)
    simp only [GdL, GdC] at h0
    obtain ⟨_, _, e, ⟨t, rfl, _⟩, _, _, rfl, ⟨k', rfl, _⟩, _, _, rfl, ⟨a, rfl, _⟩, rfl⟩ := h0
    exact ⟨⟨t, k', a⟩ :: l, by rw [e, hl]; rfl⟩
theorem exTk : ∀ {rows : List (List AV)}, (∀ r ∈ rows, GdL TKd r) → ∃ l : List Tk, rows = l.map encT
  | [], _ => ⟨[], rfl⟩
  | r :: rows, h => by
    obtain ⟨l, hl⟩ := exTk fun x hx => h x (List.mem_cons_of_mem _ hx)
    have h0 := h r (List.mem_cons_self ..)
    simp only [GdL, GdC] at h0
    obtain ⟨_, _, e, ⟨t0, rfl, _⟩, _, _, rfl, ⟨t1, rfl, _⟩, _, _, rfl, ⟨t2, rfl, _⟩, _, _, rfl, ⟨t3, rfl, _⟩, _, _, rfl, ⟨t4, rfl, _⟩, _, _, rfl, ⟨t5, rfl, _⟩, _, _, rfl, ⟨t6, rfl, _, g6⟩, rfl⟩ := h0
    obtain ⟨P, rfl⟩ := exO g6
    exact ⟨⟨t0, t1, t2, t3, t4, t5, P⟩ :: l, by rw [e, hl]; rfl⟩
theorem exC : ∀ {rows : List (List AV)}, (∀ r ∈ rows, GdL [.int .i64] r) → ∃ l : List Int, rows = ints l
  | [], _ => ⟨[], rfl⟩
  | r :: rows, h => by
    obtain ⟨l, hl⟩ := exC fun x hx => h x (List.mem_cons_of_mem _ hx)
    have h0 := h r (List.mem_cons_self ..)
    simp only [GdL, GdC] at h0
    obtain ⟨_, _, e, ⟨t, rfl, _⟩, rfl⟩ := h0
    exact ⟨t :: l, by rw [e, hl]; rfl⟩

theorem Falls24 (c0 : Int) (_ : (Lit.int .i64 c0).wf = true) (c1 : Int) (_ : (Lit.int .i64 c1).wf = true) (c2 : Int) (_ : (Lit.int .i64 c2).wf = true) (c3 : Int) (_ : (Lit.int .i64 c3).wf = true) (c4 : List (List AV)) (_ : c4.length ≤ maxLen) (g4 : ∀ r ∈ c4, GdL [.int .i64] r) (c5 : Int) (_ : (Lit.int .i64 c5).wf = true) (c6 : List (List AV)) (_ : c6.length ≤ maxLen) (g6 : ∀ r ∈ c6, GdL [.int .i64] r) (c7 : List (List AV)) (h7 : c7.length ≤ maxLen) (g7 : ∀ r ∈ c7, GdL [.int .i64] r) (tasks : List (List AV)) (ht : tasks.length ≤ maxLen) (gt : ∀ r ∈ tasks, GdL TKd r) (c9 : List (List AV)) (_ : c9.length ≤ maxLen) (g9 : ∀ r ∈ c9, GdL [.int .i64] r) (task : Int) (hw : (Lit.int .u8 task).wf = true) (low : Int) (_ : (Lit.int .i64 low).wf = true) (high : Int) (_ : (Lit.int .i64 high).wf = true) : EC Try.prog G5 [] [.i c0, .i c1, .i c2, .i c3, .r c4, .i c5, .r c6, .r c7, .r tasks, .r c9, .i task, .i low, .i high] fun x rs vs => x = 0 ∧ vs = [.b true] := by
  obtain ⟨C, rfl⟩ := exC g7
  obtain ⟨T, rfl⟩ := exTk gt
  rw [ints_length] at h7
  rw [List.length_map] at ht
  have hw : 0 ≤ task ∧ task ≤ 255 := by
    simp only [Lit.wf, Bool.and_eq_true, decide_eq_true_eq] at hw
    have e1 : IntKind.min .u8 = 0 := rfl
    have e2 : IntKind.max .u8 = 255 := rfl
    rw [e1, e2] at hw; exact hw
  refine E5 fun EV V => fixed14.mono ?_
  rintro _ _ _ ⟨rfl, rfl, rfl⟩
  refine ⟨rfl, _, rfl, rfl, fun h => (by cases h), fun _ => (few_E h7 ht).mono ?_⟩
  rintro _ _ _ ⟨rfl, rfl, b, rfl, hb⟩
  refine ⟨rfl, _, rfl, rfl, fun hbt => ⟨fun _ => ⟨rfl, rfl⟩, fun hne => ?_⟩, fun _ => ⟨rfl, rfl⟩⟩
  obtain ⟨f1, f2, f3, f4⟩ := hb hbt
  rw [List.length_map] at hne ⊢
  have hpg : ∀ t ∈ T, t.pg.length ≤ 100 := fun t h => by have := (f4 t h).1; omega
  have p26 : ∀ (lo hi i : Int), lo ≤ hi → 0 ≤ i → i < T.length → EV 26 [] [.i lo, .i hi, .i i, .i c0, .i c1, .i c2, .i c3, .r c4, .i c5, .r c6, .r (ints C), .r (T.map encT), .r c9] := by
    intro lo hi i hlh h0 h1
    have hi' : i.toNat < T.length := by omega
    have ft := f4 _ (List.getElem_mem hi')
    rw [← tk_lt hi'] at ft
    have hL := fun lv => Longest_E (c0 := c0) (c1 := c1) (c2 := c2) (c3 := c3) (c4 := c4) (c5 := c5) (c6 := c6) (c9 := c9) f1 hpg i lv ⟨h0, h1⟩
    have hnn : ∀ p ∈ dat C c2 c3 (tk T i.toNat).th (tk T i.toNat).pg, 0 ≤ p.2 := fun p hp => by
      obtain ⟨m, rfl⟩ := dat_mem hp
      exact (costZ_b _ _ _ _).1
    have m1 : longZ C c2 c3 (tk T i.toNat).th (tk T i.toNat).pg hi ≤ longZ C c2 c3 (tk T i.toNat).th (tk T i.toNat).pg lo := longF_mono hlh _ 0 0 0 0 (Int.le_refl _) (Int.le_refl _) (Int.le_refl _) hnn
    have m2 : longZ C c2 c3 (tk T i.toNat).th (tk T i.toNat).pg (tk T i.toNat).th = sumZ c2 c3 false (tk T i.toNat).pg := by
      unfold longZ
      rw [longF_all _ 0 fun p hp => ⟨?_, hnn p hp⟩, dat_sum, Int.zero_add]
      obtain ⟨m, rfl⟩ := dat_mem hp
      have := levAt_b f3 ft.2 (tk T i.toNat).pg m
      simp only; omega
    have m3 : longZ C c2 c3 (tk T i.toNat).th (tk T i.toNat).pg 65 = 0 := longF_none _ 0 0 fun p hp => by
      obtain ⟨m, rfl⟩ := dat_mem hp
      have := levAt_b f3 ft.2 (tk T i.toNat).pg m
      have := levAt_b f3 ft.2 (tk T i.toNat).pg (m + 1)
      simp only; omega
    refine V.p26 ⟨h0, tk_get hi', ?_⟩
    rw [tk6, tk1]
    refine (RSum_E _ (by omega) c0 c1 c2 c3 false).mono ?_
    rintro _ _ _ ⟨rfl, rfl, rfl⟩
    refine ⟨rfl, _, rfl, rfl, (hL hi).mono ?_⟩
    rintro _ _ _ ⟨rfl, rfl, rfl⟩
    refine ⟨rfl, _, rfl, rfl, (hL lo).mono ?_⟩
    rintro _ _ _ ⟨rfl, rfl, rfl⟩
    refine ⟨rfl, _, rfl, rfl, fun _ => (hL _).mono ?_, fun h => by omega⟩
    rintro _ _ _ ⟨rfl, rfl, rfl⟩
    refine ⟨rfl, _, rfl, rfl, fun _ => (hL 65).mono ?_, fun h => (h m2).elim⟩
    rintro _ _ _ ⟨rfl, rfl, rfl⟩
    exact ⟨rfl, _, rfl, rfl, rfl, by rw [m3]; rfl⟩
  have hw2 : IntKind.wrap .i64 task = task := wrap64 (by omega) (by omega)
  rw [hw2]
  have hm0 : 0 ≤ Int.tmod task T.length := Int.tmod_nonneg _ hw.1
  have hm1 : Int.tmod task T.length < T.length := by
    rw [Int.tmod_eq_emod_of_nonneg hw.1]; exact Int.emod_lt_of_pos _ (by omega)
  exact ⟨hne, fun h => p26 high low _ (by omega) hm0 hm1, fun h => p26 low high _ (by omega) hm0 hm1⟩
end Go.Ab
