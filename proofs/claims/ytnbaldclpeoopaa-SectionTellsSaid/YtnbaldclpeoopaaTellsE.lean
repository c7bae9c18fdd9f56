/- SectionTells: what is reached, by the document; the law's walk. For every input. -/
import Derived.Test.YtnbaldclpeoopaaTellsD
namespace Go.Ab
open Go Go.Proofs
set_option linter.unusedVariables false
set_option linter.unusedSimpArgs false
set_option maxRecDepth 100000
set_option maxHeartbeats 1000000

theorem levH_b : ∀ (C : List Int) (H : List Bool) (n : Int), n ≤ levH C H n ∧ ((∀ c ∈ C, c ≤ 64) → n ≤ 64 → levH C H n ≤ 64)
  | [], _, n => by simp [levH]
  | c :: C, [], n => by simp [levH]
  | c :: C, h :: H, n => by
    have ih := levH_b C H (if h = true then max n c else n)
    simp only [levH]
    refine ⟨by have := ih.1; split at this <;> omega, fun hc hn => ih.2 (fun x hx => hc x (List.mem_cons_of_mem _ hx)) ?_⟩
    have := hc c (List.mem_cons_self ..)
    split <;> omega
theorem levAt_b {C : List Int} {base : Int} (hC : ∀ c ∈ C, c ≤ 64) (hb : base ≤ 64) (P : List Op3) (m : Nat) : base ≤ levAt C base P m ∧ levAt C base P m ≤ 64 := by
  have := levH_b C (stAt C.length P m).1 base
  have h2 := this.2 hC hb
  unfold levAt levS
  split <;> omega

def encM (p : Int × Bool) : List AV := [.int .i64 p.1, .bool p.2]
theorem mget_M (n : Int) : ∀ M : List (Int × Bool), (∃ b, ∀ z, mgetS .i64 n z (M.map encM) = some (.bool b)) ∨ ∀ z, mgetS .i64 n z (M.map encM) = some z
  | [] => .inr fun z => rfl
  | (k, b) :: M => by
    simp only [List.map_cons, encM, mgetS, if_true]
    by_cases h : n = k
    · simp only [if_pos h]; exact .inl ⟨b, fun _ => rfl⟩
    · simp only [if_neg h]; exact mget_M n M
theorem mget_ok (n : Int) (M : List (Int × Bool)) : mgetS .i64 n (.bool false) (M.map encM) = some (.bool (mBS (M.map encM) .i64 n)) := by
  unfold mBS
  rcases mget_M n M with ⟨b, h⟩ | h
  · rw [h, h]
  · rw [h, h]
theorem mset_M (n : Int) (v : Bool) : ∀ M : List (Int × Bool), ∃ M', msetS .i64 n (.bool v) (M.map encM) = some (List.map encM M')
  | [] => ⟨[(n, v)], rfl⟩
  | (k, b) :: M => by
    simp only [List.map_cons, encM, msetS, if_true]
    by_cases h : n = k
    · simp only [if_pos h]; exact ⟨(n, v) :: M, rfl⟩
    · simp only [if_neg h]
      obtain ⟨M', h1⟩ := mset_M n v M
      rw [h1]; exact ⟨(k, b) :: M', rfl⟩

/-! ### the document's reach -/
def hitB (C : List Int) (th : Int) (P : List Op3) (v : Int) : Bool := (List.range (P.length + 1)).any fun k => decide (levAt C th P k = v)
def rz (C : List Int) (th : Int) (P : List Op3) (m : Nat) : List Int := ((List.range m).map fun i : Nat => th + 1 + (i : Int)).filter (hitB C th P)
theorem rz_succ (C : List Int) (th : Int) (P : List Op3) (m : Nat) : rz C th P (m + 1) = rz C th P m ++ if hitB C th P (th + 1 + (m : Int)) = true then [th + 1 + (m : Int)] else [] := by
  simp only [rz, List.range_succ, List.map_append, List.filter_append, List.map_cons, List.map_nil]
  congr 1
  by_cases h : hitB C th P (th + 1 + (m : Int)) = true
  · rw [if_pos h]; simp [h]
  · rw [if_neg h]; simp [h]
theorem rz_len (C : List Int) (th : Int) (P : List Op3) (m : Nat) : (rz C th P m).length ≤ m := by
  have := List.length_filter_le (hitB C th P) ((List.range m).map fun i : Nat => th + 1 + (i : Int))
  simpa [rz] using this
theorem rz_lt (C : List Int) (th : Int) (P : List Op3) (m : Nat) : (rz C th P m).Pairwise (· < ·) := by
  refine List.Pairwise.filter _ ?_
  rw [List.pairwise_map]
  exact List.pairwise_lt_range.imp fun h => by omega
theorem hit_iff {C : List Int} {th : Int} {P : List Op3} {v : Int} : hitB C th P v = true ↔ ∃ k, k ≤ P.length ∧ levAt C th P k = v := by
  simp only [hitB, List.any_eq_true, List.mem_range, decide_eq_true_eq]
  exact ⟨fun ⟨k, h1, h2⟩ => ⟨k, by omega, h2⟩, fun ⟨k, h1, h2⟩ => ⟨k, by omega, h2⟩⟩
theorem rz_mem {C : List Int} {th : Int} {P : List Op3} (hC : ∀ c ∈ C, c ≤ 64) (hth : th ≤ 64) (hP : P.length ≠ 0) (v : Int) : v ∈ rz C th P (64 - th).toNat ↔ InR C th P P.length v := by
  simp only [rz, List.mem_filter, List.mem_map, List.mem_range]
  rw [hit_iff]
  unfold InR
  constructor
  · rintro ⟨⟨i, hi, rfl⟩, k, hk, e⟩
    refine ⟨by omega, ?_⟩
    rcases Nat.eq_or_lt_of_le hk with h | h
    · exact ⟨k - 1, by omega, .inr (by rw [← e, show k - 1 + 1 = k by omega])⟩
    · exact ⟨k, h, .inl e.symm⟩
  · rintro ⟨h, k, hk, e⟩
    have key : ∃ j, j ≤ P.length ∧ levAt C th P j = v := by
      rcases e with e | e
      · exact ⟨k, by omega, e.symm⟩
      · exact ⟨k + 1, by omega, e.symm⟩
    obtain ⟨j, hj, e⟩ := key
    have hb := levAt_b hC hth P j
    exact ⟨⟨(v - th - 1).toNat, by omega, by omega⟩, j, hj, e⟩

section
variable {c0 c1 c2 c3 c5 : Int} {c4 c6 c9 : List (List AV)} {C : List Int} {T : List Tk}
theorem Few_E (hT : T.length ≤ maxLen) : EC Try.prog G7 [] [.i c0, .i c1, .i c2, .i c3, .r c4, .i c5, .r c6, .r (ints C), .r (T.map encT), .r c9] fun x rs vs => x = 0 ∧ rs = [] ∧ ∃ b, vs = [.b b] ∧ (b = true → C.length ≤ 20 ∧ T.length ≤ 20) := by
  have hT : T.length ≤ 9223372036854775807 := hT
  refine E7 fun EV V => ?_
  have loop : ∀ (d m : Nat), T.length - m < d → m ≤ T.length → EV 7 [] [.r (T.map encT), .i T.length, .i m, .i c0, .i c1, .i c2, .i c3, .r c4, .i c5, .r c6, .r (ints C), .r (T.map encT), .r c9] := by
    intro d
    induction d with
    | zero => intro m hd; omega
    | succ d ih =>
      intro m hd hm
      refine V.p7 ⟨fun hlt => ⟨by omega, tk_get (by omega), fun hx => ⟨rfl, rfl, false, rfl, fun h => by cases h⟩, fun hx => ?_⟩, fun hge => ?_⟩
      · rw [wrap64 (by omega) (by omega)]
        exact ih (m + 1) (by omega) (by omega)
      · rw [ints_length, List.length_map]
        exact ⟨fun _ => ⟨fun _ => ⟨fun h1 => ⟨fun h2 => ⟨rfl, rfl, _, rfl, fun _ => ⟨by omega, by omega⟩⟩, fun _ => ⟨rfl, rfl, false, rfl, fun h => by cases h⟩⟩, fun _ => ⟨rfl, rfl, false, rfl, fun h => by cases h⟩⟩, fun _ => ⟨rfl, rfl, false, rfl, fun h => by cases h⟩⟩, fun _ => ⟨rfl, rfl, false, rfl, fun h => by cases h⟩⟩
  rw [List.length_map]
  exact loop _ 0 (Nat.lt_succ_self _) (by omega)

theorem few_E (hC : C.length ≤ maxLen) (hT : T.length ≤ maxLen) : EC Try.prog G15 [] [.i c0, .i c1, .i c2, .i c3, .r c4, .i c5, .r c6, .r (ints C), .r (T.map encT), .r c9] fun x rs vs => x = 0 ∧ rs = [] ∧ ∃ b, vs = [.b b] ∧ (b = true → C.length ≤ 20 ∧ T.length ≤ 20 ∧ (∀ c ∈ C, c ≤ 64) ∧ ∀ t ∈ T, t.pg.length ≤ 40 ∧ t.th ≤ 64 ∧ -64 ≤ t.th) := by
  have hC : C.length ≤ 9223372036854775807 := hC
  have hT' : T.length ≤ 9223372036854775807 := hT
  refine E15 fun EV V => ?_
  have no : ∀ {p : Prop}, (0 : Nat) = 0 ∧ ([] : Rs) = [] ∧ ∃ b, [Lf.b false] = [.b b] ∧ (b = true → p) := ⟨rfl, rfl, false, rfl, fun h => by cases h⟩
  have p30 : (∀ c ∈ C, c ≤ 64) → ∀ (d m : Nat), T.length - m < d → m ≤ T.length → (∀ i, i < m → (tk T i).pg.length ≤ 40 ∧ (tk T i).th ≤ 64 ∧ -64 ≤ (tk T i).th) → EV 30 [] [.r (T.map encT), .i T.length, .i m, .i c0, .i c1, .i c2, .i c3, .r c4, .i c5, .r c6, .r (ints C), .r (T.map encT), .r c9] := by
    intro hc d
    induction d with
    | zero => intro m hd; omega
    | succ d ih =>
      intro m hd hm hinv
      refine V.p30 ⟨fun hlt => ?_, fun hge => (Few_E hT).mono ?_⟩
      · have hmT : m < T.length := by omega
        refine ⟨by omega, tk_get hmT, fun h1 => ⟨fun h2 => ⟨fun _ => no, fun h3 => ?_⟩, fun _ => no⟩, fun _ => no⟩
        rw [Int.toNat_natCast, tk1] at h1 h2
        rw [Int.toNat_natCast, tk6, List.length_map] at h3
        rw [wrap64 (by omega) (by omega)]
        exact ih (m + 1) (by omega) (by omega) fun i hi => by
          by_cases e : i = m
          · subst e; exact ⟨by omega, h1, h2⟩
          · exact hinv i (by omega)
      · rintro _ _ _ ⟨rfl, rfl, b, rfl, hb⟩
        obtain rfl : m = T.length := by omega
        refine ⟨rfl, _, rfl, rfl, rfl, rfl, b, rfl, fun h => ⟨(hb h).1, (hb h).2, hc, fun t ht => ?_⟩⟩
        obtain ⟨i, hi, rfl⟩ := List.getElem_of_mem ht
        have := hinv i hi
        rwa [tk_lt hi] at this
  have p7 : ∀ (d m : Nat), C.length - m < d → m ≤ C.length → (∀ i, i < m → C.getD i 0 ≤ 64) → EV 7 [] [.r (ints C), .i C.length, .i m, .i c0, .i c1, .i c2, .i c3, .r c4, .i c5, .r c6, .r (ints C), .r (T.map encT), .r c9] := by
    intro d
    induction d with
    | zero => intro m hd; omega
    | succ d ih =>
      intro m hd hm hinv
      refine V.p7 ⟨fun hlt => ⟨by omega, ints_get (by omega), fun h1 => ⟨fun _ => no, fun _ => ?_⟩, fun _ => no⟩, fun hge => ?_⟩
      · rw [Int.toNat_natCast, ints_cI] at h1
        rw [wrap64 (by omega) (by omega)]
        exact ih (m + 1) (by omega) (by omega) fun i hi => by
          by_cases e : i = m
          · subst e; exact h1
          · exact hinv i (by omega)
      · rw [List.length_map]
        refine p30 (fun c hc => ?_) _ 0 (Nat.lt_succ_self _) (by omega) fun i hi => by omega
        obtain ⟨i, hi, rfl⟩ := List.getElem_of_mem hc
        have := hinv i (by omega)
        rwa [List.getD_eq_getElem?_getD, List.getElem?_eq_getElem hi] at this
  rw [ints_length]
  exact p7 _ 0 (Nat.lt_succ_self _) (by omega) fun i hi => by omega

theorem nested_E (hT : T.length ≤ maxLen) (hP : ∀ t ∈ T, t.pg.length ≤ 100) : EC Try.prog G16 [] [.i c0, .i c1, .i c2, .i c3, .r c4, .i c5, .r c6, .r (ints C), .r (T.map encT), .r c9] fun x rs vs => x = 0 ∧ rs = [] ∧ ∃ b, vs = [.b b] := by
  have hT : T.length ≤ 9223372036854775807 := hT
  refine E16 fun EV V => ?_
  have no : ∀ {b : Bool}, (0 : Nat) = 0 ∧ ([] : Rs) = [] ∧ ∃ c, [Lf.b b] = [.b c] := ⟨rfl, rfl, _, rfl⟩
  have p7 : ∀ (d m : Nat), T.length - m < d → m ≤ T.length → EV 7 [] [.r (T.map encT), .i T.length, .i m] := by
    intro d
    induction d with
    | zero => intro m hd; omega
    | succ d ih =>
      intro m hd hm
      refine V.p7 ⟨fun hlt => ?_, fun hge => no⟩
      have hmT : m < T.length := by omega
      have hpl : (tk T m).pg.length ≤ 100 := hP _ (by rw [tk_lt hmT]; exact List.getElem_mem hmT)
      refine ⟨by omega, tk_get hmT, ?_⟩
      rw [Int.toNat_natCast, tk6, List.length_map]
      have ev1 : IntKind.wrap .i64 ((m : Int) + 1) = ((m + 1 : Nat) : Int) := by rw [wrap64 (by omega) (by omega)]; rfl
      have p23 : ∀ (d k : Nat) (M : List (Int × Bool)), (tk T m).pg.length - k < d → k ≤ (tk T m).pg.length → EV 23 [M.map encM] [.r (T.map encT), .i T.length, .i m, .r ((tk T m).pg.map encO), .i (tk T m).pg.length, .i k] := by
        intro d
        induction d with
        | zero => intro k M hd; omega
        | succ d ihk =>
          intro k M hd hk
          refine V.p23 fun _ => ⟨fun hlt => ?_, fun hge => by rw [ev1]; exact ih (m + 1) (by omega) (by omega)⟩
          have hkP : k < (tk T m).pg.length := by omega
          have evk : IntKind.wrap .i64 ((k : Int) + 1) = ((k + 1 : Nat) : Int) := by rw [wrap64 (by omega) (by omega)]; rfl
          have go : ∀ M, EV 23 [List.map encM M] [.r (T.map encT), .i T.length, .i m, .r ((tk T m).pg.map encO), .i (tk T m).pg.length, .i (IntKind.wrap .i64 ((k : Int) + 1))] := fun M => by
            rw [evk]; exact ihk (k + 1) M (by omega) (by omega)
          have set : ∀ (n : Int) (v : Bool), msetS .i64 n (.bool v) (M.map encM) = some (mSS (M.map encM) .i64 n (.bool v)) ∧ EV 23 [mSS (M.map encM) .i64 n (.bool v)] [.r (T.map encT), .i T.length, .i m, .r ((tk T m).pg.map encO), .i (tk T m).pg.length, .i (IntKind.wrap .i64 ((k : Int) + 1))] := fun n v => by
            obtain ⟨M', h⟩ := mset_M n v M
            have e : mSS (M.map encM) .i64 n (.bool v) = List.map encM M' := by unfold mSS; rw [h]; rfl
            rw [e]; exact ⟨h, go M'⟩
          exact ⟨by omega, op3_get hkP, fun h5 => ⟨mget_ok _ M, fun _ => no, fun _ => ⟨fun hn => (hn h5).elim, fun _ => set _ _⟩⟩, fun h5 => ⟨fun _ => ⟨fun _ => set _ _, fun _ => go M⟩, fun h => (h5 h).elim⟩⟩
      exact p23 _ 0 [] (Nat.lt_succ_self _) (by omega)
  rw [List.length_map]
  exact p7 _ 0 (Nat.lt_succ_self _) (by omega)

theorem Longest_none (hC : C.length ≤ 20) (hP : ∀ t ∈ T, t.pg.length ≤ 100) (a level : Int) (ha : ¬ (0 ≤ a ∧ a < T.length)) : EC Try.prog G19 [] [.i c0, .i c1, .i c2, .i c3, .r c4, .i c5, .r c6, .r (ints C), .r (T.map encT), .r c9, .i a, .i level] fun x rs vs => x = 0 ∧ rs = [] ∧ vs = [.i 0] := by
  refine E19 fun EV V => (Levels_E hC hP a).mono ?_
  rintro _ _ _ ⟨rfl, rfl, rfl⟩
  rw [if_neg ha]
  exact ⟨rfl, _, rfl, rfl, V.p9 fun _ => ⟨fun h => absurd h (by simp), fun _ => ⟨rfl, rfl, rfl⟩⟩⟩

theorem RReach_E (hC : C.length ≤ 20) (hP : ∀ t ∈ T, t.pg.length ≤ 100) (a : Int) (ha : 0 ≤ a ∧ a < T.length) (h1 : -64 ≤ (tk T a.toNat).th) (h2 : (tk T a.toNat).th ≤ 64) : EC Try.prog G21 [] [.i c0, .i c1, .i c2, .i c3, .r c4, .i c5, .r c6, .r (ints C), .r (T.map encT), .r c9, .i a] fun x rs vs => x = 0 ∧ rs = [ints (rz C (tk T a.toNat).th (tk T a.toNat).pg (64 - (tk T a.toNat).th).toNat)] ∧ vs = [] := by
  have hat : a.toNat < T.length := by omega
  have hpl : (tk T a.toNat).pg.length ≤ 100 := hP _ (by rw [tk_lt hat]; exact List.getElem_mem hat)
  refine E21 fun EV V => ⟨ha.1, tk_get hat, ?_⟩
  rw [tk0, tk1, tk2, tk3, tk4, tk5, tk6]
  have p11 : ∀ (d m : Nat), (64 - (tk T a.toNat).th).toNat - m < d → m ≤ (64 - (tk T a.toNat).th).toNat → EV 11 [ints (rz C (tk T a.toNat).th (tk T a.toNat).pg m)] [.i ((tk T a.toNat).th + 1 + (m : Int)), .i c0, .i c1, .i c2, .i c3, .r c4, .i c5, .r c6, .r (ints C), .r (T.map encT), .r c9, .i (tk T a.toNat).p, .i (tk T a.toNat).th, .i (tk T a.toNat).pe, .i (tk T a.toNat).de, .i (tk T a.toNat).fr, .i (tk T a.toNat).fl, .r ((tk T a.toNat).pg.map encO)] := by
    intro d
    induction d with
    | zero => intro m hd; omega
    | succ d ih =>
      intro m hd hm
      refine V.p11 fun _ => ⟨fun hle => ?_, fun hgt => ?_⟩
      · have evv : IntKind.wrap .i64 ((tk T a.toNat).th + 1 + (m : Int) + 1) = (tk T a.toNat).th + 1 + ((m + 1 : Nat) : Int) := by rw [wrap64 (by omega) (by omega)]; omega
        have p23 : ∀ (d k : Nat), (tk T a.toNat).pg.length + 1 - k < d → k ≤ (tk T a.toNat).pg.length + 1 → (∀ i, i < k → levAt C (tk T a.toNat).th (tk T a.toNat).pg i ≠ (tk T a.toNat).th + 1 + (m : Int)) → EV 23 [ints (rz C (tk T a.toNat).th (tk T a.toNat).pg m)] [.i ((tk T a.toNat).th + 1 + (m : Int)), .i (((tk T a.toNat).pg.length + 1 : Nat) : Int), .i k, .i c0, .i c1, .i c2, .i c3, .r c4, .i c5, .r c6, .r (ints C), .r (T.map encT), .r c9, .i (tk T a.toNat).p, .i (tk T a.toNat).th, .i (tk T a.toNat).pe, .i (tk T a.toNat).de, .i (tk T a.toNat).fr, .i (tk T a.toNat).fl, .r ((tk T a.toNat).pg.map encO)] := by
          intro d
          induction d with
          | zero => intro k hd; omega
          | succ d ihk =>
            intro k hd hk hno
            refine V.p23 fun _ => ⟨fun hlt => ?_, fun hge => ?_⟩
            · have hkP : k ≤ (tk T a.toNat).pg.length := by omega
              rw [Int.toNat_natCast, List.length_map, ← List.map_take]
              refine ⟨by omega, by omega, (RLevel_E hC ((tk T a.toNat).pg.take k) (by simp; omega) _ _ _ _ _ _ _).mono ?_⟩
              rintro _ _ _ ⟨rfl, rfl, rfl⟩
              rw [levAt_take C _ _ _ hkP]
              refine ⟨rfl, _, rfl, rfl, fun heq => ?_, fun hne => ?_⟩
              · have hl := rz_len C (tk T a.toNat).th (tk T a.toNat).pg m
                rw [evv, ints_append, ints_length]
                have e : rz C (tk T a.toNat).th (tk T a.toNat).pg m ++ [(tk T a.toNat).th + 1 + (m : Int)] = rz C (tk T a.toNat).th (tk T a.toNat).pg (m + 1) := by
                  rw [rz_succ, if_pos (hit_iff.2 ⟨k, hkP, heq⟩)]
                rw [e]
                exact ⟨by omega, by omega, ih (m + 1) (by omega) (by omega)⟩
              · rw [show IntKind.wrap .i64 ((k : Int) + 1) = ((k + 1 : Nat) : Int) by rw [wrap64 (by omega) (by omega)]; rfl]
                exact ihk (k + 1) (by omega) (by omega) fun i hi => by
                  by_cases e : i = k
                  · subst e; exact hne
                  · exact hno i (by omega)
            · rw [evv]
              have e : rz C (tk T a.toNat).th (tk T a.toNat).pg (m + 1) = rz C (tk T a.toNat).th (tk T a.toNat).pg m := by
                rw [rz_succ, if_neg (fun h => ?_), List.append_nil]
                obtain ⟨i, hi, e⟩ := hit_iff.1 h
                exact hno i (by omega) e
              rw [← e]
              exact ih (m + 1) (by omega) (by omega)
        rw [List.length_map, show IntKind.wrap .i64 (((tk T a.toNat).pg.length : Int) + 1) = (((tk T a.toNat).pg.length + 1 : Nat) : Int) by rw [wrap64 (by omega) (by omega)]; rfl]
        exact p23 _ 0 (Nat.lt_succ_self _) (by omega) fun i hi => by omega
      · obtain rfl : m = (64 - (tk T a.toNat).th).toNat := by omega
        exact ⟨rfl, rfl, rfl⟩
  rw [show IntKind.wrap .i64 ((tk T a.toNat).th + 1) = (tk T a.toNat).th + 1 + ((0 : Nat) : Int) by rw [wrap64 (by omega) (by omega)]; simp]
  exact p11 _ 0 (Nat.lt_succ_self _) (by omega)
end

/-! ### the calls that the document fixes -/
def T0 : List Tk := [⟨1, 2, 0, 0, 0, 0, [⟨1, 5, 0⟩, ⟨3, 0, 0⟩, ⟨1, 2, 0⟩, ⟨4, 0, 0⟩, ⟨5, 0, 0⟩, ⟨6, 0, 0⟩]⟩]
theorem one_E : EC Try.prog G34 [] [] fun x rs vs => x = 0 ∧ rs = [] ∧ vs = [.i 1, .i 1, .i 1, .i 5, .i 0, .r (ints [7]), .r (T0.map encT)] := EC.reckon mixed TT_at (n := 2000) (by kernel_rfl)

theorem reachT0 {N : List Int} (hp : N.Pairwise (· < ·)) (hm : ∀ v, v ∈ N ↔ (0 ≤ (0 : Int) ∧ (0 : Int) < T0.length) ∧ InR [7] (tk T0 (Int.toNat 0)).th (tk T0 (Int.toNat 0)).pg (tk T0 (Int.toNat 0)).pg.length v) : N = [7, 64] := by
  refine uniqI hp (by decide) fun v => ?_
  rw [hm, ← rz_mem (by decide) (by decide) (by decide) v]
  rw [show rz [7] (tk T0 (Int.toNat 0)).th (tk T0 (Int.toNat 0)).pg (64 - (tk T0 (Int.toNat 0)).th).toNat = [7, 64] by kernel_rfl]
  exact ⟨fun h => h.2, fun h => ⟨⟨by decide, by decide⟩, h⟩⟩
theorem fixed14 : EC Try.prog G14 [] [] fun x rs vs => x = 0 ∧ rs = [] ∧ vs = [.b true] := by
  have hT0 : ∀ t ∈ T0, t.pg.length ≤ 100 := by decide
  have hl := fun lv => Longest_E (c0 := 1) (c1 := 1) (c2 := 1) (c3 := 5) (c4 := []) (c5 := 0) (c6 := []) (c9 := []) (C := [7]) (T := T0) (by decide) hT0 0 lv ⟨by decide, by decide⟩
  refine E14 fun EV V => one_E.mono ?_
  rintro _ _ _ ⟨rfl, rfl, rfl⟩
  refine ⟨rfl, _, _, _, _, _, _, _, rfl, rfl, (Levels_E (by decide) hT0 0).mono ?_⟩
  rintro _ _ _ ⟨rfl, rfl, rfl⟩
  refine ⟨rfl, _, rfl, rfl, one_E.mono ?_⟩
  rintro _ _ _ ⟨rfl, rfl, rfl⟩
  refine ⟨rfl, _, _, _, _, _, _, _, rfl, rfl, (Reach_E (by decide) hT0 0).mono ?_⟩
  rintro _ _ _ ⟨rfl, M, n, rfl, rfl, hn, hp, hm⟩
  obtain hM := reachT0 hp hm
  have hn2 : n = 2 := by have := congrArg List.length hM; simp at this; omega
  subst hn2
  have hl2 : 2 ≤ M.length := hn
  have g0 : M.getD 0 0 = 7 := by have := congrArg (fun l => List.getD l 0 0) hM; simpa [List.getD_eq_getElem?_getD, List.getElem?_take] using this
  have g1 : M.getD 1 0 = 64 := by have := congrArg (fun l => List.getD l 1 0) hM; simpa [List.getD_eq_getElem?_getD, List.getElem?_take] using this
  refine ⟨rfl, _, _, rfl, rfl, fun _ => ⟨by decide, by decide, rfl, fun _ => one_E.mono ?_, fun h => absurd h (by decide)⟩, fun h => absurd (by decide) h⟩
  rintro _ _ _ ⟨rfl, rfl, rfl⟩
  refine ⟨rfl, _, _, _, _, _, _, _, rfl, rfl, (hl 64).mono ?_⟩
  rintro _ _ _ ⟨rfl, rfl, rfl⟩
  refine ⟨rfl, _, rfl, rfl, fun _ => one_E.mono ?_, fun h => absurd (by decide) h⟩
  rintro _ _ _ ⟨rfl, rfl, rfl⟩
  refine ⟨rfl, _, _, _, _, _, _, _, rfl, rfl, (hl 7).mono ?_⟩
  rintro _ _ _ ⟨rfl, rfl, rfl⟩
  refine ⟨rfl, _, rfl, rfl, fun _ => one_E.mono ?_, fun h => absurd (by decide) h⟩
  rintro _ _ _ ⟨rfl, rfl, rfl⟩
  refine ⟨rfl, _, _, _, _, _, _, _, rfl, rfl, (hl 2).mono ?_⟩
  rintro _ _ _ ⟨rfl, rfl, rfl⟩
  have q0 : cIS (ints M) (Int.toNat 0) 0 = 7 := (ints_cI M 0).trans g0
  have q1 : cIS (ints M) (Int.toNat 1) 0 = 64 := (ints_cI M 1).trans g1
  have r0 : (ints M)[Int.toNat 0]? = some [.int .i64 (cIS (ints M) (Int.toNat 0) 0)] := ints_get (l := M) (i := 0) (by omega)
  have r1 : (ints M)[Int.toNat 1]? = some [.int .i64 (cIS (ints M) (Int.toNat 1) 0)] := ints_get (l := M) (i := 1) (by omega)
  exact ⟨rfl, _, rfl, rfl, fun _ => ⟨fun _ => ⟨by decide, r0, fun _ => ⟨by decide, by decide, r1, rfl, rfl, by rw [q1]; rfl⟩, fun h => absurd q0 h⟩, fun h => absurd rfl h⟩, fun h => absurd (by decide) h⟩

abbrev TKd : List DT := [.int .i64, .int .i64, .int .i64, .int .i64, .int .i64, .int .i64, .rows [.int .i64, .int .i64, .int .i64]]
theorem exO : ∀ {rows : List (List AV)}, (∀ r ∈ rows, GdL [.int .i64, .int .i64, .int .i64] r) → ∃ l : List Op3, rows = l.map encO
  | [], _ => ⟨[], rfl⟩
  | r :: rows, h => by
    obtain ⟨l, hl⟩ := exO fun x hx => h x (List.mem_cons_of_mem _ hx)
    have h0 := h r (List.mem_cons_self ..)
    simp only [GdL, GdC] at h0
    obtain ⟨_, _, e, ⟨t, rfl, _⟩, _, _, rfl, ⟨k', rfl, _⟩, _, _, rfl, ⟨a, rfl, _⟩, rfl⟩ := h0
    exact ⟨⟨t, k', a⟩ :: l, by rw [e, hl]; rfl⟩
theorem exTk : ∀ {rows : List (List AV)}, (∀ r ∈ rows, GdL TKd r) → ∃ l : List Tk, rows = l.map encT
  | [], _ => ⟨[], rfl⟩
  | r :: rows, h => by
    obtain ⟨l, hl⟩ := exTk fun x hx => h x (List.mem_cons_of_mem _ hx)
    have h0 := h r (List.mem_cons_self ..)
    simp only [GdL, GdC] at h0
    obtain ⟨_, _, e, ⟨t0, rfl, _⟩, _, _, rfl, ⟨t1, rfl, _⟩, _, _, rfl, ⟨t2, rfl, _⟩, _, _, rfl, ⟨t3, rfl, _⟩, _, _, rfl, ⟨t4, rfl, _⟩, _, _, rfl, ⟨t5, rfl, _⟩, _, _, rfl, ⟨t6, rfl, _, g6⟩, rfl⟩ := h0
    obtain ⟨P, rfl⟩ := exO g6
    exact ⟨⟨t0, t1, t2, t3, t4, t5, P⟩ :: l, by rw [e, hl]; rfl⟩
theorem exC : ∀ {rows : List (List AV)}, (∀ r ∈ rows, GdL [.int .i64] r) → ∃ l : List Int, rows = ints l
  | [], _ => ⟨[], rfl⟩
  | r :: rows, h => by
    obtain ⟨l, hl⟩ := exC fun x hx => h x (List.mem_cons_of_mem _ hx)
    have h0 := h r (List.mem_cons_self ..)
    simp only [GdL, GdC] at h0
    obtain ⟨_, _, e, ⟨t, rfl, _⟩, rfl⟩ := h0
    exact ⟨t :: l, by rw [e, hl]; rfl⟩

end Go.Ab
