/- SectionTells: slices.Sort, slices.Compact. For every input. -/
import Derived.Test.YtnbaldclpeoopaaTellsB
import Derived.Test.YtnbaldclpeoopaaTellsSo
import Derived.Test.YtnbaldclpeoopaaAbSo
namespace Go.Ab
open Go Go.Proofs
set_option linter.unusedVariables false
set_option linter.unusedSimpArgs false
set_option maxRecDepth 100000
set_option maxHeartbeats 1000000

theorem sortC : SortC Try.prog 38 := ⟨⟨Try.f38, Try.func38, by kernel_rfl, by kernel_rfl⟩, fun p cap w => Any.slices_Sort_int_none Try.lays189 p cap w, fun blk off cap zs w hH hb hl => Any.slices_Sort_int Try.lays189 blk off cap zs w hH hb hl⟩
theorem Sort_E (L : List Int) (hL : L.length < 4611686018427387904) : EC Try.prog G38a [ints L] [] fun x rs vs => x = 0 ∧ rs = [ints (sortI L)] ∧ vs = [] := sort_E sortC L hL
theorem sortI_le (L : List Int) : (sortI L).Pairwise (· ≤ ·) := by
  have := List.pairwise_mergeSort (le := fun x y : Int => decide (x ≤ y)) (fun a b c h1 h2 => by simp at *; omega) (fun a b => by simp; omega) L
  exact this.imp fun h => by simpa using h
theorem sortI_mem (L : List Int) (v : Int) : v ∈ sortI L ↔ v ∈ L := List.mem_mergeSort
theorem sortI_len (L : List Int) : (sortI L).length = L.length := List.length_mergeSort L

theorem uniqI : ∀ {A B : List Int}, A.Pairwise (· < ·) → B.Pairwise (· < ·) → (∀ v, v ∈ A ↔ v ∈ B) → A = B
  | [], [], _, _, _ => rfl
  | [], b :: B, _, _, h => by have := (h b).2 (List.mem_cons_self ..); simp at this
  | a :: A, [], _, _, h => by have := (h a).1 (List.mem_cons_self ..); simp at this
  | a :: A, b :: B, hA, hB, h => by
    rw [List.pairwise_cons] at hA hB
    have hab : a = b := by
      rcases List.mem_cons.1 ((h a).1 (List.mem_cons_self ..)) with e | e
      · exact e
      · rcases List.mem_cons.1 ((h b).2 (List.mem_cons_self ..)) with e2 | e2
        · exact e2.symm
        · have := hB.1 a e; have := hA.1 b e2; omega
    subst hab
    rw [uniqI hA.2 hB.2 fun v => ⟨fun hv => ?_, fun hv => ?_⟩]
    · rcases List.mem_cons.1 ((h v).1 (List.mem_cons_of_mem _ hv)) with e | e
      · have := hA.1 v hv; omega
      · exact e
    · rcases List.mem_cons.1 ((h v).2 (List.mem_cons_of_mem _ hv)) with e | e
      · have := hB.1 v hv; omega
      · exact e

theorem take_ext {L N : List Int} {m : Nat} (hs : L.Pairwise (· ≤ ·)) (hN : N.Pairwise (· < ·)) (hm : ∀ v, v ∈ N ↔ v ∈ L.take m) (h1 : 1 ≤ m) (h2 : m < L.length) :
    (L.getD m 0 ≠ L.getD (m - 1) 0 → (N ++ [L.getD m 0]).Pairwise (· < ·) ∧ ∀ v, v ∈ N ++ [L.getD m 0] ↔ v ∈ L.take (m + 1)) ∧ (L.getD m 0 = L.getD (m - 1) 0 → ∀ v, v ∈ N ↔ v ∈ L.take (m + 1)) := by
  have hs := List.pairwise_iff_getElem.1 hs
  have e : L.take (m + 1) = L.take m ++ [L.getD m 0] := by
    rw [List.getD_eq_getElem?_getD, List.getElem?_eq_getElem h2, List.take_add_one, List.getElem?_eq_getElem h2]; rfl
  have g : ∀ i (h : i < L.length), L.getD i 0 = L[i] := fun i h => by rw [List.getD_eq_getElem?_getD, List.getElem?_eq_getElem h]; rfl
  rw [e]
  refine ⟨fun hne => ⟨List.pairwise_append.2 ⟨hN, List.pairwise_singleton _ _, fun a ha b hb => ?_⟩, fun v => ?_⟩, fun heq v => ?_⟩
  · obtain rfl := List.mem_singleton.1 hb
    obtain ⟨i, hi, rfl⟩ := List.mem_take_iff_getElem.1 ((hm a).1 ha)
    have hi' : i < m := by omega
    rw [g m h2, g (m - 1) (by omega)] at hne
    rw [g m h2]
    have a1 : L[i] ≤ L[m - 1] := by
      rcases Nat.eq_or_lt_of_le (show i ≤ m - 1 by omega) with e | e
      · subst e; exact Int.le_refl _
      · exact hs i (m - 1) _ _ e
    have a2 := hs (m - 1) m (by omega) h2 (by omega)
    omega
  · rw [List.mem_append, List.mem_append, hm]
  · rw [hm, List.mem_append]
    refine ⟨.inl, fun h => h.elim id fun h => ?_⟩
    obtain rfl := List.mem_singleton.1 h
    rw [heq, g (m - 1) (by omega)]
    exact List.mem_take_iff_getElem.2 ⟨m - 1, by omega, rfl⟩

theorem ints_set (M : List Int) (k : Nat) (x : Int) : (ints M).set k [.int .i64 x] = ints (M.set k x) := by simp [ints, List.map_set]

theorem Compact_E (L : List Int) (hs : L.Pairwise (· ≤ ·)) (hl : L.length ≤ 100000) : EC Try.prog G39a [ints L] [] fun x rs vs => x = 0 ∧ ∃ (M : List Int) (n : Nat), rs = [ints M] ∧ vs = [.n n] ∧ n ≤ M.length ∧ (M.take n).Pairwise (· < ·) ∧ ∀ v, v ∈ M.take n ↔ v ∈ L := by
  refine E39a fun _ EV V => ?_
  have p33 : ∀ (d k k0 k2 : Nat) (M : List Int), L.length - (k0 + k2) < d → M.length = L.length → 1 ≤ k0 → k0 ≤ k → k + 1 ≤ k0 + k2 → k0 + k2 ≤ L.length → 1 ≤ k2 → (∀ j, k ≤ j → M.getD j 0 = L.getD j 0) → (M.take k).Pairwise (· < ·) → (∀ v, v ∈ M.take k ↔ v ∈ L.take (k0 + k2)) → EV 33 [ints M] [.i k, .n k0, .n (L.length - k0), .i k2] := by
    intro d
    induction d with
    | zero => intro k k0 k2 M hd; omega
    | succ d ih =>
      intro k k0 k2 M hd hM h1 h2 h3 h4 h5 hrest hp hm
      have e1 : IntKind.wrap .i64 ((k2 : Int) - 1) = ((k2 - 1 : Nat) : Int) := by rw [wrap64 (by omega) (by omega)]; omega
      have e2 : IntKind.wrap .i64 ((k2 : Int) + 1) = ((k2 + 1 : Nat) : Int) := by rw [wrap64 (by omega) (by omega)]; omega
      have e3 : IntKind.wrap .i64 ((k : Int) + 1) = ((k + 1 : Nat) : Int) := by rw [wrap64 (by omega) (by omega)]; omega
      refine V.p33 fun _ => ?_
      rw [e1, e2, e3]
      simp only [Int.toNat_natCast, ints_length, hM]
      refine ⟨fun hlt => ?_, fun hge => ?_⟩
      · have hk : k0 + k2 < L.length := by omega
        have hx := take_ext hs hp hm (by omega) hk
        have c1 : cIS (ints M) (k0 + k2) 0 = L.getD (k0 + k2) 0 := by rw [ints_cI, hrest _ (by omega)]
        have c2 : cIS (ints M) (k0 + (k2 - 1)) 0 = L.getD (k0 + k2 - 1) 0 := by rw [ints_cI, hrest _ (by omega), Nat.add_sub_assoc h5]
        rw [← c1, ← c2] at hx
        refine ⟨by omega, by omega, ints_get (by omega), by omega, by omega, ints_get (by omega), fun hne => ⟨by omega, by omega, ints_get (by omega), by omega, by omega, ints_get (by omega), ?_⟩, fun heq => ?_⟩
        · obtain ⟨q1, q2⟩ := hx.1 hne
          rw [ints_set]
          have et : (M.set k (cIS (ints M) (k0 + k2) 0)).take (k + 1) = M.take k ++ [cIS (ints M) (k0 + k2) 0] := by
            rw [List.set_eq_take_append_cons_drop, if_pos (by omega), List.take_append, List.take_of_length_le (by simp; omega)]
            congr 1
            rw [List.length_take, show k + 1 - min k M.length = 1 by omega]; rfl
          exact ih (k + 1) k0 (k2 + 1) _ (by omega) (by simpa using hM) h1 (by omega) (by omega) (by omega) (by omega) (fun j hj => by
            rw [List.getD_eq_getElem?_getD, List.getElem?_set_ne (by omega), ← List.getD_eq_getElem?_getD]; exact hrest j (by omega)) (by rw [et]; exact q1) (by rw [et]; exact q2)
        · exact ih k k0 (k2 + 1) M (by omega) hM h1 h2 (by omega) (by omega) (by omega) hrest hp (hx.2 heq)
      · have hk : k0 + k2 = L.length := by omega
        have er : rappS (ints M) k (List.replicate (L.length - k) [.int .i64 0]) = ints (M.take k ++ List.replicate (L.length - k) 0 ++ M.drop (k + (L.length - k))) := by
          simp [rappS, ints, List.map_take, List.map_drop]
        rw [er]
        refine ⟨by omega, by omega, by omega, by simp; omega, trivial, _, _, rfl, rfl, by simp; omega, ?_⟩
        have et : (M.take k ++ List.replicate (L.length - k) 0 ++ M.drop (k + (L.length - k))).take k = M.take k := by
          rw [List.append_assoc, List.take_append, List.take_of_length_le (by simp; omega), List.length_take, show k - min k M.length = 0 by omega]; simp
        rw [et]
        refine ⟨hp, fun v => ?_⟩
        rw [hm, hk, List.take_length]
  have p15 : ∀ (d t : Nat), L.length - t < d → 1 ≤ t → t ≤ L.length → (L.take t).Pairwise (· < ·) → EV 15 [ints L] [.i t] := by
    intro d
    induction d with
    | zero => intro t hd; omega
    | succ d ih =>
      intro t hd h1 h2 hp
      have e1 : IntKind.wrap .i64 ((t : Int) - 1) = ((t - 1 : Nat) : Int) := by rw [wrap64 (by omega) (by omega)]; omega
      have e3 : IntKind.wrap .i64 ((t : Int) + 1) = ((t + 1 : Nat) : Int) := by rw [wrap64 (by omega) (by omega)]; omega
      refine V.p15 fun _ => ?_
      rw [e1, e3]
      simp only [Int.toNat_natCast, ints_length]
      refine ⟨fun hlt => ?_, fun hge => ?_⟩
      · have ht : t < L.length := by omega
        have hx := take_ext hs hp (fun v => Iff.rfl) h1 ht
        have c1 : cIS (ints L) t 0 = L.getD t 0 := ints_cI ..
        have c2 : cIS (ints L) (t - 1) 0 = L.getD (t - 1) 0 := ints_cI ..
        rw [← c1, ← c2] at hx
        refine ⟨by omega, by omega, ints_get ht, by omega, by omega, ints_get (by omega), fun heq => ⟨by omega, by omega, ?_⟩, fun hne => ?_⟩
        · exact p33 _ t t 1 L (Nat.lt_succ_self _) rfl h1 (Nat.le_refl _) (by omega) (by omega) (by omega) (fun _ _ => rfl) hp (hx.2 heq)
        · refine ih (t + 1) (by omega) (by omega) (by omega) ?_
          have e : L.take (t + 1) = L.take t ++ [cIS (ints L) t 0] := by
            rw [c1, List.getD_eq_getElem?_getD, List.getElem?_eq_getElem ht, List.take_add_one, List.getElem?_eq_getElem ht]; rfl
          rw [e]; exact (hx.1 hne).1
      · obtain rfl : t = L.length := by omega
        rw [List.take_length] at hp
        exact ⟨trivial, L, _, rfl, rfl, Nat.le_refl _, by rw [List.take_length]; exact hp, fun v => by rw [List.take_length]⟩
  rw [ints_length]
  refine ⟨fun h => ?_, fun h => p15 _ 1 (Nat.lt_succ_self _) (by omega) (by omega) ?_⟩
  · refine ⟨rfl, L, _, rfl, rfl, Nat.le_refl _, ?_, fun v => by rw [List.take_length]⟩
    rw [List.take_length]
    match L, h with
    | [], _ => exact List.Pairwise.nil
    | [x], _ => exact List.pairwise_singleton _ _
    | _ :: _ :: _, h => exact absurd h (by simp; omega)
  · match L, h with
    | x :: _ :: _, _ => exact List.pairwise_singleton _ _
    | [], h => exact absurd h (by simp)
    | [x], h => exact absurd h (by simp)

section
variable {c0 c1 c2 c3 c5 : Int} {c4 c6 c9 : List (List AV)} {C : List Int} {T : List Tk}
/-- What a program reaches. -/
def InR (C : List Int) (th : Int) (P : List Op3) (n : Nat) (v : Int) : Prop := th < v ∧ ∃ k, k < n ∧ (v = levAt C th P k ∨ v = levAt C th P (k + 1))
theorem Reach_E (hC : C.length ≤ 20) (hP : ∀ t ∈ T, t.pg.length ≤ 100) (a : Int) : EC Try.prog G18 [] [.i c0, .i c1, .i c2, .i c3, .r c4, .i c5, .r c6, .r (ints C), .r (T.map encT), .r c9, .i a] fun x rs vs => x = 0 ∧ ∃ (M : List Int) (n : Nat), rs = [ints M] ∧ vs = [.n n] ∧ n ≤ M.length ∧ (M.take n).Pairwise (· < ·) ∧ ∀ v, v ∈ M.take n ↔ (0 ≤ a ∧ a < T.length) ∧ InR C (tk T a.toNat).th (tk T a.toNat).pg (tk T a.toNat).pg.length v := by
  refine E18 fun EV V => (Levels_E hC hP a).mono ?_
  rintro _ _ _ ⟨rfl, rfl, rfl⟩
  refine ⟨rfl, _, rfl, rfl, ?_⟩
  have fin : ∀ (R1 : List (List AV)) (N : Nat) (A : List Int), A.length ≤ 1000 → (∀ v, v ∈ A ↔ (0 ≤ a ∧ a < T.length) ∧ InR C (tk T a.toNat).th (tk T a.toNat).pg (tk T a.toNat).pg.length v) → EC Try.prog G38a [ints A] [] (fun x rs vs => x = 0 ∧ ∃ Y1_0, rs = [Y1_0] ∧ vs = [] ∧ (ints A).length = Y1_0.length ∧ EC Try.prog G39a [Y1_0] [] (fun x rs vs => x = 0 ∧ ∃ (Y2_0 : List (List AV)) (y2_0 : Nat), rs = [Y2_0] ∧ vs = [.n y2_0] ∧ (0 = 0 ∧ ∃ (M : List Int) (n : Nat), [Y2_0] = [ints M] ∧ [Lf.n y2_0] = [.n n] ∧ n ≤ M.length ∧ (M.take n).Pairwise (· < ·) ∧ ∀ v, v ∈ M.take n ↔ (0 ≤ a ∧ a < T.length) ∧ InR C (tk T a.toNat).th (tk T a.toNat).pg (tk T a.toNat).pg.length v))) := by
    intro R1 N A hA hm
    refine (Sort_E A (by omega)).mono ?_
    rintro _ _ _ ⟨rfl, rfl, rfl⟩
    refine ⟨rfl, _, rfl, rfl, by simp [sortI_len], (Compact_E _ (sortI_le A) (by rw [sortI_len]; omega)).mono ?_⟩
    rintro _ _ _ ⟨rfl, M, n, rfl, rfl, q1, q2, q3⟩
    exact ⟨rfl, _, _, rfl, rfl, rfl, M, n, rfl, rfl, q1, q2, fun v => by rw [q3, sortI_mem, hm]⟩
  by_cases ha : 0 ≤ a ∧ a < T.length
  · rw [if_pos ha]
    have hat : a.toNat < T.length := by omega
    have hpl : (tk T a.toNat).pg.length ≤ 100 := hP _ (by rw [tk_lt hat]; exact List.getElem_mem hat)
    have p9 : ∀ (d m : Nat) (A : List Int), (tk T a.toNat).pg.length - m < d → m ≤ (tk T a.toNat).pg.length → A.length ≤ 2 * m → (∀ v, v ∈ A ↔ InR C (tk T a.toNat).th (tk T a.toNat).pg m v) → EV 9 [ints A, (pairs C (tk T a.toNat).th (tk T a.toNat).pg (tk T a.toNat).pg.length).map encP] [.i a, .i (tk T a.toNat).pg.length, .i m, .i c0, .i c1, .i c2, .i c3, .r c4, .i c5, .r c6, .r (ints C), .r (T.map encT), .r c9] := by
      intro d
      induction d with
      | zero => intro m A hd; omega
      | succ d ih =>
        intro m A hd hm hA hmem
        refine V.p9 fun _ _ => ⟨fun hlt => ?_, fun hge => ?_⟩
        · have hmP : m < (tk T a.toNat).pg.length := by omega
          obtain ⟨g0, g1, g2⟩ := pairs_get (C := C) (base := (tk T a.toNat).th) (P := (tk T a.toNat).pg) hmP
          rw [Int.toNat_natCast]
          refine ⟨by omega, by simp [pairs]; omega, g0, ?_⟩
          rw [g1, g2]
          have evm : IntKind.wrap .i64 ((m : Int) + 1) = ((m + 1 : Nat) : Int) := by rw [wrap64 (by omega) (by omega)]; rfl
          have p23 : ∀ (d j : Nat) (B : List Int), 2 - j < d → j ≤ 2 → B.length ≤ 2 * m + j → (∀ v, v ∈ B ↔ InR C (tk T a.toNat).th (tk T a.toNat).pg m v ∨ ((tk T a.toNat).th < v ∧ ∃ i, i < j ∧ v = [levAt C (tk T a.toNat).th (tk T a.toNat).pg m, levAt C (tk T a.toNat).th (tk T a.toNat).pg (m + 1)].getD i 0)) → EV 23 [ints B, (pairs C (tk T a.toNat).th (tk T a.toNat).pg (tk T a.toNat).pg.length).map encP] [.i a, .i (tk T a.toNat).pg.length, .i m, .r (ints [levAt C (tk T a.toNat).th (tk T a.toNat).pg m, levAt C (tk T a.toNat).th (tk T a.toNat).pg (m + 1)]), .i 2, .i j, .i c0, .i c1, .i c2, .i c3, .r c4, .i c5, .r c6, .r (ints C), .r (T.map encT), .r c9] := by
            intro d
            induction d with
            | zero => intro j B hd; omega
            | succ d ihj =>
              intro j B hd hj hB hBm
              have evj : IntKind.wrap .i64 ((j : Int) + 1) = ((j + 1 : Nat) : Int) := by rw [wrap64 (by omega) (by omega)]; rfl
              refine V.p23 fun _ _ => ⟨fun hlt => ?_, fun hge => ?_⟩
              · rw [Int.toNat_natCast, evj, tk1]
                refine ⟨by omega, ints_get (by simp; omega), ha.1, (by have h := tk_get hat; rw [tk1] at h; exact h), fun hgt => ⟨by rw [ints_length]; omega, by rw [ints_length]; omega, ?_⟩, fun hle => ?_⟩
                · rw [ints_append]
                  refine ihj (j + 1) _ (by omega) (by omega) (by simp; omega) fun v => ?_
                  rw [List.mem_append, hBm, List.mem_singleton]
                  rw [ints_cI] at hgt ⊢
                  constructor
                  · rintro ((h | ⟨h, i, hi, e⟩) | h)
                    · exact .inl h
                    · exact .inr ⟨h, i, by omega, e⟩
                    · exact .inr ⟨by omega, j, by omega, h⟩
                  · rintro (h | ⟨h, i, hi, e⟩)
                    · exact .inl (.inl h)
                    · by_cases hij : i = j
                      · subst hij; exact .inr e
                      · exact .inl (.inr ⟨h, i, by omega, e⟩)
                · refine ihj (j + 1) _ (by omega) (by omega) (by omega) fun v => ?_
                  rw [hBm]
                  rw [ints_cI] at hle
                  constructor
                  · rintro (h | ⟨h, i, hi, e⟩)
                    · exact .inl h
                    · exact .inr ⟨h, i, by omega, e⟩
                  · rintro (h | ⟨h, i, hi, e⟩)
                    · exact .inl h
                    · by_cases hij : i = j
                      · subst hij; omega
                      · exact .inr ⟨h, i, by omega, e⟩
              · rw [evm]
                refine ih (m + 1) B (by omega) (by omega) (by omega) fun v => ?_
                rw [hBm]
                obtain rfl : j = 2 := by omega
                unfold InR
                constructor
                · rintro (⟨h, k, hk, e⟩ | ⟨h, i, hi, e⟩)
                  · exact ⟨h, k, by omega, e⟩
                  · refine ⟨h, m, by omega, ?_⟩
                    match i, hi with
                    | 0, _ => exact .inl e
                    | 1, _ => exact .inr e
                · rintro ⟨h, k, hk, e⟩
                  by_cases hkm : k = m
                  · subst hkm
                    rcases e with e | e
                    · exact .inr ⟨h, 0, by omega, e⟩
                    · exact .inr ⟨h, 1, by omega, e⟩
                  · exact .inl ⟨h, k, by omega, e⟩
          exact p23 _ 0 A (Nat.lt_succ_self _) (by omega) (by omega) fun v => by
            rw [hmem]
            exact ⟨.inl, fun h => h.elim id fun ⟨_, i, hi, _⟩ => by omega⟩
        · obtain rfl : m = (tk T a.toNat).pg.length := by omega
          exact fin [] 0 A (by omega) fun v => by rw [hmem]; exact ⟨fun h => ⟨ha, h⟩, fun h => h.2⟩
    have e : (((pairs C (tk T a.toNat).th (tk T a.toNat).pg (tk T a.toNat).pg.length).map encP).length : Nat) = (tk T a.toNat).pg.length := by simp [pairs]
    rw [e]
    exact p9 _ 0 [] (Nat.lt_succ_self _) (by omega) (by simp) fun v => ⟨fun h => by simp at h, fun ⟨_, k, hk, _⟩ => by omega⟩
  · rw [if_neg ha]
    refine V.p9 fun _ _ => ⟨fun hlt => absurd hlt (by simp), fun hge => ?_⟩
    exact fin [] 0 [] (by simp) fun v => ⟨fun h => by simp at h, fun h => absurd h.1 ha⟩
end
end Go.Ab
