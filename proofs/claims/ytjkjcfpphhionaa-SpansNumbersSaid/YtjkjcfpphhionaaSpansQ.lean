/- Spans of ticks, in plain words: how many ticks, the longest, the deepest. -/
import Derived.Test.YtjkjcfpphhionaaSpansP
namespace Go.Ab.Spn
set_option linter.unusedVariables false
set_option linter.unusedSimpArgs false

theorem addS_len (l : List Sp) (s : Sp) : (addS l s).length ≤ l.length + 1 := by
  rcases nil_or_snoc l with rfl | ⟨a, t, rfl⟩
  · simp [addS]
  · rw [addS_snoc]; split <;> simp
theorem stepJ_len (l : List Sp) (s : Sp) : (stepJ l s).length ≤ l.length + 1 := by
  rcases nil_or_snoc l with rfl | ⟨a, t, rfl⟩
  · simp [stepJ]
  · rw [stepJ_snoc]; split <;> simp
theorem joinF_len : ∀ (L out : List Sp), (L.foldl stepJ out).length ≤ out.length + L.length
  | [], out => by simp
  | s :: L, out => by
    rw [List.foldl_cons]
    have h1 := joinF_len L (stepJ out s)
    have h2 := stepJ_len out s
    simp only [List.length_cons]; omega

/-- The ticks of a set, counted. -/
def totF (l : List Sp) : Int := l.foldl (fun n s => n + (s.t - s.f)) 0
def longF : List Sp → Option Sp
  | [] => none
  | s :: l => some (l.foldl (fun b x => if x.t - x.f > b.t - b.f then x else b) s)

/-! ### the deepest -/
theorem depth_split {L : List Sp} (hp : ∀ s ∈ L, s.f < s.t) (x : Int) : depthF L x + L.countP (fun s => decide (s.t ≤ x)) = L.countP (fun s => decide (s.f ≤ x)) := by
  unfold depthF
  induction L with
  | nil => rfl
  | cons s L ih =>
    have h1 := hp s (by simp)
    have ih := ih fun y hy => hp y (by simp [hy])
    simp only [List.countP_cons]
    by_cases a : s.f ≤ x <;> by_cases b : s.t ≤ x <;> by_cases c : x < s.t <;> simp [a, b, c] <;> omega
/-- The greatest depth, and where it is first. -/
def Deep (L : List Sp) (M : Int) (a : Int) : Prop :=
  (L = [] ∧ M = 0 ∧ a = 0) ∨ ((∃ s ∈ L, a = s.f) ∧ M = depthF L a ∧ (∀ s ∈ L, (depthF L s.f : Int) ≤ M) ∧ ∀ s ∈ L, s.f < a → (depthF L s.f : Int) < M)
theorem Deep.eq {L : List Sp} {M a M' a' : Int} (h : Deep L M a) (h' : Deep L M' a') : M = M' ∧ a = a' := by
  rcases h with ⟨rfl, rfl, rfl⟩ | ⟨⟨s, hs, rfl⟩, h1, h2, h3⟩
  · rcases h' with ⟨_, rfl, rfl⟩ | ⟨⟨s, hs, _⟩, _⟩
    · exact ⟨rfl, rfl⟩
    · cases hs
  · rcases h' with ⟨rfl, _⟩ | ⟨⟨s', hs', rfl⟩, k1, k2, k3⟩
    · cases hs
    · have e1 := h2 s' hs'
      have e2 := k2 s hs
      have hM : M = M' := by omega
      refine ⟨hM, ?_⟩
      rcases Int.lt_trichotomy s.f s'.f with hl | he | hg
      · have := k3 s hs hl; omega
      · exact he
      · have := h3 s' hs' hg; omega
theorem countP_perm {L K : List Sp} (h : L.Perm K) (p : Sp → Bool) : L.countP p = K.countP p := h.countP_eq p
theorem depth_perm {L K : List Sp} (h : L.Perm K) (x : Int) : depthF L x = depthF K x := h.countP_eq _
theorem Deep.perm {L K : List Sp} (h : L.Perm K) {M a : Int} (hd : Deep L M a) : Deep K M a := by
  rcases hd with ⟨rfl, h1, h2⟩ | ⟨⟨s, hs, e⟩, h1, h2, h3⟩
  · exact .inl ⟨List.nil_perm.1 h, h1, h2⟩
  · refine .inr ⟨⟨s, h.mem_iff.1 hs, e⟩, by rw [h1, depth_perm h], fun x hx => ?_, fun x hx => ?_⟩
    · rw [← depth_perm h]; exact h2 x (h.mem_iff.2 hx)
    · rw [← depth_perm h]; exact h3 x (h.mem_iff.2 hx)

/-- Going from edge to edge. -/
def deepG (L : List Sp) (e : List Int) (s : Int × Int) : Int × Int := e.foldl (fun s x => if (depthF L x : Int) > s.1 then ((depthF L x : Int), x) else s) s
theorem deepG_inv (L : List Sp) (hp : ∀ s ∈ L, s.f < s.t) : ∀ (e pre : List Int) (M a : Int), (pre ++ e).Pairwise (· < ·) → ((∀ x ∈ pre, (depthF L x : Int) ≤ M) ∧ ((M = 0 ∧ a = 0) ∨ (0 < M ∧ a ∈ pre ∧ M = depthF L a ∧ ∀ x ∈ pre, x < a → (depthF L x : Int) < M))) →
    ∀ M' a', deepG L e (M, a) = (M', a') → (∀ x ∈ pre ++ e, (depthF L x : Int) ≤ M') ∧ ((M' = 0 ∧ a' = 0) ∨ (0 < M' ∧ a' ∈ pre ++ e ∧ M' = depthF L a' ∧ ∀ x ∈ pre ++ e, x < a' → (depthF L x : Int) < M'))
  | [], pre, M, a, hs, h, M', a', he => by
    simp only [deepG, List.foldl_nil, Prod.mk.injEq] at he
    obtain ⟨rfl, rfl⟩ := he
    simpa using h
  | y :: e, pre, M, a, hs, h, M', a', he => by
    have hs2 : ((pre ++ [y]) ++ e).Pairwise (· < ·) := by simpa using hs
    have hlt : ∀ x ∈ pre, x < y := fun x hx => (List.pairwise_append.1 hs).2.2 x hx y (by simp)
    have key : ∀ M1 a1, ((∀ x ∈ pre ++ [y], (depthF L x : Int) ≤ M1) ∧ ((M1 = 0 ∧ a1 = 0) ∨ (0 < M1 ∧ a1 ∈ pre ++ [y] ∧ M1 = depthF L a1 ∧ ∀ x ∈ pre ++ [y], x < a1 → (depthF L x : Int) < M1))) → deepG L e (M1, a1) = (M', a') → (∀ x ∈ pre ++ y :: e, (depthF L x : Int) ≤ M') ∧ ((M' = 0 ∧ a' = 0) ∨ (0 < M' ∧ a' ∈ pre ++ y :: e ∧ M' = depthF L a' ∧ ∀ x ∈ pre ++ y :: e, x < a' → (depthF L x : Int) < M')) := fun M1 a1 h1 h2 => by
      have := deepG_inv L hp e (pre ++ [y]) M1 a1 hs2 h1 M' a' h2
      simpa using this
    have hM : 0 ≤ M := by rcases h.2 with h | h <;> omega
    simp only [deepG, List.foldl_cons] at he
    split at he
    · rename_i hgt
      refine key _ _ ⟨fun x hx => ?_, .inr ⟨by omega, by simp, rfl, fun x hx hxy => ?_⟩⟩ he
      · rcases List.mem_append.1 hx with hx | hx
        · have := h.1 x hx; omega
        · obtain rfl := List.mem_singleton.1 hx; exact Int.le_refl _
      · rcases List.mem_append.1 hx with hx | hx
        · have := h.1 x hx; omega
        · obtain rfl := List.mem_singleton.1 hx; omega
    · rename_i hle
      refine key _ _ ⟨fun x hx => ?_, h.2.imp id fun ⟨k1, k2, k3, k4⟩ => ⟨k1, by simp [k2], k3, fun x hx hxa => ?_⟩⟩ he
      · rcases List.mem_append.1 hx with hx | hx
        · exact h.1 x hx
        · obtain rfl := List.mem_singleton.1 hx; omega
      · rcases List.mem_append.1 hx with hx | hx
        · exact k4 x hx hxa
        · obtain rfl := List.mem_singleton.1 hx
          have := hlt a k2; omega
/-- Every depth is one of a begin's, no later. -/
theorem depth_begin {L : List Sp} (hp : ∀ s ∈ L, s.f < s.t) {x : Int} (h : 0 < depthF L x) : ∃ s ∈ L, s.f ≤ x ∧ depthF L x ≤ depthF L s.f := by
  -- the last begin up to x
  have key : ∀ (K : List Sp), (∃ s ∈ K, s.f ≤ x) → ∃ s ∈ K, s.f ≤ x ∧ ∀ y ∈ K, y.f ≤ x → y.f ≤ s.f := by
    intro K
    induction K with
    | nil => rintro ⟨s, hs, _⟩; cases hs
    | cons k K ih =>
      rintro ⟨s, hs, hx⟩
      by_cases hK : ∃ s ∈ K, s.f ≤ x
      · obtain ⟨m, hm, h1, h2⟩ := ih hK
        by_cases hk : k.f ≤ x ∧ m.f ≤ k.f
        · refine ⟨k, by simp, hk.1, fun y hy hyx => ?_⟩
          rcases List.mem_cons.1 hy with rfl | hy
          · exact Int.le_refl _
          · have := h2 y hy hyx; omega
        · refine ⟨m, by simp [hm], h1, fun y hy hyx => ?_⟩
          rcases List.mem_cons.1 hy with rfl | hy
          · omega
          · exact h2 y hy hyx
      · rcases List.mem_cons.1 hs with rfl | hs
        · refine ⟨s, by simp, hx, fun y hy hyx => ?_⟩
          rcases List.mem_cons.1 hy with rfl | hy
          · exact Int.le_refl _
          · exact absurd ⟨y, hy, hyx⟩ hK
        · exact absurd ⟨s, hs, hx⟩ hK
  obtain ⟨s0, h0, k1, _⟩ := depth_pos.1 h
  obtain ⟨s, hs, h1, h2⟩ := key L ⟨s0, h0, k1⟩
  refine ⟨s, hs, h1, ?_⟩
  unfold depthF
  refine List.countP_mono_left fun y hy hyx => ?_
  simp only [Bool.and_eq_true, decide_eq_true_eq] at hyx ⊢
  have := h2 y hy hyx.1
  omega
theorem deepG_deep {L : List Sp} (hp : ∀ s ∈ L, s.f < s.t) {e : List Int} (he : e.Pairwise (· < ·)) (hm : ∀ s ∈ L, s.f ∈ e) : Deep L (deepG L e (0, 0)).1 (deepG L e (0, 0)).2 := by
  obtain ⟨M, a, hv⟩ : ∃ M a, deepG L e (0, 0) = (M, a) := ⟨_, _, rfl⟩
  rw [hv]
  obtain ⟨h1, h2⟩ := deepG_inv L hp e [] 0 0 (by simpa using he) ⟨fun x hx => by (cases hx), .inl ⟨rfl, rfl⟩⟩ M a hv
  simp only [List.nil_append] at h1 h2 ⊢
  cases L with
  | nil =>
    rcases h2 with ⟨h2, h3⟩ | ⟨h2, _, h3, _⟩
    · exact .inl ⟨rfl, h2, h3⟩
    · simp [depthF] at h3; omega
  | cons s0 L =>
    have hd0 : 0 < depthF (s0 :: L) s0.f := depth_pos.2 ⟨s0, by simp, Int.le_refl _, hp s0 (by simp)⟩
    have hM0 := h1 s0.f (hm s0 (by simp))
    rcases h2 with ⟨h2, h3⟩ | ⟨h2, ha, h3, h4⟩
    · omega
    · obtain ⟨s, hs, k1, k2⟩ := depth_begin hp (x := a) (by omega)
      have es : s.f = a := by
        rcases Int.lt_or_le s.f a with hl | hl
        · have := h4 s.f (hm s hs) hl; omega
        · omega
      exact .inr ⟨⟨s, hs, es.symm⟩, h3, fun x hx => h1 _ (hm x hx), fun x hx hxa => h4 _ (hm x hx) hxa⟩

/-- Up to the last of its group, a begin counts what begins ahead. -/
theorem sorted_count : ∀ {S : List Sp}, S.Pairwise (fun a b => a.f ≤ b.f) → ∀ {i : Nat} (h : i < S.length), i + 1 ≤ S.countP (fun s => decide (s.f ≤ S[i].f)) := by
  intro S hs i h
  have h1 : (S.take (i + 1)).countP (fun s => decide (s.f ≤ S[i].f)) = i + 1 := by
    rw [List.countP_eq_length.2]
    · rw [List.length_take]; omega
    · intro x hx
      obtain ⟨j, hj, rfl⟩ := List.getElem_of_mem hx
      rw [List.length_take] at hj
      rw [List.getElem_take]
      simp only [decide_eq_true_eq]
      rcases Nat.lt_or_ge j i with hji | hji
      · exact List.pairwise_iff_getElem.1 hs j i (by omega) h hji
      · have : j = i := by omega
        subst this; exact Int.le_refl _
  have h2 := List.take_append_drop (i + 1) S
  have h3 := congrArg (List.countP (fun s => decide (s.f ≤ S[i].f))) h2
  rw [List.countP_append] at h3
  omega
/-- .. and the last of its group counts just these. -/
theorem sorted_last {S : List Sp} (hs : S.Pairwise (fun a b => a.f ≤ b.f)) {i : Nat} (h : i < S.length) : ∃ (j : Nat) (hj : j < S.length), i ≤ j ∧ S[j].f = S[i].f ∧ j + 1 = S.countP (fun s => decide (s.f ≤ S[i].f)) ∧ ∀ (k : Nat) (hk : k < S.length), S[k].f ≤ S[i].f → k ≤ j := by
  obtain ⟨c, hc⟩ : ∃ c, c = S.countP (fun s => decide (s.f ≤ S[i].f)) := ⟨_, rfl⟩
  have hle := sorted_count hs h
  have hcl : c ≤ S.length := by rw [hc]; exact List.countP_le_length
  have hmono : ∀ (a b : Nat) (ha : a < S.length) (hb : b < S.length), a ≤ b → S[a].f ≤ S[b].f := fun a b ha hb hab => by
    rcases Nat.eq_or_lt_of_le hab with rfl | hlt
    · exact Int.le_refl _
    · exact List.pairwise_iff_getElem.1 hs a b ha hb hlt
  -- all of the first c are at most S[i].f
  have hall : ∀ (k : Nat) (hk : k < S.length), k < c ↔ S[k].f ≤ S[i].f := by
    have key : ∀ (k : Nat) (hk : k < S.length), S[k].f ≤ S[i].f → k + 1 ≤ c := fun k hk hle => by
      have h1 := sorted_count hs hk
      have h2 : S.countP (fun s => decide (s.f ≤ S[k].f)) ≤ S.countP (fun s => decide (s.f ≤ S[i].f)) := List.countP_mono_left fun x _ hx => by
        simp only [decide_eq_true_eq] at hx ⊢; omega
      omega
    intro k hk
    constructor
    · intro hkc
      rcases Int.lt_or_le (S[i].f) (S[k].f) with hgt | hle'
      · exfalso
        have h1 : (S.drop k).countP (fun s => decide (s.f ≤ S[i].f)) = 0 := by
          rw [List.countP_eq_zero]
          intro x hx
          obtain ⟨j, hj, rfl⟩ := List.getElem_of_mem hx
          rw [List.length_drop] at hj
          rw [List.getElem_drop]
          have := hmono k (k + j) hk (by omega) (by omega)
          simp only [decide_eq_true_eq]; omega
        have h3 := congrArg (List.countP (fun s => decide (s.f ≤ S[i].f))) (List.take_append_drop k S)
        rw [List.countP_append, h1] at h3
        have h4 : (S.take k).countP (fun s => decide (s.f ≤ S[i].f)) ≤ k := Nat.le_trans List.countP_le_length (by rw [List.length_take]; omega)
        omega
      · exact hle'
    · intro h; have := key k hk h; omega
  have hj : c - 1 < S.length := by omega
  refine ⟨c - 1, hj, by omega, ?_, by omega, fun k hk hkf => ?_⟩
  · have h1 := (hall (c - 1) hj).1 (by omega)
    have h2 := hmono i (c - 1) h hj (by omega)
    omega
  · have := (hall k hk).2 hkf; omega

/-- What the sweep comes to. -/
def nAt (S : List Sp) (i : Nat) : Int := (i : Int) + 1 - S.countP (fun s => decide (s.t ≤ (S.getD i ⟨0, 0⟩).f))
def First (S : List Sp) (k : Nat) (M a : Int) : Prop :=
  (∀ i, i < k → nAt S i ≤ M) ∧ ((k = 0 ∧ M = 0 ∧ a = 0) ∨ ∃ j, j < k ∧ M = nAt S j ∧ a = (S.getD j ⟨0, 0⟩).f ∧ ∀ i, i < j → nAt S i < M)
theorem nAt_pos {S : List Sp} (hs : S.Pairwise (fun a b => a.f ≤ b.f)) (hp : ∀ s ∈ S, s.f < s.t) {i : Nat} (h : i < S.length) : 0 < nAt S i ∧ nAt S i ≤ depthF S (S.getD i ⟨0, 0⟩).f := by
  have e : S.getD i ⟨0, 0⟩ = S[i] := by simp [List.getD_eq_getElem?_getD, h]
  unfold nAt
  rw [e]
  have h1 := depth_split hp S[i].f
  have h2 := sorted_count hs h
  refine ⟨?_, by omega⟩
  -- those that have ended began ahead of i, and are not i
  have h3 : S.countP (fun s => decide (s.t ≤ S[i].f)) ≤ i := by
    have h4 : (S.drop i).countP (fun s => decide (s.t ≤ S[i].f)) = 0 := by
      rw [List.countP_eq_zero]
      intro x hx
      obtain ⟨j, hj, rfl⟩ := List.getElem_of_mem hx
      rw [List.length_drop] at hj
      rw [List.getElem_drop]
      have k1 := hp _ (List.getElem_mem (l := S) (show i + j < S.length by omega))
      have k2 : S[i].f ≤ S[i + j].f := by
        rcases Nat.eq_or_lt_of_le (Nat.le_add_right i j) with he | hlt
        · have : j = 0 := by omega
          subst this; exact Int.le_refl _
        · exact List.pairwise_iff_getElem.1 hs i (i + j) h (by omega) hlt
      simp only [decide_eq_true_eq]; omega
    have h3 := congrArg (List.countP (fun s => decide (s.t ≤ S[i].f))) (List.take_append_drop i S)
    rw [List.countP_append, h4] at h3
    have h5 : (S.take i).countP (fun s => decide (s.t ≤ S[i].f)) ≤ i := Nat.le_trans List.countP_le_length (by rw [List.length_take]; omega)
    omega
  omega
theorem First.deep {S : List Sp} (hs : S.Pairwise (fun a b => a.f ≤ b.f)) (hp : ∀ s ∈ S, s.f < s.t) {M a : Int} (h : First S S.length M a) : Deep S M a := by
  obtain ⟨h1, h2⟩ := h
  rcases h2 with ⟨h0, rfl, rfl⟩ | ⟨j, hj, rfl, rfl, h3⟩
  · exact .inl ⟨List.eq_nil_of_length_eq_zero h0, rfl, rfl⟩
  · have eD : ∀ i (h : i < S.length), S.getD i ⟨0, 0⟩ = S[i] := fun i h => by simp [List.getD_eq_getElem?_getD, h]
    have full : ∀ i (h : i < S.length), ∃ (l : Nat) (hl : l < S.length), i ≤ l ∧ (depthF S S[i].f : Int) = nAt S l ∧ S[l].f = S[i].f := fun i h => by
      obtain ⟨l, hl, k1, k2, k3, k4⟩ := sorted_last hs h
      refine ⟨l, hl, k1, ?_, k2⟩
      unfold nAt
      rw [eD l hl, k2]
      have := depth_split hp S[i].f
      omega
    have hb := (nAt_pos hs hp hj).2
    obtain ⟨l, hl, k1, k2, _⟩ := full j hj
    have hM := h1 l hl
    rw [eD j hj] at hb
    refine .inr ⟨⟨S[j], List.getElem_mem hj, by rw [eD j hj]⟩, by rw [eD j hj]; omega, fun s hs' => ?_, fun s hs' hlt => ?_⟩
    · obtain ⟨i, hi, rfl⟩ := List.getElem_of_mem hs'
      obtain ⟨l, hl, k1, k2, _⟩ := full i hi
      rw [k2]; exact h1 l hl
    · obtain ⟨i, hi, rfl⟩ := List.getElem_of_mem hs'
      obtain ⟨l, hl, k1, k2, k4⟩ := full i hi
      rw [k2]
      rw [eD j hj] at hlt
      refine h3 l ?_
      rcases Nat.lt_or_ge l j with hlj | hlj
      · exact hlj
      · exfalso
        have h4 : S[j].f ≤ S[l].f := by
          rcases Nat.eq_or_lt_of_le hlj with rfl | hlt'
          · exact Int.le_refl _
          · exact List.pairwise_iff_getElem.1 hs j l hj hl hlt'
        omega
end Go.Ab.Spn
