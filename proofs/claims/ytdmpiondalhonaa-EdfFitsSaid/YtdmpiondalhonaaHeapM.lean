/- Heaps in a list, ordered by a time and a number: sifting up and down. Plain lists; no program. -/
namespace HeapM
set_option linter.unusedVariables false
set_option linter.unusedSimpArgs false

structure Evt where
  t : Int
  k : Int
  a : Int
  b : Int
  c : Int
  o : Int
  deriving Inhabited, DecidableEq

def le (x y : Evt) : Prop := x.t < y.t ∨ (x.t = y.t ∧ x.o ≤ y.o)
def lt (x y : Evt) : Bool := if x.t ≠ y.t then decide (x.t < y.t) else decide (x.o < y.o)
theorem lt_true {x y : Evt} (h : lt x y = true) : le x y := by
  unfold lt at h
  split at h
  · simp at h; exact .inl h
  · rename_i he
    simp at h
    exact .inr ⟨by simpa using he, by omega⟩
theorem lt_false {x y : Evt} (h : lt x y = false) : le y x := by
  unfold lt at h
  split at h
  · simp at h; unfold le; omega
  · rename_i he
    simp at h
    exact .inr ⟨by simpa using Eq.symm (by simpa using he), by omega⟩
theorem le_trans {x y z : Evt} (h : le x y) (k : le y z) : le x z := by unfold le at *; omega
theorem le_refl (x : Evt) : le x x := by unfold le; omega

def g (L : List Evt) (a : Nat) : Evt := L.getD a default
def swp (L : List Evt) (i j : Nat) : List Evt := (L.set i (g L j)).set j (g L i)
theorem g_set {L : List Evt} {i : Nat} (h : i < L.length) (x : Evt) (a : Nat) : g (L.set i x) a = if a = i then x else g L a := by
  unfold g
  rw [List.getD_eq_getElem?_getD, List.getD_eq_getElem?_getD, List.getElem?_set]
  by_cases ha : a = i
  · subst ha; simp [h]
  · rw [if_neg (fun e => ha e.symm), if_neg ha]
theorem swp_length (L : List Evt) (i j : Nat) : (swp L i j).length = L.length := by simp [swp]
theorem g_swp {L : List Evt} {i j : Nat} (hi : i < L.length) (hj : j < L.length) (a : Nat) : g (swp L i j) a = if a = j then g L i else if a = i then g L j else g L a := by
  unfold swp
  rw [g_set (by simpa using hj), g_set hi]
theorem g_get {L : List Evt} {i : Nat} (h : i < L.length) : g L i = L[i] := by
  unfold g; rw [List.getD_eq_getElem?_getD, List.getElem?_eq_getElem h]; rfl
theorem swp_perm {L : List Evt} {i j : Nat} (hi : i < L.length) (hj : j < L.length) : (swp L i j).Perm L := by
  unfold swp
  rw [g_get hi, g_get hj]
  exact List.set_set_perm hi hj
/-- The same lists, by their places. -/
theorem ext_g {L M : List Evt} (h : L.length = M.length) (hg : ∀ a, a < L.length → g L a = g M a) : L = M := by
  apply List.ext_getElem h
  intro i h1 h2
  rw [← g_get h1, ← g_get h2]
  exact hg i h1

def HeapN (L : List Evt) (n : Nat) : Prop := ∀ a, 0 < a → a < n → le (g L ((a - 1) / 2)) (g L a)

/-! ### up -/
def UpI (L : List Evt) (n j : Nat) : Prop :=
  (∀ a, 0 < a → a < n → a ≠ j → le (g L ((a - 1) / 2)) (g L a)) ∧
  (0 < j → ∀ a, 0 < a → a < n → (a - 1) / 2 = j → le (g L ((j - 1) / 2)) (g L a))
theorem up_done {L : List Evt} {n j : Nat} (h : UpI L n j) (hj : 0 < j → le (g L ((j - 1) / 2)) (g L j)) : HeapN L n := by
  intro a h0 hn
  by_cases ha : a = j
  · subst ha; exact hj h0
  · exact h.1 a h0 hn ha
theorem up_step {L : List Evt} {n j : Nat} (hn : n ≤ L.length) (hj : j < n) (h0 : 0 < j) (h : UpI L n j) (hl : lt (g L j) (g L ((j - 1) / 2)) = true) : UpI (swp L ((j - 1) / 2) j) n ((j - 1) / 2) := by
  obtain ⟨h1, h2⟩ := h
  have hle := lt_true hl
  generalize hi : (j - 1) / 2 = i at *
  have hij : i < j := by omega
  have G : ∀ a, g (swp L i j) a = if a = j then g L i else if a = i then g L j else g L a := g_swp (by omega) (by omega)
  constructor
  · intro a a0 an ai
    rw [G, G]
    by_cases haj : a = j
    · subst haj
      rw [hi, if_pos rfl, if_neg (by omega), if_pos rfl]
      exact hle
    · rw [if_neg haj, if_neg ai]
      by_cases hpj : (a - 1) / 2 = j
      · rw [if_pos hpj]; exact h2 h0 a a0 an hpj
      · rw [if_neg hpj]
        have h3 := h1 a a0 an haj
        by_cases hpi : (a - 1) / 2 = i
        · rw [if_pos hpi]; rw [hpi] at h3; exact le_trans hle h3
        · rw [if_neg hpi]; exact h3
  · intro i0 a a0 an hai
    rw [G, G]
    have h3 := h1 i i0 (by omega) (by omega)
    rw [if_neg (by omega : ¬ (i - 1) / 2 = j), if_neg (by omega : ¬ (i - 1) / 2 = i)]
    by_cases haj : a = j
    · rw [if_pos haj]; exact h3
    · rw [if_neg haj, if_neg (by omega)]
      have h4 := h1 a a0 an haj
      rw [hai] at h4
      exact le_trans h3 h4

/-- What is put at the end of a heap. -/
theorem up_start {L : List Evt} {n : Nat} (h : HeapN L n) (x : Evt) (hn : n ≤ L.length) (M : List Evt) (hM : ∀ a, a < n → g M a = g L a) : UpI M (n + 1) n := by
  constructor
  · intro a a0 an ha
    rw [hM a (by omega), hM _ (by omega)]
    exact h a a0 (by omega)
  · intro _ a a0 an hp
    omega

/-! ### down -/
def DnI (L : List Evt) (n i : Nat) : Prop :=
  (∀ a, 0 < a → a < n → (a - 1) / 2 ≠ i → le (g L ((a - 1) / 2)) (g L a)) ∧
  (0 < i → ∀ a, 0 < a → a < n → (a - 1) / 2 = i → le (g L ((i - 1) / 2)) (g L a))
theorem dn_done {L : List Evt} {n i : Nat} (h : DnI L n i) (hc : ∀ a, 0 < a → a < n → (a - 1) / 2 = i → le (g L i) (g L a)) : HeapN L n := by
  intro a h0 hn
  by_cases ha : (a - 1) / 2 = i
  · rw [ha]; exact hc a h0 hn ha
  · exact h.1 a h0 hn ha
theorem dn_step {L : List Evt} {n i j : Nat} (hn : n ≤ L.length) (hj : j < n) (h0 : 0 < j) (hp : (j - 1) / 2 = i) (h : DnI L n i) (hl : lt (g L j) (g L i) = true) (hs : ∀ a, 0 < a → a < n → (a - 1) / 2 = i → le (g L j) (g L a)) : DnI (swp L i j) n j := by
  obtain ⟨h1, h2⟩ := h
  have hle := lt_true hl
  have hij : i < j := by omega
  have G : ∀ a, g (swp L i j) a = if a = j then g L i else if a = i then g L j else g L a := g_swp (by omega) (by omega)
  constructor
  · intro a a0 an hpa
    rw [G, G, if_neg hpa]
    by_cases haj : a = j
    · rw [if_pos haj, haj, hp, if_pos rfl]
      exact hle
    · rw [if_neg haj]
      by_cases hai : a = i
      · rw [if_pos hai, if_neg (by omega), hai]
        exact h2 (by omega) j h0 hj hp
      · rw [if_neg hai]
        by_cases hpi : (a - 1) / 2 = i
        · rw [if_pos hpi]; exact hs a a0 an hpi
        · rw [if_neg hpi]; exact h1 a a0 an hpi
  · intro _ a a0 an hpa
    rw [G, G, hp, if_neg (by omega : ¬ i = j), if_pos rfl, if_neg (by omega), if_neg (by omega)]
    have := h1 a a0 an (by omega)
    rwa [hpa] at this

/-- The begin is the least. -/
theorem heap_min {L : List Evt} {n : Nat} (h : HeapN L n) : ∀ a, a < n → le (g L 0) (g L a) := by
  intro a
  induction a using Nat.strongRecOn with
  | _ a ih =>
    intro hn
    rcases Nat.eq_zero_or_pos a with rfl | h0
    · exact le_refl _
    · exact le_trans (ih ((a - 1) / 2) (by omega) (by omega)) (h a h0 hn)

/-- The last one goes to the begin. -/
theorem dn_start {L : List Evt} {n : Nat} (h : HeapN L (n + 1)) (hn : n + 1 ≤ L.length) : DnI (swp L 0 n) n 0 := by
  have G : ∀ a, g (swp L 0 n) a = if a = n then g L 0 else if a = 0 then g L n else g L a := g_swp (by omega) (by omega)
  constructor
  · intro a a0 an hp
    rw [G, G, if_neg (by omega), if_neg hp, if_neg (by omega), if_neg (by omega)]
    exact h a a0 (by omega)
  · intro h0; omega
end HeapM
