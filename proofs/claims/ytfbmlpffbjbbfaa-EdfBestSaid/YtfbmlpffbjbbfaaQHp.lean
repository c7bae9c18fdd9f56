
namespace HeapM
set_option linter.unusedVariables false
set_option linter.unusedSimpArgs false
structure Evt where
 t : Int
 k : Int
 a : Int
 b : Int
 c : Int
 o : Int
 deriving Inhabited, DecidableEq
def le (x y : Evt) : Prop := x.t < y.t ∨ (x.t = y.t ∧ x.o ≤ y.o)
def lt (x y : Evt) : Bool := if x.t ≠ y.t then decide (x.t < y.t) else decide (x.o < y.o)
theorem lt_true {x y : Evt} (h : lt x y = true) : le x y := by
 unfold lt at h
 split at h
 ·simp at h; exact .inl h
 ·rename_i he
  simp at h
  exact .inr ⟨by simpa using he, by omega⟩
theorem lt_false {x y : Evt} (h : lt x y = false) : le y x := by
 unfold lt at h
 split at h
 ·simp at h; unfold le; omega
 ·rename_i he
  simp at h
  exact .inr ⟨by simpa using Eq.symm (by simpa using he), by omega⟩
theorem le_trans {x y z : Evt} (h : le x y) (k : le y z) : le x z := by unfold le at *; omega
theorem le_refl (x : Evt) : le x x := by unfold le; omega
def g (L : List Evt) (a : Nat) : Evt := L.getD a default
def swp (L : List Evt) (i j : Nat) : List Evt := (L.set i (g L j)).set j (g L i)
theorem g_set {L : List Evt} {i : Nat} (h : i < L.length) (x : Evt) (a : Nat) : g (L.set i x) a = if a = i then x else g L a := by
 unfold g
 rw [List.getD_eq_getElem?_getD, List.getD_eq_getElem?_getD, List.getElem?_set]
 by_cases ha : a = i
 ·subst ha; simp [h]
 ·rw [if_neg (fun e => ha e.symm), if_neg ha]
theorem swp_length (L : List Evt) (i j : Nat) : (swp L i j).length = L.length := by simp [swp]
theorem g_swp {L : List Evt} {i j : Nat} (hi : i < L.length) (hj : j < L.length) (a : Nat) : g (swp L i j) a = if a = j then g L i else if a = i then g L j else g L a := by
 unfold swp
 rw [g_set (by simpa using hj), g_set hi]
theorem g_get {L : List Evt} {i : Nat} (h : i < L.length) : g L i = L[i] := by
 unfold g; rw [List.getD_eq_getElem?_getD, List.getElem?_eq_getElem h]; rfl
theorem swp_perm {L : List Evt} {i j : Nat} (hi : i < L.length) (hj : j < L.length) : (swp L i j).Perm L := by
 unfold swp
 rw [g_get hi, g_get hj]
 exact List.set_set_perm hi hj
def HeapN (L : List Evt) (n : Nat) : Prop := ∀ a, 0 < a → a < n → le (g L ((a - 1) / 2)) (g L a)
def UpI (L : List Evt) (n j : Nat) : Prop :=
 (∀ a, 0 < a → a < n → a ≠ j → le (g L ((a - 1) / 2)) (g L a)) ∧
 (0 < j → ∀ a, 0 < a → a < n → (a - 1) / 2 = j → le (g L ((j - 1) / 2)) (g L a))
theorem up_done {L : List Evt} {n j : Nat} (h : UpI L n j) (hj : 0 < j → le (g L ((j - 1) / 2)) (g L j)) : HeapN L n := by
 intro a h0 hn
 by_cases ha : a = j
 ·subst ha; exact hj h0
 ·exact h.1 a h0 hn ha
theorem up_step {L : List Evt} {n j : Nat} (hn : n ≤ L.length) (hj : j < n) (h0 : 0 < j) (h : UpI L n j) (hl : lt (g L j) (g L ((j - 1) / 2)) = true) : UpI (swp L ((j - 1) / 2) j) n ((j - 1) / 2) := by
 obtain ⟨h1, h2⟩ := h
 have hle := lt_true hl
 generalize hi : (j - 1) / 2 = i at *
 have hij : i < j := by omega
 have G : ∀ a, g (swp L i j) a = if a = j then g L i else if a = i then g L j else g L a := g_swp (by omega) (by omega)
 constructor
 ·intro a a0 an ai
  rw [G, G]
  by_cases haj : a = j
  ·subst haj
   rw [hi, if_pos rfl, if_neg (by omega), if_pos rfl]
   exact hle
  ·rw [if_neg haj, if_neg ai]
   by_cases hpj : (a - 1) / 2 = j
   ·rw [if_pos hpj]; exact h2 h0 a a0 an hpj
   ·rw [if_neg hpj]
    have h3 := h1 a a0 an haj
    by_cases hpi : (a - 1) / 2 = i
    ·rw [if_pos hpi]; rw [hpi] at h3; exact le_trans hle h3
    ·rw [if_neg hpi]; exact h3
 ·intro i0 a a0 an hai
  rw [G, G]
  have h3 := h1 i i0 (by omega) (by omega)
  rw [if_neg (by omega : ¬ (i - 1) / 2 = j), if_neg (by omega : ¬ (i - 1) / 2 = i)]
  by_cases haj : a = j
  ·rw [if_pos haj]; exact h3
  ·rw [if_neg haj, if_neg (by omega)]
   have h4 := h1 a a0 an haj
   rw [hai] at h4
   exact le_trans h3 h4
theorem up_start {L : List Evt} {n : Nat} (h : HeapN L n) (x : Evt) (hn : n ≤ L.length) (M : List Evt) (hM : ∀ a, a < n → g M a = g L a) : UpI M (n + 1) n := by
 constructor
 ·intro a a0 an ha
  rw [hM a (by omega), hM _ (by omega)]
  exact h a a0 (by omega)
 ·intro _ a a0 an hp
  omega
def DnI (L : List Evt) (n i : Nat) : Prop :=
 (∀ a, 0 < a → a < n → (a - 1) / 2 ≠ i → le (g L ((a - 1) / 2)) (g L a)) ∧
 (0 < i → ∀ a, 0 < a → a < n → (a - 1) / 2 = i → le (g L ((i - 1) / 2)) (g L a))
theorem dn_done {L : List Evt} {n i : Nat} (h : DnI L n i) (hc : ∀ a, 0 < a → a < n → (a - 1) / 2 = i → le (g L i) (g L a)) : HeapN L n := by
 intro a h0 hn
 by_cases ha : (a - 1) / 2 = i
 ·rw [ha]; exact hc a h0 hn ha
 ·exact h.1 a h0 hn ha
theorem dn_step {L : List Evt} {n i j : Nat} (hn : n ≤ L.length) (hj : j < n) (h0 : 0 < j) (hp : (j - 1) / 2 = i) (h : DnI L n i) (hl : lt (g L j) (g L i) = true) (hs : ∀ a, 0 < a → a < n → (a - 1) / 2 = i → le (g L j) (g L a)) : DnI (swp L i j) n j := by
 obtain ⟨h1, h2⟩ := h
 have hle := lt_true hl
 have hij : i < j := by omega
 have G : ∀ a, g (swp L i j) a = if a = j then g L i else if a = i then g L j else g L a := g_swp (by omega) (by omega)
 constructor
 ·intro a a0 an hpa
  rw [G, G, if_neg hpa]
  by_cases haj : a = j
  ·rw [if_pos haj, haj, hp, if_pos rfl]
   exact hle
  ·rw [if_neg haj]
   by_cases hai : a = i
   ·rw [if_pos hai, if_neg (by omega), hai]
    exact h2 (by omega) j h0 hj hp
   ·rw [if_neg hai]
    by_cases hpi : (a - 1) / 2 = i
    ·rw [if_pos hpi]; exact hs a a0 an hpi
    ·rw [if_neg hpi]; exact h1 a a0 an hpi
 ·intro _ a a0 an hpa
  rw [G, G, hp, if_neg (by omega : ¬ i = j), if_pos rfl, if_neg (by omega), if_neg (by omega)]
  have := h1 a a0 an (by omega)
  rwa [hpa] at this
theorem heap_min {L : List Evt} {n : Nat} (h : HeapN L n) : ∀ a, a < n → le (g L 0) (g L a) := by
 intro a
 induction a using Nat.strongRecOn with
 | _ a ih =>
  intro hn
  rcases Nat.eq_zero_or_pos a with rfl | h0
  ·exact le_refl _
  ·exact le_trans (ih ((a - 1) / 2) (by omega) (by omega)) (h a h0 hn)
theorem dn_start {L : List Evt} {n : Nat} (h : HeapN L (n + 1)) (hn : n + 1 ≤ L.length) : DnI (swp L 0 n) n 0 := by
 have G : ∀ a, g (swp L 0 n) a = if a = n then g L 0 else if a = 0 then g L n else g L a := g_swp (by omega) (by omega)
 constructor
 ·intro a a0 an hp
  rw [G, G, if_neg (by omega), if_neg hp, if_neg (by omega), if_neg (by omega)]
  exact h a a0 (by omega)
 ·intro h0; omega
end HeapM

namespace Go.Stb
set_option linter.unusedVariables false
variable {α : Type} {rk : α → Int} {lt : α → α → Bool}
def Sd (rk : α → Int) (l : List α) : Prop := l.Pairwise fun a b => rk a < rk b
def Tr (rk : α → Int) (lt : α → α → Bool) (y x : α) : Prop := (lt x y = true ↔ rk x < rk y) ∧ rk x ≠ rk y
def Td (rk : α → Int) (lt : α → α → Bool) (l : List α) : Prop := l.Pairwise (Tr rk lt)
theorem Sd.nil : Sd rk [] := List.Pairwise.nil
theorem Sd.one (x : α) : Sd rk [x] := List.pairwise_singleton ..
theorem Sd.left {l m : List α} (h : Sd rk (l ++ m)) : Sd rk l := (List.pairwise_append.1 h).1
theorem Sd.right {l m : List α} (h : Sd rk (l ++ m)) : Sd rk m := (List.pairwise_append.1 h).2.1
theorem Sd.cross {l m : List α} (h : Sd rk (l ++ m)) : ∀ a ∈ l, ∀ b ∈ m, rk a < rk b := (List.pairwise_append.1 h).2.2
theorem Sd.app {l m : List α} (h1 : Sd rk l) (h2 : Sd rk m) (h3 : ∀ a ∈ l, ∀ b ∈ m, rk a < rk b) : Sd rk (l ++ m) := List.pairwise_append.2 ⟨h1, h2, h3⟩
theorem Sd.take {l : List α} (h : Sd rk l) (k : Nat) : Sd rk (l.take k) := h.sublist (List.take_sublist ..)
theorem Sd.drop {l : List α} (h : Sd rk l) (k : Nat) : Sd rk (l.drop k) := h.sublist (List.drop_sublist ..)
theorem Sd.ins {P Q : List α} {x : α} (h : Sd rk (P ++ Q)) (h1 : ∀ p ∈ P, rk p < rk x) (h2 : ∀ q ∈ Q, rk x < rk q) : Sd rk (P ++ x :: Q) :=
 Sd.app h.left (List.pairwise_cons.2 ⟨h2, h.right⟩) fun a ha b hb => by
  rcases List.mem_cons.1 hb with rfl | hb
  ·exact h1 a ha
  ·exact h.cross a ha b hb
theorem Sd.ltD {l : List α} (h : Sd rk l) {i j : Nat} (hij : i < j) (hj : j < l.length) (d : α) : rk (l.getD i d) < rk (l.getD j d) := by
 have := List.pairwise_iff_getElem.1 h i j (by omega) hj hij
 simpa [List.getD_eq_getElem?_getD, hj, (by omega : i < l.length)] using this
theorem Sd.leD {l : List α} (h : Sd rk l) {i j : Nat} (hij : i ≤ j) (hj : j < l.length) (d : α) : rk (l.getD i d) ≤ rk (l.getD j d) := by
 rcases Nat.lt_or_eq_of_le hij with h1 | rfl
 ·exact Int.le_of_lt (h.ltD h1 hj d)
 ·exact Int.le_refl _
theorem mem_take_getD {l : List α} {k : Nat} {a : α} (h : a ∈ l.take k) (d : α) : ∃ i, i < k ∧ i < l.length ∧ a = l.getD i d := by
 obtain ⟨i, hi, rfl⟩ := List.getElem_of_mem h
 rw [List.length_take] at hi
 refine ⟨i, by omega, by omega, ?_⟩
 simp [List.getD_eq_getElem?_getD, (by omega : i < l.length)]
theorem mem_drop_getD {l : List α} {k : Nat} {a : α} (h : a ∈ l.drop k) (d : α) : ∃ i, k ≤ i ∧ i < l.length ∧ a = l.getD i d := by
 obtain ⟨i, hi, rfl⟩ := List.getElem_of_mem h
 rw [List.length_drop] at hi
 refine ⟨k + i, by omega, by omega, ?_⟩
 simp [List.getD_eq_getElem?_getD, (by omega : k + i < l.length)]
theorem Sd.join {A B : List α} (hA : Sd rk A) (hB : Sd rk B) {u v : Nat} (hu : u ≤ A.length) (hv : v ≤ B.length) {d : α}
  (h1 : 0 < u → v < B.length → rk (A.getD (u - 1) d) < rk (B.getD v d)) (h2 : 0 < v → u < A.length → rk (B.getD (v - 1) d) < rk (A.getD u d))
  {C1 C2 : List α} (s1 : Sd rk C1) (p1 : C1.Perm (A.take u ++ B.take v)) (s2 : Sd rk C2) (p2 : C2.Perm (A.drop u ++ B.drop v)) : Sd rk (C1 ++ C2) ∧ (C1 ++ C2).Perm (A ++ B) := by
 constructor
 ·refine s1.app s2 fun a ha b hb => ?_
  rcases List.mem_append.1 (p1.mem_iff.1 ha) with ha | ha <;> rcases List.mem_append.1 (p2.mem_iff.1 hb) with hb | hb
  ·obtain ⟨i, i1, i2, rfl⟩ := mem_take_getD ha d
   obtain ⟨j, j1, j2, rfl⟩ := mem_drop_getD hb d
   exact hA.ltD (by omega) j2 d
  ·obtain ⟨i, i1, i2, rfl⟩ := mem_take_getD ha d
   obtain ⟨j, j1, j2, rfl⟩ := mem_drop_getD hb d
   have e1 := hA.leD (i := i) (j := u - 1) (by omega) (by omega) d
   have e2 := hB.leD (i := v) (j := j) (by omega) (by omega) d
   have e3 := h1 (by omega) (by omega)
   omega
  ·obtain ⟨i, i1, i2, rfl⟩ := mem_take_getD ha d
   obtain ⟨j, j1, j2, rfl⟩ := mem_drop_getD hb d
   have e1 := hB.leD (i := i) (j := v - 1) (by omega) (by omega) d
   have e2 := hA.leD (i := u) (j := j) (by omega) (by omega) d
   have e3 := h2 (by omega) (by omega)
   omega
  ·obtain ⟨i, i1, i2, rfl⟩ := mem_take_getD ha d
   obtain ⟨j, j1, j2, rfl⟩ := mem_drop_getD hb d
   exact hB.ltD (by omega) j2 d
 ·refine (p1.append p2).trans ?_
  have e1 : A = A.take u ++ A.drop u := (List.take_append_drop u A).symm
  have e2 : B = B.take v ++ B.drop v := (List.take_append_drop v B).symm
  have : ((A.take u ++ B.take v) ++ (A.drop u ++ B.drop v)).Perm ((A.take u ++ A.drop u) ++ (B.take v ++ B.drop v)) := by
   simp only [List.append_assoc]
   refine List.Perm.append_left _ ?_
   rw [← List.append_assoc, ← List.append_assoc]
   exact List.Perm.append_right _ List.perm_append_comm
  rwa [← e1, ← e2] at this
theorem Td.seg {X S S' Y : List α} (h : Td rk lt (X ++ S ++ Y)) (p : S'.Perm S) (h' : Td rk lt S') : Td rk lt (X ++ S' ++ Y) := by
 unfold Td at *
 rw [List.append_assoc, List.pairwise_append, List.pairwise_append] at h ⊢
 obtain ⟨h1, ⟨h2, h3, h4⟩, h5⟩ := h
 refine ⟨h1, ⟨h', h3, fun a ha b hb => h4 a (p.mem_iff.1 ha) b hb⟩, fun a ha b hb => h5 a ha b ?_⟩
 rcases List.mem_append.1 hb with hb | hb
 ·exact List.mem_append.2 (.inl (p.mem_iff.1 hb))
 ·exact List.mem_append.2 (.inr hb)
theorem Td.mid {X S Y : List α} (h : Td rk lt (X ++ S ++ Y)) : Td rk lt S := (List.pairwise_append.1 (List.pairwise_append.1 h).1).2.1
theorem Td.pair {A B : List α} (h : Td rk lt (A ++ B)) : ∀ y ∈ A, ∀ x ∈ B, Tr rk lt y x := (List.pairwise_append.1 h).2.2
def Bs (rk : α → Int) (k : Nat) (L : List α) : Prop := ∀ q, Sd rk ((L.drop (q * k)).take k)
theorem Bs.nil {k : Nat} : Bs rk k [] := fun q => by simp [Sd]
theorem Bs.one {k : Nat} {C : List α} (h : Sd rk C) : Bs rk k C := fun q => (h.drop _).take _
theorem Bs.app {k t : Nat} {P R : List α} (hP : P.length = t * k) (h1 : Bs rk k P) (h2 : Bs rk k R) : Bs rk k (P ++ R) := by
 intro q
 by_cases hq : q < t
 ·have hle : (q + 1) * k ≤ t * k := Nat.mul_le_mul_right _ hq
  rw [Nat.add_mul, Nat.one_mul] at hle
  rw [List.drop_append_of_le_length (by omega), List.take_append_of_le_length (by rw [List.length_drop]; omega)]
  exact h1 q
 ·have hle : t * k ≤ q * k := Nat.mul_le_mul_right _ (by omega)
  rw [List.drop_append, List.drop_of_length_le (by omega), List.nil_append, hP, ← Nat.sub_mul]
  exact h2 _
theorem Bs.drop {k : Nat} {R : List α} (h : Bs rk k R) : Bs rk k (R.drop k) := fun q => by
 have := h (q + 1)
 rw [List.drop_drop]
 rwa [Nat.add_mul, Nat.one_mul, Nat.add_comm] at this
theorem Bs.head {k : Nat} {R : List α} (h : Bs rk k R) : Sd rk (R.take k) := by
 have := h 0
 rwa [Nat.zero_mul, List.drop_zero] at this
theorem Bs.all {k : Nat} {R : List α} (h : Bs rk k R) (hk : R.length ≤ k) : Sd rk R := by
 have := h.head
 rwa [List.take_of_length_le hk] at this
theorem Sd.uniq {A B : List α} (hA : Sd rk A) (hB : Sd rk B) (p : A.Perm B) : A = B :=
 List.Perm.eq_of_pairwise (fun a b _ _ h1 h2 => by omega) hA hB p
theorem set_mid (P : List α) (x v : α) (Q : List α) {k : Nat} (h : k = P.length) : (P ++ x :: Q).set k v = P ++ v :: Q := by
 subst h; simp
theorem get_mid (P : List α) (x : α) (Q : List α) (d : α) {k : Nat} (h : k = P.length) : (P ++ x :: Q).getD k d = x := by
 subst h; simp [List.getD_eq_getElem?_getD]
end Go.Stb
