import Derived.Test.YtdmpiondalhonaaEdV
import Derived.Test.YtdmpiondalhonaaAbLaw
namespace Go.Stb
set_option linter.unusedVariables false
variable {α : Type} {rk : α → Int} {lt : α → α → Bool}

/-- In order. -/
def Sd (rk : α → Int) (l : List α) : Prop := l.Pairwise fun a b => rk a < rk b
/-- `y` stands ahead of `x`: what is asked of `x` and `y` is their order. -/
def Tr (rk : α → Int) (lt : α → α → Bool) (y x : α) : Prop := (lt x y = true ↔ rk x < rk y) ∧ rk x ≠ rk y
def Td (rk : α → Int) (lt : α → α → Bool) (l : List α) : Prop := l.Pairwise (Tr rk lt)

theorem Sd.nil : Sd rk [] := List.Pairwise.nil
theorem Sd.one (x : α) : Sd rk [x] := List.pairwise_singleton ..
theorem Sd.left {l m : List α} (h : Sd rk (l ++ m)) : Sd rk l := (List.pairwise_append.1 h).1
theorem Sd.right {l m : List α} (h : Sd rk (l ++ m)) : Sd rk m := (List.pairwise_append.1 h).2.1
theorem Sd.cross {l m : List α} (h : Sd rk (l ++ m)) : ∀ a ∈ l, ∀ b ∈ m, rk a < rk b := (List.pairwise_append.1 h).2.2
theorem Sd.app {l m : List α} (h1 : Sd rk l) (h2 : Sd rk m) (h3 : ∀ a ∈ l, ∀ b ∈ m, rk a < rk b) : Sd rk (l ++ m) := List.pairwise_append.2 ⟨h1, h2, h3⟩
theorem Sd.take {l : List α} (h : Sd rk l) (k : Nat) : Sd rk (l.take k) := h.sublist (List.take_sublist ..)
theorem Sd.drop {l : List α} (h : Sd rk l) (k : Nat) : Sd rk (l.drop k) := h.sublist (List.drop_sublist ..)
theorem Sd.ins {P Q : List α} {x : α} (h : Sd rk (P ++ Q)) (h1 : ∀ p ∈ P, rk p < rk x) (h2 : ∀ q ∈ Q, rk x < rk q) : Sd rk (P ++ x :: Q) :=
  Sd.app h.left (List.pairwise_cons.2 ⟨h2, h.right⟩) fun a ha b hb => by
    rcases List.mem_cons.1 hb with rfl | hb
    · exact h1 a ha
    · exact h.cross a ha b hb
theorem Sd.ltD {l : List α} (h : Sd rk l) {i j : Nat} (hij : i < j) (hj : j < l.length) (d : α) : rk (l.getD i d) < rk (l.getD j d) := by
  have := List.pairwise_iff_getElem.1 h i j (by omega) hj hij
  simpa [List.getD_eq_getElem?_getD, hj, (by omega : i < l.length)] using this
theorem Sd.leD {l : List α} (h : Sd rk l) {i j : Nat} (hij : i ≤ j) (hj : j < l.length) (d : α) : rk (l.getD i d) ≤ rk (l.getD j d) := by
  rcases Nat.lt_or_eq_of_le hij with h1 | rfl
  · exact Int.le_of_lt (h.ltD h1 hj d)
  · exact Int.le_refl _
theorem mem_take_getD {l : List α} {k : Nat} {a : α} (h : a ∈ l.take k) (d : α) : ∃ i, i < k ∧ i < l.length ∧ a = l.getD i d := by
  obtain ⟨i, hi, rfl⟩ := List.getElem_of_mem h
  rw [List.length_take] at hi
  refine ⟨i, by omega, by omega, ?_⟩
  simp [List.getD_eq_getElem?_getD, (by omega : i < l.length)]
theorem mem_drop_getD {l : List α} {k : Nat} {a : α} (h : a ∈ l.drop k) (d : α) : ∃ i, k ≤ i ∧ i < l.length ∧ a = l.getD i d := by
  obtain ⟨i, hi, rfl⟩ := List.getElem_of_mem h
  rw [List.length_drop] at hi
  refine ⟨k + i, by omega, by omega, ?_⟩
  simp [List.getD_eq_getElem?_getD, (by omega : k + i < l.length)]

/-- Two rows in order are one, when parted at `u` and `v` so that what is ahead is less than what is behind. -/
theorem Sd.join {A B : List α} (hA : Sd rk A) (hB : Sd rk B) {u v : Nat} (hu : u ≤ A.length) (hv : v ≤ B.length) {d : α}
    (h1 : 0 < u → v < B.length → rk (A.getD (u - 1) d) < rk (B.getD v d)) (h2 : 0 < v → u < A.length → rk (B.getD (v - 1) d) < rk (A.getD u d))
    {C1 C2 : List α} (s1 : Sd rk C1) (p1 : C1.Perm (A.take u ++ B.take v)) (s2 : Sd rk C2) (p2 : C2.Perm (A.drop u ++ B.drop v)) : Sd rk (C1 ++ C2) ∧ (C1 ++ C2).Perm (A ++ B) := by
  constructor
  · refine s1.app s2 fun a ha b hb => ?_
    rcases List.mem_append.1 (p1.mem_iff.1 ha) with ha | ha <;> rcases List.mem_append.1 (p2.mem_iff.1 hb) with hb | hb
    · obtain ⟨i, i1, i2, rfl⟩ := mem_take_getD ha d
      obtain ⟨j, j1, j2, rfl⟩ := mem_drop_getD hb d
      exact hA.ltD (by omega) j2 d
    · obtain ⟨i, i1, i2, rfl⟩ := mem_take_getD ha d
      obtain ⟨j, j1, j2, rfl⟩ := mem_drop_getD hb d
      have e1 := hA.leD (i := i) (j := u - 1) (by omega) (by omega) d
      have e2 := hB.leD (i := v) (j := j) (by omega) (by omega) d
      have e3 := h1 (by omega) (by omega)
      omega
    · obtain ⟨i, i1, i2, rfl⟩ := mem_take_getD ha d
      obtain ⟨j, j1, j2, rfl⟩ := mem_drop_getD hb d
      have e1 := hB.leD (i := i) (j := v - 1) (by omega) (by omega) d
      have e2 := hA.leD (i := u) (j := j) (by omega) (by omega) d
      have e3 := h2 (by omega) (by omega)
      omega
    · obtain ⟨i, i1, i2, rfl⟩ := mem_take_getD ha d
      obtain ⟨j, j1, j2, rfl⟩ := mem_drop_getD hb d
      exact hB.ltD (by omega) j2 d
  · refine (p1.append p2).trans ?_
    have e1 : A = A.take u ++ A.drop u := (List.take_append_drop u A).symm
    have e2 : B = B.take v ++ B.drop v := (List.take_append_drop v B).symm
    have : ((A.take u ++ B.take v) ++ (A.drop u ++ B.drop v)).Perm ((A.take u ++ A.drop u) ++ (B.take v ++ B.drop v)) := by
      simp only [List.append_assoc]
      refine List.Perm.append_left _ ?_
      rw [← List.append_assoc, ← List.append_assoc]
      exact List.Perm.append_right _ List.perm_append_comm
    rwa [← e1, ← e2] at this

/-! what stands ahead of what -/
theorem Sd.td {l : List α} (hl : ∀ a b, lt a b = true → rk a < rk b) (h : Sd rk l) : Td rk lt l := by
  refine h.imp fun {a b} hab => ⟨⟨hl b a, fun h => ?_⟩, ?_⟩ <;> omega
theorem Td.seg {X S S' Y : List α} (h : Td rk lt (X ++ S ++ Y)) (p : S'.Perm S) (h' : Td rk lt S') : Td rk lt (X ++ S' ++ Y) := by
  unfold Td at *
  rw [List.append_assoc, List.pairwise_append, List.pairwise_append] at h ⊢
  obtain ⟨h1, ⟨h2, h3, h4⟩, h5⟩ := h
  refine ⟨h1, ⟨h', h3, fun a ha b hb => h4 a (p.mem_iff.1 ha) b hb⟩, fun a ha b hb => h5 a ha b ?_⟩
  rcases List.mem_append.1 hb with hb | hb
  · exact List.mem_append.2 (.inl (p.mem_iff.1 hb))
  · exact List.mem_append.2 (.inr hb)
theorem Td.mid {X S Y : List α} (h : Td rk lt (X ++ S ++ Y)) : Td rk lt S := (List.pairwise_append.1 (List.pairwise_append.1 h).1).2.1
theorem Td.pair {A B : List α} (h : Td rk lt (A ++ B)) : ∀ y ∈ A, ∀ x ∈ B, Tr rk lt y x := (List.pairwise_append.1 h).2.2

/-! blocks -/
/-- Each block of `k` is in order. -/
def Bs (rk : α → Int) (k : Nat) (L : List α) : Prop := ∀ q, Sd rk ((L.drop (q * k)).take k)
theorem Bs.nil {k : Nat} : Bs rk k [] := fun q => by simp [Sd]
theorem Bs.one {k : Nat} {C : List α} (h : Sd rk C) : Bs rk k C := fun q => (h.drop _).take _
theorem Bs.app {k t : Nat} {P R : List α} (hP : P.length = t * k) (h1 : Bs rk k P) (h2 : Bs rk k R) : Bs rk k (P ++ R) := by
  intro q
  by_cases hq : q < t
  · have hle : (q + 1) * k ≤ t * k := Nat.mul_le_mul_right _ hq
    rw [Nat.add_mul, Nat.one_mul] at hle
    rw [List.drop_append_of_le_length (by omega), List.take_append_of_le_length (by rw [List.length_drop]; omega)]
    exact h1 q
  · have hle : t * k ≤ q * k := Nat.mul_le_mul_right _ (by omega)
    rw [List.drop_append, List.drop_of_length_le (by omega), List.nil_append, hP, ← Nat.sub_mul]
    exact h2 _
theorem Bs.drop {k : Nat} {R : List α} (h : Bs rk k R) : Bs rk k (R.drop k) := fun q => by
  have := h (q + 1)
  rw [List.drop_drop]
  rwa [Nat.add_mul, Nat.one_mul, Nat.add_comm] at this
theorem Bs.head {k : Nat} {R : List α} (h : Bs rk k R) : Sd rk (R.take k) := by
  have := h 0
  rwa [Nat.zero_mul, List.drop_zero] at this
theorem Bs.all {k : Nat} {R : List α} (h : Bs rk k R) (hk : R.length ≤ k) : Sd rk R := by
  have := h.head
  rwa [List.take_of_length_le hk] at this

/-- Two rows of the same elements in order are one. -/
theorem Sd.uniq {A B : List α} (hA : Sd rk A) (hB : Sd rk B) (p : A.Perm B) : A = B :=
  List.Perm.eq_of_pairwise (fun a b _ _ h1 h2 => by omega) hA hB p

/-! a row's places -/
theorem set_mid (P : List α) (x v : α) (Q : List α) {k : Nat} (h : k = P.length) : (P ++ x :: Q).set k v = P ++ v :: Q := by
  subst h; simp
theorem get_mid (P : List α) (x : α) (Q : List α) (d : α) {k : Nat} (h : k = P.length) : (P ++ x :: Q).getD k d = x := by
  subst h; simp [List.getD_eq_getElem?_getD]
end Go.Stb

namespace Go.Ab
open Go Go.Proofs Stb
set_option linter.unusedVariables false
set_option linter.unusedSimpArgs false
set_option maxRecDepth 100000
set_option maxHeartbeats 1000000

theorem sW {x : Int} {n : Nat} (e : x = (n : Int)) (h : n < 4611686018427387904) : IntKind.wrap .i64 x = (n : Int) := by rw [e, wrap64 (by omega) (by omega)]
theorem sHalf {x y : Int} {i j : Nat} (ex : x = (i : Int)) (ey : y = (j : Int)) (h : i < 1152921504606846976) (h' : j < 1152921504606846976) : IntKind.wrap .i64 (iopS .shr .u64 (IntKind.wrap .u64 (IntKind.wrap .i64 (x + y))) (1 : Int)) = (((i + j) / 2 : Nat) : Int) := by
  subst ex ey
  rw [sW (x := (i : Int) + j) (n := i + j) (by omega) (by omega)]
  have e1 : IntKind.wrap .u64 ((i + j : Nat) : Int) = ((i + j : Nat) : Int) := by
    have : IntKind.wrap .u64 ((i + j : Nat) : Int) = ((i + j : Nat) : Int) % 18446744073709551616 := rfl
    rw [this, Int.emod_eq_of_lt (by omega) (by omega)]
  rw [e1]
  have e2 : iopS .shr .u64 ((i + j : Nat) : Int) (1 : Int) = ((i + j : Nat) : Int).fdiv 2 := rfl
  rw [e2, Int.fdiv_eq_ediv_of_nonneg _ (by omega)]
  exact sW (by omega) (by omega)
theorem ints_set (L : List Int) (k : Nat) (v : Int) : (ints L).set k [.int .i64 v] = ints (L.set k v) := by simp [ints, List.map_set]
theorem get_mid2 {α : Type} (P : List α) (x y : α) (Q : List α) (d : α) {k : Nat} (h : k = P.length + 1) : (P ++ x :: y :: Q).getD k d = y := by
  subst h; simp [List.getD_eq_getElem?_getD]
theorem set_swap {α : Type} (P : List α) (x y : α) (Q : List α) {k k' : Nat} (h : k = P.length) (h' : k' = P.length + 1) : ((P ++ x :: y :: Q).set k' x).set k y = P ++ y :: x :: Q := by
  subst h h'; simp
theorem set_swap' {α : Type} (P : List α) (x y : α) (Q : List α) {k k' : Nat} (h : k = P.length) (h' : k' = P.length + 1) : ((P ++ x :: y :: Q).set k y).set k' x = P ++ y :: x :: Q := by
  subst h h'; simp

/-! swapping -/
theorem Swap_E (tb : List (List AV)) (W M Z : List Int) (n : Nat) (P Q : List Int) (hP : P.length = n) (hQ : Q.length = n) (hlen : (W ++ P ++ M ++ Q ++ Z).length < 1099511627776) {R0 : List (List AV)} (hR : R0 = ints (W ++ P ++ M ++ Q ++ Z)) {a b c : Int} (ha : a = W.length) (hb : b = ((W ++ P ++ M).length : Nat)) (hc : c = n) :
    EC Try.prog G99a [R0] [.i a, .i b, .i c, .r tb] fun e rs vs => e = 0 ∧ rs = [ints (W ++ Q ++ M ++ P ++ Z)] ∧ vs = [.r tb] := by
  subst hR ha hb hc
  refine E99a fun _ EV V => ?_
  simp only [List.length_append] at hlen
  have p4 : ∀ (P2 Q2 P1 Q1 : List Int), P1 ++ P2 = P → Q1 ++ Q2 = Q → P1.length = Q1.length → EV 4 [ints (W ++ Q1 ++ P2 ++ M ++ P1 ++ Q2 ++ Z)] [.i W.length, .i ((W ++ P ++ M).length : Nat), .i n, .i Q1.length, .r tb] := by
    intro P2
    induction P2 with
    | nil =>
      intro Q2 P1 Q1 h1 h2 h3
      rw [List.append_nil] at h1
      subst h1
      have hq : Q2 = [] := List.eq_nil_of_length_eq_zero (by have := congrArg List.length h2; rw [List.length_append] at this; omega)
      subst hq
      rw [List.append_nil] at h2
      subst h2
      refine V.p4 fun _ => ⟨fun h => by omega, fun h => ⟨rfl, ?_, rfl⟩⟩
      simp
    | cons p P2 ih =>
      intro Q2 P1 Q1 h1 h2 h3
      have hl1 := congrArg List.length h1
      have hl2 := congrArg List.length h2
      simp only [List.length_append, List.length_cons] at hl1 hl2
      obtain ⟨q, Q2, rfl⟩ : ∃ q Q2', Q2 = q :: Q2' := by
        cases Q2 with
        | nil => exfalso; simp only [List.length_nil] at hl2; omega
        | cons q Q2 => exact ⟨q, Q2, rfl⟩
      simp only [List.length_cons] at hl2
      have eA : W ++ Q1 ++ p :: P2 ++ M ++ P1 ++ q :: Q2 ++ Z = (W ++ Q1) ++ p :: (P2 ++ M ++ P1 ++ q :: Q2 ++ Z) := by simp
      have eB : W ++ Q1 ++ p :: P2 ++ M ++ P1 ++ q :: Q2 ++ Z = (W ++ Q1 ++ p :: P2 ++ M ++ P1) ++ q :: (Q2 ++ Z) := by simp
      have eL : (W ++ Q1 ++ p :: P2 ++ M ++ P1 ++ q :: Q2 ++ Z).length < 1099511627776 := by simp only [List.length_append, List.length_cons]; omega
      have ka : IntKind.wrap .i64 ((W.length : Int) + (Q1.length : Int)) = ((W ++ Q1).length : Nat) := sW (by rw [List.length_append]; omega) (by rw [List.length_append]; omega)
      have kb : IntKind.wrap .i64 ((((W ++ P ++ M).length : Nat) : Int) + (Q1.length : Int)) = ((W ++ Q1 ++ p :: P2 ++ M ++ P1).length : Nat) := sW (by simp only [List.length_append, List.length_cons]; omega) (by simp only [List.length_append, List.length_cons]; omega)
      have lA : (W ++ Q1).length < (W ++ Q1 ++ p :: P2 ++ M ++ P1 ++ q :: Q2 ++ Z).length := by rw [eA]; simp
      have lB : (W ++ Q1 ++ p :: P2 ++ M ++ P1).length < (W ++ Q1 ++ p :: P2 ++ M ++ P1 ++ q :: Q2 ++ Z).length := by rw [eB]; simp
      have gA : (W ++ Q1 ++ p :: P2 ++ M ++ P1 ++ q :: Q2 ++ Z).getD (W ++ Q1).length 0 = p := by rw [eA]; exact get_mid _ _ _ _ rfl
      have gB : (W ++ Q1 ++ p :: P2 ++ M ++ P1 ++ q :: Q2 ++ Z).getD (W ++ Q1 ++ p :: P2 ++ M ++ P1).length 0 = q := by rw [eB]; exact get_mid _ _ _ _ rfl
      refine V.p4 fun _ => ⟨fun h => ?_, fun h => by omega⟩
      rw [ka, kb, Int.toNat_natCast, Int.toNat_natCast, ints_length]
      refine ⟨by omega, by omega, ints_get lB, by omega, by omega, ints_get lA, ?_⟩
      rw [ints_cI, ints_cI, gA, gB, ints_set]
      refine ⟨ints_get (by rw [List.length_set]; exact lB), ?_⟩
      have e1 : (W ++ Q1 ++ p :: P2 ++ M ++ P1 ++ q :: Q2 ++ Z).set (W ++ Q1).length q = (W ++ Q1 ++ q :: P2 ++ M ++ P1) ++ q :: (Q2 ++ Z) := by
        rw [eA, set_mid _ _ _ _ rfl]; simp
      have e2 : ((W ++ Q1 ++ q :: P2 ++ M ++ P1) ++ q :: (Q2 ++ Z)).set (W ++ Q1 ++ p :: P2 ++ M ++ P1).length p = W ++ (Q1 ++ [q]) ++ P2 ++ M ++ (P1 ++ [p]) ++ Q2 ++ Z := by
        rw [set_mid _ _ _ _ (by simp)]; simp
      rw [ints_set, e1, e2, sW (x := (Q1.length : Int) + 1) (n := (Q1 ++ [q]).length) (by simp) (by simp only [List.length_append, List.length_cons, List.length_nil]; omega)]
      exact ih Q2 (P1 ++ [p]) (Q1 ++ [q]) (by simpa using h1) (by simpa using h2) (by simp [h3])
  have := p4 P Q [] [] (by simp) (by simp) rfl
  simpa using this

/-! turning -/
theorem Turn_E (tb : List (List AV)) (X A B Y : List Int) (hA : 0 < A.length) (hB : 0 < B.length) (hlen : (X ++ A ++ B ++ Y).length < 1099511627776) {R0 : List (List AV)} (hR : R0 = ints (X ++ A ++ B ++ Y)) {a m b : Int} (ha : a = X.length) (hm : m = ((X ++ A).length : Nat)) (hb : b = ((X ++ A ++ B).length : Nat)) :
    EC Try.prog G93a [R0] [.i a, .i m, .i b, .r tb] fun e rs vs => e = 0 ∧ rs = [ints (X ++ B ++ A ++ Y)] ∧ vs = [.r tb] := by
  subst hR ha hm hb
  refine E93a fun _ EV V => ?_
  have p7 : ∀ (n : Nat) (W U T Z : List Int), U.length + T.length = n → 0 < U.length → 0 < T.length → (W ++ U).length = (X ++ A).length → W ++ T ++ U ++ Z = X ++ B ++ A ++ Y → EV 7 [ints (W ++ U ++ T ++ Z)] [.i ((X ++ A).length : Nat), .i U.length, .i T.length, .r tb] := by
    intro n
    induction n using Nat.strongRecOn with
    | ind n ih =>
      intro W U T Z hn hU hT hW hF
      have hl := congrArg List.length hF
      simp only [List.length_append] at hl hlen hW
      refine V.p7 fun _ => ⟨fun hne => ⟨fun hgt => ?_, fun hle => ?_⟩, fun he => ?_⟩
      · -- the first one is longer
        have e1 : U = U.take T.length ++ U.drop T.length := (List.take_append_drop _ _).symm
        have l1 : (U.take T.length).length = T.length := by rw [List.length_take]; omega
        have l2 : (U.drop T.length).length = U.length - T.length := List.length_drop
        generalize U.take T.length = U1 at *
        generalize U.drop T.length = U2 at *
        subst e1
        simp only [List.length_append] at *
        refine (Swap_E tb W U2 Z T.length U1 T l1 rfl (by simp only [List.length_append]; omega) (by simp) (sW (n := W.length) (by omega) (by omega)) (by simp only [List.length_append]; omega) rfl).mono ?_
        rintro _ _ _ ⟨rfl, rfl, rfl⟩
        refine ⟨rfl, _, _, rfl, rfl, by simp; omega, ?_⟩
        rw [sW (n := U2.length) (by omega) (by omega)]
        have := ih (U2.length + U1.length) (by omega) (W ++ T) U2 U1 Z rfl (by omega) (by omega) (by simp only [List.length_append]; omega) (by rw [← hF]; simp)
        rw [l1] at this
        simpa only [List.length_append] using this
      · -- the second one is longer
        have e1 : T = T.take (T.length - U.length) ++ T.drop (T.length - U.length) := (List.take_append_drop _ _).symm
        have l1 : (T.take (T.length - U.length)).length = T.length - U.length := by rw [List.length_take]; omega
        have l2 : (T.drop (T.length - U.length)).length = U.length := by rw [List.length_drop]; omega
        generalize T.take (T.length - U.length) = T1 at *
        generalize T.drop (T.length - U.length) = T2 at *
        subst e1
        simp only [List.length_append] at *
        refine (Swap_E tb W T1 Z U.length U T2 rfl l2 (by simp only [List.length_append]; omega) (by simp) (sW (n := W.length) (by omega) (by omega)) ?_ rfl).mono ?_
        · rw [sW (x := _ + _) (n := X.length + A.length + (T1.length + T2.length)) (by omega) (by omega)]
          rw [sW (n := W.length + U.length + T1.length) (by omega) (by omega)]
          simp only [List.length_append]
        rintro _ _ _ ⟨rfl, rfl, rfl⟩
        refine ⟨rfl, _, _, rfl, rfl, by simp; omega, ?_⟩
        rw [sW (n := T1.length) (by omega) (by omega)]
        have := ih (T2.length + T1.length) (by omega) W T2 T1 (U ++ Z) rfl (by omega) (by omega) (by omega) (by rw [← hF]; simp)
        rw [l2] at this
        simpa only [List.length_append, List.append_assoc] using this
      · refine (Swap_E tb W [] Z U.length U T rfl (by omega) (by simp only [List.length_append, List.length_nil]; omega) (by simp) (sW (n := W.length) (by simp only [List.length_append]; omega) (by omega)) (by simp only [List.length_append, List.length_nil]; omega) rfl).mono ?_
        rintro _ _ _ ⟨rfl, rfl, rfl⟩
        refine ⟨rfl, _, _, rfl, rfl, rfl, ?_, rfl⟩
        rw [← hF]; simp
  have hl := hlen
  simp only [List.length_append] at hl
  rw [sW (n := A.length) (by simp only [List.length_append]; omega) (by omega), sW (n := B.length) (by simp only [List.length_append]; omega) (by omega)]
  exact p7 _ X A B Y rfl hA hB rfl rfl
end Go.Ab

namespace Go.Ab
open Go Go.Proofs Stb
set_option linter.unusedVariables false
set_option linter.unusedSimpArgs false
set_option maxRecDepth 100000
set_option maxHeartbeats 1000000

/-- What the comparison says of the elements that there are. -/
def CmpOk (tb : List (List AV)) (lt : Int → Int → Bool) (Vd : Int → Prop) : Prop :=
  ∀ x y, Vd x → Vd y → EC Try.prog G69 [] [.i x, .i y, .r tb] fun e rs vs => e = 0 ∧ rs = [] ∧ ∃ r, vs = [.i r, .r tb] ∧ (r < 0 ↔ lt x y = true)

theorem Insert_E {tb : List (List AV)} {lt : Int → Int → Bool} {Vd : Int → Prop} {rk : Int → Int} (hc : CmpOk tb lt Vd) (X S Y : List Int) (hV : ∀ x ∈ S, Vd x) (hT : Td rk lt S) (hlen : (X ++ S ++ Y).length < 1099511627776) {R0 : List (List AV)} (hR : R0 = ints (X ++ S ++ Y)) {a b : Int} (ha : a = X.length) (hb : b = ((X ++ S).length : Nat)) :
    EC Try.prog G82a [R0] [.i a, .i b, .r tb] fun e rs vs => e = 0 ∧ ∃ C, rs = [ints (X ++ C ++ Y)] ∧ vs = [.r tb] ∧ C.Perm S ∧ Sd rk C := by
  subst hR ha hb
  refine E82a fun _ EV V => ?_
  simp only [List.length_append] at hlen
  have p4 : ∀ (U S1 P : List Int), S = S1 ++ U → P.Perm S1 → Sd rk P → EV 4 [ints (X ++ P ++ U ++ Y)] [.i X.length, .i ((X ++ S).length : Nat), .i ((X ++ P).length : Nat), .r tb] := by
    intro U
    induction U with
    | nil =>
      intro S1 P h1 h2 h3
      rw [List.append_nil] at h1
      subst h1
      have hl := h2.length_eq
      refine V.p4 fun _ => ⟨fun h => ?_, fun h => ⟨rfl, P, by simp, rfl, h2, h3⟩⟩
      simp only [List.length_append] at h; omega
    | cons x U ih =>
      intro S1 P h1 h2 h3
      have hl := h2.length_eq
      have hl1 := congrArg List.length h1
      simp only [List.length_append, List.length_cons] at hl1
      have hx : Vd x := hV x (by rw [h1]; simp)
      have hTr : ∀ y ∈ P, Tr rk lt y x := fun y hy => by
        rw [h1] at hT
        exact hT.pair y (h2.mem_iff.1 hy) x (by simp)
      have nxt : ∀ P', P'.Perm (x :: P) → Sd rk P' → EV 4 [ints (X ++ P' ++ U ++ Y)] [.i X.length, .i ((X ++ S).length : Nat), .i (IntKind.wrap .i64 ((((X ++ P).length : Nat) : Int) + 1)), .r tb] := fun P' hp hs => by
        have hlp := hp.length_eq
        simp only [List.length_cons] at hlp
        rw [sW (n := (X ++ P').length) (by simp only [List.length_append]; omega) (by simp only [List.length_append]; omega)]
        refine ih (S1 ++ [x]) P' (by simpa using h1) (hp.trans ?_) hs
        exact (h2.cons x).trans (List.perm_append_singleton x S1).symm
      have p16 : ∀ (n : Nat) (P1 P2 : List Int), P1.length = n → P = P1 ++ P2 → (∀ q ∈ P2, rk x < rk q) → EV 16 [ints (X ++ P1 ++ x :: P2 ++ U ++ Y)] [.i X.length, .i ((X ++ S).length : Nat), .i ((X ++ P).length : Nat), .i ((X ++ P1).length : Nat), .r tb] := by
        intro n
        induction n with
        | zero =>
          intro P1 P2 hn h4 h5
          have : P1 = [] := List.eq_nil_of_length_eq_zero hn
          subst this
          refine V.p16 fun _ => ⟨fun h => ?_, fun h => ?_⟩
          · simp only [List.append_nil] at h; omega
          · have := nxt (x :: P2) (by rw [h4]; simp) (Sd.ins (P := []) (by rw [← h4]; exact h3) (fun p hp => by cases hp) h5)
            simpa using this
        | succ n ih16 =>
          intro P1 P2 hn h4 h5
          obtain ⟨P1, p, rfl⟩ : ∃ P1' p, P1 = P1' ++ [p] := by
            rcases List.eq_nil_or_concat P1 with rfl | ⟨P1', p, h⟩
            · simp at hn
            · exact ⟨P1', p, by simpa using h⟩
          simp only [List.length_append, List.length_cons, List.length_nil] at hn
          have hlP := congrArg List.length h4
          simp only [List.length_append, List.length_cons, List.length_nil] at hlP
          have hpP : p ∈ P := by rw [h4]; simp
          have hpV : Vd p := hV p (by rw [h1]; exact List.mem_append.2 (.inl (h2.mem_iff.1 hpP)))
          have hpx := hTr p hpP
          have eD : X ++ (P1 ++ [p]) ++ x :: P2 ++ U ++ Y = (X ++ P1) ++ p :: x :: (P2 ++ U ++ Y) := by simp
          have lD : ((X ++ P1) ++ p :: x :: (P2 ++ U ++ Y)).length = X.length + S.length + Y.length := by simp only [List.length_append, List.length_cons]; omega
          have k1 : (X ++ (P1 ++ [p])).length = (X ++ P1).length + 1 := by simp; omega
          have kp : IntKind.wrap .i64 ((((X ++ (P1 ++ [p])).length : Nat) : Int) - 1) = ((X ++ P1).length : Nat) := sW (by omega) (by simp only [List.length_append]; omega)
          have lk : (X ++ P1).length + 1 < ((X ++ P1) ++ p :: x :: (P2 ++ U ++ Y)).length := by simp; omega
          refine V.p16 fun _ => ⟨fun h => ?_, fun h => ?_⟩
          · rw [kp, eD, k1, Int.toNat_natCast, Int.toNat_natCast, ints_length]
            have g0 : ((X ++ P1) ++ p :: x :: (P2 ++ U ++ Y)).getD (X ++ P1).length 0 = p := get_mid _ _ _ _ rfl
            have g1 : ((X ++ P1) ++ p :: x :: (P2 ++ U ++ Y)).getD ((X ++ P1).length + 1) 0 = x := get_mid2 _ _ _ _ _ rfl
            have G0 := ints_get (l := (X ++ P1) ++ p :: x :: (P2 ++ U ++ Y)) (i := (X ++ P1).length) (by omega)
            have G1 := ints_get lk
            refine ⟨by omega, by omega, ints_get lk, by omega, by omega, ints_get (by omega), ?_⟩
            rw [ints_cI, ints_cI, g0, g1]
            rw [ints_cI, g0] at G0
            rw [ints_cI, g1] at G1
            refine (hc x p hx hpV).mono ?_
            rintro _ _ _ ⟨rfl, rfl, r, rfl, hr⟩
            refine ⟨rfl, _, _, rfl, rfl, fun h6 => ⟨by omega, by omega, G0, by omega, by omega, G1, ?_⟩, fun h6 => ?_⟩
            · rw [ints_set]
              refine ⟨ints_get (by rw [List.length_set]; omega), ?_⟩
              rw [ints_set, set_swap _ _ _ _ rfl rfl]
              have := ih16 P1 (p :: P2) (by omega) (by rw [h4]; simp) (fun q hq => by
                rcases List.mem_cons.1 hq with rfl | hq
                · exact (hpx.1.1 (hr.1 h6))
                · exact h5 q hq)
              simpa using this
            · have hlt : rk p < rk x := by
                have h7 : ¬ rk x < rk p := fun h7 => by have := hr.2 (hpx.1.2 h7); omega
                have := hpx.2
                omega
              have hs : Sd rk ((P1 ++ [p]) ++ P2) := by rw [← h4]; exact h3
              have := nxt (P1 ++ [p] ++ x :: P2) (by rw [h4]; exact List.perm_middle) (Sd.ins hs (fun q hq => by
                rcases List.mem_append.1 hq with hq | hq
                · have := hs.left.cross q hq p (by simp)
                  omega
                · obtain rfl := List.mem_singleton.1 hq
                  exact hlt) h5)
              simpa using this
          · exfalso; simp only [List.length_append, List.length_cons, List.length_nil] at h; omega
      refine V.p4 fun _ => ⟨fun h => ?_, fun h => ?_⟩
      · have := p16 P.length P [] rfl (by simp) (fun q hq => by cases hq)
        simpa using this
      · exfalso; simp only [List.length_append] at h; omega
  cases S with
  | nil =>
    rw [sW (n := X.length + 1) (by omega) (by omega)]
    refine V.p4 fun _ => ⟨fun h => ?_, fun h => ⟨rfl, [], by simp, rfl, List.Perm.refl _, Sd.nil⟩⟩
    simp only [List.append_nil] at h; omega
  | cons x S =>
    rw [sW (n := (X ++ [x]).length) (by simp) (by simp only [List.length_cons] at hlen; simp; omega)]
    have := p4 S [x] [x] rfl (List.Perm.refl _) (Sd.one x)
    simpa using this
end Go.Ab
