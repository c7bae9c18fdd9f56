/- Packing: how many boxes there are. For every input. -/
import Derived.Test.YtdmpiondalhonaaPkVB
import Derived.Test.YtdmpiondalhonaaPackK
namespace Go.Ab
open Go Go.Proofs Stb Pak
set_option linter.unusedVariables false
set_option linter.unusedSimpArgs false
set_option maxRecDepth 100000
set_option maxHeartbeats 1000000

def sumP (l p : List Int) : Int := (p.map fun i => l.getD i.toNat 0).sum
theorem sum_perm {a b : List Int} (h : a.Perm b) : a.sum = b.sum := by
  induction h with
  | nil => rfl
  | cons x _ ih => simp only [List.sum_cons, ih]
  | swap x y l => simp only [List.sum_cons]; omega
  | trans _ _ h1 h2 => exact h1.trans h2
theorem sum_pos : ∀ {a : List Int}, (∀ x ∈ a, 0 ≤ x) → 0 ≤ a.sum
  | [], _ => Int.le_refl _
  | x :: a, h => by
    have := sum_pos fun y hy => h y (List.mem_cons_of_mem _ hy)
    have := h x (by simp)
    simp only [List.sum_cons]; omega
theorem sum_set : ∀ (L : List Int) (j : Nat) (v : Int), j < L.length → (L.set j v).sum = L.sum - L.getD j 0 + v
  | [], j, v, h => by simp at h
  | x :: L, 0, v, _ => by simp; omega
  | x :: L, j + 1, v, h => by
    have := sum_set L j v (by simpa using h)
    simp only [List.set_cons_succ, List.sum_cons, this, List.getD_cons_succ]
    omega
theorem chs_nonneg {tight : Bool} {L : List Int} {size : Int} : ∀ (rs : List Int) (b : Nat) (a : Int), 0 ≤ a → 0 ≤ chs tight L size rs b a
  | [], _, a, h => h
  | r :: rs, b, a, h => by
    simp only [chs]
    refine chs_nonneg rs _ _ ?_
    split <;> omega
theorem chs_none {tight : Bool} {L : List Int} {size : Int} : ∀ (rs : List Int) (b : Nat) (a : Int), chs tight L size rs b a < 0 → ∀ r ∈ rs, r < size
  | [], _, _, _, r, hr => by cases hr
  | x :: rs, b, a, h, r, hr => by
    simp only [chs] at h
    have ha : a < 0 := by
      rcases Int.lt_or_le a 0 with h1 | h1
      · exact h1
      · have := chs_nonneg (tight := tight) (L := L) (size := size) rs (b + 1) (if x ≥ size ∧ (a < 0 ∨ tight = true ∧ x < L.getD a.toNat 0) then (b : Int) else a) (by split <;> omega)
        omega
    have hx : x < size := by
      rcases Int.lt_or_le x size with h1 | h1
      · exact h1
      · rw [if_pos ⟨h1, .inl ha⟩] at h
        have := chs_nonneg (tight := tight) (L := L) (size := size) rs (b + 1) b (by omega)
        omega
    rcases List.mem_cons.1 hr with rfl | hr
    · exact hx
    · exact chs_none rs _ _ h r hr

/-- What holds while things are put. -/
structure Inv (l : List Int) (room T : Int) (s : List Int × List Int) (todo : List Int) : Prop where
  len : s.1.length = l.length
  bd : ∀ b < s.2.length, 0 ≤ s.2.getD b 0 ∧ s.2.getD b 0 < room
  ps : ∀ b < s.2.length, s.2.getD b 0 = room - psum l s.1 b l.length
  lt : ∀ k < l.length, s.1.getD k 0 < s.2.length
  un : ∀ i ∈ todo, s.1.getD i.toNat 0 = -1
  done : ∀ k < l.length, (k : Int) ∉ todo → 0 ≤ s.1.getD k 0
  pair : ∀ i j, i < j → j < s.2.length → s.2.getD i 0 + s.2.getD j 0 < room
  sum : s.2.sum + T = s.2.length * room + sumP l todo
theorem snoc_getD (L : List Int) (v : Int) (b : Nat) : (L ++ [v]).getD b 0 = if b < L.length then L.getD b 0 else if b = L.length then v else 0 := by
  by_cases h : b < L.length
  · rw [if_pos h, List.getD_eq_getElem?_getD, List.getElem?_append_left h, ← List.getD_eq_getElem?_getD]
  · rw [if_neg h]
    by_cases e : b = L.length
    · rw [if_pos e]; exact get_mid _ _ _ _ e
    · rw [if_neg e, List.getD_eq_getElem?_getD, List.getElem?_eq_none (by rw [List.length_append, List.length_cons, List.length_nil]; omega)]; rfl
theorem Inv.step {l : List Int} {room T : Int} {s : List Int × List Int} {i : Int} {todo : List Int} {tight : Bool} (h : Inv l room T s (i :: todo)) (hn : i ∉ todo) (hin : ∀ j ∈ i :: todo, 0 ≤ j ∧ j.toNat < l.length) (hz : 1 ≤ l.getD i.toNat 0 ∧ l.getD i.toNat 0 ≤ room) : Inv l room T (stepF tight l room s i) todo := by
  obtain ⟨hi0, hiL⟩ := hin i (by simp)
  have hun := h.un i (by simp)
  have hsum := h.sum
  have es : sumP l (i :: todo) = l.getD i.toNat 0 + sumP l todo := by simp [sumP]
  rw [es] at hsum
  have other : ∀ j ∈ todo, ∀ v, (s.1.set i.toNat v).getD j.toNat 0 = -1 := fun j hj v => by
    have hj2 := hin j (List.mem_cons_of_mem _ hj)
    rw [getD_set _ _ _ _ (by rw [h.len]; exact hiL), if_neg (fun e => hn (by rw [show i = j from by omega]; exact hj))]
    exact h.un j (List.mem_cons_of_mem _ hj)
  have dn : ∀ v : Int, 0 ≤ v → ∀ k < l.length, (k : Int) ∉ todo → 0 ≤ (s.1.set i.toNat v).getD k 0 := fun v hv k hk hkn => by
    rw [getD_set _ _ _ _ (by rw [h.len]; exact hiL)]
    by_cases e : k = i.toNat
    · rw [if_pos e]; exact hv
    · rw [if_neg e]
      refine h.done k hk fun hm => ?_
      rcases List.mem_cons.1 hm with e2 | hm
      · omega
      · exact hkn hm
  have ok := aF_ok tight s.2 (l.getD i.toNat 0)
  unfold stepF
  split
  · rename_i hneg
    have hall := chs_none _ _ _ hneg
    have hfit : ∀ b < s.2.length, s.2.getD b 0 < l.getD i.toNat 0 := fun b hb => hall _ (getD_mem' hb)
    refine ⟨by simpa using h.len, fun b hb => ?_, fun b hb => ?_, fun k hk => ?_, fun j hj => other j hj _, dn _ (by omega), fun a b hab hb => ?_, ?_⟩
    · rw [List.length_append, List.length_cons, List.length_nil] at hb
      simp only [snoc_getD]
      split
      · exact h.bd b (by assumption)
      · rw [if_pos (by omega)]; omega
    · rw [List.length_append, List.length_cons, List.length_nil] at hb
      simp only [snoc_getD]
      rw [psum_set (by rw [h.len]; exact hiL) hun (by omega)]
      split
      · rename_i hb'
        rw [if_neg (fun e => by omega), Int.add_zero]
        exact h.ps b hb'
      · have eb : b = s.2.length := by omega
        subst eb
        rw [if_pos rfl, psum_none _ (fun k hk => by have := h.lt k hk; omega), if_pos ⟨hiL, rfl⟩]
        omega
    · have := h.lt k hk
      simp only [List.length_append, List.length_cons, List.length_nil]
      rw [getD_set _ _ _ _ (by rw [h.len]; exact hiL)]
      split <;> omega
    · rw [List.length_append, List.length_cons, List.length_nil] at hb
      simp only [snoc_getD]
      rw [if_pos (by omega : a < s.2.length)]
      split
      · exact h.pair a b hab (by assumption)
      · rw [if_pos (by omega)]
        have := hfit a (by omega)
        omega
    · simp only [List.length_append, List.length_cons, List.length_nil, List.sum_append, List.sum_cons, List.sum_nil]
      have e : ((s.2.length + (0 + 1) : Nat) : Int) * room = s.2.length * room + room := by
        rw [show ((s.2.length + (0 + 1) : Nat) : Int) = (s.2.length : Int) + 1 from by omega, Int.add_mul, Int.one_mul]
      rw [e]; omega
  · rename_i hneg
    rcases ok with h3 | ⟨h3, h4, h5⟩
    · exact absurd (by omega) hneg
    refine ⟨by simpa using h.len, fun b hb => ?_, fun b hb => ?_, fun k hk => ?_, fun j hj => other j hj _, dn _ h3, fun a b hab hb => ?_, ?_⟩
    · rw [List.length_set] at hb
      simp only
      rw [getD_set _ _ _ _ h4]
      have := h.bd b hb
      split
      · rename_i e; subst e; omega
      · exact this
    · rw [List.length_set] at hb
      simp only
      rw [getD_set _ _ _ _ h4, psum_set (by rw [h.len]; exact hiL) hun (by omega)]
      have := h.ps b hb
      split
      · rename_i e
        rw [if_pos ⟨hiL, by omega⟩, ← e]
        omega
      · rw [if_neg (fun e => by omega), Int.add_zero]
        exact this
    · have := h.lt k hk
      simp only [List.length_set]
      rw [getD_set _ _ _ _ (by rw [h.len]; exact hiL)]
      split <;> omega
    · rw [List.length_set] at hb
      simp only
      rw [getD_set _ _ _ _ h4, getD_set _ _ _ _ h4]
      have := h.pair a b hab hb
      split
      · rename_i e
        subst e
        rw [if_neg (by omega)]; omega
      · split
        · rename_i e; subst e; omega
        · exact this
    · simp only [List.length_set]
      rw [sum_set _ _ _ h4]
      omega
theorem Inv.run {l : List Int} {room T : Int} {tight : Bool} (hz : ∀ k < l.length, 1 ≤ l.getD k 0 ∧ l.getD k 0 ≤ room) : ∀ (p : List Int) (s : List Int × List Int), Inv l room T s p → p.Nodup → (∀ j ∈ p, 0 ≤ j ∧ j.toNat < l.length) → Inv l room T (runF tight l room p s) []
  | [], s, h, _, _ => h
  | i :: p, s, h, hn, hin => Inv.run hz p _ (h.step (List.nodup_cons.1 hn).1 hin (hz _ (hin i (by simp)).2)) (List.nodup_cons.1 hn).2 (fun j hj => hin j (List.mem_cons_of_mem _ hj))

/-- No two boxes could be one. -/
theorem pairs {room : Int} : ∀ (n : Nat) (L : List Int), L.length = n → (∀ b < L.length, L.getD b 0 < room) → (∀ i j, i < j → j < L.length → L.getD i 0 + L.getD j 0 < room) → L.sum + ((n - n / 2 : Nat) : Int) ≤ ((n - n / 2 : Nat) : Int) * room := by
  intro n
  induction n using Nat.strongRecOn with
  | ind n ih =>
    intro L hL h1 h2
    match L, hL with
    | [], hL => simp only [List.length_nil] at hL; subst hL; simp
    | [x], hL =>
      simp only [List.length_cons, List.length_nil] at hL
      subst hL
      have := h1 0 (by simp)
      simp only [List.getD_cons_zero] at this
      simp; omega
    | x :: y :: L, hL =>
      simp only [List.length_cons] at hL
      have e1 := h2 0 1 (by omega) (by simp)
      simp only [List.getD_cons_zero, List.getD_cons_succ] at e1
      have e2 := ih L.length (by omega) L rfl (fun b hb => by
        have := h1 (b + 2) (by simp only [List.length_cons]; omega)
        simpa only [List.getD_cons_succ] using this) (fun i j hij hj => by
        have := h2 (i + 2) (j + 2) (by omega) (by simp only [List.length_cons]; omega)
        simpa only [List.getD_cons_succ] using this)
      have e3 : n - n / 2 = (L.length - L.length / 2) + 1 := by omega
      rw [e3]
      simp only [List.sum_cons]
      have e4 : (((L.length - L.length / 2) + 1 : Nat) : Int) * room = ((L.length - L.length / 2 : Nat) : Int) * room + room := by
        rw [show (((L.length - L.length / 2) + 1 : Nat) : Int) = ((L.length - L.length / 2 : Nat) : Int) + 1 from by omega, Int.add_mul, Int.one_mul]
      rw [e4]; omega

def leastF (S room : Int) : Int := (S + room - 1) / room
theorem leastF_le {S room m : Int} (hr : 1 ≤ room) (h : S ≤ m * room) : leastF S room ≤ m := by
  unfold leastF
  have : (S + room - 1) / room < m + 1 := Int.ediv_lt_of_lt_mul (by omega) (by rw [Int.add_mul, Int.one_mul]; omega)
  omega
theorem leastF_ge {S room m : Int} (hr : 1 ≤ room) (h : m * room + 1 ≤ S) : m + 1 ≤ leastF S room := by
  unfold leastF
  exact Int.le_ediv_of_mul_le (by omega) (by rw [Int.add_mul, Int.one_mul]; omega)
theorem leastF_up {S room : Int} (hr : 1 ≤ room) : S ≤ leastF S room * room ∧ (leastF S room - 1) * room < S := by
  have h1 := Int.mul_ediv_add_emod (S + room - 1) room
  have h2 := Int.emod_nonneg (S + room - 1) (by omega : room ≠ 0)
  have h3 := Int.emod_lt_of_pos (S + room - 1) (by omega : 0 < room)
  unfold leastF
  rw [Int.mul_comm] at h1
  rw [Int.sub_mul, Int.one_mul]
  omega

/-- What is said of a packing. -/
theorem lay_ok {tight : Bool} {l p : List Int} {room : Int} (hr : RightP l room) (hp : p.Perm (rngF l.length)) :
    CheckP l room (layF tight l room p).1 ∧ leastF (sumP l (rngF l.length)) room ≤ (layF tight l room p).2.length ∧ ((layF tight l room p).2.length : Int) < 2 * leastF (sumP l (rngF l.length)) room + 1 := by
  have hbd : ∀ k < l.length, 1 ≤ l.getD k 0 ∧ l.getD k 0 ≤ room := (AllP_iff l room).1 hr.1
  have hroom := hr.2.2.1
  rw [← run_same tight l room p hr hp]
  have hT : sumP l p = sumP l (rngF l.length) := sum_perm (hp.map _)
  have neg : ∀ k < l.length, (List.replicate l.length (-1 : Int)).getD k 0 = -1 := fun k hk => by simp [List.getD_eq_getElem?_getD, hk]
  have hall : ∀ k < l.length, (k : Int) ∈ p := fun k hk => hp.mem_iff.2 (rngF_mem.2 ⟨by omega, by simpa using hk⟩)
  have I : Inv l room (sumP l p) (runF tight l room p (List.replicate l.length (-1), [])) [] := Inv.run hbd p _ ⟨by simp, fun b hb => by simp at hb, fun b hb => by simp at hb, fun k hk => by rw [neg k hk]; simp, fun i hi => neg _ (rngF_mem.1 (hp.mem_iff.1 hi)).2, fun k hk hn => absurd (hall k hk) hn, fun i j hij hj => by simp at hj, by simp⟩ (hp.nodup_iff.2 (rngF_nodup _)) (fun j hj => rngF_mem.1 (hp.mem_iff.1 hj))
  generalize runF tight l room p (List.replicate l.length (-1), []) = s at I ⊢
  rw [hT] at I
  have hs := I.sum
  have e0 : sumP l [] = 0 := rfl
  rw [e0, Int.add_zero] at hs
  refine ⟨⟨hr, I.len, fun i hi => ?_⟩, ?_, ?_⟩
  · rw [I.len] at hi
    have h1 := I.done i hi (by simp)
    have h2 := I.lt i hi
    have h3 := I.ps (s.1.getD i 0).toNat (by omega)
    have h4 := I.bd (s.1.getD i 0).toNat (by omega)
    rw [show (((s.1.getD i 0).toNat : Nat) : Int) = s.1.getD i 0 from by omega] at h3
    rw [I.len]
    exact ⟨h1, by omega⟩
  · refine leastF_le hroom ?_
    have : 0 ≤ s.2.sum := sum_pos fun x hx => by
      obtain ⟨k, hk, rfl⟩ := List.getElem_of_mem hx
      have := (I.bd k hk).1
      simpa [List.getD_eq_getElem?_getD, hk] using this
    omega
  · have hp2 := pairs s.2.length s.2 rfl (fun b hb => (I.bd b hb).2) I.pair
    by_cases h0 : s.2.length = 0
    · rw [h0]
      have : 0 ≤ leastF (sumP l (rngF l.length)) room := by
        rw [h0] at hs
        have hnil : s.2 = [] := List.eq_nil_of_length_eq_zero h0
        rw [hnil] at hs
        simp at hs
        rw [hs]
        unfold leastF
        exact Int.ediv_nonneg (by omega) (by omega)
      omega
    · have e1 : (s.2.length : Int) * room = ((s.2.length / 2 : Nat) : Int) * room + ((s.2.length - s.2.length / 2 : Nat) : Int) * room := by
        rw [← Int.add_mul]
        congr 1
        omega
      have := leastF_ge (S := sumP l (rngF l.length)) (m := ((s.2.length / 2 : Nat) : Int)) hroom (by omega)
      omega
end Go.Ab
