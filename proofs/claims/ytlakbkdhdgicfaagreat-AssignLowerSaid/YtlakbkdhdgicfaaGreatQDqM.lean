import Derived.Test.YtlakbkdhdgicfaaGreatQDqL
namespace Go.Ab
open Go Go.Proofs
set_option linter.unusedVariables false
set_option linter.unusedSimpArgs false
set_option maxRecDepth 100000
set_option maxHeartbeats 1000000
theorem qL {level : Int} {f g : Nat → Int × Int} : ∀ {l : List Nat} {n m b d : Int}, (∀ i ∈ l, ((g i).1 < level → (f i).1 < level) ∧ 0 ≤ (f i).2 ∧ (f i).2 ≤ (g i).2) → 0 ≤ n → n ≤ m → b ≤ d → jO level (l.map f) n b ≤ jO level (l.map g) m d
 | [], n, m, b, d, _, _, _, hb => hb
 | i :: l, n, m, b, d, h, h0, hn, hb => by
  obtain ⟨h1, h2, h3⟩ := h i (by simp)
  have ht : ∀ j ∈ l, ((g j).1 < level → (f j).1 < level) ∧ 0 ≤ (f j).2 ∧ (f j).2 ≤ (g j).2 := fun j hj => h j (by simp [hj])
  show jO level ((f i) :: l.map f) n b ≤ jO level ((g i) :: l.map g) m d
  rw [show f i = ((f i).1, (f i).2) from rfl, show g i = ((g i).1, (g i).2) from rfl]
  simp only [jO]
  by_cases hg : (g i).1 < level
  ·rw [if_pos hg, if_pos (h1 hg)]
   exact qL ht (Int.le_refl 0) (Int.le_refl 0) hb
  ·rw [if_neg hg]
   by_cases hf : (f i).1 < level
   ·rw [if_pos hf]
    exact qL ht (Int.le_refl 0) (by omega) (by omega)
   ·rw [if_neg hf]
    exact qL ht (by omega) (by omega) (by omega)
theorem nK : ∀ (cs : List Int) (hs : List Bool) (n m : Int), uV cs hs (max n m) = max n (uV cs hs m)
 | [], [], n, m => rfl
 | [], _ :: _, n, m => rfl
 | _ :: _, [], n, m => rfl
 | c :: cs, h :: hs, n, m => by
  cases h
  ·show uV cs hs (max n m) = max n (uV cs hs m)
   exact nK cs hs n m
  ·show uV cs hs (max (max n m) c) = max n (uV cs hs (max m c))
   rw [Int.max_assoc, nK cs hs n]
theorem Fg {C : List Int} {a b level : Int} (P : List Op3) (m : Nat) (ha : a < level) (hb : b < level) : di C a P m < level → di C b P m < level := by
 unfold di CX
 split
 ·exact id
 ·intro h
  have h1 := nK C (fC C.length P m).1 a (max a b)
  have h2 := nK C (fC C.length P m).1 b a
  rw [show max a (max a b) = max b a by omega] at h1
  have h3 := nK C (fC C.length P m).1 b b
  rw [show max b b = b by omega] at h3
  have h4 := nK C (fC C.length P m).1 a b
  rw [show max a b = max b a by omega] at h4
  omega
theorem yZ {C : List Int} {hit miss a b level : Int} (P : List Op3) (ha : a < level) (hb : b < level) : dY C hit miss a P level = dY C hit miss b P level := by
 have le : ∀ {a b : Int}, a < level → b < level → dY C hit miss a P level ≤ dY C hit miss b P level := by
  intro a b ha hb
  unfold dY dat
  refine qL (fun i _ => ⟨fun h => ?_, (kV _ _ _ _).1, Int.le_refl _⟩) (Int.le_refl 0) (Int.le_refl 0) (Int.le_refl 0)
  have h1 : di C b P i < level := by omega
  have h2 : di C b P (i + 1) < level := by omega
  have h3 := Fg P i hb ha h1
  have h4 := Fg P (i + 1) hb ha h2
  show max (di C a P i) (di C a P (i + 1)) < level
  omega
 exact Int.le_antisymm (le ha hb) (le hb ha)
def iW (t : Tk) (n : Int) : Tk := { t with th := n }
theorem blkT_th {C : List Int} {hit miss a n m : Int} (t : Tk) (h : n ≤ m) : oV C hit miss (iW t n) a ≤ oV C hit miss (iW t m) a := by
 unfold oV iW
 simp only
 by_cases h1 : n ≥ a
 ·rw [if_pos h1, if_pos (show m ≥ a by omega)]; exact Int.le_refl _
 ·rw [if_neg h1]
  by_cases h2 : m ≥ a
  ·rw [if_pos h2]; omega
  ·rw [if_neg h2, yZ t.pg (show n < a by omega) (show m < a by omega)]; exact Int.le_refl _
theorem Nw {C : List Int} {hit miss a n m : Int} (t : Tk) (h : n ≥ a ↔ m ≥ a) : oV C hit miss (iW t n) a = oV C hit miss (iW t m) a := by
 unfold oV iW
 simp only
 by_cases h1 : n ≥ a
 ·rw [if_pos h1, if_pos (h.1 h1)]
 ·have h2 : ¬ m ≥ a := fun g => h1 (h.2 g)
  rw [if_neg h1, if_neg h2, yZ t.pg (show n < a by omega) (show m < a by omega)]
def upd (T : List Tk) (i : Nat) (t : Tk) : List Tk := T.set i t
theorem jl {T : List Tk} {i : Nat} (t : Tk) (hi : i < T.length) (j : Nat) : tk (T.set i t) j = if i = j then t else tk T j := by
 unfold tk
 rw [List.getD_eq_getElem?_getD, List.getD_eq_getElem?_getD, List.getElem?_set]
 by_cases h : i = j
 ·rw [if_pos h, if_pos h, if_pos (by omega)]; rfl
 ·rw [if_neg h, if_neg h]
end Go.Ab
