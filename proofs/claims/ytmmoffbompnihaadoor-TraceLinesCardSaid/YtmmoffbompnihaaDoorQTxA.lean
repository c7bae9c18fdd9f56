import Derived.Lib.ItoaMem
import Derived.Lib.ItoaLen
import Derived.Lib.AtoiTie
import Derived.Lib.SplitLaws
import Derived.Lib.Join
import Derived.Lib.IndexBytes
import Derived.Lib.IndexLaws
namespace Go.Ab
open Go Go.Lib
set_option linter.unusedVariables false
set_option linter.unusedSimpArgs false
abbrev By (l : List UInt8) : ByteArray := ByteArray.mk (Array.mk l)
theorem By_size (l : List UInt8) : (By l).size = l.length := rfl
theorem By_list (l : List UInt8) : (By l).data.toList = l := rfl
theorem By_app (l m : List UInt8) : By l ++ By m = By (l ++ m) := by
 apply ByteArray.ext
 show (By l ++ By m).data = _
 rw [ByteArray.data_append]
 simp [By]
theorem By_of (s : ByteArray) : s = By s.data.toList := by cases s; rfl
theorem decDigits_num (u : Nat) : ∀ c ∈ decDigits u, 48 ≤ c.toNat ∧ c.toNat ≤ 57 := by
 induction u using Nat.strongRecOn with
 | _ u ih =>
  rw [decDigits]
  split
  ·intro c hc
   simp only [List.mem_singleton] at hc
   subst hc
   rename_i h
   rw [UInt8.toNat_ofNat_of_lt' (by show 48 + u < 256; omega)]
   omega
  ·intro c hc
   simp only [List.mem_append, List.mem_singleton] at hc
   rcases hc with hc | rfl
   ·exact ih _ (by omega) c hc
   ·rw [UInt8.toNat_ofNat_of_lt' (by show 48 + u % 10 < 256; omega)]
    omega
theorem decDigits_ne (u : Nat) : decDigits u ≠ [] := by
 rw [decDigits]; split <;> simp
theorem indexByte_at {c : UInt8} : ∀ (p r : List UInt8), c ∉ p → indexByte (p ++ c :: r) c = p.length
 | [], r, _ => by simp [indexByte]
 | a :: p, r, h => by
  have hn : ¬ (a == c) = true := fun e => h (by rw [beq_iff_eq.1 e]; simp)
  have this := indexByte_at (c := c) p r (fun hh => h (List.mem_cons_of_mem _ hh))
  simp only [List.cons_append, indexByte]
  rw [if_neg hn, this]
  simp
theorem indexByte_no {c : UInt8} : ∀ (p : List UInt8), c ∉ p → indexByte p c = -1
 | [], _ => rfl
 | a :: p, h => by
  have hn : ¬ (a == c) = true := fun e => h (by rw [beq_iff_eq.1 e]; simp)
  have this := indexByte_no (c := c) p (fun hh => h (List.mem_cons_of_mem _ hh))
  simp only [indexByte]
  rw [if_neg hn, this]
  simp
theorem join_cc (x y : List UInt8) (r : List (List UInt8)) (sep : List UInt8) : Lib.join (x :: y :: r) sep = x ++ (sep ++ Lib.join (y :: r) sep) := by
 simp [Lib.join, List.intercalate, List.intersperse]
theorem splitK_join {c : UInt8} : ∀ (x : List UInt8) (r : List (List UInt8)), (∀ p ∈ x :: r, c ∉ p) → ∀ k, r.length ≤ k → splitK [c] 0 k (Lib.join (x :: r) [c]) = x :: r
 | x, [], h, k, _ => by
  rw [Lib.join_one]
  have hi : index x [c] = -1 := by rw [index_one]; exact indexByte_no x (h x (by simp))
  cases k with
  | zero => rfl
  | succ k => simp [splitK, hi]
 | x, y :: r, h, 0, hk => by simp at hk
 | x, y :: r, h, k + 1, hk => by
  have ih := splitK_join y r (fun p hp => h p (by simp at hp ⊢; right; exact hp)) k (by simpa using hk)
  rw [join_cc]
  have hi : index (x ++ ([c] ++ Lib.join (y :: r) [c])) [c] = (x.length : Int) := by rw [index_one]; exact indexByte_at x _ (h x (by simp))
  simp only [splitK]
  rw [hi, if_neg (by simp)]
  have e1 : (x ++ ([c] ++ Lib.join (y :: r) [c])).take ((x.length : Int).toNat + 0) = x := by simp
  have e2 : (x ++ ([c] ++ Lib.join (y :: r) [c])).drop ((x.length : Int).toNat + [c].length) = Lib.join (y :: r) [c] := by
   rw [show (x.length : Int).toNat + [c].length = x.length + 1 by simp, ← List.append_assoc, List.drop_append_of_le_length (by simp)]
   rw [List.drop_of_length_le (by simp)]
   rfl
  rw [e1, e2, ih]
theorem count_join {c : UInt8} : ∀ (x : List UInt8) (r : List (List UInt8)), (∀ p ∈ x :: r, c ∉ p) → count (Lib.join (x :: r) [c]) [c] = r.length
 | x, [], h => by
  rw [Lib.join_one]
  exact count_miss (by rw [index_one]; exact indexByte_no x (h x (by simp)))
 | x, y :: r, h => by
  have ih := count_join y r (fun p hp => h p (by simp at hp ⊢; right; exact hp))
  rw [join_cc]
  have hi : index (x ++ ([c] ++ Lib.join (y :: r) [c])) [c] = (x.length : Int) := by rw [index_one]; exact indexByte_at x _ (h x (by simp))
  rw [count_hit (by simp) hi]
  have e2 : (x ++ ([c] ++ Lib.join (y :: r) [c])).drop (x.length + [c].length) = Lib.join (y :: r) [c] := by
   rw [show x.length + [c].length = x.length + 1 by simp, ← List.append_assoc, List.drop_append_of_le_length (by simp)]
   rw [List.drop_of_length_le (by simp)]
   rfl
  rw [e2, ih]
  simp [Nat.add_comm]
theorem splitB_join {c : UInt8} (x : List UInt8) (r : List (List UInt8)) (h : ∀ p ∈ x :: r, c ∉ p) :
  splitB (By [c]) 0 (countB (By (Lib.join (x :: r) [c])) (By [c])) (By (Lib.join (x :: r) [c])) = (x :: r).map By := by
 have h1 := splitB_data (By [c]) 0 (countB (By (Lib.join (x :: r) [c])) (By [c])) (By (Lib.join (x :: r) [c]))
 rw [By_list, By_list] at h1
 have h2 : countB (By (Lib.join (x :: r) [c])) (By [c]) = r.length := count_join x r h
 rw [h2] at h1 ⊢
 rw [splitK_join x r h _ (Nat.le_refl _)] at h1
 have h3 : ∀ (L : List ByteArray) (M : List (List UInt8)), L.map (·.data.toList) = M → L = M.map By := by
  intro L
  induction L with
  | nil => intro M hM; simp at hM; subst hM; rfl
  | cons a L ih =>
   intro M hM
   cases M with
   | nil => simp at hM
   | cons b M =>
    simp only [List.map_cons, List.cons.injEq] at hM
    rw [List.map_cons, ← ih M hM.2, ← hM.1, ← By_of]
 exact h3 _ _ h1
theorem count_join_B {c : UInt8} (x : List UInt8) (r : List (List UInt8)) (h : ∀ p ∈ x :: r, c ∉ p) : countB (By (Lib.join (x :: r) [c])) (By [c]) = r.length := count_join x r h
end Go.Ab
