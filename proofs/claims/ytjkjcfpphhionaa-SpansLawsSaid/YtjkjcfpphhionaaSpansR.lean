/- Spans of ticks, in plain words: sums of sets by counting. -/
import Derived.Test.YtjkjcfpphhionaaSpansQ
namespace Go.Ab.Spn
set_option linter.unusedVariables false
set_option linter.unusedSimpArgs false

def memB (l : List Sp) (n : Int) : Bool := l.any fun s => decide (s.f ≤ n) && decide (n < s.t)
theorem memB_iff {l : List Sp} {n : Int} : memB l n = true ↔ mem l n := by
  unfold memB
  rw [List.any_eq_true]
  constructor
  · rintro ⟨s, hs, h⟩
    simp only [Bool.and_eq_true, decide_eq_true_eq] at h
    exact ⟨s, hs, h⟩
  · rintro ⟨s, hs, h⟩
    exact ⟨s, hs, by simp [h]⟩
def b2i : Bool → Int
  | true => 1
  | false => 0
def cnt (p : Int → Bool) (lo : Int) : Nat → Int
  | 0 => 0
  | k + 1 => cnt p lo k + b2i (p (lo + k))
theorem cnt_congr {p q : Int → Bool} {lo : Int} : ∀ {k : Nat}, (∀ i : Nat, i < k → p (lo + i) = q (lo + i)) → cnt p lo k = cnt q lo k
  | 0, _ => rfl
  | k + 1, h => by rw [cnt, cnt, cnt_congr (k := k) fun i hi => h i (by omega), h k (by omega)]
theorem cnt_incl (p q : Int → Bool) (lo : Int) : ∀ k : Nat, cnt p lo k + cnt q lo k = cnt (fun n => p n || q n) lo k + cnt (fun n => p n && q n) lo k
  | 0 => rfl
  | k + 1 => by
    have ih := cnt_incl p q lo k
    simp only [cnt]
    generalize p (lo + k) = a
    generalize q (lo + k) = b
    cases a <;> cases b <;> simp [b2i] <;> omega
theorem cnt_zero {p : Int → Bool} {lo : Int} : ∀ {k : Nat}, (∀ i : Nat, i < k → p (lo + i) = false) → cnt p lo k = 0
  | 0, _ => rfl
  | k + 1, h => by rw [cnt, cnt_zero (k := k) fun i hi => h i (by omega), h k (by omega)]; rfl
theorem cnt_one (f t lo : Int) : ∀ k : Nat, lo ≤ f → f ≤ t → cnt (fun n => decide (f ≤ n) && decide (n < t)) lo k = max 0 (min t (lo + k) - f)
  | 0, h1, h2 => by simp only [cnt]; omega
  | k + 1, h1, h2 => by
    rw [cnt, cnt_one f t lo k h1 h2]
    by_cases c1 : f ≤ lo + k <;> by_cases c2 : lo + k < t <;> simp only [c1, c2, decide_true, decide_false, Bool.and_true, Bool.and_false, Bool.and_self, b2i] <;> omega
theorem szs_add : ∀ (l : List Sp) (s : Int), l.foldl (fun n s => n + (s.t - s.f)) s = s + totF l
  | [], s => by simp [totF]
  | x :: l, s => by
    have h1 := szs_add l (s + (x.t - x.f))
    have h2 := szs_add l (0 + (x.t - x.f))
    have h3 : totF (x :: l) = l.foldl (fun n s => n + (s.t - s.f)) (0 + (x.t - x.f)) := rfl
    rw [h3, h2, List.foldl_cons, h1]
    omega
theorem tot_cnt : ∀ {J : List Sp}, NF J → ∀ {lo : Int} {K : Nat}, (∀ s ∈ J, lo ≤ s.f ∧ s.t ≤ lo + K) → totF J = cnt (memB J) lo K
  | [], _, lo, K, _ => by
    rw [cnt_zero (p := memB []) (fun i _ => rfl)]; rfl
  | s :: J, hn, lo, K, hb => by
    obtain ⟨h1, h2, h3⟩ := nf_cons.1 hn
    have ih := tot_cnt h3 (lo := lo) (K := K) fun x hx => hb x (by simp [hx])
    have b := hb s (by simp)
    have e1 : totF (s :: J) = (s.t - s.f) + totF J := by
      have h3 : totF (s :: J) = J.foldl (fun n s => n + (s.t - s.f)) (0 + (s.t - s.f)) := rfl
      rw [h3, szs_add]; omega
    have h4 := cnt_incl (fun n => decide (s.f ≤ n) && decide (n < s.t)) (memB J) lo K
    have h5 : cnt (fun n => (decide (s.f ≤ n) && decide (n < s.t)) && memB J n) lo K = 0 := cnt_zero fun i _ => by
      cases hm : memB J (lo + i) with
      | false => simp
      | true =>
        have := mem_gt h1 (memB_iff.1 hm)
        simp only [Bool.and_true, Bool.and_eq_false_iff, decide_eq_false_iff_not]
        omega
    have h6 := cnt_one s.f s.t lo K b.1 (by omega)
    have h7 : cnt (memB (s :: J)) lo K = cnt (fun n => (decide (s.f ≤ n) && decide (n < s.t)) || memB J n) lo K := cnt_congr fun i _ => rfl
    rw [e1, h7]
    rw [h5, h6, ← ih] at h4
    omega
theorem nf_nil {J : List Sp} (h : NF J) (hm : ∀ n, ¬ mem J n) : J = [] := nf_ext h NF.nil fun n => ⟨fun k => (hm n k).elim, fun k => (mem_nil n k).elim⟩
end Go.Ab.Spn
