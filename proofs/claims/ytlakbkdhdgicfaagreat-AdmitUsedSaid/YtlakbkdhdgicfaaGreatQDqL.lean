import Derived.Test.YtlakbkdhdgicfaaGreatQDqI
namespace Go.Ab
open Go Go.Proofs
set_option linter.unusedVariables false
set_option linter.unusedSimpArgs false
set_option maxRecDepth 100000
set_option maxHeartbeats 1000000
def Pd (T : List Tk) : Prop := ∀ t ∈ T, 1 ≤ t.pe ∧ t.pe ≤ 1048576 ∧ t.de ≤ 1048576
theorem Cf.pd {c0 c1 c2 c3 c5 : Int} {M K C L : List Int} {T : List Tk} (h : Cf c0 c1 c2 c3 M c5 K C T L) : Pd T := fun t ht => by
 have := numsZ_b (h.nums t ht); omega
theorem Pd.at {T : List Tk} (h : Pd T) {i : Nat} (hi : i < T.length) : 1 ≤ (tk T i).pe ∧ (tk T i).pe ≤ 1048576 ∧ (tk T i).de ≤ 1048576 := by
 rw [tk_lt hi]; exact h _ (List.getElem_mem hi)
section
variable {c2 c3 : Int} {C : List Int} {S T : List Tk}
theorem allTm_iff {n : Nat} : allTm c2 c3 C T n = true ↔ ∀ i, i < n → inTime c2 c3 C T i = true := by simp [allTm]
end
theorem all_tk {T : List Tk} {q : Tk → Prop} : (∀ t ∈ T, q t) ↔ ∀ i, i < T.length → q (tk T i) := by
 constructor
 ·intro h i hi; rw [tk_lt hi]; exact h _ (List.getElem_mem hi)
 ·intro h t ht
  obtain ⟨i, hi, rfl⟩ := List.mem_iff_getElem.1 ht
  rw [← tk_lt hi]; exact h i hi
theorem admZ_iff {c0 c1 c2 c3 c5 : Int} {M K C L : List Int} {T : List Tk} : admZ c0 c1 c2 c3 M c5 K C T L = true ↔ confZ c0 c1 c2 c3 M c5 K C T L = 0 ∧ allTm c2 c3 C T T.length = true := by
 simp [admZ]
end Go.Ab
