import Derived.Test.YtlakbkdhdgicfaaGreatQDqK
import Derived.Test.YtlakbkdhdgicfaaGreatQDqL
namespace Go.Ab
open Go Go.Proofs
set_option linter.unusedVariables false
set_option linter.unusedSimpArgs false
set_option maxRecDepth 100000
set_option maxHeartbeats 1000000
def sumD (x : Int) : List (Int × Int) → Int
 | [] => 0
 | p :: L => p.1 * ceilZ x p.2 + sumD x L
theorem demZ_ge {x : Int} (hx : U x) : ∀ {L : List (Int × Int)} {n : Int}, LU L → U n → n ≤ demZ x L n
 | [], n, _, _ => Int.le_refl _
 | p :: L, n, hL, hn => by
  have h1 := hL p (by simp)
  have h2 := mulZ_U h1.1 (ceilZ_U hx h1.2)
  have h3 := demZ_ge hx (L := L) (fun q hq => hL q (by simp [hq])) (addZ_U hn h2)
  have h4 : n ≤ addZ n (mulZ p.1 (ceilZ x p.2)) := by
   unfold U at hn h2
   unfold addZ topZ; split <;> omega
  rw [demZ]; omega
theorem demZ_real {x : Int} (hx : U x) : ∀ {L : List (Int × Int)} {n : Int}, LU L → U n → demZ x L n < topZ → demZ x L n = n + sumD x L
 | [], n, _, _, _ => by simp [demZ, sumD]
 | p :: L, n, hL, hn, h => by
  have h1 := hL p (by simp)
  have h2 := mulZ_U h1.1 (ceilZ_U hx h1.2)
  have h0 := Int.mul_nonneg h1.1.1 (ceilZ_U hx h1.2).1
  have hL' : LU L := fun q hq => hL q (by simp [hq])
  rw [demZ] at h ⊢
  have h3 := demZ_ge hx hL' (addZ_U hn h2)
  have h4 := demZ_real hx hL' (addZ_U hn h2) h
  rw [h4, sumD]
  have h5 : addZ n (mulZ p.1 (ceilZ x p.2)) < topZ := by omega
  have h6 : addZ n (mulZ p.1 (ceilZ x p.2)) = n + mulZ p.1 (ceilZ x p.2) := by
   unfold addZ at h5 ⊢; split at h5
   ·omega
   ·rename_i g; rw [if_neg g]
  have h7 : mulZ p.1 (ceilZ x p.2) = p.1 * ceilZ x p.2 := by
   have : mulZ p.1 (ceilZ x p.2) < topZ := by have := hn.1; omega
   unfold mulZ at this ⊢; omega
  rw [h6, h7]; omega
theorem ceilZ_cover {x p : Int} (hx : 1 ≤ x ∧ x ≤ 1048576) (hp : 1 ≤ p) : x ≤ ceilZ x p * p := by
 have h1 := Int.mul_ediv_add_emod (x - 1) p
 have h2 := Int.emod_lt_of_pos (x - 1) (show 0 < p by omega)
 have h3 : p * ((x - 1) / p) = (x - 1) / p * p := Int.mul_comm _ _
 unfold ceilZ
 rw [if_neg (by omega), if_neg (by unfold topZ; omega), Int.add_mul]
 omega
theorem use_le {x : Int} (hx : 1 ≤ x ∧ x ≤ 1048576) : ∀ (L : List (Int × Int)) (k : Nat) (o u S : Int), (∀ p ∈ L, 0 ≤ p.1 ∧ 1 ≤ p.2 ∧ p.2 ≤ 1048576) → k + L.length ≤ 3 → 0 ≤ o → 1 ≤ u → u ≤ 1048576 ^ k → x * o ≤ u * S → 0 ≤ S → S + sumD x L ≤ x →
  (useF L (o, u)).1 ≤ (useF L (o, u)).2
 | [], k, o, u, S, _, _, ho, hu, hu2, hi, hS, hs => by
  simp only [sumD, Int.add_zero] at hs
  have h1 : u * S ≤ u * x := Int.mul_le_mul_of_nonneg_left hs (by omega)
  have h2 : x * o ≤ x * u := by rw [Int.mul_comm x u]; omega
  exact Int.le_of_mul_le_mul_left h2 (by omega)
 | p :: L, k, o, u, S, hL, hk, ho, hu, hu2, hi, hS, hs => by
  obtain ⟨h1, h2, h3⟩ := hL p (by simp)
  have hL' : ∀ q ∈ L, 0 ≤ q.1 ∧ 1 ≤ q.2 ∧ q.2 ≤ 1048576 := fun q hq => hL q (by simp [hq])
  have hx0 : U x := by unfold U; omega
  have hc0 := (ceilZ_U hx0 (show U p.2 by unfold U; omega)).1
  have hpos : ∀ {L : List (Int × Int)}, (∀ q ∈ L, 0 ≤ q.1 ∧ 1 ≤ q.2 ∧ q.2 ≤ 1048576) → 0 ≤ sumD x L := by
   intro L
   induction L with
   | nil => intro _; exact Int.le_refl _
   | cons q L ih =>
    intro h
    obtain ⟨g1, g2, g3⟩ := h q (by simp)
    have g4 := (ceilZ_U hx0 (show U q.2 by unfold U; omega)).1
    have g5 := Int.mul_nonneg g1 g4
    have g6 := ih fun r hr => h r (by simp [hr])
    simp only [sumD]; omega
  have hpL := hpos hL'
  have hcv := ceilZ_cover hx h2
  simp only [sumD] at hs
  have hck := Int.mul_nonneg h1 hc0
  have e1 : x * (o * p.2 + p.1 * u) ≤ u * p.2 * (S + p.1 * ceilZ x p.2) := by
   have a1 : x * o * p.2 ≤ u * S * p.2 := Int.mul_le_mul_of_nonneg_right hi (by omega)
   have a2 : p.1 * u * x ≤ p.1 * u * (ceilZ x p.2 * p.2) := Int.mul_le_mul_of_nonneg_left hcv (Int.mul_nonneg h1 (by omega))
   have b1 : x * (o * p.2 + p.1 * u) = x * o * p.2 + p.1 * u * x := by
    rw [Int.mul_add, Int.mul_assoc, Int.mul_comm x (p.1 * u)]
   have b2 : u * p.2 * (S + p.1 * ceilZ x p.2) = u * S * p.2 + p.1 * u * (ceilZ x p.2 * p.2) := by
    rw [Int.mul_add]
    congr 1
    ·rw [Int.mul_assoc, Int.mul_comm p.2 S, ← Int.mul_assoc]
    ·rw [Int.mul_comm p.1 u, Int.mul_assoc u p.2, Int.mul_assoc u p.1, Int.mul_left_comm p.2 p.1, Int.mul_comm p.2]
   rw [b1, b2]; omega
  have hu1 : 1 ≤ u * p.2 := by
   have := Int.mul_le_mul hu h2 (by omega) (show (0 : Int) ≤ u by omega)
   omega
  have hu3 : u * p.2 ≤ 1048576 ^ (k + 1) := by
   rw [Int.pow_succ]
   exact Int.mul_le_mul hu2 h3 (by omega) (by have : (0 : Int) ≤ 1048576 ^ k := Int.pow_nonneg (by omega); exact this)
  have hkk : (1048576 : Int) ^ (k + 1) ≤ 1152921504606846976 := by
   have hk2 : k = 0 ∨ k = 1 ∨ k = 2 := by simp at hk; omega
   rcases hk2 with rfl | rfl | rfl <;> decide
  have o0 := Int.mul_nonneg ho (show (0 : Int) ≤ p.2 by omega)
  have o1 := Int.mul_nonneg h1 (show (0 : Int) ≤ u by omega)
  have hov : o * p.2 + p.1 * u ≤ u * p.2 := by
   have g1 : u * p.2 * (S + p.1 * ceilZ x p.2) ≤ u * p.2 * x := Int.mul_le_mul_of_nonneg_left (by omega) (by omega)
   have g2 : x * (o * p.2 + p.1 * u) ≤ x * (u * p.2) := by rw [Int.mul_comm x (u * p.2)]; omega
   exact Int.le_of_mul_le_mul_left g2 (by omega)
  have e2 : useS (o, u) p = (o * p.2 + p.1 * u, u * p.2) := by
   have m1 : mulZ o p.2 = o * p.2 := by unfold mulZ topZ; omega
   have m2 : mulZ p.1 u = p.1 * u := by unfold mulZ topZ; omega
   have m3 : mulZ u p.2 = u * p.2 := by unfold mulZ topZ; omega
   unfold useS
   simp only [m1, m2, m3]
   rw [show addZ (o * p.2) (p.1 * u) = o * p.2 + p.1 * u by unfold addZ topZ; rw [if_neg (by omega)]]
  rw [useF, List.foldl_cons, e2]
  exact use_le hx L (k + 1) _ _ (S + p.1 * ceilZ x p.2) hL' (by simp at hk; omega) (by omega) hu1 hu3 e1 (by omega) (by omega)
theorem low_tk : ∀ {T : List Tk}, T ≠ [] → ∃ a, a < T.length ∧ ∀ t ∈ T, (tk T a).p ≤ t.p
 | [], h => absurd rfl h
 | [t], _ => ⟨0, by simp, fun s hs => by simp at hs; subst hs; exact Int.le_refl _⟩
 | t :: s :: T, _ => by
  obtain ⟨a, ha, hm⟩ := low_tk (T := s :: T) (by simp)
  rcases Int.le_total t.p (tk (s :: T) a).p with h | h
  ·refine ⟨0, by simp, fun r hr => ?_⟩
   rcases List.mem_cons.1 hr with rfl | hr
   ·exact Int.le_refl _
   ·have := hm r hr
    show t.p ≤ r.p
    omega
  ·refine ⟨a + 1, by simpa using ha, fun r hr => ?_⟩
   show (tk (s :: T) a).p ≤ r.p
   rcases List.mem_cons.1 hr with rfl | hr
   ·exact h
   ·exact hm r hr
theorem used_le {c0 c1 c2 c3 c5 : Int} {M K C L : List Int} {T : List Tk} (h3 : T.length ≤ 3) (ha : admZ c0 c1 c2 c3 M c5 K C T L = true) : (useF (T.map (ldP c2 c3)) (0, 1)).1 ≤ (useF (T.map (ldP c2 c3)) (0, 1)).2 := by
 obtain ⟨h1, h2⟩ := admZ_iff.1 ha
 have hc := confZ_ok h1
 have hP := hc.pd
 obtain ⟨a, hal, hm⟩ := low_tk (T := T) (by intro e; have := hc.t0; simp [e] at this)
 have hin := (allTm_iff.1 h2) a hal
 unfold inTime at hin
 rw [fitZ_iff] at hin
 obtain ⟨x, hx1, hx2, hx3⟩ := hin
 have hde := (hP.at hal).2.2
 have hld : ldL c2 c3 T a = T.map (ldP c2 c3) := by
  have hH : higherL T a = (List.range T.length).map fun (m : Nat) => (m : Int) := by
   unfold higherL idxF
   rw [List.filter_eq_self.2]
   intro m hmm
   have hmm : m < T.length := by simpa using hmm
   have := hm (tk T m) (by rw [tk_lt hmm]; exact List.getElem_mem hmm)
   simpa using this
  unfold ldL
  rw [hH]
  apply List.ext_getElem (by simp)
  intro i g1 g2
  simp at g1 g2
  simp [tk_lt g2]
 rw [hld] at hx3
 have hLU : LU (T.map (ldP c2 c3)) := by rw [← hld]; exact ldL_U hc.fits _
 have hxu : U x := by unfold U; omega
 have hdu := del_U hc.fits (c2 := c2) (c3 := c3) (a : Int)
 have hr := demZ_real hxu hLU hdu (by unfold topZ; omega)
 refine use_le ⟨hx1, by omega⟩ (T.map (ldP c2 c3)) 0 0 1 0 ?_ (by simpa using h3) (Int.le_refl 0) (by omega) (by decide) (by simp) (Int.le_refl 0) ?_
 ·intro p hp
  obtain ⟨t, ht, rfl⟩ := List.mem_map.1 hp
  have h4 := hP t ht
  simp only [ldP]
  omega
 ·have := hdu.1
  omega
end Go.Ab
