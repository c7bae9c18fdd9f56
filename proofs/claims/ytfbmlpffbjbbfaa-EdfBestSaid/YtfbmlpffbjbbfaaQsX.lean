import Derived.Test.YtfbmlpffbjbbfaaQsT
namespace Go.Ab
open Go Go.Proofs Stb
set_option linter.unusedVariables false
set_option linter.unusedSimpArgs false
set_option maxHeartbeats 1000000
def lf (C : List Wrk) (k : Nat) : List Int := (runT C k (costsW C) 0).2
def dn (C : List Wrk) (k : Nat) : List Int := doneT C k (costsW C) (relsW C) 0
def bs (C : List Wrk) (k : Nat) : Int := bestF C (lf C k) k
variable {C : List Wrk}
theorem lf_len (C : List Wrk) (k : Nat) : (lf C k).length = C.length := by unfold lf; rw [(runT_len _ _ _ _).2]; simp [costsW]
theorem dn_len (C : List Wrk) (k : Nat) : (dn C k).length = C.length := by unfold dn; rw [doneT_len]; simp [relsW]
theorem lf_succ (C : List Wrk) (k : Nat) : lf C (k + 1) = tickL (lf C k) (bs C k) := by unfold lf bs; rw [runT_succ]; rfl
theorem bs_ok (C : List Wrk) (k : Nat) : Bst C (lf C k) k C.length (bs C k) := bestF_ok ..
theorem lf_zero (C : List Wrk) (i : Nat) : (lf C 0).getD i 0 = (gW C i).c := costsW_get i
theorem lf_nonneg (hc : ∀ w ∈ C, 0 ≤ w.c) : ∀ k, ∀ i < C.length, 0 ≤ (lf C k).getD i 0
 | 0, i, hi => by
  rw [lf_zero]
  refine hc _ ?_
  unfold gW
  rw [List.getD_eq_getElem?_getD, List.getElem?_eq_getElem hi]; exact List.getElem_mem ..
 | k + 1, i, hi => by
  rw [lf_succ]
  have := (tick_nonneg (lf_len C k) (bs_ok C k) (fun i hi => lf_nonneg hc k i (by rwa [lf_len] at hi))).1 i (by rw [tickL_len, lf_len]; exact hi)
  exact this
theorem lf_get (C : List Wrk) (k i : Nat) : (lf C (k + 1)).getD i 0 = if 0 ≤ bs C k ∧ i = (bs C k).toNat then (lf C k).getD i 0 - 1 else (lf C k).getD i 0 := by
 rw [lf_succ]
 unfold tickL
 by_cases hb : bs C k < 0
 ·rw [if_pos hb, if_neg (by omega)]
 ·rw [if_neg hb]
  have hbl : (bs C k).toNat < (lf C k).length := by
   rw [lf_len]
   rcases bs_ok C k with ⟨h, _⟩ | ⟨_, h, _⟩
   ·omega
   ·exact h
  rw [getD_set hbl]
  by_cases e : i = (bs C k).toNat
  ·rw [if_pos e, if_pos ⟨by omega, e⟩, e]
  ·rw [if_neg e, if_neg (fun h => e h.2)]
theorem lf_le (C : List Wrk) (k i : Nat) : (lf C (k + 1)).getD i 0 ≤ (lf C k).getD i 0 := by rw [lf_get]; split <;> omega
theorem lf_rel (C : List Wrk) (i : Nat) : ∀ k : Nat, (k : Int) ≤ (gW C i).r → (lf C k).getD i 0 = (gW C i).c
 | 0, _ => lf_zero C i
 | k + 1, h => by
  rw [lf_get, lf_rel C i k (by omega), if_neg]
  rintro ⟨h1, h2⟩
  rcases bs_ok C k with ⟨h3, _⟩ | ⟨_, _, h3, _⟩
  ·omega
  ·have := h3.2.1
   rw [← h2] at this
   omega
theorem dn_get (C : List Wrk) (k i : Nat) (hi : i < C.length) : (dn C (k + 1)).getD i 0 = if (0 ≤ bs C k ∧ i = (bs C k).toNat) ∧ (lf C (k + 1)).getD i 0 = 0 then (k : Int) + 1 else (dn C k).getD i 0 := by
 have e : dn C (k + 1) = if 0 ≤ bs C k ∧ (lf C (k + 1)).getD (bs C k).toNat 0 = 0 then (dn C k).set (bs C k).toNat (k + 1) else dn C k := by
  rw [lf_succ]
  exact doneT_succ C k _ _
 rw [e]
 by_cases h : 0 ≤ bs C k ∧ (lf C (k + 1)).getD (bs C k).toNat 0 = 0
 ·rw [if_pos h]
  by_cases hb : i = (bs C k).toNat
  ·rw [if_pos ⟨⟨h.1, hb⟩, by rw [hb]; exact h.2⟩, getD_set (by rw [dn_len, ← hb]; exact hi), if_pos hb]
  ·rw [if_neg (fun q => hb q.1.2)]
   rcases bs_ok C k with ⟨h3, _⟩ | ⟨_, h3, _⟩
   ·omega
   ·rw [getD_set (by rw [dn_len]; exact h3), if_neg hb]
 ·rw [if_neg h, if_neg]
  rintro ⟨⟨h1, h2⟩, h3⟩
  exact h ⟨h1, by rw [← h2]; exact h3⟩
theorem dn_le (hc : ∀ w ∈ C, 0 ≤ w.c) {i : Nat} (hi : i < C.length) : ∀ k : Nat, (lf C k).getD i 0 = 0 → (dn C k).getD i 0 ≤ max (k : Int) (gW C i).r
 | 0, _ => by
  have : (dn C 0).getD i 0 = (gW C i).r := relsW_get i
  rw [this]; omega
 | k + 1, h => by
  rw [dn_get C k i hi]
  by_cases hb : 0 ≤ bs C k ∧ i = (bs C k).toNat
  ·rw [if_pos ⟨hb, h⟩]; omega
  ·rw [if_neg (fun q => hb q.1)]
   rw [lf_get, if_neg hb] at h
   have := dn_le hc hi k h
   omega
theorem dn_more {i : Nat} (hi : i < C.length) {k : Nat} (h : (lf C k).getD i 0 = 0) : ∀ m : Nat, (lf C (k + m)).getD i 0 = 0 ∧ (dn C (k + m)).getD i 0 = (dn C k).getD i 0
 | 0 => ⟨h, rfl⟩
 | m + 1 => by
  obtain ⟨h1, h2⟩ := dn_more hi h m
  have hb : ¬ (0 ≤ bs C (k + m) ∧ i = (bs C (k + m)).toNat) := by
   rintro ⟨q1, q2⟩
   rcases bs_ok C (k + m) with ⟨h3, _⟩ | ⟨_, _, h3, _⟩
   ·omega
   ·have := h3.2.2
    rw [← q2] at this
    omega
  rw [← Nat.add_assoc, lf_get, if_neg hb, dn_get C _ i hi, if_neg (fun q => hb q.1)]
  exact ⟨h1, h2⟩
def wsum (p : Nat → Bool) (l : List Int) : Int := ((List.range l.length).map fun i => if p i then l.getD i 0 else 0).sum
theorem wsum_set {p : Nat → Bool} {l : List Int} {j : Nat} {v : Int} (hj : j < l.length) : wsum p (l.set j v) = wsum p l + if p j then v - l.getD j 0 else 0 := by
 have e : ((List.range (l.set j v).length).map fun i => if p i then (l.set j v).getD i 0 else 0) = ((List.range l.length).map fun i => if p i then l.getD i 0 else 0).set j (if p j then v else 0) := by
  apply List.ext_getElem
  ·simp
  intro i h1 h2
  rw [List.getElem_set]
  simp only [List.getElem_map, List.getElem_range]
  rw [getD_set hj]
  by_cases e : j = i
  ·subst e; simp
  ·have e' : ¬ i = j := fun h => e h.symm
   rw [if_neg e', if_neg e]
 unfold wsum
 rw [e, sum_set1 _ _ _ (by simpa using hj)]
 have : ((List.range l.length).map fun i => if p i then l.getD i 0 else 0).getD j 0 = if p j then l.getD j 0 else 0 := by
  rw [List.getD_eq_getElem?_getD, List.getElem?_eq_getElem (by simpa using hj)]; simp
 rw [this]
 split <;> omega
theorem wsum_congr {p : Nat → Bool} {l m : List Int} (hl : l.length = m.length) (h : ∀ i < l.length, p i = true → l.getD i 0 = m.getD i 0) : wsum p l = wsum p m := by
 unfold wsum
 rw [hl]
 congr 1
 refine List.map_congr_left fun i hi => ?_
 rw [List.mem_range] at hi
 split
 ·rename_i hp; exact h i (by omega) hp
 ·rfl
theorem wsum_ge {p : Nat → Bool} {l : List Int} {j : Nat} (hj : j < l.length) (hp : p j = true) (h0 : ∀ i < l.length, 0 ≤ l.getD i 0) : l.getD j 0 ≤ wsum p l := by
 have : ((List.range l.length).map fun i => if p i then l.getD i 0 else 0).getD j 0 = l.getD j 0 := by
  rw [List.getD_eq_getElem?_getD, List.getElem?_eq_getElem (by simpa using hj)]; simp [hp]
 unfold wsum
 rw [← this]
 refine le_sum (fun k hk => ?_) (by simpa using hj)
 have hk' : k < l.length := by simpa using hk
 rw [List.getD_eq_getElem?_getD, List.getElem?_eq_getElem hk]
 simp only [List.getElem_map, List.getElem_range, Option.getD_some]
 split
 ·exact h0 k hk'
 ·exact Int.le_refl _
def inW (C : List Wrk) (a d : Int) (i : Nat) : Bool := decide (a ≤ (gW C i).r ∧ (gW C i).d ≤ d)
def Dm (C : List Wrk) (a d : Int) : Int := wsum (inW C a d) (costsW C)
theorem not_late (hc : ∀ w ∈ C, 0 ≤ w.c) (hr : ∀ w ∈ C, 0 ≤ w.r ∧ w.r ≤ w.d) (hD : ∀ a d : Int, 0 ≤ a → a ≤ d → (∃ w ∈ C, w.d = d) → Dm C a d ≤ d - a) {T : Nat} (hT : EndR C T) : ∀ i < C.length, (doneT C T (costsW C) (relsW C) 0).getD i 0 ≤ (gW C i).d := by
 intro i hi
 have hm : ∀ j < C.length, gW C j ∈ C := fun j hj => by
  unfold gW
  rw [List.getD_eq_getElem?_getD, List.getElem?_eq_getElem hj]; exact List.getElem_mem ..
 have hri := hr _ (hm i hi)
 by_cases hlate : (dn C T).getD i 0 ≤ (gW C i).d
 ·exact hlate
 exfalso
 obtain ⟨d, hd⟩ : ∃ d : Nat, (gW C i).d = d := ⟨(gW C i).d.toNat, by omega⟩
 have hz : (lf C T).getD i 0 = 0 := hT i (by have := lf_len C T; unfold lf at this; omega)
 have hdT : d < T := by
  by_cases h : d < T
  ·exact h
  ·exfalso
   have := dn_le hc hi T hz
   omega
 have hld : 0 < (lf C d).getD i 0 := by
  have h0 := lf_nonneg hc d i hi
  by_cases h : (lf C d).getD i 0 = 0
  ·exfalso
   have h1 := dn_le hc hi d h
   have h2 := (dn_more hi h (T - d)).2
   rw [show d + (T - d) = T from by omega] at h2
   omega
  ·omega
 have fin : ∀ a : Nat, a ≤ d → (∀ t : Nat, a ≤ t → t < d → 0 ≤ bs C t ∧ (gW C (bs C t).toNat).d ≤ d) → (∀ j < C.length, (gW C j).d ≤ d → 0 < (lf C a).getD j 0 → (a : Int) ≤ (gW C j).r) → False := by
  intro a ha hg hq
  have mono : ∀ (j m : Nat), (lf C (a + m)).getD j 0 ≤ (lf C a).getD j 0 := fun j m => by
   induction m with
   | zero => exact Int.le_refl _
   | succ m ih => exact Int.le_trans (lf_le C (a + m) j) ih
  have step : ∀ m : Nat, a + m ≤ d → wsum (inW C a d) (lf C (a + m)) = wsum (inW C a d) (lf C a) - m := by
   intro m
   induction m with
   | zero => intro _; simp
   | succ m ih =>
    intro hm'
    have e1 := ih (by omega)
    obtain ⟨g1, g2⟩ := hg (a + m) (by omega) (by omega)
    rcases bs_ok C (a + m) with ⟨h3, _⟩ | ⟨_, h3, h4, _⟩
    ·omega
    ·have h5 := mono (bs C (a + m)).toNat m
     have h6 := hq _ h3 g2 (by have := h4.2.2; omega)
     have hin : inW C a d (bs C (a + m)).toNat = true := by unfold inW; rw [decide_eq_true_iff]; exact ⟨h6, g2⟩
     rw [← Nat.add_assoc, lf_succ]
     unfold tickL
     rw [if_neg (by omega), wsum_set (by rw [lf_len]; exact h3), if_pos hin, e1]
     omega
  have e1 := step (d - a) (by omega)
  rw [show a + (d - a) = d from by omega] at e1
  have e2 : wsum (inW C a d) (lf C a) = Dm C a d := by
   refine wsum_congr (by rw [lf_len]; simp [costsW]) fun j hj hp => ?_
   unfold inW at hp
   rw [decide_eq_true_iff] at hp
   rw [lf_rel C j a hp.1, costsW_get]
  have hii : inW C a d i = true := by
   unfold inW
   rw [decide_eq_true_iff]
   have h5 := mono i (d - a)
   rw [show a + (d - a) = d from by omega] at h5
   exact ⟨hq i hi (by omega) (by omega), by omega⟩
  have e3 := wsum_ge (by rw [lf_len]; exact hi) hii (fun j hj => lf_nonneg hc d j (by rwa [lf_len] at hj))
  have e4 := hD a d (by omega) (by omega) ⟨_, hm i hi, hd⟩
  omega
 have go : ∀ a : Nat, a ≤ d → (∀ t : Nat, a ≤ t → t < d → 0 ≤ bs C t ∧ (gW C (bs C t).toNat).d ≤ d) → False := by
  intro a
  induction a with
  | zero => exact fun h1 h2 => fin 0 h1 h2 fun j hj _ _ => (hr _ (hm j hj)).1
  | succ a ih =>
   intro h1 h2
   by_cases hg : 0 ≤ bs C a ∧ (gW C (bs C a).toNat).d ≤ d
   ·refine ih (by omega) fun t ht1 ht2 => ?_
    rcases Nat.lt_or_ge a t with h | h
    ·exact h2 t h ht2
    ·rw [show t = a from by omega]; exact hg
   ·refine fin (a + 1) h1 h2 fun j hj hjd hjl => ?_
    by_cases hjr : (gW C j).r ≤ a
    ·exfalso
     have hrd : Rdy C (lf C a) a j := ⟨hj, hjr, by have := lf_le C a j; omega⟩
     rcases bs_ok C a with ⟨_, h3⟩ | ⟨h3, _, _, h4⟩
     ·exact h3 j hj hrd
     ·have := h4 j hj hrd
      exact hg ⟨h3, by omega⟩
    ·omega
 exact go d (Nat.le_refl _) fun t h1 h2 => by omega
end Go.Ab
