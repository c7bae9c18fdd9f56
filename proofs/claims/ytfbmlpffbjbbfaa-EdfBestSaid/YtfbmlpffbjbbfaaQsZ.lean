import Derived.Test.YtfbmlpffbjbbfaaQsX
namespace Go.Ab
open Go Go.Proofs
set_option linter.unusedVariables false
set_option linter.unusedSimpArgs false
set_option maxRecDepth 100000
set_option maxHeartbeats 1000000
theorem cl_id8 {W : List Wrk} {n : Int} (hn : n ≤ 1000) (h : ∀ w ∈ W, 0 ≤ w.c ∧ w.c ≤ 1000 ∧ 0 ≤ w.r ∧ w.r ≤ w.d ∧ w.d ≤ n) : W.map clW = W := by
 refine (List.map_congr_left fun w hw => ?_).trans (List.map_id W)
 obtain ⟨h1, h2, h3, h4, h5⟩ := h w hw
 cases w
 simp only [clW, clZ, id_eq, Wrk.mk.injEq] at *
 omega
def cntK (K : List Int) : Nat → Int → Int
 | 0, _ => 0
 | t + 1, k => cntK K t k + if K.getD t 0 = k then 1 else 0
theorem cntK_b (K : List Int) (k : Int) : ∀ t : Nat, 0 ≤ cntK K t k ∧ cntK K t k ≤ t
 | 0 => ⟨Int.le_refl _, Int.le_refl _⟩
 | t + 1 => by
  have := cntK_b K k t
  unfold cntK
  split <;> omega
structure Got (K : List Int) (N : Nat) (C : List Wrk) : Prop where
 len : C.length = 8
 c : ∀ k : Nat, k < 8 → (gW C k).c = cntK K N k
 tk : ∀ s : Nat, s < N → ∀ k : Nat, k < 8 → K.getD s 0 = (k : Int) → (gW C k).r ≤ s ∧ (s : Int) + 1 ≤ (gW C k).d
 rd : ∀ k : Nat, k < 8 → 0 ≤ (gW C k).r ∧ (gW C k).r ≤ (gW C k).d
def smP (p : Nat → Bool) (c : Nat → Int) (m : Nat) : Int := ((List.range m).map fun i => if p i then c i else 0).sum
theorem smP_succ (p : Nat → Bool) (c : Nat → Int) (m : Nat) : smP p c (m + 1) = smP p c m + if p m then c m else 0 := by simp [smP, List.range_succ]
theorem smP_add (p : Nat → Bool) (c : Nat → Int) (x : Int) (hx : 0 ≤ x) : ∀ m : Nat, smP p (fun i => c i + if x = (i : Int) then 1 else 0) m = smP p c m + if x.toNat < m ∧ p x.toNat = true then 1 else 0
 | 0 => by simp [smP]
 | m + 1 => by
  rw [smP_succ, smP_succ, smP_add p c x hx m]
  by_cases h : x = (m : Int)
  ·subst h
   simp only [Int.toNat_natCast, Nat.lt_irrefl, false_and, if_false, if_true, Nat.lt_succ_self, true_and]
   split <;> omega
  ·have h2 : ¬ x.toNat = m := by omega
   rw [if_neg h]
   by_cases h3 : x.toNat < m
   ·have e1 : (if x.toNat < m ∧ p x.toNat = true then (1 : Int) else 0) = if x.toNat < m + 1 ∧ p x.toNat = true then 1 else 0 := by
     simp only [h3, Nat.lt_succ_of_lt h3, true_and]
    rw [e1]
    generalize (if x.toNat < m + 1 ∧ p x.toNat = true then (1 : Int) else 0) = z
    split <;> omega
   ·rw [if_neg (show ¬ (x.toNat < m ∧ p x.toNat = true) from fun e => h3 e.1), if_neg (show ¬ (x.toNat < m + 1 ∧ p x.toNat = true) from fun e => by omega)]
    split <;> omega
theorem smP_congr {p : Nat → Bool} {c d : Nat → Int} : ∀ m : Nat, (∀ i < m, c i = d i) → smP p c m = smP p d m
 | 0, _ => rfl
 | m + 1, h => by rw [smP_succ, smP_succ, smP_congr m fun i hi => h i (by omega), h m (by omega)]
theorem got_fits {K : List Int} {N : Nat} {C : List Wrk} (G : Got K N C) (hK : ∀ s : Nat, s < N → 0 ≤ K.getD s 0 ∧ K.getD s 0 < 8) {a d : Int} (ha : 0 ≤ a) (had : a ≤ d) : Dm C a d ≤ d - a := by
 have e : Dm C a d = smP (inW C a d) (fun i => cntK K N i) 8 := by
  unfold Dm wsum
  have hl : (costsW C).length = 8 := by simp [costsW, G.len]
  rw [hl]
  refine smP_congr 8 fun i hi => ?_
  rw [costsW_get, G.c i hi]
 have step : ∀ n : Nat, n ≤ N → smP (inW C a d) (fun i => cntK K n i) 8 ≤ max (min (n : Int) d - a) 0 := by
  intro n
  induction n with
  | zero =>
   intro _
   have : smP (inW C a d) (fun i => cntK K 0 i) 8 = 0 := by
    show smP (inW C a d) (fun _ => 0) 8 = 0
    have : ∀ m, smP (inW C a d) (fun _ => 0) m = 0 := fun m => by
     induction m with
     | zero => rfl
     | succ m ih => rw [smP_succ, ih]; split <;> rfl
    exact this 8
   omega
  | succ n ih =>
   intro hn
   have h1 := ih (by omega)
   have hk := hK n (by omega)
   have e1 : smP (inW C a d) (fun i => cntK K (n + 1) i) 8 = smP (inW C a d) (fun i => cntK K n i) 8 + if (K.getD n 0).toNat < 8 ∧ inW C a d (K.getD n 0).toNat = true then 1 else 0 := by
    rw [← smP_add _ _ _ hk.1]; rfl
   rw [e1]
   split
   ·rename_i hp
    have hp2 : a ≤ (gW C (K.getD n 0).toNat).r ∧ (gW C (K.getD n 0).toNat).d ≤ d := of_decide_eq_true hp.2
    have ht := G.tk n (by omega) (K.getD n 0).toNat (by omega) (by omega)
    omega
   ·omega
 have := step N (Nat.le_refl _)
 rw [e]
 omega
theorem got_none {K : List Int} {N : Nat} {C : List Wrk} (G : Got K N C) (hK : ∀ s : Nat, s < N → 0 ≤ K.getD s 0 ∧ K.getD s 0 < 8) {T : Nat} (hT : EndR C T) : lateN C (doneT C T (costsW C) (relsW C) 0) C.length = [] := by
 have hm : ∀ w ∈ C, ∃ k : Nat, k < 8 ∧ w = gW C k := fun w hw => by
  obtain ⟨j, hj, rfl⟩ := List.getElem_of_mem hw
  exact ⟨j, by rw [← G.len]; exact hj, by unfold gW; rw [List.getD_eq_getElem?_getD, List.getElem?_eq_getElem hj]; rfl⟩
 have hnl := not_late (C := C) (fun w hw => by obtain ⟨k, hk, rfl⟩ := hm w hw; rw [G.c k hk]; exact (cntK_b K k N).1) (fun w hw => by obtain ⟨k, hk, rfl⟩ := hm w hw; exact G.rd k hk) (fun a d ha had _ => got_fits G hK ha had) hT
 unfold lateN
 have : ((List.range C.length).filter fun i => decide ((gW C i).d < (doneT C T (costsW C) (relsW C) 0).getD i 0)) = [] := by
  rw [List.filter_eq_nil_iff]
  intro i hi
  have := hnl i (List.mem_range.1 hi)
  simp only [decide_eq_true_eq]
  omega
 rw [this]; rfl
structure Got1 (K : List Int) (t : Nat) (B : List Bool) (L : List Wrk) : Prop where
 bl : B.length = 8
 g : Got K t L
 b : ∀ k : Nat, k < 8 → B.getD k false = false → ∀ s : Nat, s < t → K.getD s 0 ≠ (k : Int)
 d : ∀ k : Nat, k < 8 → (gW L k).d ≤ t
theorem gW_set {L : List Wrk} {j i : Nat} {v : Wrk} (h : j < L.length) : gW (L.set j v) i = if i = j then v else gW L i := by
 unfold gW
 rw [List.getD_eq_getElem?_getD, List.getD_eq_getElem?_getD, List.getElem?_set]
 by_cases e : j = i
 ·subst e; simp [h]
 ·rw [if_neg e, if_neg fun h => e h.symm]
theorem getD_setB {B : List Bool} {j i : Nat} (h : j < B.length) : (B.set j true).getD i false = if i = j then true else B.getD i false := by
 rw [List.getD_eq_getElem?_getD, List.getD_eq_getElem?_getD, List.getElem?_set]
 by_cases e : j = i
 ·subst e; simp [h]
 ·rw [if_neg e, if_neg fun h => e h.symm]
theorem Got1.step {K : List Int} {t j : Nat} {B : List Bool} {L : List Wrk} (h : Got1 K t B L) (hj : j < 8) (hK : K.getD t 0 = (j : Int)) :
  Got1 K (t + 1) (B.set j true) (L.set j ⟨if B.getD j false then (gW L j).r else t, (gW L j).c + 1, t + 1⟩) := by
 have hl := h.g.len
 have hd := h.d
 refine ⟨by simp [h.bl], ⟨by simp [hl], fun k hk => ?_, fun s hs k hk hk2 => ?_, fun k hk => ?_⟩, fun k hk hb s hs => ?_, fun k hk => ?_⟩
 ·rw [gW_set (by omega)]
  unfold cntK
  by_cases e : k = j
  ·subst e; rw [if_pos rfl, if_pos hK]; show (gW L k).c + 1 = _; rw [h.g.c k hk]
  ·rw [if_neg e, if_neg (by omega), h.g.c k hk]; omega
 ·rw [gW_set (by omega)]
  by_cases e : k = j
  ·subst e
   rw [if_pos rfl]
   rcases Nat.lt_or_ge s t with h1 | h1
   ·have h2 := h.g.tk s h1 k hk hk2
    refine ⟨?_, by show _ ≤ (t : Int) + 1; omega⟩
    show (if B.getD k false = true then (gW L k).r else (t : Int)) ≤ _
    cases hb : B.getD k false with
    | true => simpa using h2.1
    | false => exact absurd hk2 (h.b k hk hb s h1)
   ·obtain rfl : s = t := by omega
    refine ⟨?_, by show _ ≤ (s : Int) + 1; omega⟩
    show (if B.getD k false = true then (gW L k).r else (s : Int)) ≤ _
    split
    ·have := (h.g.rd k hk).2; have := hd k hk; omega
    ·omega
  ·rw [if_neg e]
   rcases Nat.lt_or_ge s t with h1 | h1
   ·exact h.g.tk s h1 k hk hk2
   ·obtain rfl : s = t := by omega
    omega
 ·rw [gW_set (by omega)]
  by_cases e : k = j
  ·subst e
   rw [if_pos rfl]
   have h3 := h.g.rd k hk
   have := hd k hk
   show 0 ≤ (if B.getD k false = true then (gW L k).r else (t : Int)) ∧ (if B.getD k false = true then (gW L k).r else (t : Int)) ≤ (t : Int) + 1
   split <;> omega
  ·rw [if_neg e]; exact h.g.rd k hk
 ·rw [getD_setB (by rw [h.bl]; exact hj)] at hb
  by_cases e : k = j
  ·rw [if_pos e] at hb; cases hb
  ·rw [if_neg e] at hb
   rcases Nat.lt_or_ge s t with h1 | h1
   ·exact h.b k hk hb s h1
   ·obtain rfl : s = t := by omega
    omega
 ·rw [gW_set (by omega)]
  by_cases e : k = j
  ·rw [if_pos e]; show (t : Int) + 1 ≤ _; omega
  ·rw [if_neg e]; have := hd k hk; omega
theorem Got.wider {K : List Int} {N : Nat} {C : List Wrk} (G : Got K N C) {k : Nat} (hk : k < 8) {r d : Int} (h0 : 0 ≤ r) (hr : r ≤ (gW C k).r) (hd : (gW C k).d ≤ d) : Got K N (C.set k ⟨r, (gW C k).c, d⟩) := by
 have hl := G.len
 refine ⟨by simp [hl], fun i hi => ?_, fun s hs i hi hi2 => ?_, fun i hi => ?_⟩ <;> rw [gW_set (by omega)] <;> by_cases e : i = k
 ·subst e; rw [if_pos rfl]; exact G.c i hi
 ·rw [if_neg e]; exact G.c i hi
 ·subst e; rw [if_pos rfl]; have := G.tk s hs i hi hi2; exact ⟨by show r ≤ _; omega, by show _ ≤ d; omega⟩
 ·rw [if_neg e]; exact G.tk s hs i hi hi2
 ·subst e; rw [if_pos rfl]; have := G.rd i hi; exact ⟨h0, by show r ≤ d; omega⟩
 ·rw [if_neg e]; exact G.rd i hi
end Go.Ab
