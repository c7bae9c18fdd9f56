import Derived.Test.YtfbmlpffbjbbfaaQsQ
namespace Go.Ab
open Go Go.Proofs Stb HeapM
set_option linter.unusedVariables false
set_option linter.unusedSimpArgs false
set_option maxHeartbeats 1000000
variable {C : List Wrk} {K : List Int} {p : Nat} {left : List Int} {H : List Evt} {now : Int} {SP : List Spn}
theorem InvR.later (hK : Cmg C K) (I : InvR C K p left H now SP) {i : Nat} (hi : i < C.length) (h : 0 < left.getD i 0) : (i : Int) ∈ wts K p left ∨ (p < K.length ∧ (gW C (K.getD p 0).toNat).r ≤ (gW C i).r) := by
 have h1 := I.hk i (by rw [I.len]; exact hi) h
 rw [← List.take_append_drop p K] at h1
 rcases List.mem_append.1 h1 with h1 | h1
 ·refine .inl ?_
  unfold wts
  rw [List.mem_filter]
  exact ⟨h1, by rw [decide_eq_true_iff, Int.toNat_natCast]; exact h⟩
 ·have hp : p < K.length := by
   have := List.length_pos_of_mem h1
   rw [List.length_drop] at this; omega
  have hg : K.getD p 0 = K[p] := by rw [List.getD_eq_getElem?_getD, List.getElem?_eq_getElem hp]; rfl
  refine .inr ⟨hp, ?_⟩
  rw [hg]
  rw [List.drop_eq_getElem_cons hp] at h1
  rcases List.mem_cons.1 h1 with e | h1
  ·rw [← e]; simp
  ·have := hK.so
   rw [← List.take_append_drop p K, List.drop_eq_getElem_cons hp] at this
   have := (List.pairwise_cons.1 (List.pairwise_append.1 this).2.1).1 _ h1
   simpa using this
theorem InvR.span0 (hK : Cmg C K) (I : InvR C K p left H now SP) (hH : H.length = 0) (hp : p < K.length) {nx : Int} (hx : nx = (gW C (K.getD p 0).toNat).r) (hlt : now < nx) (hb : nx ≤ 1048576) : InvR C K p left H nx (SP ++ [⟨now, nx, -1⟩]) := by
 have n0 := I.n0
 have hrd : ∀ s : Nat, s < (nx - now).toNat → ∀ i < C.length, ¬ Rdy C left (now + s) i := fun s hs i hi h => by
  rcases I.later hK hi h.2.2 with h1 | h1
  ·have := List.length_pos_of_mem (I.hp.mem_iff.2 (List.mem_map_of_mem (f := mkE C) h1))
   omega
  ·have := h.2.1
   omega
 have e1 : nx.toNat = now.toNat + (nx - now).toNat := by omega
 have e2 : (0 : Int) + (now.toNat : Int) = now := by omega
 refine ⟨I.len, I.np, I.nn, I.hk, I.dr, fun x hx => by have := I.tk x hx; omega, I.hp, I.hn, ?_, ?_, ChnS_snoc _ _ I.ch (by simp only [I.tl]; omega) hlt (.inl rfl), by omega, by have := I.b2; omega, I.b2⟩
 ·rw [e1, runT_add, I.run, e2, span_none _ _ _ hrd, tksS_snoc]
 ·rw [e1, doneT_add, I.run, e2, doneT_none _ _ _ _ hrd, outS_snoc]
  exact I.ag
theorem InvR.span1 (hK : Cmg C K) (I : InvR C K p left H now SP) (hH : 0 < H.length) {b : Int} (hb : b = (g H 0).o) (hc : p < K.length → now < (gW C (K.getD p 0).toNat).r) {k : Int} (k0 : 0 < k) (kl : k ≤ left.getD b.toNat 0) (hn : p < K.length → now + k ≤ (gW C (K.getD p 0).toNat).r) {H' : List Evt}
  (hH' : if left.getD b.toNat 0 - k = 0 then (g H 0 :: H').Perm H ∧ HeapN H' H'.length else H' = H) : InvR C K p (left.set b.toNat (left.getD b.toNat 0 - k)) H' (now + k) (SP ++ [⟨now, now + k, b⟩]) := by
 have n0 := I.n0
 obtain ⟨x, x1, x2, x3, x4⟩ := I.top hK hH
 have ex : b = x := by rw [hb, x2]; rfl
 obtain ⟨b0, hB⟩ := I.best1 hK hc hH
 rw [← hb] at b0 hB
 have hbl : b.toNat < left.length := by rw [I.len, ex]; exact x4
 have hr : ∀ i < C.length, 0 < left.getD i 0 → (gW C i).r ≤ now ∨ now + ((k.toNat : Nat) : Int) ≤ (gW C i).r := fun i hi h => by
  rcases I.later hK hi h with h1 | h1
  ·have := I.tk _ (List.mem_filter.1 h1).1
   rw [Int.toNat_natCast] at this
   exact .inl this
  ·have := hn h1.1
   exact .inr (by omega)
 have ek : ((k.toNat : Nat) : Int) = k := by omega
 have hs := span_one k.toNat left now I.len hB b0 (by omega) hr
 have hd := doneT_one k.toNat left (doneT C now.toNat (costsW C) (relsW C) 0) now I.len hB b0 (by omega) (by omega) hr
 rw [ek] at hs hd
 have gs : ∀ i, (left.set b.toNat (left.getD b.toNat 0 - k)).getD i 0 = if i = b.toNat then left.getD b.toNat 0 - k else left.getD i 0 := fun i => getD_set hbl
 have hpos : ∀ i, 0 < (left.set b.toNat (left.getD b.toNat 0 - k)).getD i 0 → 0 < left.getD i 0 := fun i this => by
  rw [gs] at this
  split at this
  ·rename_i e; subst e; omega
  ·exact this
 have hbp : 0 < left.getD b.toNat 0 := by omega
 have e1 : (now + k).toNat = now.toNat + k.toNat := by omega
 have e2 : (0 : Int) + (now.toNat : Int) = now := by omega
 have hbt : b ∈ K.take p := by rw [ex]; exact (List.mem_filter.1 x1).1
 have hss : (left.set b.toNat (left.getD b.toNat 0 - k)).sum = left.sum - k := by rw [sum_set1 _ _ _ hbl]; omega
 have hinj : ∀ y ∈ K, y.toNat = b.toNat → y = b := fun y hy e => by have := (hK.vd y hy).1; omega
 have hnd := hK.nd
 rw [← List.take_append_drop p K, List.nodup_append] at hnd
 have hP : H'.Perm ((wts K p (left.set b.toNat (left.getD b.toNat 0 - k))).map (mkE C)) ∧ HeapN H' H'.length := by
  split at hH'
  ·rename_i hz
   refine ⟨?_, hH'.2⟩
   have hw : wts K p (left.set b.toNat (left.getD b.toNat 0 - k)) = (wts K p left).erase b := by
    have nd : (wts K p left).Nodup := hnd.1.filter _
    rw [nd.erase_eq_filter]
    unfold wts
    rw [List.filter_filter]
    refine List.filter_congr fun y hy => ?_
    rw [gs]
    by_cases e : y = b
    ·rw [e, if_pos rfl, hz]; simp
    ·rw [if_neg (fun h => e (hinj y (List.mem_of_mem_take hy) h))]
     simp [e]
   have q : ((wts K p left).map (mkE C)).Perm (mkE C b :: ((wts K p left).erase b).map (mkE C)) := (List.perm_cons_erase (by rw [ex]; exact x1)).map (mkE C)
   rw [hw]
   have q2 := (hH'.1.trans I.hp).trans q
   rw [x2, ← ex] at q2
   exact q2.cons_inv
  ·rename_i hz
   subst hH'
   refine ⟨?_, I.hn⟩
   have hw : wts K p (left.set b.toNat (left.getD b.toNat 0 - k)) = wts K p left := by
    unfold wts
    refine List.filter_congr fun y hy => ?_
    rw [gs]
    split
    ·rename_i e
     rw [e]
     have : 0 < left.getD b.toNat 0 - k := by omega
     rw [decide_eq_true this, decide_eq_true hbp]
    ·rfl
   rw [hw]; exact I.hp
 refine ⟨by rw [List.length_set]; exact I.len, I.np, fun i hi => ?_, fun i hi h => I.hk i (by rwa [List.length_set] at hi) (hpos i h), fun y hy => ?_, fun y hy => by have := I.tk y hy; omega, hP.1, hP.2, ?_, ?_, ChnS_snoc _ _ I.ch (by simp only [I.tl]; omega) (by simp only []; omega) (.inr ⟨b0, by simp only []; rw [ex]; exact x4⟩), by omega, by have := I.b1; omega, by have := I.b2; omega⟩
 ·rw [gs]
  split
  ·omega
  ·exact I.nn i (by rwa [List.length_set] at hi)
 ·rw [gs, if_neg (fun h => ?_)]
  ·exact I.dr y hy
  ·have := hinj y (List.mem_of_mem_drop hy) h
   subst this
   exact hnd.2.2 y hbt y hy rfl
 ·rw [e1, runT_add, I.run, e2, hs, tksS_snoc]
  simp only []
  rw [show now + k - now = k from by omega]
 ·rw [e1, doneT_add, I.run, e2, hd, outS_snoc]
  obtain ⟨a1, a2, a3⟩ := I.ag
  have e3 : out1 (outS (relsW C) SP) ⟨now, now + k, b⟩ = (outS (relsW C) SP).set b.toNat (now + k) := by unfold out1; rw [if_neg (by simp only []; omega)]
  rw [e3]
  refine ⟨by rw [List.length_set, List.length_set]; exact a1, ?_, fun i hi h => ?_⟩
  ·split <;> simp [a2]
  ·rw [List.length_set] at hi
   rw [gs] at h
   rw [getD_set (by omega)]
   split at h
   ·rename_i e; subst e
    rw [if_pos rfl, if_pos h, getD_set (by omega), if_pos rfl]
   ·rename_i e
    rw [if_neg e]
    split
    ·rw [getD_set (by omega), if_neg e]; exact a3 i hi h
    ·exact a3 i hi h
end Go.Ab
