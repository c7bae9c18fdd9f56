import Derived.Test.YtfbmlpffbjbbfaaQsKLMNOP
namespace Go.Ab
open Go Go.Proofs Stb HeapM
set_option linter.unusedVariables false
set_option linter.unusedSimpArgs false
set_option maxHeartbeats 1000000
structure Spn where
 f : Int
 t : Int
 p : Int
def encS (s : Spn) : List AV := [.int .i64 s.f, .int .i64 s.t, .int .i64 s.p]
def tksS (S : List Spn) : List Int := S.flatMap fun s => List.replicate (s.t - s.f).toNat s.p
def out1 (D : List Int) (s : Spn) : List Int := if s.p = -1 then D else D.set s.p.toNat s.t
def outS (D : List Int) (S : List Spn) : List Int := S.foldl out1 D
def ChnS (n : Nat) : Int → List Spn → Prop
 | _, [] => True
 | a, s :: S => s.f = a ∧ s.f < s.t ∧ (s.p = -1 ∨ 0 ≤ s.p ∧ s.p.toNat < n) ∧ ChnS n s.t S
theorem tksS_snoc (S : List Spn) (s : Spn) : tksS (S ++ [s]) = tksS S ++ List.replicate (s.t - s.f).toNat s.p := by simp [tksS]
theorem outS_snoc (D : List Int) (S : List Spn) (s : Spn) : outS D (S ++ [s]) = out1 (outS D S) s := by simp [outS]
theorem out1_len (D : List Int) (s : Spn) : (out1 D s).length = D.length := by unfold out1; split <;> simp
theorem outS_len : ∀ (S : List Spn) (D : List Int), (outS D S).length = D.length
 | [], D => rfl
 | s :: S, D => (outS_len S (out1 D s)).trans (out1_len D s)
theorem ChnS_snoc {n : Nat} {s : Spn} : ∀ (S : List Spn) (a : Int), ChnS n a S → s.f = a + (tksS S).length → s.f < s.t → (s.p = -1 ∨ 0 ≤ s.p ∧ s.p.toNat < n) → ChnS n a (S ++ [s])
 | [], a, _, h1, h2, h3 => ⟨by simpa [tksS] using h1, h2, h3, trivial⟩
 | x :: S, a, hc, h1, h2, h3 => by
  obtain ⟨c1, c2, c3, c4⟩ := hc
  refine ⟨c1, c2, c3, ChnS_snoc S x.t c4 ?_ h2 h3⟩
  rw [h1]
  simp only [tksS, List.flatMap_cons, List.length_append, List.length_replicate]
  omega
theorem ChnS_le {n : Nat} : ∀ (S : List Spn) (a : Int), ChnS n a S → S.length ≤ (tksS S).length
 | [], _, _ => Nat.le_refl _
 | x :: S, a, ⟨c1, c2, c3, c4⟩ => by
  have := ChnS_le S x.t c4
  simp only [tksS, List.flatMap_cons, List.length_append, List.length_replicate, List.length_cons] at *
  omega
def Agr (left O D : List Int) : Prop := O.length = left.length ∧ D.length = left.length ∧ ∀ i < left.length, left.getD i 0 = 0 → O.getD i 0 = D.getD i 0
theorem doneT_none {L : List Wrk} : ∀ (k : Nat) (left D : List Int) (t : Int), (∀ s : Nat, s < k → ∀ i < L.length, ¬ Rdy L left (t + s) i) → doneT L k left D t = D
 | 0, left, D, t, _ => rfl
 | k + 1, left, D, t, h => by
  have hb : bestF L left t = -1 := (bestF_ok L left t).uniq (.inl ⟨rfl, fun i hi => by have := h 0 (by omega) i hi; simpa using this⟩)
  have ht : tickL left (-1) = left := by unfold tickL; rw [if_pos (by omega)]
  simp only [doneT, hb, ht]
  rw [doneT_none k left _ (t + 1) (fun s hs i hi => by
   have := h (s + 1) (by omega) i hi
   rwa [show t + ((s + 1 : Nat) : Int) = t + 1 + (s : Int) from by omega] at this), if_neg (by omega)]
theorem doneT_one {L : List Wrk} {b : Int} : ∀ (k : Nat) (left D : List Int) (t : Int), left.length = L.length → Bst L left t L.length b → 0 ≤ b → (k : Int) ≤ left.getD b.toNat 0 → 0 < k → (∀ i < L.length, 0 < left.getD i 0 → (gW L i).r ≤ t ∨ t + k ≤ (gW L i).r) →
  doneT L k left D t = if left.getD b.toNat 0 - k = 0 then D.set b.toNat (t + k) else D
 | 0, left, D, t, hl, hb, h0, hk, hp, ha => by omega
 | k + 1, left, D, t, hl, hb, h0, hk, hp, ha => by
  have e0 : bestF L left t = b := (bestF_ok L left t).uniq hb
  have e1 := span_one 1 left t hl hb h0 (by omega) (fun i hi hq => by have := ha i hi hq; omega)
  have et : tickL left b = left.set b.toNat (left.getD b.toNat 0 - 1) := by unfold tickL; rw [if_neg (by omega)]
  obtain ⟨h1, h2, h3, h4⟩ : 0 ≤ b ∧ b.toNat < L.length ∧ Rdy L left t b.toNat ∧ ∀ i < L.length, Rdy L left t i → (gW L b.toNat).d < (gW L i).d ∨ (gW L b.toNat).d = (gW L i).d ∧ b.toNat ≤ i := by
   rcases hb with ⟨h, _⟩ | h
   ·omega
   ·exact h
  have hbl : b.toNat < left.length := by omega
  have gs : ∀ i v, (left.set b.toNat v).getD i 0 = if i = b.toNat then v else left.getD i 0 := fun i v => getD_set hbl
  simp only [doneT, e0, et]
  rcases Nat.eq_zero_or_pos k with rfl | hk0
  ·simp only [doneT]
   rw [gs, if_pos rfl]
   have : ((0 + 1 : Nat) : Int) = 1 := rfl
   rw [this]
   by_cases hz : left.getD b.toNat 0 - 1 = 0
   ·rw [if_pos ⟨h0, hz⟩, if_pos hz]
   ·rw [if_neg (fun h => hz h.2), if_neg hz]
  ·have hp' : ∀ i, 0 < (left.set b.toNat (left.getD b.toNat 0 - 1)).getD i 0 → 0 < left.getD i 0 := fun i this => by
    rw [gs] at this
    split at this
    ·rename_i e; subst e; omega
    ·exact this
   have hb' : Bst L (left.set b.toNat (left.getD b.toNat 0 - 1)) (t + 1) L.length b := by
    refine .inr ⟨h1, h2, ⟨h2, by have := h3.2.1; omega, by rw [gs, if_pos rfl]; omega⟩, fun i hi hr => h4 i hi ⟨hi, ?_, hp' i hr.2.2⟩⟩
    have := hr.2.1
    have := ha i hi (hp' i hr.2.2)
    omega
   rw [doneT_one k _ _ (t + 1) (by simpa using hl) hb' h0 (by rw [gs, if_pos rfl]; omega) hk0 (fun i hi hq => by
    have := ha i hi (hp' i hq)
    omega), gs, if_pos rfl, if_neg (show ¬ (0 ≤ b ∧ left.getD b.toNat 0 - 1 = 0) from fun h => by omega)]
   have : left.getD b.toNat 0 - 1 - (k : Int) = left.getD b.toNat 0 - ((k + 1 : Nat) : Int) := by omega
   rw [this, show t + 1 + (k : Int) = t + ((k + 1 : Nat) : Int) from by omega]
def mkE (C : List Wrk) (x : Int) : Evt := ⟨(gW C x.toNat).d, 0, 0, 0, 0, x⟩
def wts (K : List Int) (p : Nat) (left : List Int) : List Int := (K.take p).filter fun x => decide (0 < left.getD x.toNat 0)
structure Cmg (C : List Wrk) (K : List Int) : Prop where
 vd : ∀ x ∈ K, 0 ≤ x ∧ x.toNat < C.length ∧ 0 < (gW C x.toNat).c
 nd : K.Nodup
 so : K.Pairwise fun x y => (gW C x.toNat).r ≤ (gW C y.toNat).r
structure InvR (C : List Wrk) (K : List Int) (p : Nat) (left : List Int) (H : List Evt) (now : Int) (SP : List Spn) : Prop where
 len : left.length = C.length
 np : p ≤ K.length
 nn : ∀ i < left.length, 0 ≤ left.getD i 0
 hk : ∀ i < left.length, 0 < left.getD i 0 → (i : Int) ∈ K
 dr : ∀ x ∈ K.drop p, 0 < left.getD x.toNat 0
 tk : ∀ x ∈ K.take p, (gW C x.toNat).r ≤ now
 hp : H.Perm ((wts K p left).map (mkE C))
 hn : HeapN H H.length
 run : runT C now.toNat (costsW C) 0 = (tksS SP, left)
 ag : Agr left (outS (relsW C) SP) (doneT C now.toNat (costsW C) (relsW C) 0)
 ch : ChnS C.length 0 SP
 n0 : 0 ≤ now
 b1 : now + left.sum ≤ 1048576 + (costsW C).sum
 b2 : left.sum ≤ (costsW C).sum
variable {C : List Wrk} {K : List Int} {p : Nat} {left : List Int} {H : List Evt} {now : Int} {SP : List Spn}
theorem InvR.tl (I : InvR C K p left H now SP) : (tksS SP).length = now.toNat := by
 have := (runT_len C now.toNat (costsW C) 0).1
 rwa [I.run] at this
theorem InvR.come (hK : Cmg C K) (I : InvR C K p left H now SP) (hp : p < K.length) (hr : (gW C (K.getD p 0).toNat).r ≤ now) {H' : List Evt} (h1 : H'.Perm (mkE C (K.getD p 0) :: H)) (h2 : HeapN H' (H.length + 1)) : InvR C K (p + 1) left H' now SP := by
 have hg : K.getD p 0 = K[p] := by rw [List.getD_eq_getElem?_getD, List.getElem?_eq_getElem hp]; rfl
 rw [hg] at hr h1
 have et : K.take (p + 1) = K.take p ++ [K[p]] := (List.take_append_getElem hp).symm
 have hd : 0 < left.getD K[p].toNat 0 := I.dr _ (by rw [List.drop_eq_getElem_cons hp]; exact List.mem_cons_self ..)
 refine ⟨I.len, hp, I.nn, I.hk, fun x hx => I.dr x ?_, fun x hx => ?_, ?_, ?_, I.run, I.ag, I.ch, I.n0, I.b1, I.b2⟩
 ·rw [List.drop_eq_getElem_cons hp]; exact List.mem_cons_of_mem _ hx
 ·rw [et] at hx
  rcases List.mem_append.1 hx with hx | hx
  ·exact I.tk x hx
  ·obtain rfl := List.mem_singleton.1 hx; exact hr
 ·unfold wts
  rw [et, List.filter_append, List.filter_cons_of_pos (by simpa using hd), List.filter_nil, List.map_append]
  exact h1.trans (((List.Perm.cons _ I.hp).trans (List.perm_append_singleton _ _).symm))
 ·rw [h1.length_eq, List.length_cons]; exact h2
theorem InvR.top (hK : Cmg C K) (I : InvR C K p left H now SP) (hH : 0 < H.length) : ∃ x ∈ wts K p left, g H 0 = mkE C x ∧ 0 ≤ x ∧ x.toNat < C.length := by
 have : g H 0 ∈ H := by rw [g_get hH]; exact List.getElem_mem ..
 obtain ⟨x, h1, h2⟩ := List.mem_map.1 (I.hp.mem_iff.1 this)
 have := hK.vd x (List.mem_of_mem_take (List.mem_filter.1 h1).1)
 exact ⟨x, h1, h2.symm, this.1, this.2.1⟩
theorem InvR.rdy (hK : Cmg C K) (I : InvR C K p left H now SP) (hc : p < K.length → now < (gW C (K.getD p 0).toNat).r) {i : Nat} (h : Rdy C left now i) : (i : Int) ∈ wts K p left := by
 have h1 := I.hk i (by rw [I.len]; exact h.1) h.2.2
 unfold wts
 rw [List.mem_filter]
 refine ⟨?_, by rw [decide_eq_true_iff, Int.toNat_natCast]; exact h.2.2⟩
 rw [← List.take_append_drop p K] at h1
 rcases List.mem_append.1 h1 with h1 | h1
 ·exact h1
 ·exfalso
  have hp : p < K.length := by
   have := List.length_pos_of_mem h1
   rw [List.length_drop] at this; omega
  have hg : K.getD p 0 = K[p] := by rw [List.getD_eq_getElem?_getD, List.getElem?_eq_getElem hp]; rfl
  have hlt := hc hp
  rw [hg] at hlt
  have : (gW C K[p].toNat).r ≤ (gW C i).r := by
   rw [List.drop_eq_getElem_cons hp] at h1
   rcases List.mem_cons.1 h1 with e | h1
   ·rw [← e]; simp
   ·have := hK.so
    rw [← List.take_append_drop p K, List.drop_eq_getElem_cons hp] at this
    have := (List.pairwise_cons.1 (List.pairwise_append.1 this).2.1).1 _ h1
    simpa using this
  have := h.2.1
  omega
theorem InvR.best1 (hK : Cmg C K) (I : InvR C K p left H now SP) (hc : p < K.length → now < (gW C (K.getD p 0).toNat).r) (hH : 0 < H.length) : 0 ≤ (g H 0).o ∧ Bst C left now C.length (g H 0).o := by
 obtain ⟨x, h1, h2, h3, h4⟩ := I.top hK hH
 have e2 : (g H 0).o = x := by rw [h2]; rfl
 rw [e2]
 refine ⟨h3, .inr ⟨h3, h4, ⟨h4, I.tk x (List.mem_filter.1 h1).1, of_decide_eq_true (List.mem_filter.1 h1).2⟩, fun i hi hr => ?_⟩⟩
 have := I.hp.mem_iff.2 (List.mem_map_of_mem (f := mkE C) (I.rdy hK hc hr))
 obtain ⟨a, ha, e⟩ := List.getElem_of_mem this
 have hm := heap_min I.hn a ha
 rw [h2, g_get ha, e] at hm
 unfold HeapM.le mkE at hm
 simp only [Int.toNat_natCast] at hm ⊢
 omega
end Go.Ab
