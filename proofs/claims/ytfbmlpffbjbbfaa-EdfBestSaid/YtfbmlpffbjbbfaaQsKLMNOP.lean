import Derived.Test.YtfbmlpffbjbbfaaQsIJ
import Derived.Test.YtfbmlpffbjbbfaaQEW
namespace Go.Ab
open Go Go.Proofs Stb
set_option linter.unusedVariables false
set_option linter.unusedSimpArgs false
set_option maxRecDepth 100000
set_option maxHeartbeats 1000000
def clZ (x : Int) : Int := min (max x 0) 1048576
theorem clZ_bd (x : Int) : 0 ≤ clZ x ∧ clZ x ≤ 1048576 := by unfold clZ; omega
theorem clamp_E (x : Int) : EC Try.prog G10 [] [.i x] fun e rs vs => e = 0 ∧ rs = [] ∧ vs = [.i (clZ x)] := E10 fun _ V => by
 rw [mxS, mnS]; exact ⟨rfl, rfl, rfl⟩
structure Wrk where
 r : Int
 c : Int
 d : Int
 deriving Inhabited
def encW (w : Wrk) : List AV := [.int .i64 w.r, .int .i64 w.c, .int .i64 w.d]
def gW (L : List Wrk) (i : Nat) : Wrk := L.getD i ⟨0, 0, 0⟩
theorem encW_c {L : List Wrk} {i : Nat} (h : i < L.length) : cIS (L.map encW) i 0 = (gW L i).r ∧ cIS (L.map encW) i 1 = (gW L i).c ∧ cIS (L.map encW) i 2 = (gW L i).d := by
 unfold cIS cellS gW
 rw [List.getElem?_map, List.getElem?_eq_getElem h, List.getD_eq_getElem?_getD, List.getElem?_eq_getElem h]; exact ⟨rfl, rfl, rfl⟩
theorem encW_get {L : List Wrk} {i : Nat} (h : i < L.length) : (L.map encW)[i]? = some [.int .i64 (cIS (L.map encW) i 0), .int .i64 (cIS (L.map encW) i 1), .int .i64 (cIS (L.map encW) i 2)] := by
 obtain ⟨e0, e1, e2⟩ := encW_c h
 rw [e0, e1, e2, List.getElem?_map, List.getElem?_eq_getElem h]
 unfold gW
 rw [List.getD_eq_getElem?_getD, List.getElem?_eq_getElem h]; rfl
def relK (L : List Wrk) (x : Int) : Int := clZ (gW L x.toNat).r
def ltK (L : List Wrk) (x y : Int) : Bool := decide (relK L x < relK L y)
def rkK (L : List Wrk) (x : Int) : Int := x + 100000 * relK L x
def VdK (L : List Wrk) (x : Int) : Prop := 0 ≤ x ∧ x.toNat < L.length
theorem cmpK (L : List Wrk) : CmpOk (L.map encW) (ltK L) (VdK L) := by
 intro x y hx hy
 unfold VdK at hx hy
 refine E15 fun _ V => ⟨hx.1, encW_get hx.2, hy.1, encW_get hy.2, ?_⟩
 rw [(encW_c hx.2).1, (encW_c hy.2).1]
 refine (clamp_E _).mono ?_
 rintro _ _ _ ⟨rfl, rfl, rfl⟩
 refine ⟨rfl, _, rfl, rfl, (clamp_E _).mono ?_⟩
 rintro _ _ _ ⟨rfl, rfl, rfl⟩
 have b1 := clZ_bd (gW L x.toNat).r
 have b2 := clZ_bd (gW L y.toNat).r
 refine ⟨rfl, _, rfl, rfl, rfl, rfl, _, rfl, ?_⟩
 rw [wrap64 (by omega) (by omega)]
 unfold ltK relK
 rw [decide_eq_true_iff]
 omega
theorem rkK_lt {L : List Wrk} (hl : L.length ≤ 100000) {x y : Int} (hx : VdK L x) (hy : VdK L y) (h : ltK L x y = true) : rkK L x < rkK L y := by
 have := of_decide_eq_true h
 unfold VdK at hx hy
 unfold rkK
 omega
end Go.Ab

namespace Go.Ab
open Go Go.Proofs Stb
set_option linter.unusedVariables false
set_option linter.unusedSimpArgs false
def Rdy (L : List Wrk) (left : List Int) (t : Int) (i : Nat) : Prop := i < L.length ∧ (gW L i).r ≤ t ∧ 0 < left.getD i 0
def bst (L : List Wrk) (left : List Int) (t : Int) : List Wrk → Nat → Int → Int
 | [], _, b => b
 | w :: ws, i, b => bst L left t ws (i + 1) (if w.r ≤ t ∧ 0 < left.getD i 0 ∧ (b < 0 ∨ w.d < (gW L b.toNat).d) then (i : Int) else b)
def bestF (L : List Wrk) (left : List Int) (t : Int) : Int := bst L left t L 0 (-1)
def Bst (L : List Wrk) (left : List Int) (t : Int) (n : Nat) (b : Int) : Prop :=
 (b = -1 ∧ ∀ i < n, ¬ Rdy L left t i) ∨ (0 ≤ b ∧ b.toNat < n ∧ Rdy L left t b.toNat ∧ ∀ i < n, Rdy L left t i → (gW L b.toNat).d < (gW L i).d ∨ (gW L b.toNat).d = (gW L i).d ∧ b.toNat ≤ i)
theorem bst_ok {L : List Wrk} {left : List Int} {t : Int} : ∀ (ws pre : List Wrk) (b : Int), L = pre ++ ws → Bst L left t pre.length b → Bst L left t L.length (bst L left t ws pre.length b)
 | [], pre, b, hL, h => by rw [List.append_nil] at hL; subst hL; exact h
 | w :: ws, pre, b, hL, h => by
  have hw : gW L pre.length = w := by rw [hL]; unfold gW; simp [List.getD_eq_getElem?_getD]
  have hlt : pre.length < L.length := by rw [hL]; simp
  have hR : Rdy L left t pre.length ↔ w.r ≤ t ∧ 0 < left.getD pre.length 0 := by unfold Rdy; rw [hw]; exact ⟨fun h => h.2, fun h => ⟨hlt, h⟩⟩
  simp only [bst]
  have := bst_ok (L := L) (left := left) (t := t) ws (pre ++ [w]) (if w.r ≤ t ∧ 0 < left.getD pre.length 0 ∧ (b < 0 ∨ w.d < (gW L b.toNat).d) then (pre.length : Int) else b) (by rw [hL]; simp) (by
   rw [List.length_append, List.length_cons, List.length_nil]
   split
   ·rename_i hc
    refine .inr ⟨by omega, by omega, hR.2 ⟨hc.1, hc.2.1⟩, fun i hi hr => ?_⟩
    rw [Int.toNat_natCast, hw]
    rcases Nat.lt_succ_iff_lt_or_eq.1 hi with h1 | rfl
    ·rcases h with ⟨h2, h3⟩ | ⟨h2, h3, h4, h5⟩
     ·exact absurd hr (h3 i h1)
     ·rcases hc.2.2 with h6 | h6
      ·omega
      ·have := h5 i h1 hr; omega
    ·rw [hw]; exact .inr ⟨rfl, Nat.le_refl _⟩
   ·rename_i hc
    rcases h with ⟨h2, h3⟩ | ⟨h2, h3, h4, h5⟩
    ·refine .inl ⟨h2, fun i hi hr => ?_⟩
     rcases Nat.lt_succ_iff_lt_or_eq.1 hi with h1 | rfl
     ·exact h3 i h1 hr
     ·have := hR.1 hr
      exact hc ⟨this.1, this.2, .inl (by omega)⟩
    ·refine .inr ⟨h2, by omega, h4, fun i hi hr => ?_⟩
     rcases Nat.lt_succ_iff_lt_or_eq.1 hi with h1 | rfl
     ·exact h5 i h1 hr
     ·have h6 := hR.1 hr
      rw [hw]
      have : ¬ w.d < (gW L b.toNat).d := fun h7 => hc ⟨h6.1, h6.2, .inr h7⟩
      omega)
  rw [List.length_append] at this
  exact this
theorem bestF_ok (L : List Wrk) (left : List Int) (t : Int) : Bst L left t L.length (bestF L left t) := bst_ok L [] (-1) rfl (.inl ⟨rfl, fun i hi => by cases hi⟩)
theorem Bst.uniq {L : List Wrk} {left : List Int} {t : Int} {n : Nat} {a b : Int} (ha : Bst L left t n a) (hb : Bst L left t n b) : a = b := by
 rcases ha with ⟨h1, h2⟩ | ⟨h1, h2, h3, h4⟩ <;> rcases hb with ⟨k1, k2⟩ | ⟨k1, k2, k3, k4⟩
 ·omega
 ·exact absurd k3 (h2 _ k2)
 ·exact absurd h3 (k2 _ h2)
 ·have := h4 _ k2 k3
  have := k4 _ h2 h3
  omega
end Go.Ab

namespace Go.Ab
open Go Go.Proofs Stb
set_option linter.unusedVariables false
set_option linter.unusedSimpArgs false
def tickL (left : List Int) (b : Int) : List Int := if b < 0 then left else left.set b.toNat (left.getD b.toNat 0 - 1)
def runT (L : List Wrk) : Nat → List Int → Int → List Int × List Int
 | 0, left, _ => ([], left)
 | k + 1, left, t => (bestF L left t :: (runT L k (tickL left (bestF L left t)) (t + 1)).1, (runT L k (tickL left (bestF L left t)) (t + 1)).2)
theorem runT_add (L : List Wrk) : ∀ (a b : Nat) (left : List Int) (t : Int), runT L (a + b) left t = ((runT L a left t).1 ++ (runT L b (runT L a left t).2 (t + a)).1, (runT L b (runT L a left t).2 (t + a)).2)
 | 0, b, left, t => by simp [runT]
 | a + 1, b, left, t => by
  rw [show a + 1 + b = (a + b) + 1 from by omega]
  simp only [runT, runT_add L a b]
  rw [show t + 1 + (a : Int) = t + ((a + 1 : Nat) : Int) from by omega]
  rfl
theorem span_none {L : List Wrk} : ∀ (k : Nat) (left : List Int) (t : Int), (∀ s : Nat, s < k → ∀ i < L.length, ¬ Rdy L left (t + s) i) → runT L k left t = (List.replicate k (-1), left)
 | 0, left, t, _ => rfl
 | k + 1, left, t, h => by
  have hb : bestF L left t = -1 := (bestF_ok L left t).uniq (.inl ⟨rfl, fun i hi => by have := h 0 (by omega) i hi; simpa using this⟩)
  have ht : tickL left (-1) = left := by unfold tickL; rw [if_pos (by omega)]
  simp only [runT, hb, ht]
  rw [span_none k left (t + 1) (fun s hs i hi => by
   have := h (s + 1) (by omega) i hi
   rwa [show t + ((s + 1 : Nat) : Int) = t + 1 + (s : Int) from by omega] at this)]
  rfl
theorem span_one {L : List Wrk} {b : Int} : ∀ (k : Nat) (left : List Int) (t : Int), left.length = L.length → Bst L left t L.length b → 0 ≤ b → (k : Int) ≤ left.getD b.toNat 0 → (∀ i < L.length, 0 < left.getD i 0 → (gW L i).r ≤ t ∨ t + k ≤ (gW L i).r) →
  runT L k left t = (List.replicate k b, left.set b.toNat (left.getD b.toNat 0 - k))
 | 0, left, t, hl, hb, h0, hk, ha => by
  have e : left.set b.toNat (left.getD b.toNat 0 - ((0 : Nat) : Int)) = left := by
   apply List.ext_getElem
   ·simp
   ·intro i h1 h2
    rw [List.getElem_set]
    split
    ·rename_i e; subst e; simp [List.getD_eq_getElem?_getD, h2]
    ·rfl
  rw [e]; rfl
 | k + 1, left, t, hl, hb, h0, hk, ha => by
  have e0 : bestF L left t = b := (bestF_ok L left t).uniq hb
  obtain ⟨h1, h2, h3, h4⟩ : 0 ≤ b ∧ b.toNat < L.length ∧ Rdy L left t b.toNat ∧ ∀ i < L.length, Rdy L left t i → (gW L b.toNat).d < (gW L i).d ∨ (gW L b.toNat).d = (gW L i).d ∧ b.toNat ≤ i := by
   rcases hb with ⟨h, _⟩ | h
   ·omega
   ·exact h
  have hbl : b.toNat < left.length := by omega
  have et : tickL left b = left.set b.toNat (left.getD b.toNat 0 - 1) := by unfold tickL; rw [if_neg (by omega)]
  have gs : ∀ i v, (left.set b.toNat v).getD i 0 = if i = b.toNat then v else left.getD i 0 := fun i v => by
   rw [List.getD_eq_getElem?_getD, List.getElem?_set, List.getD_eq_getElem?_getD]
   by_cases e : b.toNat = i
   ·subst e; simp [hbl]
   ·rw [if_neg e, if_neg (fun h => e h.symm)]
  simp only [runT, e0, et]
  rcases Nat.eq_zero_or_pos k with rfl | hk0
  ·simp [runT]
  ·have hb' : Bst L (left.set b.toNat (left.getD b.toNat 0 - 1)) (t + 1) L.length b := by
    have hp : ∀ i, 0 < (left.set b.toNat (left.getD b.toNat 0 - 1)).getD i 0 → 0 < left.getD i 0 := fun i this => by
     rw [gs] at this
     split at this
     ·rename_i e; subst e; omega
     ·exact this
    refine .inr ⟨h1, h2, ⟨h2, by have := h3.2.1; omega, by rw [gs, if_pos rfl]; omega⟩, fun i hi hr => h4 i hi ⟨hi, ?_, hp i hr.2.2⟩⟩
    have := hr.2.1
    have := ha i hi (hp i hr.2.2)
    omega
   rw [span_one k _ (t + 1) (by simpa using hl) hb' h0 (by rw [gs, if_pos rfl]; omega) (fun i hi hq => by
    have := ha i hi (by
     rw [gs] at hq
     split at hq
     ·rename_i e; subst e; omega
     ·exact hq)
    omega), gs, if_pos rfl, List.set_set, List.replicate_succ, show left.getD b.toNat 0 - 1 - (k : Int) = left.getD b.toNat 0 - ((k + 1 : Nat) : Int) from by omega]
end Go.Ab

namespace Go.Ab
open Go Go.Proofs Stb
set_option linter.unusedVariables false
set_option linter.unusedSimpArgs false
set_option maxRecDepth 100000
set_option maxHeartbeats 1000000
def clW (w : Wrk) : Wrk := ⟨clZ w.r, clZ w.c, clZ w.d⟩
end Go.Ab

namespace Go.Ab
open Go Go.Proofs Stb
set_option linter.unusedVariables false
set_option linter.unusedSimpArgs false
set_option maxRecDepth 100000
set_option maxHeartbeats 1000000
def doneT (L : List Wrk) : Nat → List Int → List Int → Int → List Int
 | 0, _, D, _ => D
 | k + 1, left, D, t => doneT L k (tickL left (bestF L left t)) (if 0 ≤ bestF L left t ∧ (tickL left (bestF L left t)).getD (bestF L left t).toNat 0 = 0 then D.set (bestF L left t).toNat (t + 1) else D) (t + 1)
def relsW (L : List Wrk) : List Int := L.map fun w => w.r
def costsW (L : List Wrk) : List Int := L.map fun w => w.c
theorem tickL_len (left : List Int) (b : Int) : (tickL left b).length = left.length := by unfold tickL; split <;> simp
theorem doneT_len (L : List Wrk) : ∀ (k : Nat) (left D : List Int) (t : Int), (doneT L k left D t).length = D.length
 | 0, _, D, _ => rfl
 | k + 1, left, D, t => by
  simp only [doneT]
  rw [doneT_len L k]
  split <;> simp
theorem runT_len (L : List Wrk) : ∀ (k : Nat) (left : List Int) (t : Int), (runT L k left t).1.length = k ∧ (runT L k left t).2.length = left.length
 | 0, left, t => ⟨rfl, rfl⟩
 | k + 1, left, t => by
  have := runT_len L k (tickL left (bestF L left t)) (t + 1)
  simp only [runT, List.length_cons, this.1, this.2, tickL_len]
  exact ⟨trivial, trivial⟩
theorem sum_set1 : ∀ (L : List Int) (j : Nat) (v : Int), j < L.length → (L.set j v).sum = L.sum - L.getD j 0 + v
 | [], j, v, h => by simp at h
 | x :: L, 0, v, _ => by simp; omega
 | x :: L, j + 1, v, h => by
  have := sum_set1 L j v (by simpa using h)
  simp only [List.set_cons_succ, List.sum_cons, this, List.getD_cons_succ]
  omega
end Go.Ab

namespace Go.Ab
open Go Go.Proofs Stb
set_option linter.unusedVariables false
set_option linter.unusedSimpArgs false
set_option maxRecDepth 100000
set_option maxHeartbeats 1000000
theorem doneT_add (L : List Wrk) : ∀ (a b : Nat) (left D : List Int) (t : Int), doneT L (a + b) left D t = doneT L b (runT L a left t).2 (doneT L a left D t) (t + a)
 | 0, b, left, D, t => by simp [runT, doneT]
 | a + 1, b, left, D, t => by
  rw [show a + 1 + b = (a + b) + 1 from by omega]
  simp only [runT, doneT, doneT_add L a b]
  rw [show t + 1 + (a : Int) = t + ((a + 1 : Nat) : Int) from by omega]
theorem runT_succ (L : List Wrk) (k : Nat) (l0 : List Int) : runT L (k + 1) l0 0 = ((runT L k l0 0).1 ++ [bestF L (runT L k l0 0).2 k], tickL (runT L k l0 0).2 (bestF L (runT L k l0 0).2 k)) := by
 rw [runT_add]; simp [runT]
theorem doneT_succ (L : List Wrk) (k : Nat) (l0 D0 : List Int) : doneT L (k + 1) l0 D0 0 = (if 0 ≤ bestF L (runT L k l0 0).2 k ∧ (tickL (runT L k l0 0).2 (bestF L (runT L k l0 0).2 k)).getD (bestF L (runT L k l0 0).2 k).toNat 0 = 0 then (doneT L k l0 D0 0).set (bestF L (runT L k l0 0).2 k).toNat (k + 1) else doneT L k l0 D0 0) := by
 rw [doneT_add]; simp [doneT]
theorem getD_set {l : List Int} {j i : Nat} {v : Int} (h : j < l.length) : (l.set j v).getD i 0 = if i = j then v else l.getD i 0 := by
 rw [List.getD_eq_getElem?_getD, List.getElem?_set, List.getD_eq_getElem?_getD]
 by_cases e : j = i
 ·subst e; simp [h]
 ·rw [if_neg e, if_neg (fun h => e h.symm)]
def Zr (l : List Int) : Prop := ∀ i < l.length, l.getD i 0 = 0
theorem tick_nonneg {L : List Wrk} {left : List Int} {t b : Int} (hl : left.length = L.length) (hb : Bst L left t L.length b) (h0 : ∀ i < left.length, 0 ≤ left.getD i 0) :
  (∀ i < (tickL left b).length, 0 ≤ (tickL left b).getD i 0) ∧ (0 ≤ b → b.toNat < left.length ∧ 0 < left.getD b.toNat 0 ∧ tickL left b = left.set b.toNat (left.getD b.toNat 0 - 1) ∧ (tickL left b).sum = left.sum - 1) ∧ (b < 0 → tickL left b = left) := by
 rcases hb with ⟨rfl, h1⟩ | ⟨h1, h2, h3, _⟩
 ·have e : tickL left (-1) = left := by unfold tickL; rw [if_pos (by omega)]
  rw [e]; exact ⟨h0, fun h => by omega, fun _ => rfl⟩
 ·have e : tickL left b = left.set b.toNat (left.getD b.toNat 0 - 1) := by unfold tickL; rw [if_neg (by omega)]
  have hbl : b.toNat < left.length := by omega
  rw [e]
  refine ⟨fun i hi => ?_, fun _ => ⟨hbl, h3.2.2, rfl, by rw [sum_set1 _ _ _ hbl]; omega⟩, fun h => by omega⟩
  rw [List.length_set] at hi
  rw [getD_set hbl]
  have := h3.2.2
  split
  ·omega
  ·exact h0 i hi
theorem relsW_get {L : List Wrk} (i : Nat) : (relsW L).getD i 0 = (gW L i).r := by
 unfold relsW gW
 rw [List.getD_eq_getElem?_getD, List.getElem?_map, List.getD_eq_getElem?_getD]
 cases L[i]? <;> rfl
theorem costsW_get {L : List Wrk} (i : Nat) : (costsW L).getD i 0 = (gW L i).c := by
 unfold costsW gW
 rw [List.getD_eq_getElem?_getD, List.getElem?_map, List.getD_eq_getElem?_getD]
 cases L[i]? <;> rfl
end Go.Ab
