import Derived.Test.YtdmpiondalhonaaEdK
import Derived.Test.YtdmpiondalhonaaEdW
namespace Go.Ab
open Go Go.Proofs Stb
set_option linter.unusedVariables false
set_option linter.unusedSimpArgs false
set_option maxRecDepth 100000
set_option maxHeartbeats 1000000

/-- When each one is done. -/
def doneT (L : List Wrk) : Nat → List Int → List Int → Int → List Int
  | 0, _, D, _ => D
  | k + 1, left, D, t => doneT L k (tickL left (bestF L left t)) (if 0 ≤ bestF L left t ∧ (tickL left (bestF L left t)).getD (bestF L left t).toNat 0 = 0 then D.set (bestF L left t).toNat (t + 1) else D) (t + 1)
def relsW (L : List Wrk) : List Int := L.map fun w => w.r
def costsW (L : List Wrk) : List Int := L.map fun w => w.c
theorem tickL_len (left : List Int) (b : Int) : (tickL left b).length = left.length := by unfold tickL; split <;> simp
theorem doneT_len (L : List Wrk) : ∀ (k : Nat) (left D : List Int) (t : Int), (doneT L k left D t).length = D.length
  | 0, _, D, _ => rfl
  | k + 1, left, D, t => by
    simp only [doneT]
    rw [doneT_len L k]
    split <;> simp
theorem runT_len (L : List Wrk) : ∀ (k : Nat) (left : List Int) (t : Int), (runT L k left t).1.length = k ∧ (runT L k left t).2.length = left.length
  | 0, left, t => ⟨rfl, rfl⟩
  | k + 1, left, t => by
    have := runT_len L k (tickL left (bestF L left t)) (t + 1)
    simp only [runT, List.length_cons, this.1, this.2, tickL_len]
    exact ⟨trivial, trivial⟩

theorem best_E {L : List Wrk} {left D T : List Int} {al : Int} {t : Nat} {EV Q : Nat → Rs → List Lf → Prop} (V : V24 EV Q) (hl : left.length = L.length) (hL : L.length < 1000000) (ht : t < 1000000)
    (fin : EV 51 [ints left, ints D, ints T] [.r (L.map encW), .i al, .i t, .i (bestF L left t), .r (L.map encW), .i L.length, .i L.length]) :
    EV 51 [ints left, ints D, ints T] [.r (L.map encW), .i al, .i t, .i (-1), .r (L.map encW), .i L.length, .i 0] := by
  have p51 : ∀ (ws pre : List Wrk) (b : Int), L = pre ++ ws → (b = -1 ∨ 0 ≤ b ∧ b.toNat < L.length) → bst L left t ws pre.length b = bestF L left t → EV 51 [ints left, ints D, ints T] [.r (L.map encW), .i al, .i t, .i b, .r (L.map encW), .i L.length, .i pre.length] := by
    intro ws
    induction ws with
    | nil =>
      intro pre b hp hb hf
      rw [List.append_nil] at hp
      subst hp
      have hf : b = bestF L left t := hf
      rw [hf]; exact fin
    | cons w ws ih =>
      intro pre b hp hb hf
      have hlen := congrArg List.length hp
      rw [List.length_append, List.length_cons] at hlen
      have hw : gW L pre.length = w := by rw [hp]; unfold gW; simp [List.getD_eq_getElem?_getD]
      obtain ⟨c0, c1, c2⟩ := encW_c (L := L) (i := pre.length) (by omega)
      rw [hw] at c0 c1 c2
      simp only [bst] at hf
      have nxt : ∀ b', (b' = -1 ∨ 0 ≤ b' ∧ b'.toNat < L.length) → (if w.r ≤ (t : Int) ∧ 0 < left.getD pre.length 0 ∧ (b < 0 ∨ w.d < (gW L b.toNat).d) then (pre.length : Int) else b) = b' → EV 51 [ints left, ints D, ints T] [.r (L.map encW), .i al, .i t, .i b', .r (L.map encW), .i L.length, .i (IntKind.wrap .i64 ((pre.length : Int) + 1))] := fun b' h1 h2 => by
        rw [h2] at hf
        have := ih (pre ++ [w]) b' (by rw [hp]; simp) h1 (by rw [List.length_append]; exact hf)
        rw [List.length_append] at this
        rw [sW (n := pre.length + 1) (by omega) (by omega)]
        exact this
      have hlp : pre.length < left.length := by omega
      refine V.p51 fun _ _ _ => ⟨fun h => ?_, fun h => by omega⟩
      rw [Int.toNat_natCast, ints_length]
      refine ⟨by omega, encW_get (by omega), ?_⟩
      rw [c0, c2]
      refine ⟨fun h1 => ⟨by omega, by omega, ints_get hlp, ?_⟩, fun h1 => nxt _ hb (by rw [if_neg (fun h => by omega)])⟩
      rw [ints_cI]
      refine ⟨fun h2 => ⟨fun h3 => nxt _ (.inr ⟨by omega, by omega⟩) (by rw [if_pos ⟨h1, h2, .inl h3⟩]), fun h3 => ?_⟩, fun h2 => nxt _ hb (by rw [if_neg (fun h => by omega)])⟩
      have hb2 : 0 ≤ b ∧ b.toNat < L.length := by omega
      refine ⟨h3, encW_get hb2.2, ?_⟩
      rw [(encW_c hb2.2).2.2]
      exact ⟨fun h4 => nxt _ (.inr ⟨by omega, by omega⟩) (by rw [if_pos ⟨h1, h2, .inr h4⟩]), fun h4 => nxt _ hb (by rw [if_neg (fun h => by omega)])⟩
  exact p51 L [] (-1) rfl (.inl rfl) rfl

theorem sum_set1 : ∀ (L : List Int) (j : Nat) (v : Int), j < L.length → (L.set j v).sum = L.sum - L.getD j 0 + v
  | [], j, v, h => by simp at h
  | x :: L, 0, v, _ => by simp; omega
  | x :: L, j + 1, v, h => by
    have := sum_set1 L j v (by simpa using h)
    simp only [List.set_cons_succ, List.sum_cons, this, List.getD_cons_succ]
    omega
/-- Somebody has something left. -/
theorem some_left : ∀ (l : List Int), (∀ k < l.length, 0 ≤ l.getD k 0) → 0 < l.sum → ∃ k < l.length, 0 < l.getD k 0
  | [], _, h => by simp at h
  | x :: l, h0, h => by
    by_cases hx : 0 < x
    · exact ⟨0, by simp, by simpa using hx⟩
    · have h1 := h0 0 (by simp)
      simp only [List.getD_cons_zero] at h1
      simp only [List.sum_cons] at h
      obtain ⟨k, h2, h3⟩ := some_left l (fun k hk => by have := h0 (k + 1) (by simpa using hk); simpa using this) (by omega)
      exact ⟨k + 1, by simpa using h2, by simpa using h3⟩
end Go.Ab

namespace Go.Ab
open Go Go.Proofs Stb
set_option linter.unusedVariables false
set_option linter.unusedSimpArgs false
set_option maxRecDepth 100000
set_option maxHeartbeats 1000000

theorem doneT_add (L : List Wrk) : ∀ (a b : Nat) (left D : List Int) (t : Int), doneT L (a + b) left D t = doneT L b (runT L a left t).2 (doneT L a left D t) (t + a)
  | 0, b, left, D, t => by simp [runT, doneT]
  | a + 1, b, left, D, t => by
    rw [show a + 1 + b = (a + b) + 1 from by omega]
    simp only [runT, doneT, doneT_add L a b]
    rw [show t + 1 + (a : Int) = t + ((a + 1 : Nat) : Int) from by omega]
theorem runT_succ (L : List Wrk) (k : Nat) (l0 : List Int) : runT L (k + 1) l0 0 = ((runT L k l0 0).1 ++ [bestF L (runT L k l0 0).2 k], tickL (runT L k l0 0).2 (bestF L (runT L k l0 0).2 k)) := by
  rw [runT_add]; simp [runT]
theorem doneT_succ (L : List Wrk) (k : Nat) (l0 D0 : List Int) : doneT L (k + 1) l0 D0 0 = (if 0 ≤ bestF L (runT L k l0 0).2 k ∧ (tickL (runT L k l0 0).2 (bestF L (runT L k l0 0).2 k)).getD (bestF L (runT L k l0 0).2 k).toNat 0 = 0 then (doneT L k l0 D0 0).set (bestF L (runT L k l0 0).2 k).toNat (k + 1) else doneT L k l0 D0 0) := by
  rw [doneT_add]; simp [doneT]
theorem getD_set {l : List Int} {j i : Nat} {v : Int} (h : j < l.length) : (l.set j v).getD i 0 = if i = j then v else l.getD i 0 := by
  rw [List.getD_eq_getElem?_getD, List.getElem?_set, List.getD_eq_getElem?_getD]
  by_cases e : j = i
  · subst e; simp [h]
  · rw [if_neg e, if_neg (fun h => e h.symm)]
/-- Nothing is left. -/
def Zr (l : List Int) : Prop := ∀ i < l.length, l.getD i 0 = 0
theorem zr_of : ∀ (l : List Int), (∀ i < l.length, 0 ≤ l.getD i 0) → l.sum ≤ 0 → Zr l := fun l h0 hs i hi => by
  have h1 := h0 i hi
  have h2 := sum_set1 l i 0 hi
  have h3 : 0 ≤ (l.set i 0).sum := by
    by_cases hc : 0 ≤ (l.set i 0).sum
    · exact hc
    · exfalso
      have : ∀ (m : List Int), (∀ k < m.length, 0 ≤ m.getD k 0) → 0 ≤ m.sum := by
        intro m
        induction m with
        | nil => intro _; simp
        | cons x m ih =>
          intro h
          have h1 := h 0 (by simp)
          have := ih (fun k hk => by have := h (k + 1) (by simpa using hk); simpa using this)
          simp only [List.getD_cons_zero] at h1
          simp only [List.sum_cons]; omega
      exact hc (this _ fun k hk => by
        rw [getD_set hi]
        split
        · omega
        · exact h0 k (by simpa using hk))
  omega
theorem tick_nonneg {L : List Wrk} {left : List Int} {t b : Int} (hl : left.length = L.length) (hb : Bst L left t L.length b) (h0 : ∀ i < left.length, 0 ≤ left.getD i 0) :
    (∀ i < (tickL left b).length, 0 ≤ (tickL left b).getD i 0) ∧ (0 ≤ b → b.toNat < left.length ∧ 0 < left.getD b.toNat 0 ∧ tickL left b = left.set b.toNat (left.getD b.toNat 0 - 1) ∧ (tickL left b).sum = left.sum - 1) ∧ (b < 0 → tickL left b = left) := by
  rcases hb with ⟨rfl, h1⟩ | ⟨h1, h2, h3, _⟩
  · have e : tickL left (-1) = left := by unfold tickL; rw [if_pos (by omega)]
    rw [e]; exact ⟨h0, fun h => by omega, fun _ => rfl⟩
  · have e : tickL left b = left.set b.toNat (left.getD b.toNat 0 - 1) := by unfold tickL; rw [if_neg (by omega)]
    have hbl : b.toNat < left.length := by omega
    rw [e]
    refine ⟨fun i hi => ?_, fun _ => ⟨hbl, h3.2.2, rfl, by rw [sum_set1 _ _ _ hbl]; omega⟩, fun h => by omega⟩
    rw [List.length_set] at hi
    rw [getD_set hbl]
    have := h3.2.2
    split
    · omega
    · exact h0 i hi

theorem relsW_get {L : List Wrk} (i : Nat) : (relsW L).getD i 0 = (gW L i).r := by
  unfold relsW gW
  rw [List.getD_eq_getElem?_getD, List.getElem?_map, List.getD_eq_getElem?_getD]
  cases L[i]? <;> rfl
theorem costsW_get {L : List Wrk} (i : Nat) : (costsW L).getD i 0 = (gW L i).c := by
  unfold costsW gW
  rw [List.getD_eq_getElem?_getD, List.getElem?_map, List.getD_eq_getElem?_getD]
  cases L[i]? <;> rfl

theorem RRun_E (L : List Wrk) (hL : L.length ≤ 30) (hr : ∀ w ∈ L, w.r ≤ 500) (hc : ∀ w ∈ L, 0 ≤ w.c) (hs : (costsW L).sum ≤ 600) : EC Try.prog G24 [] [.r (L.map encW)] fun e rs vs => e = 0 ∧ vs = [] ∧ ∃ T : Nat, T < 100000 ∧ rs = [ints (runT L T (costsW L) 0).1, ints (doneT L T (costsW L) (relsW L) 0)] ∧ Zr (runT L T (costsW L) 0).2 := by
  refine E24 fun EV V => ?_
  have p36 : ∀ (d k : Nat) (left D T : List Int), runT L k (costsW L) 0 = (T, left) → doneT L k (costsW L) (relsW L) 0 = D → (∀ i < left.length, 0 ≤ left.getD i 0) → left.sum ≤ 600 → left.sum + k ≤ 1101 → left.sum.toNat + (501 - k) < d → EV 36 [ints left, ints D, ints T] [.r (L.map encW), .i left.sum, .i k] := by
    intro d
    induction d with
    | zero => intro k left D T _ _ _ _ _ h; omega
    | succ d ih =>
      intro k left D T hT hD h0 h1 h2 hd
      have hlen : left.length = L.length := by
        have := (runT_len L k (costsW L) 0).2
        rw [hT] at this
        rw [this]; simp [costsW]
      have hDl : D.length = L.length := by rw [← hD, doneT_len]; simp [relsW]
      have hTl : T.length = k := by
        have := (runT_len L k (costsW L) 0).1
        rw [hT] at this; exact this
      have hB := bestF_ok L left k
      obtain ⟨t1, t2, t3⟩ := tick_nonneg hlen hB h0
      have rs := runT_succ L k (costsW L)
      have ds := doneT_succ L k (costsW L) (relsW L)
      rw [hT] at rs ds
      rw [hD] at ds
      generalize hb : bestF L left k = b at *
      simp only [] at rs ds
      refine V.p36 fun _ _ _ => ⟨fun h => ?_, fun h => ⟨rfl, rfl, k, ?_, by rw [hT, hD], by rw [hT]; exact zr_of _ h0 h⟩⟩
      · have hk : (k : Int) + 1 < 2000 := by omega
        have ek : IntKind.wrap .i64 ((k : Int) + 1) = ((k + 1 : Nat) : Int) := by rw [wrap64 (by omega) (by omega)]; omega
        have hlm : (L.map encW).length = L.length := List.length_map ..
        rw [hlm]
        refine best_E V hlen (by omega) (by omega) ?_
        rw [hb]
        refine V.p51 fun _ _ _ => ⟨fun h => by omega, fun _ => ⟨by rw [ints_length]; omega, by rw [ints_length]; omega, fun hb0 => ?_, fun hb0 => ?_⟩⟩
        · obtain ⟨u1, u2, u3, u4⟩ := t2 hb0
          have ge : cIS (ints left) b.toNat 0 = left.getD b.toNat 0 := ints_cI ..
          have hle : left.getD b.toNat 0 ≤ left.sum := by
            have q := sum_set1 left b.toNat 0 u1
            have q2 : 0 ≤ (left.set b.toNat 0).sum := by
              by_cases hc : 0 ≤ (left.set b.toNat 0).sum
              · exact hc
              · have := zr_of (left.set b.toNat 0) (fun i hi => by
                  rw [getD_set u1]
                  split
                  · omega
                  · exact h0 i (by simpa using hi)) (by omega)
                exfalso
                have : ∀ (m : List Int), Zr m → m.sum = 0 := by
                  intro m
                  induction m with
                  | nil => intro _; rfl
                  | cons x m ih =>
                    intro h
                    have h1 := h 0 (by simp)
                    have := ih (fun k hk => by have := h (k + 1) (by simpa using hk); simpa using this)
                    simp only [List.getD_cons_zero] at h1
                    simp only [List.sum_cons]; omega
                have := this _ ‹_›
                omega
            omega
          rw [ge, wrap64 (x := left.getD b.toNat 0 - 1) (by omega) (by omega), ints_set, ← u3, ints_cI, wrap64 (x := left.sum - 1) (by omega) (by omega), ek, ints_append, ints_set]
          have hnx : (tickL left b).sum.toNat + (501 - (k + 1)) < d := by omega
          refine ⟨hb0, by rw [ints_length]; omega, by rw [← ge]; exact ints_get u1, ?_, fun hz => ⟨hb0, by rw [ints_length]; omega, ints_get (by omega), ?_⟩, fun hz => ?_⟩
          · have := ints_get (l := tickL left b) (i := b.toNat) (by rw [tickL_len]; exact u1)
            rwa [ints_cI] at this
          · have := ih (k + 1) (tickL left b) _ _ rs ds t1 (by omega) (by omega) hnx
            rw [if_pos ⟨hb0, hz⟩, u4] at this
            exact this
          · have := ih (k + 1) (tickL left b) _ _ rs ds t1 (by omega) (by omega) hnx
            rw [if_neg (fun h => hz h.2), u4] at this
            exact this
        · have et := t3 (by omega)
          have hkr : k < 500 := by
            obtain ⟨j, j1, j2⟩ := some_left left h0 h
            rcases hB with ⟨_, hn⟩ | ⟨hp, _⟩
            · have := hn j (by omega)
              by_cases hk : (gW L j).r ≤ k
              · exact absurd ⟨by omega, hk, j2⟩ this
              · have hm : gW L j ∈ L := by
                  unfold gW
                  rw [List.getD_eq_getElem?_getD, List.getElem?_eq_getElem (by omega)]
                  exact List.getElem_mem ..
                have := hr _ hm
                omega
            · omega
          rw [ek, ints_append]
          have := ih (k + 1) (tickL left b) _ _ rs ds t1 (by rw [et]; omega) (by rw [et]; omega) (by rw [et]; omega)
          rw [if_neg (fun h => by omega), et] at this
          exact this
      · have : 0 ≤ left.sum := by
          by_cases hc : 0 ≤ left.sum
          · exact hc
          · have hz := zr_of left h0 (by omega)
            have : ∀ (m : List Int), Zr m → m.sum = 0 := by
              intro m
              induction m with
              | nil => intro _; rfl
              | cons x m ih =>
                intro h
                have h1 := h 0 (by simp)
                have := ih (fun k hk => by have := h (k + 1) (by simpa using hk); simpa using this)
                simp only [List.getD_cons_zero] at h1
                simp only [List.sum_cons]; omega
            rw [this _ hz]; decide
        omega
  have p13 : ∀ (ws pre : List Wrk), L = pre ++ ws → 0 ≤ (costsW pre).sum → (costsW pre).sum + (costsW ws).sum ≤ 600 → EV 13 [ints (costsW pre), ints (relsW pre)] [.r (L.map encW), .i (costsW pre).sum, .r (L.map encW), .i L.length, .i pre.length] := by
    intro ws
    induction ws with
    | nil =>
      intro pre hp h1 h2
      rw [List.append_nil] at hp
      subst hp
      refine V.p13 fun _ _ => ⟨fun h => by omega, fun _ => ?_⟩
      refine p36 _ 0 _ _ _ rfl rfl (fun i hi => ?_) hs (by omega) (Nat.lt_succ_self _)
      rw [costsW_get]
      have hi' : i < L.length := by simpa [costsW] using hi
      refine hc _ ?_
      unfold gW
      rw [List.getD_eq_getElem?_getD, List.getElem?_eq_getElem hi']
      exact List.getElem_mem ..
    | cons w ws ih =>
      intro pre hp h1 h2
      have hlen := congrArg List.length hp
      rw [List.length_append, List.length_cons] at hlen
      have hw : gW L pre.length = w := by rw [hp]; unfold gW; simp [List.getD_eq_getElem?_getD]
      obtain ⟨c0, c1, c2⟩ := encW_c (L := L) (i := pre.length) (by omega)
      rw [hw] at c0 c1 c2
      have hwc := hc w (by rw [hp]; simp)
      have hws : 0 ≤ (costsW ws).sum := by
        have : ∀ (m : List Wrk), (∀ x ∈ m, 0 ≤ x.c) → 0 ≤ (costsW m).sum := by
          intro m
          induction m with
          | nil => intro _; decide
          | cons x m ih =>
            intro h
            have a1 := h x (by simp)
            have a2 := ih (fun y hy => h y (by simp [hy]))
            unfold costsW at *
            simp only [List.map_cons, List.sum_cons]; omega
        exact this ws fun x hx => hc x (by rw [hp]; simp [hx])
      have e1 : (costsW (w :: ws)).sum = w.c + (costsW ws).sum := by simp [costsW]
      have e2 : (costsW (pre ++ [w])).sum = (costsW pre).sum + w.c := by simp [costsW]
      have e3 : costsW (pre ++ [w]) = costsW pre ++ [w.c] := by simp [costsW]
      have e4 : relsW (pre ++ [w]) = relsW pre ++ [w.r] := by simp [relsW]
      rw [e1] at h2
      refine V.p13 fun _ _ => ⟨fun h => ?_, fun h => by omega⟩
      rw [Int.toNat_natCast]
      refine ⟨by omega, encW_get (by omega), by rw [ints_length]; simp [costsW]; omega, by rw [ints_length]; simp [costsW]; omega, by rw [ints_length]; simp [relsW]; omega, by rw [ints_length]; simp [relsW]; omega, ?_⟩
      rw [c0, c1, ints_append, ints_append, wrap64 (x := (costsW pre).sum + w.c) (by omega) (by omega), sW (n := pre.length + 1) (by omega) (by omega), ← e3, ← e4, ← e2]
      have := ih (pre ++ [w]) (by rw [hp]; simp) (by omega) (by omega)
      rw [List.length_append] at this
      exact this
  rw [List.length_map]
  exact p13 L [] rfl (by decide) (by simp [costsW]; exact hs)
end Go.Ab
