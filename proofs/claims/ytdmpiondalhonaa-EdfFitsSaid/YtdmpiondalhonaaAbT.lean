/- Regions whose order is drawn. -/
import Derived.Test.YtdmpiondalhonaaAbS
namespace Go.Ab
open Go
set_option linter.unusedVariables false
set_option linter.unusedSimpArgs false

/-- All but these forgotten. -/
def maskL (ts : List Nat) : Nat → List AV → List AV
  | _, [] => []
  | k, x :: l => (if ts.contains k then x else .junk) :: maskL ts (k + 1) l

theorem maskL_get (ts : List Nat) : ∀ (l : List AV) (k i : Nat), (maskL ts k l)[i]? = (l[i]?).map fun x => if ts.contains (k + i) then x else .junk
  | [], k, i => by simp [maskL]
  | x :: l, k, 0 => by simp [maskL]
  | x :: l, k, i + 1 => by
    simp only [maskL, List.getElem?_cons_succ]
    rw [maskL_get ts l (k + 1) i, show k + 1 + i = k + (i + 1) by omega]

theorem maskL_set (ts : List Nat) (l : List AV) (d : Nat) (v : AV) (h : d ∉ ts) : maskL ts 0 (l.set d v) = maskL ts 0 l := by
  apply List.ext_getElem?
  intro i
  rw [maskL_get, maskL_get, List.getElem?_set]
  by_cases hd : d = i
  · subst hd
    by_cases hlt : d < l.length
    · simp [hlt, h]
    · simp [hlt]
  · rw [if_neg hd]

theorem maskL_put (ts : List Nat) (l : List AV) (d : Option Nat) (v : AV) (h : ∀ x, d = some x → x ∉ ts) : maskL ts 0 (putL l d v) = maskL ts 0 l := by
  cases d with
  | none => rfl
  | some d => simp only [putL, setL_eq]; exact maskL_set ts l d v (h d rfl)

theorem maskL_rels {S : RS} {T : Sh} (ts : List Nat) {l : List AV} {vs : List Value} (h : rels S l T vs) : rels S (maskL ts 0 l) T vs := by
  refine rels_of_get ?_ fun i c hi => ?_
  · have := rels_length h
    have hl : ∀ (l : List AV) k, (maskL ts k l).length = l.length := by
      intro l
      induction l with
      | nil => intro k; rfl
      | cons x l ih => intro k; simp [maskL, ih]
    rw [hl, this]
  · rw [maskL_get] at hi
    obtain ⟨x, hx, rfl⟩ := Option.map_eq_some_iff.1 hi
    obtain ⟨v, h1, h2⟩ := rels_get h hx
    refine ⟨v, h1, ?_⟩
    split
    · exact h2
    · simp [rel]

theorem putL_comm (l : List AV) (d e : Option Nat) (v u : AV) (h : ∀ x, d = some x → e ≠ some x) : putL (putL l d v) e u = putL (putL l e u) d v := by
  cases d with
  | none => rfl
  | some d =>
    cases e with
    | none => rfl
    | some e =>
      have hne : d ≠ e := fun he => h d rfl (he ▸ rfl)
      simp only [putL, setL_eq]
      exact List.set_comm _ _ hne

section
variable {P : Program} {ops : Array Oper}

/-- One operation, as it is asked of every state that these abstract ones speak of. -/
def StepT (P : Program) (ops : Array Oper) (o : Oper) (fr : List AV) (H : List ABlk) (K : AV → List ABlk → Prop) : Prop :=
  ∀ S a w, rels S fr (shape H) a.tmps.toList → WRel S H w →
    (Region.wanted o (yielded ops a.tmps) = true → opRes P o a w (Done S H K)) ∧ (Region.wanted o (yielded ops a.tmps) = false → K (.tup []) H)

theorem Done.mono {S : RS} {H : List ABlk} {K K' : AV → List ABlk → Prop} {u : Value} {w : World} (hm : ∀ v H', K v H' → K' v H') (h : Done S H K u w) : Done S H K' u w := by
  obtain ⟨S', v, H', h1, h2, h3, h4⟩ := h
  exact ⟨S', v, H', h1, h2, h3, hm _ _ h4⟩

theorem opRes.mono {o : Oper} {a : Act} {w : World} {G G' : Value → World → Prop} (hm : ∀ v w, G v w → G' v w) (h : opRes P o a w G) : opRes P o a w G' := by
  unfold opRes at *
  split
  · rename_i hr; rw [hr] at h; exact hm _ _ h
  · rename_i hr; rw [hr] at h; exact hm _ _ h
  · rename_i hr; rw [hr] at h; exact Calls.mono h fun e w' ⟨u, h1, h2⟩ => ⟨u, h1, hm _ _ h2⟩
  · rename_i h1 h2 h3
    split at h
    · rename_i hr; exact absurd hr (h1 _ _)
    · rename_i hr; exact absurd hr (h2 _)
    · rename_i hr; exact absurd hr (h3 _ _ _)
    · exact h

theorem StepT.mono {o : Oper} {fr : List AV} {H : List ABlk} {K K' : AV → List ABlk → Prop} (hm : ∀ v H', K v H' → K' v H') (h : StepT P ops o fr H K) : StepT P ops o fr H K' :=
  fun S a w hf hw => ⟨fun hg => ((h S a w hf hw).1 hg).mono fun v w' hd => hd.mono hm, fun hg => hm _ _ ((h S a w hf hw).2 hg)⟩

/-- The blocks marked are the same. -/
def keepP : List Bool → List ABlk → List ABlk → Prop
  | [], _, _ => True
  | true :: bs, x :: H, y :: H' => x = y ∧ keepP bs H H'
  | false :: bs, _ :: H, _ :: H' => keepP bs H H'
  | _, _, _ => False

theorem keepP_get : ∀ {bs : List Bool} {H H' : List ABlk}, keepP bs H H' → ∀ i : Nat, bs[i]? = some true → H'[i]? = H[i]?
  | [], _, _, _, i, h => by simp at h
  | true :: bs, x :: H, y :: H', h, 0, _ => by simp [h.1]
  | true :: bs, x :: H, y :: H', h, i + 1, hi => by simpa using keepP_get h.2 i (by simpa using hi)
  | false :: bs, x :: H, y :: H', h, 0, hi => by simp at hi
  | false :: bs, x :: H, y :: H', h, i + 1, hi => by simpa using keepP_get (bs := bs) h i (by simpa using hi)
  | true :: bs, [], _, h, _, _ => h.elim
  | true :: bs, _ :: _, [], h, _, _ => h.elim
  | false :: bs, [], _, h, _, _ => h.elim
  | false :: bs, _ :: _, [], h, _, _ => h.elim

theorem keepP.trans : ∀ {bs : List Bool} {H H' H'' : List ABlk}, keepP bs H H' → keepP bs H' H'' → keepP bs H H''
  | [], _, _, _, _, _ => trivial
  | true :: bs, x :: H, y :: H', z :: H'', h, k => ⟨h.1.trans k.1, keepP.trans h.2 k.2⟩
  | false :: bs, x :: H, y :: H', z :: H'', h, k => keepP.trans (bs := bs) h k
  | true :: bs, [], _, _, h, _ => h.elim
  | true :: bs, _ :: _, [], _, h, _ => h.elim
  | true :: bs, _ :: _, _ :: _, [], _, h => h.elim
  | false :: bs, [], _, _, h, _ => h.elim
  | false :: bs, _ :: _, [], _, h, _ => h.elim
  | false :: bs, _ :: _, _ :: _, [], _, h => h.elim

theorem keepP.self : ∀ {bs : List Bool} {H H' : List ABlk}, keepP bs H H' → keepP bs H H
  | [], _, _, _ => trivial
  | true :: bs, x :: H, y :: H', h => ⟨rfl, keepP.self h.2⟩
  | false :: bs, x :: H, y :: H', h => keepP.self (bs := bs) h
  | true :: bs, [], _, h => h.elim
  | true :: bs, _ :: _, [], h => h.elim
  | false :: bs, [], _, h => h.elim
  | false :: bs, _ :: _, [], h => h.elim

/-- What is listed has all that goes ahead of it listed. -/
def Dcl (ops : Array Oper) (listed : Array Bool) : Prop := ∀ (k : Nat) ok, ops[k]? = some ok → listed.getD k false = true → ∀ e ∈ ok.after, Region.binds .any e = true → listed.getD e.on false = true
/-- Ahead of the one the other is listed. -/
def Aft (ops : Array Oper) (i j : Nat) : Prop := ∀ listed : Array Bool, Dcl ops listed → j ∈ Region.ready .any ops listed → listed.getD i false = true
theorem Dcl.set {ops : Array Oper} {listed : Array Bool} (h : Dcl ops listed) {i : Nat} (hi : i ∈ Region.ready .any ops listed) : Dcl ops (listed.setIfInBounds i true) := by
  intro k ok hk hl e he hb
  have mono : ∀ x, listed.getD x false = true → (listed.setIfInBounds i true).getD x false = true := fun x hx => by
    by_cases hxi : i = x
    · subst hxi
      have : i < listed.size := by
        rcases Nat.lt_or_ge i listed.size with h' | h'
        · exact h'
        · simp [Array.getElem?_eq_none h'] at hx
      simp [this]
    · rw [getD_set_ne false hxi]; exact hx
  by_cases hki : i = k
  · subst hki
    obtain ⟨_, o', ho', hall⟩ := mem_ready.1 hi
    rw [hk] at ho'
    injection ho' with ho'
    subst ho'
    exact mono _ (hall e he hb)
  · rw [getD_set_ne false hki] at hl
    exact mono _ (h k ok hk hl e he hb)

/-- EVERY ORDER. -/
def AnyA (P : Program) (ops : Array Oper) (bs : List Bool) (Fr : Nat → Prop) (Fin : List AV → List ABlk → Prop) : Nat → Array Bool → List AV → List ABlk → Prop
  | 0, listed, fr, H => Region.ready .any ops listed = [] ∧ Fin fr H
  | n + 1, listed, fr, H => (Region.ready .any ops listed = [] → Fin fr H) ∧
    ∀ i ∈ Region.ready .any ops listed, ∀ o, ops[i]? = some o → StepT P ops o (maskL (o.looksAt ops) 0 fr) H fun v H' => ((Fr i ∧ keepP bs H' H') ∨ keepP bs H H') ∧ AnyA P ops bs Fr Fin n (listed.setIfInBounds i true) (putL fr o.dst v) H'

/-- An operation that comes to `v` now and later. -/
def Mv (P : Program) (ops : Array Oper) (bs : List Bool) (o : Oper) (v : AV) (fr : List AV) (H : List ABlk) : Prop :=
  ∀ H2, keepP bs H H2 → StepT P ops o (maskL (o.looksAt ops) 0 fr) H2 fun r H' => r = v ∧ H' = H2

/-- .. and wherever. -/
def MvA (P : Program) (ops : Array Oper) (o : Oper) (v : AV) (fr : List AV) : Prop :=
  ∀ H2, StepT P ops o (maskL (o.looksAt ops) 0 fr) H2 fun r H' => r = v ∧ H' = H2

theorem AnyA.first {bs : List Bool} {Fr : Nat → Prop} {Fin : List AV → List ABlk → Prop} {i : Nat} {oi : Oper} {v : AV} (hi : ops[i]? = some oi) :
    ∀ (fuel : Nat) (listed : Array Bool) (fr : List AV) (H : List ABlk), Dcl ops listed →
      (∀ j oj, ops[j]? = some oj → j ≠ i → listed.getD j true = false → (∀ e ∈ oj.after, Region.binds .any e = true → e.on ≠ i) → oi.apart ops oj = true) →
      i ∈ Region.ready .any ops listed → (MvA P ops oi v fr ∨ ((∀ j, j ≠ i → Fr j → Aft ops i j ∨ Aft ops j i) ∧ keepP bs H H ∧ Mv P ops bs oi v fr H)) → keepP bs H H →
      AnyA P ops bs Fr Fin fuel (listed.setIfInBounds i true) (putL fr oi.dst v) H → AnyA P ops bs Fr Fin (fuel + 1) listed fr H := by
  intro fuel
  have notL : ∀ {listed : Array Bool} {x : Nat}, x ∈ Region.ready .any ops listed → listed.getD x false = true → False := fun {listed x} hr this => by
    have h0 := (mem_ready.1 hr).1
    rcases Nat.lt_or_ge x listed.size with h' | h'
    · simp [h'] at h0 this; rw [h0] at this; cases this
    · simp [Array.getElem?_eq_none h'] at this
  have atH : ∀ {fr : List AV} {H : List ABlk}, (MvA P ops oi v fr ∨ ((∀ j, j ≠ i → Fr j → Aft ops i j ∨ Aft ops j i) ∧ keepP bs H H ∧ Mv P ops bs oi v fr H)) → StepT P ops oi (maskL (oi.looksAt ops) 0 fr) H fun r H' => r = v ∧ H' = H := fun {fr H} hy => by
    rcases hy with hy | ⟨_, hk, hy⟩
    · exact hy H
    · exact hy H hk
  induction fuel with
  | zero =>
    intro listed fr H _ _ hr hy hk HA
    refine ⟨fun h => (by rw [h] at hr; cases hr), fun j hj o ho => ?_⟩
    by_cases hji : j = i
    · subst hji
      rw [hi] at ho
      injection ho with ho
      subst ho
      exact (atH hy).mono fun r H' ⟨h1, h2⟩ => by subst h1 h2; exact ⟨.inr hk, HA⟩
    · have := ready_mono hj hji
      rw [HA.1] at this
      cases this
  | succ fuel ih =>
    intro listed fr H hdc hfree hr hy hk HA
    refine ⟨fun h => (by rw [h] at hr; cases hr), fun j hj oj hoj => ?_⟩
    by_cases hji : j = i
    · subst hji
      rw [hi] at hoj
      injection hoj with hoj
      subst hoj
      exact (atH hy).mono fun r H' ⟨h1, h2⟩ => by subst h1 h2; exact ⟨.inr hk, HA⟩
    · have h1 := HA.2 j (ready_mono hj hji) oj hoj
      obtain ⟨hjun, oj', hoj', hall⟩ := mem_ready.1 hj
      rw [hoj] at hoj'
      injection hoj' with hoj'
      subst hoj'
      have hnot : ∀ e ∈ oj.after, Region.binds .any e = true → e.on ≠ i := fun e he hb heq => by
        have h1 := hall e he hb
        rw [heq] at h1
        exact notL hr h1
      have hap := hfree j oj hoj hji hjun hnot
      obtain ⟨a1, a2, a3⟩ := Oper.apart_spec hap
      have hfree' : ∀ k ok, ops[k]? = some ok → k ≠ i → (listed.setIfInBounds j true).getD k true = false →
          (∀ e ∈ ok.after, Region.binds .any e = true → e.on ≠ i) → oi.apart ops ok = true := fun k ok hk hki hun hno => by
        refine hfree k ok hk hki ?_ hno
        by_cases hjk : j = k
        · subst hjk; exact hjun
        · rw [getD_set_ne true hjk] at hun; exact hun
      rw [maskL_put _ _ _ _ a1] at h1
      have key : ∀ {bs : List Bool} {A B : List ABlk}, keepP bs A B → keepP bs B B := by
        intro bs
        induction bs with
        | nil => intro A B _; trivial
        | cons x bs ih =>
          intro A B h
          cases x <;> cases A <;> cases B <;> first | exact h.elim | skip
          · exact ih (A := _) h
          · exact ⟨rfl, ih h.2⟩
      have rest : ∀ r H', keepP bs H' H' → (MvA P ops oi v (putL fr oj.dst r) ∨ ((∀ j, j ≠ i → Fr j → Aft ops i j ∨ Aft ops j i) ∧ keepP bs H' H' ∧ Mv P ops bs oi v (putL fr oj.dst r) H')) → AnyA P ops bs Fr Fin fuel ((listed.setIfInBounds i true).setIfInBounds j true) (putL (putL fr oi.dst v) oj.dst r) H' → AnyA P ops bs Fr Fin (fuel + 1) (listed.setIfInBounds j true) (putL fr oj.dst r) H' := fun r H' hk' hy' h3 => by
        refine ih (listed.setIfInBounds j true) (putL fr oj.dst r) H' (hdc.set hj) hfree' (ready_mono hr (Ne.symm hji)) hy' hk' ?_
        rw [Array.setIfInBounds_comm _ _ hji, putL_comm _ _ _ _ _ (fun x hx hy => a2 x hy (by rw [hx]))]
        exact h3
      rcases hy with hy | ⟨hF, _, hy⟩
      · refine h1.mono fun r H' ⟨h2, h3⟩ => ⟨h2, rest r H' ?_ (.inl ?_) h3⟩
        · rcases h2 with h2 | h2
          · exact h2.2
          · exact key h2
        · intro H2
          rw [maskL_put _ _ _ _ a3]
          exact hy H2
      · refine h1.mono fun r H' ⟨h2, h3⟩ => ?_
        have h2 : keepP bs H H' := by
          rcases h2 with h2 | h2
          · rcases hF j hji h2.1 with h | h
            · exact (notL hr (h listed hdc hj)).elim
            · exact (notL hj (h listed hdc hr)).elim
          · exact h2
        refine ⟨.inr h2, rest r H' (key h2) (.inr ⟨hF, key h2, fun H2 hk2 => ?_⟩) h3⟩
        rw [maskL_put _ _ _ _ a3]
        exact hy H2 (h2.trans hk2)

/-- What is known of a boolean. -/
theorem known_rels {S : RS} {T : Sh} {ts : List Nat} {fr : List AV} {vs : List Value} {t : Nat} {b : Bool} (hb : fr[t]? = some (.sb b)) (h : rels S (maskL ts 0 fr) T vs) : rels S (maskL ts 0 (fr.set t (.bool b))) T vs := by
  refine rels_of_get ?_ fun i c hi => ?_
  · have hl : ∀ (l : List AV) k, (maskL ts k l).length = l.length := by
      intro l
      induction l with
      | nil => intro k; rfl
      | cons x l ih => intro k; simp [maskL, ih]
    have := rels_length h
    rw [hl] at this
    rw [hl, List.length_set, this]
  · rw [maskL_get, List.getElem?_set] at hi
    by_cases ht : t = i
    · subst ht
      have hlt := (List.getElem?_eq_some_iff.1 hb).1
      simp only [if_true, hlt, Option.map_some, Option.some.injEq] at hi
      subst hi
      obtain ⟨v, h1, h2⟩ := rels_get h (i := t) (c := if ts.contains (0 + t) then .sb b else .junk) (by rw [maskL_get, hb]; rfl)
      refine ⟨v, h1, ?_⟩
      split
      · rename_i hc; rw [if_pos hc] at h2; simpa only [rel] using h2
      · simp [rel]
    · rw [if_neg ht, ← maskL_get] at hi
      exact rels_get h hi

theorem StepT.known {o : Oper} {ts : List Nat} {fr : List AV} {H : List ABlk} {K : AV → List ABlk → Prop} {t : Nat} {b : Bool} (hb : fr[t]? = some (.sb b)) (h : StepT P ops o (maskL ts 0 (fr.set t (.bool b))) H K) : StepT P ops o (maskL ts 0 fr) H K :=
  fun S a w hf hw => h S a w (known_rels hb hf) hw

theorem AnyA.known {bs : List Bool} {Fr : Nat → Prop} {Fin : List AV → List ABlk → Prop} (hFin : ∀ fr H t b, fr[t]? = some (.sb b) → Fin (fr.set t (.bool b)) H → Fin fr H) :
    ∀ (fuel : Nat) (listed : Array Bool) (fr : List AV) (H : List ABlk) (t : Nat) (b : Bool), fr[t]? = some (.sb b) → AnyA P ops bs Fr Fin fuel listed (fr.set t (.bool b)) H → AnyA P ops bs Fr Fin fuel listed fr H := by
  intro fuel
  induction fuel with
  | zero => intro listed fr H t b hb h; exact ⟨h.1, hFin _ _ _ _ hb h.2⟩
  | succ fuel ih =>
    intro listed fr H t b hb h
    refine ⟨fun h0 => hFin _ _ _ _ hb (h.1 h0), fun i hi o ho => ?_⟩
    refine (StepT.known hb (h.2 i hi o ho)).mono fun v H' ⟨h1, h2⟩ => ⟨h1, ?_⟩
    cases hd : o.dst with
    | none => rw [hd] at h2; exact ih _ _ _ t b hb h2
    | some d =>
      rw [hd] at h2
      simp only [putL, setL_eq] at h2 ⊢
      by_cases htd : t = d
      · subst htd
        rw [List.set_set] at h2
        exact h2
      · refine ih _ _ _ t b (by rw [List.getElem?_set_ne (fun e => htd e.symm)]; exact hb) ?_
        rw [List.set_comm _ _ (fun e => htd e.symm)]
        exact h2

/-- Every order, in steps of the machine. -/
theorem AnyA.steps {bs : List Bool} {Fr : Nat → Prop} {Fin : List AV → List ABlk → Prop} {b : Frame} {k : List Go.Item} {cs : List Frame} : ∀ (fuel t : Nat) (listed : Array Bool) (fr : List AV) (H : List ABlk) (S : RS) (a : Act) (w : World),
    AnyA P ops bs Fr Fin fuel listed fr H → rels S fr (shape H) a.tmps.toList → WRel S H w →
    ∃ a' w' S' fr' H', Steps P (lone (b.at a (.inRegion ops (Region.linearise.go .any ops fuel t listed []) :: k)) cs w) (lone (b.at a' (.inRegion ops [] :: k)) cs w') ∧ a'.defers = a.defers ∧ Ext S (shape H) S' (shape H') ∧
      rels S' fr' (shape H') a'.tmps.toList ∧ WRel S' H' w' ∧ Fin fr' H' := by
  intro fuel
  induction fuel with
  | zero => intro t listed fr H S a w h hf hw; exact ⟨a, w, S, fr, H, Steps.refl _ _, rfl, Ext.refl _ _, hf, hw, h.2⟩
  | succ fuel ih =>
    intro t listed fr H S a w h hf hw
    obtain ⟨h₀, h₁⟩ := h
    simp only [Region.linearise.go]
    change ∃ a' w' S' fr' H', Steps P (lone (b.at a (.inRegion ops (match (Region.ready .any ops listed)[t % (Region.ready .any ops listed).length]? with
      | some i => Region.linearise.go .any ops fuel (t / (Region.ready .any ops listed).length) (listed.setIfInBounds i true) [i]
      | none => [].reverse) :: k)) cs w) _ ∧ _
    cases hi : (Region.ready .any ops listed)[t % (Region.ready .any ops listed).length]? with
    | none =>
      have hnil : Region.ready .any ops listed = [] := by
        cases hr : Region.ready .any ops listed with
        | nil => rfl
        | cons x xs =>
          rw [hr] at hi
          have hlt : t % (x :: xs).length < (x :: xs).length := Nat.mod_lt _ (by simp)
          simp at hi
          simp at hlt
          omega
      simp only [List.reverse_nil]
      exact ⟨a, w, S, fr, H, Steps.refl _ _, rfl, Ext.refl _ _, hf, hw, h₀ hnil⟩
    | some i =>
      simp only []
      rw [linearise_go_acc, List.reverse_singleton, List.singleton_append]
      have hmem := List.mem_of_getElem? hi
      obtain ⟨_, o, ho, _⟩ := mem_ready.1 hmem
      have hst := h₁ i hmem o ho S a w (maskL_rels _ hf) hw
      cases hg : Region.wanted o (yielded ops a.tmps) with
      | true =>
        obtain ⟨u, w', hG, hs⟩ := opRes_steps (b := b) (k := k) (cs := cs) (rest := Region.linearise.go .any ops fuel (t / (Region.ready .any ops listed).length) (listed.setIfInBounds i true) []) ho hg (hst.1 hg)
        obtain ⟨S', v, H', e1, e2, e3, _, e4⟩ := hG
        obtain ⟨a', w'', S'', fr', H'', q1, q2, q3, q4, q5, q6⟩ := ih (t / (Region.ready .any ops listed).length) _ _ _ S' (a.put o.dst u) w' e4 (put_rels (rels_ext _ _ _ _ e1 hf) _ e3) e2
        exact ⟨a', w'', S'', fr', H'', hs.trans q1, q2.trans (put_defers a _ _), e1.trans q3, q4, q5, q6⟩
      | false =>
        obtain ⟨_, e4⟩ := hst.2 hg
        have hstep := step_op_skip (P := P) (b := b) (a := a) (k := k) (cs := cs) (w := w) (ops := ops) (i := i) (rest := Region.linearise.go .any ops fuel (t / (Region.ready .any ops listed).length) (listed.setIfInBounds i true) []) (by simp [ho, hg])
        simp only [ho, Option.bind_some] at hstep
        obtain ⟨a', w'', S'', fr', H'', q1, q2, q3, q4, q5, q6⟩ := ih (t / (Region.ready .any ops listed).length) _ _ _ S (a.put o.dst undef) w e4 (put_rels hf _ (by simp [rel, rels, undef])) hw
        exact ⟨a', w'', S'', fr', H'', .head hstep q1, q2.trans (put_defers a _ _), q3, q4, q5, q6⟩
end

section
variable {P : Program} {fn : Func} {tab : List Node} {H0 : List ABlk} {R : AV → List ABlk → Prop} {K : List AItem} {fr : List AV} {H : List ABlk}

def memN (n : Nat) : List Nat → Bool
  | [] => false
  | m :: ms => Nat.beq n m || memN n ms
/-- An operation that may read the heap. -/
def rdK : AO → Bool
  | .ld .. | .idx .. | .len .. | .slc .. | .inv .. | .mget .. => true
  | _ => false
/-- All that goes ahead of one, by way of others too. -/
def upGo (l : List AOp) : Nat → List Nat → List Nat
  | 0, need => need
  | k + 1, need => match memN k need, getL l k with
    | true, some o => upGo l k (appL o.after need)
    | _, _ => upGo l k need
def ups (l : List AOp) (j : Nat) : List Nat :=
  match getL l j with
  | some o => upGo l j o.after
  | none => []
def frGo (l : List AOp) (j : Nat) (u : List Nat) : Nat → List AOp → Bool
  | _, [] => true
  | i, o :: os => (Nat.beq i j || !(rdK o.op) || memN i u || memN j (ups l i)) && frGo l j u (i + 1) os
/-- This one is in no reader's way. -/
def frB (l : List AOp) (j : Nat) : Bool := frGo l j (ups l j) 0 l

/-- What is drawn, by its operations. -/
def DrawA (P : Program) (l : List AOp) (bs : List Bool) (Fin : List AV → List ABlk → Prop) (n : Nat) (listed : List Bool) (fr : List AV) (H : List ABlk) : Prop :=
  ∀ ops : Array Oper, l = ops.toList.map (rslvOp P ops true) → Dcl ops listed.toArray → AnyA P ops bs (fun j => frB l j = true) Fin n listed.toArray fr H

theorem Run.draw {n : Nat} {l : List AOp} (hm : P.follows .mixedOrders = true) (ht : tab[n]? = some (.region l true)) (bs : List Bool)
    (h : DrawA P l bs (Run P fn tab H0 R K) l.length (List.replicate l.length false) fr H) : Run P fn tab H0 R (.c n :: K) fr H := by
  intro S0 S w a b k cs he hd hf hw hk
  cases hk with
  | cons h1 hk =>
    rename_i it k
    cases it <;> first | exact h1.elim | skip
    obtain ⟨id, ops, rfl, hl⟩ := At.is_region h1 ht
    have hsz : l.length = ops.size := by rw [hl]; simp
    have h2 := h ops hl (fun k ok hk hl => by
      exfalso
      simp only [Array.getD_eq_getD_getElem?, List.getElem?_toArray, List.getElem?_replicate] at hl
      split at hl <;> simp at hl)
    rw [hsz] at h2
    obtain ⟨a', w', S', fr', H', q1, q2, q3, q4, q5, q6⟩ := AnyA.steps (b := b) (k := k) (cs := cs) ops.size (w.tape w.drawn (.order b.fn id)) _ _ _ S a w.drew h2 hf hw.drew
    obtain ⟨a2, w2, todo, v, r1, r2, r3, r4⟩ := q6 S0 S' w' a' b k cs (he.trans q3) (q2.trans hd) q4 q5 hk
    refine ⟨a2, w2, todo, v, .head step_region_draw ?_, r2, r3, r4⟩
    simp only [Region.schedule, hm, Bool.true_or, if_true, Region.linearise]
    rw [show (Array.replicate ops.size false) = (List.replicate ops.size false).toArray by simp]
    exact q1.trans (.head step_region_end r1)

end
end Go.Ab
