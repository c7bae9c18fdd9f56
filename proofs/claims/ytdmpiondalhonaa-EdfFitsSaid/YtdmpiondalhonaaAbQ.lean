/- The evaluator: straight code is run by computation. -/
import Derived.Test.YtdmpiondalhonaaAbP
namespace Go.Ab
open Go
set_option linter.unusedVariables false
set_option linter.unusedSimpArgs false
variable {σr : RowF}

def satC (A : Ar) (C : FuncId → List AV → List ABlk → (AV → List ABlk → Prop) → Prop) (H : List ABlk) : Out → (AV → List ABlk → Prop) → Prop
  | .ok v H', K => K v H'
  | .need p o, K => A.nd p ∧ satC A C H o K
  | .ask p k, K => ∃ r, p r ∧ satC A C H (k r) K
  | .br b k, K => satC A C H (k b) K
  | .nilq neg n H', K => A.im (A.cmp .eql (A.ofN n) 0) true (K (.bool (!neg)) H') ∧ K (.bool neg) H'
  | .call f args, K => C f (unsL args) H fun r H' => K (sym r) H'
  | .bad, _ => False

theorem satC_sat {P : Program} {H : List ABlk} : ∀ {o : Out} {K : AV → List ABlk → Prop}, satC arS (CallsA P) H o K → sat arS P H o K
  | .ok _ _, _, h => h
  | .need _ _, _, h => ⟨h.1, satC_sat h.2⟩
  | .ask _ _, _, h => h.elim fun r hr => ⟨r, hr.1, satC_sat hr.2⟩
  | .br _ _, _, h => by simp only [satC] at h; simp only [sat]; exact satC_sat h
  | .nilq _ _ _, _, h => h
  | .call _ _, _, h => h
  | .bad, _, h => h

inductive GS where
  | yes | no | sym (t : Nat) (b : Bool) (want : Bool) | bad

def gst (fr : List AV) : Option (Option Nat × Bool) → GS
  | none => .yes
  | some (none, _) => .no
  | some (some t, want) => match ev fr (.t t), want with
    | .bool true, true => .yes
    | .bool false, false => .yes
    | .bool true, false => .no
    | .bool false, true => .no
    | .sb b, want => .sym t b want
    | .tup [], _ => .no
    | _, _ => .bad

section
variable (A : Ar) (σr : RowF) (C : FuncId → List AV → List ABlk → (AV → List ABlk → Prop) → Prop) (Rn : List AItem → List AV → List ABlk → Prop) (R : AV → List ABlk → Prop) (tab : List Node) (rs : List RV)

/-- A choice by a boolean of which nothing is known. -/
def pickOf (fr : List AV) : AO → Option (Nat × Bool × AV × AV)
  | .pick (.t t) a b => match ev fr (.t t) with
    | .sb s => some (t, s, ev (setL fr t (.bool true)) a, ev (setL fr t (.bool false)) b)
    | _ => none
  | _ => none

def yesG (m : Nat) (K : List AItem) (k : Nat) (o : AOp) (cont : List AV → List ABlk → Prop) (fr : List AV) (H : List ABlk) : Prop :=
  match pickOf fr o.op with
  | some (t, b, va, vb) => A.im b true (cont (putL (setL fr t (.bool true)) o.dst va) H) ∧ A.im b false (cont (putL (setL fr t (.bool false)) o.dst vb) H)
  | none => match exec1 A σr fr H o.op with
    | .ok v H' => cont (putL fr o.dst v) H'
    | .need p (.ok v H') => A.nd p ∧ cont (putL fr o.dst v) H'
    | out => satC A C H out fun v H' => Rn (.ops m (k + 1) :: K) (putL fr o.dst v) H'

def opsG (m : Nat) (K : List AItem) (fin : List AV → List ABlk → Prop) : List AOp → Nat → List AV → List ABlk → Prop
  | [], _, fr, H => fin fr H
  | o :: os, k, fr, H =>
    match gst fr o.guard with
    | .yes => yesG A σr C Rn m K k o (fun fr H => opsG m K fin os (k + 1) fr H) fr H
    | .no => opsG m K fin os (k + 1) (putL fr o.dst (.tup [])) H
    | .sym t b true => A.im b true (yesG A σr C Rn m K k o (fun fr H => opsG m K fin os (k + 1) fr H) (setL fr t (.bool true)) H) ∧ A.im b false (opsG m K fin os (k + 1) (putL (setL fr t (.bool false)) o.dst (.tup [])) H)
    | .sym t b false => A.im b false (yesG A σr C Rn m K k o (fun fr H => opsG m K fin os (k + 1) fr H) (setL fr t (.bool false)) H) ∧ A.im b true (opsG m K fin os (k + 1) (putL (setL fr t (.bool true)) o.dst (.tup [])) H)
    | .bad => False

def stopAt (m : Nat) : List Nat → Bool
  | [] => false
  | x :: xs => Nat.beq m x || stopAt m xs

/-- Run, but for the places of `st`. -/
def GT (st : List Nat) : Nat → List AItem → List AV → List ABlk → Prop
  | 0, K, fr, H => Rn K fr H
  | _ + 1, [], fr, H => satC A C H (resA A σr fr H rs []) R
  | n + 1, .blk _ :: K, fr, H => GT st n K fr H
  | _ + 1, .lp m :: K, fr, H => Rn (.lp m :: K) fr H
  | n + 1, .ops m k :: K, fr, H => match getL tab m with
    | some (.region l false) => opsG A σr C Rn m K (GT st n K) (dropL k l) k fr H
    | _ => False
  | n + 1, .c m :: K, fr, H => if stopAt m st = true then Rn (.c m :: K) fr H else match getL tab m with
    | some (.seq d) => GT st n (.c (m + 1) :: .c (m + d) :: K) fr H
    | some (.block id) => GT st n (.c (m + 1) :: .blk id :: K) fr H
    | some .loop => Rn (.c m :: K) fr H
    | some (.cond x d) => match ev fr x with
      | .bool true => GT st n (.c (m + 1) :: K) fr H
      | .bool false => GT st n (.c (m + d) :: K) fr H
      | .sb b => match x with
        | .t t => A.im b true (GT st n (.c (m + 1) :: K) (setL fr t (.bool true)) H) ∧ A.im b false (GT st n (.c (m + d) :: K) (setL fr t (.bool false)) H)
        | .c _ => False
      | _ => False
    | some (.region l false) => opsG A σr C Rn m K (GT st n K) l 0 fr H
    | some (.region _ true) => Rn (.c m :: K) fr H
    | some (.exit id) => match exitA id K with
      | some K' => GT st n K' fr H
      | none => False
    | some .skip => GT st n K fr H
    | some .ret => satC A C H (resA A σr fr H rs []) R
    | _ => False

def G (n : Nat) (K : List AItem) (fr : List AV) (H : List ABlk) : Prop := GT A σr C Rn R tab rs [] n K fr H

end

section
variable {P : Program} {fn : Func} {tab : List Node} {H0 : List ABlk} {R : AV → List ABlk → Prop} {K : List AItem} {fr : List AV} {H : List ABlk} {rs : List RV}

theorem set_known {S : RS} {T : Sh} {vs : List Value} {t : Nat} {b : Bool} (hf : rels S fr T vs) (h : ev fr (.t t) = .sb b) : rels S (setL fr t (.bool b)) T vs := by
  simp only [ev, getL_eq] at h
  cases hx : fr[t]? with
  | none => rw [hx] at h; simp at h
  | some c =>
    rw [hx] at h
    simp at h
    subst h
    obtain ⟨v, h1, h2⟩ := rels_get hf hx
    rw [setL_eq]
    have := rels_set hf t (c := .bool b) (v := v) (by simpa only [rel] using h2)
    have e : vs.set t v = vs := by
      apply List.ext_getElem?
      intro i
      rw [List.getElem?_set]
      split
      · rename_i hi
        subst hi
        rw [if_pos (List.getElem?_eq_some_iff.1 h1).1, h1]
      · rfl
    rwa [e] at this

theorem Run.known {t : Nat} {b : Bool} (hb : ev fr (.t t) = .sb b) (h : Run P fn tab H0 R K (setL fr t (.bool b)) H) : Run P fn tab H0 R K fr H :=
  fun S0 S w a bb k cs he hd hf hw hk => h S0 S w a bb k cs he hd (set_known hf hb) hw hk

theorem gst_yes {g : Option (Option Nat × Bool)} (h : gst fr g = .yes) : gOk fr g true := by
  cases g with
  | none => rfl
  | some g =>
    obtain ⟨t, want⟩ := g
    cases t with
    | none => cases h
    | some t =>
      simp only [gst] at h
      simp only [gOk, if_true]
      cases he : ev fr (.t t) <;> rw [he] at h <;> try (cases want <;> cases h)
      · rename_i b
        cases b <;> cases want <;> simp_all
      · rename_i vs
        cases vs <;> cases want <;> simp_all

theorem gst_no {g : Option (Option Nat × Bool)} (h : gst fr g = .no) : gOk fr g false := by
  cases g with
  | none => cases h
  | some g =>
    obtain ⟨t, want⟩ := g
    cases t with
    | none => rfl
    | some t =>
      simp only [gst] at h
      simp only [gOk, Bool.false_eq_true, if_false]
      cases he : ev fr (.t t) <;> rw [he] at h <;> try (cases want <;> cases h)
      · rename_i b
        cases b <;> cases want <;> simp_all
      · rename_i vs
        cases vs <;> cases want <;> simp_all

theorem gst_sym {g : Option (Option Nat × Bool)} {t : Nat} {b want : Bool} (h : gst fr g = .sym t b want) : ev fr (.t t) = .sb b ∧ g = some (some t, want) := by
  cases g with
  | none => cases h
  | some g =>
    obtain ⟨t', want⟩ := g
    cases t' with
    | none => cases h
    | some t' =>
      simp only [gst] at h
      cases he : ev fr (.t t') <;> rw [he] at h <;> try (cases want <;> cases h)
      all_goals first
        | exact ⟨he, rfl⟩
        | (rename_i b'; cases b' <;> cases want <;> cases h; done)
        | (rename_i vs; cases vs <;> cases want <;> simp_all; done)

theorem ev_set {t : Nat} {b c : Bool} (h : ev fr (.t t) = .sb b) : ev (setL fr t (.bool c)) (.t t) = .bool c := by
  simp only [ev, getL_eq, setL_eq] at h ⊢
  cases hx : fr[t]? with
  | none => rw [hx] at h; simp at h
  | some x =>
    have := (List.getElem?_eq_some_iff.1 hx).1
    simp [this]

theorem gOk_set {t : Nat} {b c want : Bool} (h : ev fr (.t t) = .sb b) : gOk (setL fr t (.bool c)) (some (some t, want)) (c == want) := by
  simp only [gOk]
  refine .inl ?_
  rw [ev_set h]
  cases c <;> cases want <;> rfl

theorem pickOf_spec {ao : AO} {t : Nat} {s : Bool} {va vb : AV} (h : pickOf fr ao = some (t, s, va, vb)) : ∃ a b, ao = .pick (.t t) a b ∧ ev fr (.t t) = .sb s ∧ va = ev (setL fr t (.bool true)) a ∧ vb = ev (setL fr t (.bool false)) b := by
  unfold pickOf at h
  split at h
  · split at h
    · rename_i he
      injection h with h
      injection h with h1 h
      injection h with h2 h
      injection h with h3 h4
      subst h1 h2 h3 h4
      exact ⟨_, _, rfl, he, rfl, rfl⟩
    · cases h
  · cases h

theorem yesG_sound {m k : Nat} {l : List AOp} {d : Bool} {o : AOp} (ht : tab[m]? = some (.region l d)) (ho : l[k]? = some o) {cont : List AV → List ABlk → Prop} (hc : ∀ fr H, cont fr H → Run P fn tab H0 R (.ops m (k + 1) :: K) fr H) (hg : gOk fr o.guard true) (hg2 : ∀ t b c, ev fr (.t t) = .sb b → gOk (setL fr t (.bool c)) o.guard true)
    (h : yesG arS σr (CallsA P) (Run P fn tab H0 R) m K k o cont fr H) : Run P fn tab H0 R (.ops m k :: K) fr H := by
  unfold yesG at h
  split at h
  · rename_i t b va vb hp
    obtain ⟨x, y, hao, he, rfl, rfl⟩ := pickOf_spec hp
    cases b
    · refine Run.known he (Run.op (σr := σr) ht ho (hg2 _ _ _ he) ?_)
      rw [hao]
      simp only [exec1, ev_set he]
      exact hc _ _ (h.2 rfl)
    · refine Run.known he (Run.op (σr := σr) ht ho (hg2 _ _ _ he) ?_)
      rw [hao]
      simp only [exec1, ev_set he]
      exact hc _ _ (h.1 rfl)
  · refine Run.op (σr := σr) ht ho hg ?_
    split at h
    · rename_i v H' hx
      rw [hx]
      exact hc _ _ h
    · rename_i p v H' hx
      rw [hx]
      exact ⟨h.1, hc _ _ h.2⟩
    · exact satC_sat h

theorem ev_set_ne {t t' : Nat} {x : AV} (h : t' ≠ t) : ev (setL fr t x) (.t t') = ev fr (.t t') := by
  simp only [ev, getL_eq, setL_eq]
  rw [List.getElem?_set_ne (fun e => h e.symm)]

theorem gOk_keep {g : Option (Option Nat × Bool)} {want : Bool} (hg : gOk fr g want) : ∀ t b c, ev fr (.t t) = .sb b → (g = some (some t, true) ∨ g = some (some t, false) → gOk (setL fr t (.bool c)) g want) → gOk (setL fr t (.bool c)) g want := by
  intro t b c he hs
  cases g with
  | none => exact hg
  | some g =>
    obtain ⟨t', w⟩ := g
    cases t' with
    | none => exact hg
    | some t' =>
      by_cases ht : t' = t
      · subst ht
        cases w
        · exact hs (.inr rfl)
        · exact hs (.inl rfl)
      · simp only [gOk] at hg ⊢
        rw [ev_set_ne ht]
        exact hg

theorem opsG_sound {m : Nat} {l : List AOp} {d : Bool} (ht : tab[m]? = some (.region l d)) {fin : List AV → List ABlk → Prop} (hfin : ∀ fr H, fin fr H → Run P fn tab H0 R K fr H) : ∀ (os : List AOp) (k : Nat) (fr : List AV) (H : List ABlk), os = l.drop k →
    opsG arS σr (CallsA P) (Run P fn tab H0 R) m K fin os k fr H → Run P fn tab H0 R (.ops m k :: K) fr H
  | [], k, fr, H, he, h => Run.opsEnd ht (by have := congrArg List.length he; simp at this; omega) (hfin fr H h)
  | o :: os, k, fr, H, he, h => by
    have ho : l[k]? = some o := by
      have : (l.drop k)[0]? = some o := by rw [← he]; rfl
      simpa using this
    have hos : os = l.drop (k + 1) := by
      have : (l.drop k).drop 1 = os := by rw [← he]; rfl
      rw [← this, List.drop_drop]
    have hc : ∀ fr H, opsG arS σr (CallsA P) (Run P fn tab H0 R) m K fin os (k + 1) fr H → Run P fn tab H0 R (.ops m (k + 1) :: K) fr H := fun fr H h => opsG_sound ht hfin os (k + 1) fr H hos h
    unfold opsG at h
    cases hg : gst fr o.guard with
    | yes =>
      rw [hg] at h
      have hgy := gst_yes hg
      refine yesG_sound ht ho hc hgy (fun t b c he => gOk_keep hgy t b c he fun hs => ?_) h
      exfalso
      rcases hs with hs | hs <;> (rw [hs] at hg; simp only [gst, he] at hg; cases hg)
    | no =>
      rw [hg] at h
      exact Run.opSkip ht ho (gst_no hg) (hc _ _ h)
    | sym t b want =>
      rw [hg] at h
      obtain ⟨hsy, hgd⟩ := gst_sym hg
      have hk : ∀ c, gOk (setL fr t (.bool c)) o.guard (c == want) := fun c => by rw [hgd]; exact gOk_set hsy
      have hk2 : ∀ c, gOk (setL fr t (.bool c)) o.guard true → ∀ t' b' c', ev (setL fr t (.bool c)) (.t t') = .sb b' → gOk (setL (setL fr t (.bool c)) t' (.bool c')) o.guard true := fun c hc t' b' c' he => by
        refine gOk_keep hc t' b' c' he fun hs => ?_
        exfalso
        have : t' = t := by rw [hgd] at hs; rcases hs with hs | hs <;> (injection hs with hs; injection hs with hs _; injection hs with hs; exact hs.symm)
        subst this
        rw [ev_set hsy] at he
        cases he
      cases want <;> cases b
      · exact Run.known hsy (yesG_sound ht ho hc (hk false) (hk2 false (hk false)) (h.1 rfl))
      · exact Run.known hsy (Run.opSkip ht ho (hk true) (hc _ _ (h.2 rfl)))
      · exact Run.known hsy (Run.opSkip ht ho (hk false) (hc _ _ (h.2 rfl)))
      · exact Run.known hsy (yesG_sound ht ho hc (hk true) (hk2 true (hk true)) (h.1 rfl))
    | bad => rw [hg] at h; exact h.elim

theorem GT_sound (st : List Nat) (hrs : fn.results.toList.mapM (rvOf P) = some rs) : ∀ (n : Nat) (K : List AItem) (fr : List AV) (H : List ABlk), GT arS σr (CallsA P) (Run P fn tab H0 R) R tab rs st n K fr H → Run P fn tab H0 R K fr H
  | 0, K, fr, H, h => h
  | n + 1, [], fr, H, h => Run.fin hrs (satC_sat h)
  | n + 1, .blk id :: K, fr, H, h => Run.blk (GT_sound st hrs n K fr H h)
  | n + 1, .lp m :: K, fr, H, h => h
  | n + 1, .ops m k :: K, fr, H, h => by
    simp only [GT, getL_eq] at h
    split at h
    · rename_i l ht
      exact opsG_sound ht (fun fr H => GT_sound st hrs n K fr H) _ k fr H (dropL_eq k l) h
    · exact h.elim
  | n + 1, .c m :: K, fr, H, h => by
    unfold GT at h
    split at h
    · exact h
    simp only [getL_eq] at h
    split at h
    · rename_i d ht
      exact Run.seq ht (GT_sound st hrs n _ fr H h)
    · rename_i id ht
      exact Run.block ht (GT_sound st hrs n _ fr H h)
    · exact h
    · rename_i x d ht
      split at h
      · rename_i hx
        exact Run.cond (t := true) ht (.inl hx) (GT_sound st hrs n _ fr H h)
      · rename_i hx
        exact Run.cond (t := false) ht (.inl hx) (GT_sound st hrs n _ fr H h)
      · rename_i b hx
        split at h
        · rename_i t
          cases b
          · exact Run.cond (t := false) ht (.inr hx) (Run.known hx (GT_sound st hrs n _ _ H (h.2 rfl)))
          · exact Run.cond (t := true) ht (.inr hx) (Run.known hx (GT_sound st hrs n _ _ H (h.1 rfl)))
        · exact h.elim
      · exact h.elim
    · rename_i l ht
      exact Run.region ht (opsG_sound ht (fun fr H => GT_sound st hrs n K fr H) l 0 fr H rfl h)
    · exact h
    · rename_i id ht
      split at h
      · rename_i K' he
        exact Run.exit ht he (GT_sound st hrs n _ fr H h)
      · exact h.elim
    · rename_i ht
      exact Run.skip ht (GT_sound st hrs n _ fr H h)
    · rename_i ht
      exact Run.ret ht hrs (satC_sat h)
    · exact h.elim

theorem G_sound (hrs : fn.results.toList.mapM (rvOf P) = some rs) (n : Nat) (K : List AItem) (fr : List AV) (H : List ABlk) (h : G arS σr (CallsA P) (Run P fn tab H0 R) R tab rs n K fr H) : Run P fn tab H0 R K fr H :=
  GT_sound [] hrs n K fr H h

theorem Run.goS (σr : RowF) (st : List Nat) (n : Nat) (hrs : fn.results.toList.mapM (rvOf P) = some rs)
    (h : ∀ A C Rn RR, A = arS → C = CallsA P → Rn = Run P fn tab H0 R → RR = R → GT A σr C Rn RR tab rs st n K fr H) : Run P fn tab H0 R K fr H :=
  GT_sound st hrs n K fr H (h _ _ _ _ rfl rfl rfl rfl)

/-- RUN, BY COMPUTATION: the arithmetic, the callees and what is to be shown are variables while it runs. -/
theorem Run.go (σr : RowF) (n : Nat) (hrs : fn.results.toList.mapM (rvOf P) = some rs)
    (h : ∀ A C Rn RR, A = arS → C = CallsA P → Rn = Run P fn tab H0 R → RR = R → G A σr C Rn RR tab rs n K fr H) : Run P fn tab H0 R K fr H :=
  G_sound hrs n K fr H (h _ _ _ _ rfl rfl rfl rfl)

theorem CallsA.mono {f : FuncId} {args : List AV} {R' : AV → List ABlk → Prop} (h : CallsA P f args H R) (hm : ∀ r H', R r H' → R' r H') : CallsA P f args H R' :=
  ⟨h.1, fun S w vs hw hr => (h.2 S w vs hw hr).mono fun e w' ⟨u, he, S', v, H', h1, h2, h3, h4⟩ => ⟨u, he, S', v, H', h1, h2, h3, hm _ _ h4⟩⟩

end
end Go.Ab
