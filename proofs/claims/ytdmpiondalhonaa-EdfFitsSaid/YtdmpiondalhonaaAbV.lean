/- Drawn regions by computation: the evaluator. -/
import Derived.Test.YtdmpiondalhonaaAbU
namespace Go.Ab
open Go
set_option linter.unusedVariables false
set_option linter.unusedSimpArgs false
variable {σr : RowF}

def lst (listed : List Bool) (i : Nat) (d : Bool) : Bool := (getL listed i).getD d
def allIn (listed : List Bool) : List Nat → Bool
  | [] => true
  | j :: js => lst listed j false && allIn listed js
def rdyG (listed : List Bool) : Nat → List AOp → List Nat
  | _, [] => []
  | k, o :: os => if (!(lst listed k true) && allIn listed o.after) = true then k :: rdyG listed (k + 1) os else rdyG listed (k + 1) os
def apartG (x y : AOp) : Bool :=
  (match x.dst with
   | some d => !(memN d y.looks) && (match y.dst with | some e => !(Nat.beq e d) | none => true)
   | none => true) &&
  (match y.dst with
   | some d => !(memN d x.looks)
   | none => true)
def freeG (oi : AOp) (i : Nat) (listed : List Bool) : Nat → List AOp → Bool
  | _, [] => true
  | j, oj :: os => (Nat.beq j i || lst listed j true || memN i oj.after || apartG oi oj) && freeG oi i listed (j + 1) os

theorem memN_eq : ∀ (n : Nat) (l : List Nat), memN n l = l.contains n
  | n, [] => rfl
  | n, m :: l => by
    rw [List.contains_cons, memN, memN_eq n l]
    cases h : Nat.beq n m
    · have : n ≠ m := fun e => by subst e; simp at h
      simp [this]
    · have := Nat.eq_of_beq_eq_true h
      simp [this]

theorem lst_eq (listed : List Bool) (i : Nat) (d : Bool) : lst listed i d = listed.toArray.getD i d := by
  simp [lst, getL_eq, Array.getD_eq_getD_getElem?]

theorem allIn_eq (listed : List Bool) : ∀ l : List Nat, allIn listed l = l.all fun j => listed.toArray.getD j false
  | [] => rfl
  | j :: js => by rw [allIn, allIn_eq listed js, lst_eq]; rfl

theorem rdyG_mem {listed : List Bool} : ∀ {l : List AOp} {k i : Nat}, i ∈ rdyG listed k l ↔ k ≤ i ∧ ∃ o, l[i - k]? = some o ∧ lst listed i true = false ∧ allIn listed o.after = true
  | [], k, i => by simp [rdyG]
  | o :: os, k, i => by
    have ih := rdyG_mem (listed := listed) (l := os) (k := k + 1) (i := i)
    have step : ∀ {Q : Prop}, (k + 1 ≤ i ∧ ∃ o', os[i - (k + 1)]? = some o' ∧ lst listed i true = false ∧ allIn listed o'.after = true) → k ≤ i ∧ ∃ o', (o :: os)[i - k]? = some o' ∧ lst listed i true = false ∧ allIn listed o'.after = true := by
      rintro _ ⟨h1, o', h2, h3⟩
      refine ⟨by omega, o', ?_, h3⟩
      rw [show i - k = (i - (k + 1)) + 1 by omega, List.getElem?_cons_succ]
      exact h2
    simp only [rdyG]
    split
    · rename_i hc
      simp only [Bool.and_eq_true, Bool.not_eq_true'] at hc
      rw [List.mem_cons, ih]
      constructor
      · rintro (rfl | h)
        · exact ⟨Nat.le_refl _, o, by simp, hc.1, hc.2⟩
        · exact step (Q := True) h
      · rintro ⟨h1, o', h2, h3, h4⟩
        rcases Nat.eq_or_lt_of_le h1 with he | hlt
        · exact .inl he.symm
        · refine .inr ⟨hlt, o', ?_, h3, h4⟩
          rw [show i - k = (i - (k + 1)) + 1 by omega, List.getElem?_cons_succ] at h2
          exact h2
    · rename_i hc
      rw [ih]
      constructor
      · exact step (Q := True)
      · rintro ⟨h1, o', h2, h3, h4⟩
        rcases Nat.eq_or_lt_of_le h1 with he | hlt
        · subst he
          simp at h2
          subst h2
          exact absurd (by simp [h3, h4]) hc
        · refine ⟨hlt, o', ?_, h3, h4⟩
          rw [show i - k = (i - (k + 1)) + 1 by omega, List.getElem?_cons_succ] at h2
          exact h2

section
variable {P : Program} {ops : Array Oper} {l : List AOp} {listed : List Bool}

theorem op_of {i : Nat} {o : AOp} (hl : l = ops.toList.map (rslvOp P ops true)) (h : l[i]? = some o) : ∃ o', ops[i]? = some o' ∧ rslvOp P ops true o' = o := by
  rw [hl, List.getElem?_map] at h
  obtain ⟨o', h1, h2⟩ := Option.map_eq_some_iff.1 h
  exact ⟨o', by rw [← Array.getElem?_toList]; exact h1, h2⟩

theorem of_op {i : Nat} {o' : Oper} (hl : l = ops.toList.map (rslvOp P ops true)) (h : ops[i]? = some o') : l[i]? = some (rslvOp P ops true o') := by
  rw [hl, List.getElem?_map, Array.getElem?_toList, h]
  rfl

theorem after_eq (o' : Oper) : allIn listed (rslvOp P ops true o').after = true ↔ ∀ e ∈ o'.after, Region.binds .any e = true → listed.toArray.getD e.on false = true := by
  rw [allIn_eq]
  simp only [rslvOp, if_true, List.all_eq_true, List.mem_map, List.mem_filter, Array.mem_toList_iff]
  constructor
  · intro h e he hb
    exact h e.on ⟨e, ⟨he, hb⟩, rfl⟩
  · rintro h x ⟨e, ⟨he, hb⟩, rfl⟩
    exact h e he hb

theorem ready_iff (hl : l = ops.toList.map (rslvOp P ops true)) {i : Nat} : i ∈ Region.ready .any ops listed.toArray ↔ i ∈ rdyG listed 0 l := by
  rw [mem_ready, rdyG_mem]
  constructor
  · rintro ⟨h1, o', h2, h3⟩
    exact ⟨Nat.zero_le _, _, of_op hl h2, by rw [lst_eq]; exact h1, (after_eq o').2 h3⟩
  · rintro ⟨_, o, h2, h3, h4⟩
    obtain ⟨o', g1, rfl⟩ := op_of hl h2
    exact ⟨by rw [← lst_eq]; exact h3, o', g1, (after_eq o').1 h4⟩

theorem ready_nil (hl : l = ops.toList.map (rslvOp P ops true)) : Region.ready .any ops listed.toArray = [] ↔ rdyG listed 0 l = [] := by
  constructor
  · intro h
    cases hr : rdyG listed 0 l with
    | nil => rfl
    | cons x xs =>
      have : x ∈ Region.ready .any ops listed.toArray := (ready_iff hl).2 (by rw [hr]; simp)
      rw [h] at this
      cases this
  · intro h
    cases hr : Region.ready .any ops listed.toArray with
    | nil => rfl
    | cons x xs =>
      have : x ∈ rdyG listed 0 l := (ready_iff hl).1 (by rw [hr]; simp)
      rw [h] at this
      cases this

theorem apart_of {x y : Oper} (h : apartG (rslvOp P ops true x) (rslvOp P ops true y) = true) : x.apart ops y = true := by
  simp only [apartG, rslvOp, if_true, Bool.and_eq_true, memN_eq] at h
  simp only [Oper.apart, Bool.and_eq_true]
  obtain ⟨h1, h2⟩ := h
  refine ⟨?_, h2⟩
  cases hx : x.dst with
  | none => rfl
  | some d =>
    rw [hx] at h1
    simp only [Bool.and_eq_true] at h1 ⊢
    refine ⟨h1.1, ?_⟩
    cases hy : y.dst with
    | none => rfl
    | some e =>
      rw [hy] at h1
      have h3 := h1.2
      simp only [Bool.not_eq_true'] at h3
      have : e ≠ d := fun he => by subst he; simp at h3
      simp [this]

theorem freeG_get {oi : AOp} {i : Nat} : ∀ {l : List AOp} {k : Nat}, freeG oi i listed k l = true → ∀ j oj, l[j]? = some oj → k + j = i ∨ lst listed (k + j) true = true ∨ memN i oj.after = true ∨ apartG oi oj = true
  | [], k, _, j, oj, h => by simp at h
  | o :: os, k, hf, j, oj, h => by
    simp only [freeG, Bool.and_eq_true, Bool.or_eq_true] at hf
    cases j with
    | zero =>
      simp at h
      subst h
      rcases hf.1 with ((h1 | h1) | h1) | h1
      · exact .inl (Nat.eq_of_beq_eq_true h1)
      · exact .inr (.inl h1)
      · exact .inr (.inr (.inl h1))
      · exact .inr (.inr (.inr h1))
    | succ j =>
      have := freeG_get hf.2 j oj (by simpa using h)
      rwa [show k + 1 + j = k + (j + 1) by omega] at this

theorem free_of (hl : l = ops.toList.map (rslvOp P ops true)) {i : Nat} {oi : Oper} (hf : freeG (rslvOp P ops true oi) i listed 0 l = true) : ∀ j oj, ops[j]? = some oj → j ≠ i → listed.toArray.getD j true = false →
    (∀ e ∈ oj.after, Region.binds .any e = true → e.on ≠ i) → oi.apart ops oj = true := by
  intro j oj hj hne hun hno
  rcases freeG_get hf j _ (of_op hl hj) with h | h | h | h
  · omega
  · rw [lst_eq, Nat.zero_add, hun] at h; cases h
  · rw [memN_eq] at h
    simp only [rslvOp, if_true, List.contains_eq_mem, decide_eq_true_eq, List.mem_map, List.mem_filter, Array.mem_toList_iff] at h
    obtain ⟨e, ⟨he, hb⟩, heq⟩ := h
    exact absurd heq (hno e he hb)
  · exact apart_of h

theorem stepT_of {fr : List AV} {H : List ABlk} {o' : Oper} {K : AV → List ABlk → Prop}
    (h : (gOk fr (rslvOp P ops true o').guard true ∧ sat arS P H (exec1 arS σr fr H (rslvOp P ops true o').op) K) ∨ (gOk fr (rslvOp P ops true o').guard false ∧ K (.tup []) H)) : StepT P ops o' fr H K := by
  intro S a w hf hw
  rcases h with ⟨hg, hs⟩ | ⟨hg, hk⟩
  · have := gOk_wanted hf hg
    rw [this]
    exact ⟨fun _ => op_sound hf hw hs, fun h => Bool.noConfusion h⟩
  · have := gOk_wanted hf hg
    rw [this]
    exact ⟨fun h => Bool.noConfusion h, fun _ => hk⟩

variable {bs : List Bool} {Fin : List AV → List ABlk → Prop} {n : Nat} {fr : List AV} {H : List ABlk}

theorem upGo_sound (hl : l = ops.toList.map (rslvOp P ops true)) {li : Array Bool} (hd : Dcl ops li) : ∀ {k : Nat} {need : List Nat}, (∀ x ∈ need, li.getD x false = true) → ∀ x ∈ upGo l k need, li.getD x false = true
  | 0, _, hn, x, hx => hn x hx
  | k + 1, need, hn, x, hx => by
    simp only [upGo, getL_eq] at hx
    split at hx
    · rename_i o hm ho
      rw [memN_eq, List.contains_iff_mem] at hm
      have hk := hn k hm
      refine upGo_sound hl hd (fun y hy => ?_) x hx
      rw [appL_eq, List.mem_append] at hy
      rcases hy with hy | hy
      · obtain ⟨o', ho', rfl⟩ := op_of hl ho
        simp only [rslvOp, if_true, List.mem_map, List.mem_filter, Array.mem_toList_iff] at hy
        obtain ⟨e, ⟨he, hb⟩, rfl⟩ := hy
        exact hd k o' ho' hk e he hb
      · exact hn y hy
    · exact upGo_sound hl hd hn x hx
theorem ups_sound (hl : l = ops.toList.map (rslvOp P ops true)) {i j : Nat} (h : memN i (ups l j) = true) : Aft ops i j := by
  intro li hd hr
  rw [memN_eq, List.contains_iff_mem] at h
  unfold ups at h
  rw [getL_eq] at h
  split at h
  · rename_i o ho
    obtain ⟨o', ho', rfl⟩ := op_of hl ho
    refine upGo_sound hl hd (fun x hx => ?_) i h
    simp only [rslvOp, if_true, List.mem_map, List.mem_filter, Array.mem_toList_iff] at hx
    obtain ⟨e, ⟨he, hb⟩, rfl⟩ := hx
    obtain ⟨_, o2, ho2, hall⟩ := mem_ready.1 hr
    rw [ho'] at ho2
    injection ho2 with ho2
    subst ho2
    exact hall e he hb
  · cases h
theorem frGo_sound (hl : l = ops.toList.map (rslvOp P ops true)) {j : Nat} {u : List Nat} (hu : u = ups l j) : ∀ {k : Nat} {os : List AOp}, frGo l j u k os = true → ∀ (i : Nat) (o : AOp), os[i]? = some o → rdK o.op = true → k + i ≠ j → Aft ops (k + i) j ∨ Aft ops j (k + i)
  | _, [], _, i, o, ho, _, _ => by simp at ho
  | k, o1 :: os, h, i, o, ho, hr, hne => by
    simp only [frGo, Bool.and_eq_true, Bool.or_eq_true] at h
    cases i with
    | zero =>
      simp at ho
      subst ho
      rcases h.1 with ((h1 | h1) | h1) | h1
      · exact absurd (Nat.eq_of_beq_eq_true h1) hne
      · rw [hr] at h1; cases h1
      · rw [hu] at h1; exact .inl (ups_sound hl h1)
      · exact .inr (ups_sound hl h1)
    | succ i =>
      have := frGo_sound hl hu h.2 i o (by simpa using ho) hr (by omega)
      rwa [show k + 1 + i = k + (i + 1) by omega] at this
theorem frB_sound (hl : l = ops.toList.map (rslvOp P ops true)) {i j : Nat} {o : AOp} (hi : l[i]? = some o) (hr : rdK o.op = true) (hne : j ≠ i) (h : frB l j = true) : Aft ops i j ∨ Aft ops j i := by
  have := frGo_sound hl rfl h i o hi hr (by omega)
  rwa [Nat.zero_add] at this

theorem okO_any {u : Option AV} {H H2 : List ABlk} {v : AV} (h : mvS arS (CallsA P) (okO u H) v) : mvS arS (CallsA P) (okO u H2) v := by
  cases u with
  | none => exact h
  | some u => exact h
theorem nil2_any {x y : AV} {H H2 : List ABlk} {b : Bool} {v : AV} (h : mvS arS (CallsA P) (nil2 x y H fun c => .ok (.bool (b == c)) H) v) : mvS arS (CallsA P) (nil2 x y H2 fun c => .ok (.bool (b == c)) H2) v := by
  unfold nil2 nilQ at h ⊢
  cases x <;> cases y <;> exact h
theorem binA_any {op : BinOp} {x y : AV} {H H2 : List ABlk} {v : AV} (h : mvS arS (CallsA P) (binA arS op x y H) v) : mvS arS (CallsA P) (binA arS op x y H2) v := by
  unfold binA at h ⊢
  cases x <;> cases y <;> first | exact False.elim h | skip
  · cases op <;> simp only at h ⊢ <;> first
      | exact h
      | (split at h
         · rename_i hk; rw [if_pos hk]; exact h
         · exact h.elim)
  · cases op <;> exact h
theorem binQ_any {op : BinOp} {tk : TK} {x y : AV} {H H2 : List ABlk} {v : AV} (h : mvS arS (CallsA P) (binQ arS op tk x y H) v) : mvS arS (CallsA P) (binQ arS op tk x y H2) v := by
  unfold binQ at h ⊢
  split at h
  · exact binA_any h
  · exact binA_any h
  · split at h
    · cases he : eqF arS _ _ _ with
      | none => rw [he] at h; exact h.elim
      | some b => rw [he] at h; exact h
    · cases he : eqF arS _ _ _ with
      | none => rw [he] at h; exact h.elim
      | some b => rw [he] at h; exact h
    · exact h.elim
  · rename_i h1 h2 h3
    split at h
    · split at h
      · first
          | exact h
          | (rename_i a b ea eb; simp only [ea, eb]; exact h)
      · exact h.elim
    · split at h
      · first
          | exact h
          | (rename_i a b ea eb; simp only [ea, eb]; exact h)
      · exact h.elim
    · have e : (fun b => Out.ok (AV.bool b) H) = fun c => Out.ok (.bool (true == c)) H := by funext c; cases c <;> rfl
      have e2 : (fun b => Out.ok (AV.bool b) H2) = fun c => Out.ok (.bool (true == c)) H2 := by funext c; cases c <;> rfl
      rw [e] at h
      try simp only
      rw [e2]
      exact nil2_any h
    · have e : (fun b => Out.ok (AV.bool !b) H) = fun c => Out.ok (.bool (false == c)) H := by funext c; cases c <;> rfl
      have e2 : (fun b => Out.ok (AV.bool !b) H2) = fun c => Out.ok (.bool (false == c)) H2 := by funext c; cases c <;> rfl
      rw [e] at h
      try simp only
      rw [e2]
      exact nil2_any h
    · exact h.elim
/-- What reads nothing of the heap comes to the same whatever is there. -/
theorem mvS_any {o : AO} {fr : List AV} {H H2 : List ABlk} {v : AV} (hr : rdK o = false) (hm : mvK o = true) (h : mvS arS (CallsA P) (exec1 arS σr fr H o) v) : mvS arS (CallsA P) (exec1 arS σr fr H2 o) v := by
  cases o <;> first | (cases hr; done) | (cases hm; done) | skip
  case mv x => exact h
  case pick c a b =>
    simp only [exec1] at h ⊢
    cases hc : ev fr c <;> rw [hc] at h <;> first | exact False.elim h | skip
    · rename_i b; cases b <;> exact h
    · exact h
  case build z ps =>
    simp only [exec1] at h ⊢
    split at h
    · rename_i hz; rw [if_pos hz]; exact okO_any h
    · exact h.elim
  case nilc mt x =>
    simp only [exec1] at h ⊢
    cases hc : ev fr x <;> rw [hc] at h <;> first | exact h | exact False.elim h | skip
    rename_i f a b
    cases f <;> first | exact h | skip
    rename_i n
    simp only at h ⊢
    split at h
    · rename_i hz; rw [if_pos hz]; exact h
    · exact h.elim
  case bin op k x y => exact binQ_any h
  case un op x =>
    simp only [exec1] at h ⊢
    cases op <;> cases hc : ev fr x <;> rw [hc] at h <;> first | exact h | exact False.elim h
  case cvt k x =>
    simp only [exec1] at h ⊢
    cases hc : ev fr x <;> rw [hc] at h <;> first | exact h | exact False.elim h
  case mki t x => exact h
  case mkf f a b => exact h
  case fad off x =>
    simp only [exec1] at h ⊢
    cases hc : ev fr x <;> rw [hc] at h <;> first | exact h | exact False.elim h
  case fld off n x =>
    simp only [exec1] at h ⊢
    cases hc : ev fr x <;> rw [hc] at h <;> first | exact okO_any h | exact False.elim h
  case idxs x i =>
    simp only [exec1] at h ⊢
    cases hc : ev fr x <;> rw [hc] at h <;> first | exact False.elim h | skip
    cases hd : ev fr i <;> rw [hd] at h <;> first | exact h | exact False.elim h
  case ext x i =>
    simp only [exec1] at h ⊢
    cases hc : ev fr x <;> rw [hc] at h <;> first | exact okO_any h | exact False.elim h
  case asrt t z ag ok x =>
    simp only [exec1] at h ⊢
    cases hc : ev fr x <;> rw [hc] at h <;> first | exact False.elim h | skip
    rename_i t' u
    by_cases ht : t' = t
    · simp only [if_pos ht] at h ⊢; exact h
    · simp only [if_neg ht] at h; exact h.elim
  case call f args => exact h
  case callv x args =>
    simp only [exec1] at h ⊢
    cases hc : ev fr x <;> rw [hc] at h <;> first | exact False.elim h | skip
    rename_i f a b
    cases f <;> first | exact h | exact False.elim h
  case mnmx mx x y =>
    simp only [exec1] at h ⊢
    cases hc : ev fr x <;> rw [hc] at h <;> first | exact False.elim h | skip
    cases hd : ev fr y <;> rw [hd] at h <;> first | exact False.elim h | skip
    rename_i k a k' b
    by_cases ht : k = k'
    · simp only [if_pos ht] at h ⊢; exact h
    · simp only [if_neg ht] at h; exact h.elim
  case addc x y z =>
    simp only [exec1] at h ⊢
    split at h
    · first
        | exact h
        | (rename_i e1 e2 e3; rw [e1, e2, e3]; exact h)
    · exact h.elim

theorem DrawA.done (hr : rdyG listed 0 l = []) (h : Fin fr H) : DrawA P l bs Fin n listed fr H := fun ops hl hdc => by
  have := (ready_nil hl).2 hr
  cases n with
  | zero => exact ⟨this, h⟩
  | succ n => exact ⟨fun _ => h, fun i hi => by rw [this] at hi; cases hi⟩

theorem DrawA.known (hFin : ∀ fr H t b, fr[t]? = some (.sb b) → Fin (fr.set t (.bool b)) H → Fin fr H) {t : Nat} {b : Bool} (hb : fr[t]? = some (.sb b)) (h : DrawA P l bs Fin n listed (fr.set t (.bool b)) H) : DrawA P l bs Fin n listed fr H :=
  fun ops hl hdc => AnyA.known hFin _ _ _ _ t b hb (h ops hl hdc)

theorem DrawA.mv {i : Nat} {o : AOp} {v : AV} (hi : l[i]? = some o) (hr : i ∈ rdyG listed 0 l) (hf : freeG o i listed 0 l = true) (hk : keepP bs H H)
    (h : (gOk (maskL o.looks 0 fr) o.guard true ∧ mvK o.op = true ∧ mvS arS (CallsA P) (exec1 arS σr (maskL o.looks 0 fr) (hideL bs H) o.op) v) ∨ (gOk (maskL o.looks 0 fr) o.guard false ∧ v = .tup []))
    (hn : DrawA P l bs Fin n (listed.set i true) (putL fr o.dst v) H) : DrawA P l bs Fin (n + 1) listed fr H := fun ops hl hdc => by
  obtain ⟨o', ho', rfl⟩ := op_of hl hi
  have hcase : MvA P ops o' v fr ∨ rdK (rslvOp P ops true o').op = true := by
    rcases h with ⟨h1, h2, h3⟩ | ⟨h1, h2⟩
    · cases hrd : rdK (rslvOp P ops true o').op with
      | true => exact .inr rfl
      | false => exact .inl fun H2 => stepT_of (σr := σr) (.inl ⟨h1, mv_sim (HB := []) (fun id b hb _ => by simp [getL] at hb) h2 (mvS_any hrd h2 h3)⟩)
    · exact .inl fun H2 => stepT_of (σr := σr) (.inr ⟨h1, h2.symm, rfl⟩)
  refine AnyA.first ho' n _ fr H hdc (free_of hl hf) ((ready_iff hl).2 hr) (hcase.imp id fun hrd => ⟨fun j hji hj => frB_sound hl hi hrd hji hj, hk, fun H2 hk2 => ?_⟩) hk (v := v) ?_
  · refine stepT_of (σr := σr) ?_
    rcases h with ⟨h1, h2, h3⟩ | ⟨h1, h2⟩
    · exact .inl ⟨h1, mv_sim (hideL_sub hk2) h2 h3⟩
    · exact .inr ⟨h1, h2.symm, rfl⟩
  · have := hn ops hl (by have := hdc.set ((ready_iff hl).2 hr); rwa [List.setIfInBounds_toArray] at this)
    rw [List.setIfInBounds_toArray]
    exact this

/-- A quiet operation, whatever is written beside it. -/
theorem DrawA.mvA {i : Nat} {o : AOp} {v : AV} (hi : l[i]? = some o) (hr : i ∈ rdyG listed 0 l) (hf : freeG o i listed 0 l = true) (hk : keepP bs H H)
    (h : (gOk (maskL o.looks 0 fr) o.guard true ∧ mvK o.op = true ∧ mvS arS (CallsA P) (exec1 arS σr (maskL o.looks 0 fr) [] o.op) v) ∨ (gOk (maskL o.looks 0 fr) o.guard false ∧ v = .tup []))
    (hn : DrawA P l bs Fin n (listed.set i true) (putL fr o.dst v) H) : DrawA P l bs Fin (n + 1) listed fr H := fun ops hl hdc => by
  obtain ⟨o', ho', rfl⟩ := op_of hl hi
  refine AnyA.first ho' n _ fr H hdc (free_of hl hf) ((ready_iff hl).2 hr) (.inl fun H2 => ?_) hk (v := v) ?_
  · refine stepT_of (σr := σr) ?_
    rcases h with ⟨h1, h2, h3⟩ | ⟨h1, h2⟩
    · exact .inl ⟨h1, mv_sim (HB := []) (fun id b hb _ => by simp [getL] at hb) h2 h3⟩
    · exact .inr ⟨h1, h2.symm, rfl⟩
  · have := hn ops hl (by have := hdc.set ((ready_iff hl).2 hr); rwa [List.setIfInBounds_toArray] at this)
    rw [List.setIfInBounds_toArray]
    exact this

theorem DrawA.allL (hne : rdyG listed 0 l ≠ [])
    (h : ∀ i ∈ rdyG listed 0 l, ∀ o, l[i]? = some o → (gOk (maskL o.looks 0 fr) o.guard true ∧ sat arS P H (exec1 arS σr (maskL o.looks 0 fr) H o.op) fun v H' => ((frB l i = true ∧ keepP bs H' H') ∨ keepP bs H H') ∧ DrawA P l bs Fin n (listed.set i true) (putL fr o.dst v) H') ∨
      (gOk (maskL o.looks 0 fr) o.guard false ∧ keepP bs H H ∧ DrawA P l bs Fin n (listed.set i true) (putL fr o.dst (.tup [])) H)) : DrawA P l bs Fin (n + 1) listed fr H := fun ops hl hdc => by
  refine ⟨fun h0 => absurd ((ready_nil hl).1 h0) hne, fun i hi o' ho' => ?_⟩
  have h1 := h i ((ready_iff hl).1 hi) _ (of_op hl ho')
  have h2 : StepT P ops o' (maskL (rslvOp P ops true o').looks 0 fr) H fun v H' => ((frB l i = true ∧ keepP bs H' H') ∨ keepP bs H H') ∧ DrawA P l bs Fin n (listed.set i true) (putL fr o'.dst v) H' := stepT_of (σr := σr) (h1.imp id fun ⟨a, b, c⟩ => ⟨a, .inr b, c⟩)
  exact h2.mono fun v H' ⟨g1, g2⟩ => ⟨g1, by have := g2 ops hl (by have := hdc.set hi; rwa [List.setIfInBounds_toArray] at this); simpa using this⟩

theorem sat.mono' {K K' : AV → List ABlk → Prop} (hm : ∀ v H', K v H' → K' v H') : ∀ {o : Out}, sat arS P H o K → sat arS P H o K'
  | .ok _ _, h => hm _ _ h
  | .need _ _, h => ⟨h.1, sat.mono' hm h.2⟩
  | .ask _ _, h => h.elim fun r hr => ⟨r, hr.1, sat.mono' hm hr.2⟩
  | .br _ _, h => by simp only [sat] at h ⊢; exact sat.mono' hm h
  | .nilq _ _ _, h => ⟨fun hb => hm _ _ (h.1 hb), hm _ _ h.2⟩
  | .call _ _, h => CallsA.mono h fun r H' hr => hm _ _ hr
  | .bad, h => h

theorem DrawA.all (hne : rdyG listed 0 l ≠ [])
    (h : ∀ i ∈ rdyG listed 0 l, ∀ o, l[i]? = some o → (gOk (maskL o.looks 0 fr) o.guard true ∧ sat arS P H (exec1 arS σr (maskL o.looks 0 fr) H o.op) fun v H' => keepP bs H H' ∧ DrawA P l bs Fin n (listed.set i true) (putL fr o.dst v) H') ∨
      (gOk (maskL o.looks 0 fr) o.guard false ∧ keepP bs H H ∧ DrawA P l bs Fin n (listed.set i true) (putL fr o.dst (.tup [])) H)) : DrawA P l bs Fin (n + 1) listed fr H :=
  DrawA.allL (σr := σr) hne fun i hi o ho => (h i hi o ho).imp (fun ⟨a, b⟩ => ⟨a, sat.mono' (fun v H' ⟨c, d⟩ => ⟨.inr c, d⟩) b⟩) id

end

/-! ### the evaluator -/
def isBad : Out → Bool
  | .bad => true
  | _ => false

section
variable (A : Ar) (σr : RowF) (C : FuncId → List AV → List ABlk → (AV → List ABlk → Prop) → Prop) (Fin : List AV → List ABlk → Prop) (Dr : Nat → List Bool → List AV → List ABlk → Prop) (l : List AOp) (bs : List Bool)

def symOf (fr : List AV) : List Nat → Option (Nat × Bool)
  | [] => none
  | i :: is => match getL l i with
    | some o => match gst fr o.guard with
      | .sym t b _ => some (t, b)
      | _ => symOf fr is
    | none => symOf fr is

/-- What is taken first: an operation that is left out, or a quiet one. -/
def quietOf (listed : List Bool) (fr : List AV) (HB : List ABlk) : List Nat → Option (Nat × AOp × Option Out)
  | [] => none
  | i :: is => match getL l i with
    | some o => if freeG o i listed 0 l = true then
        match gst (maskL o.looks 0 fr) o.guard with
        | .no => some (i, o, none)
        | .yes => if mvK o.op = true then
            match exec1 A σr (maskL o.looks 0 fr) HB o.op with
            | .bad => quietOf listed fr HB is
            | out => some (i, o, some out)
          else quietOf listed fr HB is
        | _ => quietOf listed fr HB is
      else quietOf listed fr HB is
    | none => quietOf listed fr HB is

def isCallO : AO → Bool
  | .call .. | .callv .. | .inv .. => true
  | _ => false
def noCalls (l : List AOp) : List Nat → List Nat
  | [] => []
  | i :: is => match getL l i with
    | some o => match isCallO o.op with
      | true => noCalls l is
      | false => i :: noCalls l is
    | none => noCalls l is
theorem noCalls_mem (l : List AOp) {i : Nat} : ∀ {rs : List Nat}, i ∈ noCalls l rs → i ∈ rs
  | [], h => h
  | j :: rs, h => by
    unfold noCalls at h
    split at h
    · split at h
      · exact List.mem_cons_of_mem _ (noCalls_mem l h)
      · rcases List.mem_cons.1 h with h | h
        · rw [h]; exact List.mem_cons_self ..
        · exact List.mem_cons_of_mem _ (noCalls_mem l h)
    · exact List.mem_cons_of_mem _ (noCalls_mem l h)

/-- The calls of these functions: they write nothing, and hand out no blocks. -/
def pureCalls (qf : List Nat) (l : List AOp) : List Nat → List Nat
  | [] => []
  | i :: is => match getL l i with
    | some o => match o.op with
      | .call f _ => match memN f qf with
        | true => i :: pureCalls qf l is
        | false => pureCalls qf l is
      | _ => pureCalls qf l is
    | none => pureCalls qf l is
theorem pureCalls_mem (qf : List Nat) (l : List AOp) {i : Nat} : ∀ {rs : List Nat}, i ∈ pureCalls qf l rs → i ∈ rs
  | [], h => h
  | j :: rs, h => by
    have tail : i ∈ pureCalls qf l rs → i ∈ j :: rs := fun h => List.mem_cons_of_mem _ (pureCalls_mem qf l h)
    unfold pureCalls at h
    split at h
    · split at h
      · split at h
        · rcases List.mem_cons.1 h with h | h
          · rw [h]; exact List.mem_cons_self ..
          · exact tail h
        · exact tail h
      · exact tail h
    · exact tail h

/-- What is taken first; the last one or two calls are taken in every order (they may write). -/
def quietR (qf : List Nat) (l : List AOp) (listed : List Bool) (fr : List AV) (HB : List ABlk) (rs : List Nat) : Option (Nat × AOp × Option Out) :=
  match quietOf A σr l listed fr HB (noCalls l rs) with
  | some x => some x
  | none => match rs with
    | [_] => none
    | _ => match quietOf A σr l listed fr HB (pureCalls qf l rs) with
      | some x => some x
      | none => match rs with
        | [_, _] => none
        | _ => quietOf A σr l listed fr HB rs

def mvG : Out → (AV → Prop) → (AV → Prop) → Prop
  | .ok v _, K, _ => K v
  | .need p (.ok v _), K, _ => A.nd p ∧ K v
  | .need p o, K, K' => A.nd p ∧ mvG o K' K'
  | .ask p k, _, K' => ∃ r, p r ∧ mvG (k r) K' K'
  | .br b k, _, K' => mvG (k b) K' K'
  | .nilq .., _, _ => False
  | .call f args, _, K' => ∃ v, (purs (unsL args) = true ∧ C f (unsL args) [] fun r H' => sym r = v ∧ H' = []) ∧ K' v
  | .bad, _, _ => False

def allG (fr : List AV) (H : List ABlk) (cont : Nat → AOp → AV → List ABlk → Prop) (stop : Nat → AOp → AV → List ABlk → Prop) : List Nat → Prop
  | [] => True
  | i :: is => (match getL l i with
    | some o => match gst (maskL o.looks 0 fr) o.guard with
      | .no => keepP bs H H ∧ cont i o (.tup []) H
      | .yes => match exec1 A σr (maskL o.looks 0 fr) H o.op with
        | .ok v H' => keepP bs H H' ∧ cont i o v H'
        | .need p (.ok v H') => A.nd p ∧ keepP bs H H' ∧ cont i o v H'
        | out => satC A C H out fun v H' => keepP bs H H' ∧ stop i o v H'
      | _ => False
    | none => False) ∧ allG fr H cont stop is

def drawG (qf : List Nat) : Nat → List Bool → List AV → List ABlk → Prop
  | 0, listed, fr, H => match rdyG listed 0 l with
    | [] => Fin fr H
    | _ => False
  | n + 1, listed, fr, H => match rdyG listed 0 l with
    | [] => Fin fr H
    | rs => match symOf l fr rs with
      | some (t, b) => (b = true → Dr (n + 1) listed (setL fr t (.bool true)) H) ∧ (b = false → Dr (n + 1) listed (setL fr t (.bool false)) H)
      | none => match quietR A σr qf l listed fr (hideL bs H) rs with
        | some (i, o, none) => drawG qf n (setL listed i true) (putL fr o.dst (.tup [])) H
        | some (i, o, some out) => mvG A C out (fun v => drawG qf n (setL listed i true) (putL fr o.dst v) H) fun v => Dr n (setL listed i true) (putL fr o.dst v) H
        | none => allG A σr C l bs fr H (fun i o v H' => drawG qf n (setL listed i true) (putL fr o.dst v) H') (fun i o v H' => Dr n (setL listed i true) (putL fr o.dst v) H') rs
end

section
variable {P : Program} {l : List AOp} {bs : List Bool} {Fin : List AV → List ABlk → Prop}

theorem mvG_sound {o : Out} : ∀ {K K' : AV → Prop}, mvG arS (CallsA P) o K K' → ∃ v, mvS arS (CallsA P) o v ∧ (K v ∨ K' v) := by
  induction o with
  | ok v H => intro K K' h; exact ⟨v, rfl, .inl h⟩
  | need p o ih =>
    intro K K' h
    cases o with
    | ok v H => exact ⟨v, ⟨h.1, rfl⟩, .inl h.2⟩
    | need p' o' => obtain ⟨v, h1, h2⟩ := ih h.2; exact ⟨v, ⟨h.1, h1⟩, .inr (h2.elim id id)⟩
    | ask p' k' => obtain ⟨v, h1, h2⟩ := ih h.2; exact ⟨v, ⟨h.1, h1⟩, .inr (h2.elim id id)⟩
    | br b' k' => obtain ⟨v, h1, h2⟩ := ih h.2; exact ⟨v, ⟨h.1, h1⟩, .inr (h2.elim id id)⟩
    | nilq => exact h.2.elim
    | call f args => obtain ⟨v, h1, h2⟩ := ih h.2; exact ⟨v, ⟨h.1, h1⟩, .inr (h2.elim id id)⟩
    | bad => exact h.2.elim
  | ask p k ih =>
    intro K K' h
    obtain ⟨r, h1, h2⟩ := h
    obtain ⟨v, g1, g2⟩ := ih r h2
    exact ⟨v, ⟨r, h1, g1⟩, .inr (g2.elim id id)⟩
  | br b k ih =>
    intro K K' h
    obtain ⟨v, g1, g2⟩ := ih b h
    exact ⟨v, g1, .inr (g2.elim id id)⟩
  | nilq => intro K K' h; exact h.elim
  | call f args =>
    intro K K' h
    obtain ⟨v, h1, h2⟩ := h
    exact ⟨v, h1, .inr h2⟩
  | bad => intro K K' h; exact h.elim

theorem quietOf_sound {listed : List Bool} {fr : List AV} {HB : List ABlk} : ∀ {rs : List Nat} {i : Nat} {o : AOp} {out : Option Out}, quietOf arS σr l listed fr HB rs = some (i, o, out) →
    i ∈ rs ∧ l[i]? = some o ∧ freeG o i listed 0 l = true ∧ ((out = none ∧ gOk (maskL o.looks 0 fr) o.guard false) ∨ (gOk (maskL o.looks 0 fr) o.guard true ∧ mvK o.op = true ∧ out = some (exec1 arS σr (maskL o.looks 0 fr) HB o.op)))
  | [], i, o, out, h => by simp [quietOf] at h
  | j :: is, i, o, out, h => by
    have tail : quietOf arS σr l listed fr HB is = some (i, o, out) → i ∈ j :: is ∧ l[i]? = some o ∧ freeG o i listed 0 l = true ∧ ((out = none ∧ gOk (maskL o.looks 0 fr) o.guard false) ∨ (gOk (maskL o.looks 0 fr) o.guard true ∧ mvK o.op = true ∧ out = some (exec1 arS σr (maskL o.looks 0 fr) HB o.op))) :=
      fun h => by
        obtain ⟨h1, h2⟩ := quietOf_sound h
        exact ⟨List.mem_cons_of_mem _ h1, h2⟩
    simp only [quietOf] at h
    split at h
    · rename_i o' ho'
      rw [getL_eq] at ho'
      split at h
      · rename_i hf
        split at h
        · rename_i hg
          injection h with h
          injection h with h1 h
          injection h with h2 h3
          subst h1 h2 h3
          exact ⟨by simp, ho', hf, .inl ⟨rfl, gst_no hg⟩⟩
        · rename_i hg
          split at h
          · rename_i hk
            split at h
            · exact tail h
            · injection h with h
              injection h with h1 h
              injection h with h2 h3
              subst h1 h2 h3
              exact ⟨by simp, ho', hf, .inr ⟨gst_yes hg, hk, rfl⟩⟩
          · exact tail h
        · exact tail h
      · exact tail h
    · exact tail h

theorem quietR_sound {listed : List Bool} {fr : List AV} {HB : List ABlk} {rs : List Nat} {i : Nat} {o : AOp} {out : Option Out} {qf : List Nat} (h : quietR arS σr qf l listed fr HB rs = some (i, o, out)) :
    i ∈ rs ∧ l[i]? = some o ∧ freeG o i listed 0 l = true ∧ ((out = none ∧ gOk (maskL o.looks 0 fr) o.guard false) ∨ (gOk (maskL o.looks 0 fr) o.guard true ∧ mvK o.op = true ∧ out = some (exec1 arS σr (maskL o.looks 0 fr) HB o.op))) := by
  unfold quietR at h
  split at h
  · rename_i x hq
    rw [h] at hq
    obtain ⟨h1, h2⟩ := quietOf_sound hq
    exact ⟨noCalls_mem l h1, h2⟩
  · split at h
    · cases h
    · split at h
      · rename_i x hq
        rw [h] at hq
        obtain ⟨h1, h2⟩ := quietOf_sound hq
        exact ⟨pureCalls_mem qf l h1, h2⟩
      · split at h
        · cases h
        · exact quietOf_sound h

theorem symOf_sound {fr : List AV} : ∀ {rs : List Nat} {t : Nat} {b : Bool}, symOf l fr rs = some (t, b) → ev fr (.t t) = .sb b
  | [], t, b, h => by simp [symOf] at h
  | j :: is, t, b, h => by
    simp only [symOf] at h
    split at h
    · split at h
      · rename_i hg
        injection h with h
        injection h with h1 h2
        subst h1 h2
        exact (gst_sym hg).1
      · exact symOf_sound h
    · exact symOf_sound h

theorem allG_sound {fr : List AV} {H : List ABlk} {cont stop : Nat → AOp → AV → List ABlk → Prop} : ∀ {rs : List Nat}, allG arS σr (CallsA P) l bs fr H cont stop rs → ∀ i ∈ rs, ∀ o, l[i]? = some o →
    (gOk (maskL o.looks 0 fr) o.guard true ∧ sat arS P H (exec1 arS σr (maskL o.looks 0 fr) H o.op) fun v H' => keepP bs H H' ∧ (cont i o v H' ∨ stop i o v H')) ∨
      (gOk (maskL o.looks 0 fr) o.guard false ∧ keepP bs H H ∧ (cont i o (.tup []) H ∨ stop i o (.tup []) H))
  | [], _, i, hi, _, _ => by cases hi
  | j :: is, h, i, hi, o, ho => by
    simp only [allG] at h
    rcases List.mem_cons.1 hi with rfl | hi
    · have h1 := h.1
      rw [getL_eq, ho] at h1
      simp only at h1
      split at h1
      · rename_i hg
        exact .inr ⟨gst_no hg, h1.1, .inl h1.2⟩
      · rename_i hg
        refine .inl ⟨gst_yes hg, ?_⟩
        split at h1
        · rename_i v H' hx
          rw [hx]
          exact ⟨h1.1, .inl h1.2⟩
        · rename_i p v H' hx
          rw [hx]
          exact ⟨h1.1, h1.2.1, .inl h1.2.2⟩
        · have : ∀ {o : Out} {K K' : AV → List ABlk → Prop}, (∀ v H', K v H' → K' v H') → sat arS P H o K → sat arS P H o K' := by
            intro o
            induction o with
            | ok v H => intro K K' hm h; exact hm _ _ h
            | need p o ih => intro K K' hm h; exact ⟨h.1, ih hm h.2⟩
            | ask p k ih => intro K K' hm h; obtain ⟨r, h1, h2⟩ := h; exact ⟨r, h1, ih r hm h2⟩
            | br b k ih => intro K K' hm h; exact ih b hm h
            | nilq neg n H => intro K K' hm h; exact ⟨fun hb => hm _ _ (h.1 hb), hm _ _ h.2⟩
            | call f args => intro K K' hm h; exact CallsA.mono h fun r H' => hm _ _
            | bad => intro K K' hm h; exact h
          exact this (fun v H' ⟨g1, g2⟩ => ⟨g1, .inr g2⟩) (satC_sat h1)
      · exact h1.elim
    · exact allG_sound h.2 i hi o ho

theorem keepP_right : ∀ {bs : List Bool} {A B : List ABlk}, keepP bs A B → keepP bs B B := by
  intro bs
  induction bs with
  | nil => intro A B _; trivial
  | cons x bs ih =>
    intro A B h
    cases x <;> cases A <;> cases B <;> first | exact h.elim | skip
    · exact ih (A := _) h
    · exact ⟨rfl, ih h.2⟩

theorem drawG_sound {qf : List Nat} (hFin : ∀ fr H t b, fr[t]? = some (.sb b) → Fin (fr.set t (.bool b)) H → Fin fr H) : ∀ (n : Nat) (listed : List Bool) (fr : List AV) (H : List ABlk), keepP bs H H →
    drawG arS σr (CallsA P) Fin (DrawA P l bs Fin) l bs qf n listed fr H → DrawA P l bs Fin n listed fr H := by
  have evGet : ∀ {fr : List AV} {t : Nat} {b : Bool}, ev fr (.t t) = .sb b → fr[t]? = some (.sb b) := by
    intro fr t b h
    simp only [ev, getL_eq] at h
    cases hx : fr[t]? with
    | none => rw [hx] at h; simp at h
    | some c => rw [hx] at h; simp at h; rw [h]
  intro n
  induction n with
  | zero =>
    intro listed fr H hk h
    simp only [drawG] at h
    split at h
    · rename_i hr; exact DrawA.done hr h
    · exact h.elim
  | succ n ih =>
    intro listed fr H hk h
    simp only [drawG] at h
    split at h
    · rename_i hr; exact DrawA.done hr h
    · rename_i hne
      have hne' : rdyG listed 0 l ≠ [] := fun e => hne e
      split at h
      · rename_i t b hs
        have hsy := evGet (symOf_sound hs)
        rw [setL_eq, setL_eq] at h
        cases b
        · exact DrawA.known hFin hsy (h.2 rfl)
        · exact DrawA.known hFin hsy (h.1 rfl)
      · split at h
        · rename_i i o hq
          obtain ⟨q1, q2, q3, q4⟩ := quietR_sound hq
          rw [setL_eq] at h
          refine DrawA.mv (σr := σr) q2 q1 q3 hk (v := .tup []) ?_ (ih _ _ _ hk h)
          rcases q4 with ⟨_, q4⟩ | ⟨_, _, q4⟩
          · exact .inr ⟨q4, rfl⟩
          · cases q4
        · rename_i i o out hq
          obtain ⟨q1, q2, q3, q4⟩ := quietR_sound hq
          rw [setL_eq] at h
          obtain ⟨v, g1, g2⟩ := mvG_sound h
          refine DrawA.mv (σr := σr) q2 q1 q3 hk (v := v) ?_ ?_
          · rcases q4 with ⟨q4, _⟩ | ⟨q4, q5, q6⟩
            · cases q4
            · injection q6 with q6
              subst q6
              exact .inl ⟨q4, q5, g1⟩
          · rcases g2 with g2 | g2
            · exact ih _ _ _ hk g2
            · exact g2
        · refine DrawA.all (σr := σr) hne' fun i hi o ho => ?_
          rcases allG_sound h i hi o ho with ⟨g1, g2⟩ | ⟨g1, g2, g3⟩
          · refine .inl ⟨g1, ?_⟩
            have : ∀ {o : Out} {K K' : AV → List ABlk → Prop}, (∀ v H', K v H' → K' v H') → sat arS P H o K → sat arS P H o K' := by
              intro o
              induction o with
              | ok v H => intro K K' hm h; exact hm _ _ h
              | need p o ih => intro K K' hm h; exact ⟨h.1, ih hm h.2⟩
              | ask p k ih => intro K K' hm h; obtain ⟨r, h1, h2⟩ := h; exact ⟨r, h1, ih r hm h2⟩
              | br b k ih => intro K K' hm h; exact ih b hm h
              | nilq neg n H => intro K K' hm h; exact ⟨fun hb => hm _ _ (h.1 hb), hm _ _ h.2⟩
              | call f args => intro K K' hm h; exact CallsA.mono h fun r H' => hm _ _
              | bad => intro K K' hm h; exact h
            refine this (fun v H' ⟨e1, e2⟩ => ⟨e1, ?_⟩) g2
            rw [setL_eq] at e2
            rcases e2 with e2 | e2
            · exact ih _ _ _ (keepP_right e1) e2
            · exact e2
          · refine .inr ⟨g1, g2, ?_⟩
            rw [setL_eq] at g3
            rcases g3 with g3 | g3
            · exact ih _ _ _ hk g3
            · exact g3

theorem keepP_refl : ∀ (bs : List Bool) (H : List ABlk), bs.length ≤ H.length → keepP bs H H
  | [], _, _ => trivial
  | true :: bs, x :: H, h => ⟨rfl, keepP_refl bs H (by simpa using h)⟩
  | false :: bs, x :: H, h => keepP_refl bs H (by simpa using h)
  | true :: bs, [], h => by simp at h
  | false :: bs, [], h => by simp at h
end

section
variable {P : Program} {fn : Func} {tab : List Node} {H0 : List ABlk} {R : AV → List ABlk → Prop} {K : List AItem} {fr : List AV} {H : List ABlk}

theorem Run.knownSet {t : Nat} {b : Bool} (hb : fr[t]? = some (.sb b)) (h : Run P fn tab H0 R K (fr.set t (.bool b)) H) : Run P fn tab H0 R K fr H := by
  refine Run.known (t := t) (b := b) ?_ (by rw [setL_eq]; exact h)
  simp only [ev, getL_eq, hb, Option.getD_some]

/-- A DRAWN REGION, BY COMPUTATION. `bs`: which blocks nothing in it writes. -/
theorem Run.goDraw {n : Nat} {l : List AOp} (hm : P.follows .mixedOrders = true) (ht : getL tab n = some (.region l true)) (σr : RowF) (bs : List Bool) (hbs : bs.length ≤ H.length)
    (h : ∀ A C Fin Dr, A = arS → C = CallsA P → Fin = Run P fn tab H0 R K → Dr = DrawA P l bs (Run P fn tab H0 R K) → drawG A σr C Fin Dr l bs [] (lenL l) (List.replicate (lenL l) false) fr H) : Run P fn tab H0 R (.c n :: K) fr H := by
  rw [getL_eq] at ht
  refine Run.draw hm ht bs ?_
  have := h _ _ _ _ rfl rfl rfl rfl
  rw [lenL_eq] at this
  exact drawG_sound (fun fr H t b => Run.knownSet) _ _ _ _ (keepP_refl bs H hbs) this

/-- Going on inside of it. -/
theorem DrawA.go (σr : RowF) {l : List AOp} {bs : List Bool} {n : Nat} {listed : List Bool} (hbs : bs.length ≤ H.length)
    (h : ∀ A C Fin Dr, A = arS → C = CallsA P → Fin = Run P fn tab H0 R K → Dr = DrawA P l bs (Run P fn tab H0 R K) → drawG A σr C Fin Dr l bs [] n listed fr H) : DrawA P l bs (Run P fn tab H0 R K) n listed fr H :=
  drawG_sound (fun fr H t b => Run.knownSet) _ _ _ _ (keepP_refl bs H hbs) (h _ _ _ _ rfl rfl rfl rfl)
end
end Go.Ab
