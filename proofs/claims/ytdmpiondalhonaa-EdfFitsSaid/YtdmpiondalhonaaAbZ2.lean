/- A call over few blocks of many, wherever they stand. -/
import Derived.Test.YtdmpiondalhonaaAbZ
namespace Go.Ab
open Go
set_option linter.unusedVariables false
set_option linter.unusedSimpArgs false

def renB (τ : Nat → Option Nat) : ABlk → ABlk
  | .box e cs => .box e (rens τ cs)
  | .arr e sz rows => .arr e sz rows
  | .mpb rows => .mpb rows
  | .dead s => .dead s

/-- Rows bear no blocks. -/
def pureA (H : List ABlk) : Prop := ∀ (j : Nat) (e sz : Nat) (rows : List (List AV)), H[j]? = some (.arr e sz rows) → pursS rows = true

theorem BImp.ren {τ : Nat → Option Nat} {b : ABlk} (h : ∀ e sz rows, b = .arr e sz rows → pursS rows = true) : BImp τ b (renB τ b) := by
  cases b with
  | box e cs => exact ⟨rfl, Imps.rens cs⟩
  | arr e sz rows => exact ⟨rfl, rfl, rfl, h _ _ _ rfl⟩
  | mpb rows => exact rfl
  | dead s => exact rfl

/-- Where a block of the callee stands in the caller's heap. -/
def outN (β : List Nat) (N : Nat) (j : Nat) : Option Nat :=
  match getL β j with
  | some id => some id
  | none => some (N + (j - lenL β))

def putHs (τ : Nat → Option Nat) : List Nat → List ABlk → List ABlk → List ABlk
  | i :: β, b :: bs, H => putHs τ β bs (setL H i (renB τ b))
  | _, _, H => H

def newHs (τ : Nat → Option Nat) : List Nat → List ABlk → List ABlk
  | [], bs => bs.map (renB τ)
  | _ :: β, _ :: bs => newHs τ β bs
  | _ :: _, [] => []

theorem putHs_length (τ : Nat → Option Nat) : ∀ (β : List Nat) (bs H : List ABlk), (putHs τ β bs H).length = H.length
  | [], bs, H => rfl
  | _ :: _, [], H => rfl
  | i :: β, b :: bs, H => by rw [putHs, putHs_length τ β bs, setL_eq]; simp

theorem putHs_out (τ : Nat → Option Nat) : ∀ (β : List Nat) (bs H : List ABlk) (id : Nat), id ∉ β → (putHs τ β bs H)[id]? = H[id]?
  | [], bs, H, id, _ => rfl
  | _ :: _, [], H, id, _ => rfl
  | i :: β, b :: bs, H, id, h => by
    simp only [List.mem_cons, not_or] at h
    rw [putHs, putHs_out τ β bs _ id h.2, setL_eq, List.getElem?_set_ne (fun e => h.1 e.symm)]

theorem putHs_in (τ : Nat → Option Nat) : ∀ (β : List Nat) (bs H : List ABlk) (j id : Nat) (b : ABlk), β.Nodup → β[j]? = some id → bs[j]? = some b → id < H.length → (putHs τ β bs H)[id]? = some (renB τ b)
  | [], bs, H, j, id, b, _, h, _, _ => by simp at h
  | _ :: _, [], H, j, id, b, _, _, h, _ => by simp at h
  | i :: β, b0 :: bs, H, 0, id, b, hn, h, hb, hl => by
    simp only [List.getElem?_cons_zero, Option.some.injEq] at h hb
    subst h hb
    rw [putHs, putHs_out τ β bs _ i (List.nodup_cons.1 hn).1, setL_eq]
    simp [hl]
  | i :: β, b0 :: bs, H, j + 1, id, b, hn, h, hb, hl => by
    rw [putHs]
    exact putHs_in τ β bs _ j id b (List.nodup_cons.1 hn).2 (by simpa using h) (by simpa using hb) (by rw [setL_eq]; simpa using hl)

theorem newHs_get (τ : Nat → Option Nat) : ∀ (β : List Nat) (bs : List ABlk) (k : Nat), β.length ≤ bs.length → (newHs τ β bs)[k]? = (bs[β.length + k]?).map (renB τ)
  | [], bs, k, _ => by simp [newHs]
  | _ :: _, [], k, h => by simp at h
  | i :: β, b :: bs, k, h => by
    rw [newHs, newHs_get τ β bs k (by simpa using h)]
    simp only [List.length_cons]
    rw [show β.length + 1 + k = (β.length + k) + 1 by omega]
    simp

theorem nodup_get : ∀ {β : List Nat} (_ : β.Nodup) (i j k : Nat), β[i]? = some k → β[j]? = some k → i = j
  | [], _, i, j, k, hi, _ => by simp at hi
  | x :: β, h, 0, 0, k, _, _ => rfl
  | x :: β, h, 0, j + 1, k, hi, hj => by
    simp only [List.getElem?_cons_zero, Option.some.injEq] at hi
    subst hi
    exact absurd (List.mem_of_getElem? (by simpa using hj)) (List.nodup_cons.1 h).1
  | x :: β, h, i + 1, 0, k, hi, hj => by
    simp only [List.getElem?_cons_zero, Option.some.injEq] at hj
    subst hj
    exact absurd (List.mem_of_getElem? (by simpa using hi)) (List.nodup_cons.1 h).1
  | x :: β, h, i + 1, j + 1, k, hi, hj => by
    rw [nodup_get (List.nodup_cons.1 h).2 i j k (by simpa using hi) (by simpa using hj)]

theorem idxN_some {β : List Nat} {j id : Nat} (hn : β.Nodup) (h : β[j]? = some id) : idxN β id 0 = some j := by
  have key : ∀ (β : List Nat) (k j : Nat), β[j]? = some id → ∃ i, idxN β id k = some i := by
    intro β
    induction β with
    | nil => intro k j h; simp at h
    | cons x xs ih =>
      intro k j h
      simp only [idxN]
      cases hb : Nat.beq x id with
      | true => exact ⟨k, rfl⟩
      | false =>
        cases j with
        | zero =>
          simp at h
          subst h
          have : Nat.beq x x = true := Nat.beq_refl x
          rw [this] at hb; cases hb
        | succ j => exact ih (k + 1) j (by simpa using h)
  obtain ⟨i, hi⟩ := key β 0 j h
  have := (idxN_get hi).2
  rw [hi, nodup_get hn j i id h (by simpa using this)]

theorem idxN_none {β : List Nat} {id : Nat} (h : id ∉ β) : idxN β id 0 = none := by
  cases hi : idxN β id 0 with
  | none => rfl
  | some j => exact absurd (List.mem_of_getElem? (by simpa using (idxN_get hi).2)) h

section
variable {P : Program} {f : FuncId} {args args' : List AV} {H Hg : List ABlk} {R : AV → List ABlk → Prop}

theorem CallsA.ren (β : List Nat) (h : CallsA P f args' Hg R) (hn : β.Nodup) (hlen : Hg.length = β.length)
    (hb : ∀ j id : Nat, β[j]? = some id → ∃ x b, H[id]? = some x ∧ Hg[j]? = some b ∧ BImp (fun i => idxN β i 0) x b) (hx : Imps (fun i => idxN β i 0) args args')
    (hR : ∀ r H', R r H' → β.length ≤ H'.length ∧ pureA H') :
    CallsA P f args H (fun r H'' => ∃ r0 H0, R r0 H0 ∧ r = Ab.ren (outN β H.length) r0 ∧ H'' = putHs (outN β H.length) β H0 H ++ newHs (outN β H.length) β H0) := by
  refine ⟨h.1, fun S w vs hw hr => ?_⟩
  have hnd := nodup_get hn
  let D1 : Nat → Prop := fun k => k < w.heap.size ∧ ¬ ∃ (j id c : Nat) (b : ABlk), β[j]? = some id ∧ H[id]? = some b ∧ b.live = true ∧ S.ρ id = some (k, c)
  let S1 : RS := { W0 := w, D := D1, ρ := fun j => (β[j]?).bind S.ρ, φ := S.φ }
  have hβ : ∀ {j id : Nat}, β[j]? = some id → shape Hg j = shape H id ∧ S1.ρ j = S.ρ id := fun {j id} hj => by
    obtain ⟨x, b, h1, h2, h3⟩ := hb j id hj
    exact ⟨by rw [shape_get h1, shape_get h2, h3.shp], by simp [S1, hj]⟩
  have hc : Cmp (fun i => idxN β i 0) S (shape H) S1 (shape Hg) := ⟨fun id j hj => hβ (by simpa using (idxN_get hj).2), fun _ _ _ h => h⟩
  have hget : ∀ {j b}, Hg[j]? = some b → ∃ id x, β[j]? = some id ∧ H[id]? = some x ∧ BImp (fun i => idxN β i 0) x b := fun {j b} hj => by
    have hjl : j < β.length := by rw [← hlen]; exact get_lt hj
    obtain ⟨x, b2, h1, h2, h3⟩ := hb j β[j] (List.getElem?_eq_getElem hjl)
    rw [hj] at h2
    injection h2 with h2
    subst h2
    exact ⟨β[j], x, List.getElem?_eq_getElem hjl, h1, h3⟩
  have hw1 : WRel S1 Hg w := by
    refine ⟨rfl, rfl, rfl, Nat.le_refl _, fun k hk => ⟨hk.1, rfl⟩, hw.fro, fun j b hj => ?_, fun i j b1 b2 B c c' hi hj li lj hBi hBj => ?_⟩
    · obtain ⟨id, x, h1, h2, h3⟩ := hget hj
      have hblk := hw.blk id x h2
      -- the places that the block names are its own
      cases x with
      | dead s => cases b <;> simp only [BImp] at h3; trivial
      | mpb rows =>
        cases b <;> simp only [BImp] at h3
        subst h3
        obtain ⟨B, c, es, clock, g1, g2, g3, g5⟩ := hblk
        exact ⟨B, c, es, clock, (hβ h1).2.trans g1, g2, entR_ext hc.noSh g3, fun hd => hd.2 ⟨j, id, c, _, h1, h2, rfl, g1⟩, g5.2⟩
      | box e cs =>
        cases b <;> simp only [BImp] at h3 <;> try exact h3.elim
        obtain ⟨rfl, hi⟩ := h3
        obtain ⟨B, c, arr, g1, g2, g3, g4, g5⟩ := hblk
        exact ⟨B, c, arr, (hβ h1).2.trans g1, g2, hi.rels hc g3, g4, fun hd => hd.2 ⟨j, id, c, _, h1, h2, rfl, g1⟩, g5.2⟩
      | arr e sz rows =>
        cases b <;> simp only [BImp] at h3 <;> try exact h3.elim
        obtain ⟨rfl, rfl, rfl, hp⟩ := h3
        obtain ⟨h0, hblk⟩ := hblk
        refine ⟨h0, ?_⟩
        rw [(hβ h1).2]
        cases hs : S.ρ id with
        | none => rw [hs] at hblk; exact hblk
        | some p =>
          obtain ⟨B, c⟩ := p
          rw [hs] at hblk
          obtain ⟨arr, g2, g3, g4, g5, g6⟩ := hblk
          refine ⟨arr, g2, g3, g4, fun i r hi => ?_, fun hd => hd.2 ⟨j, id, c, _, h1, h2, rfl, hs⟩, g6.2⟩
          obtain ⟨q1, q2⟩ := g5 i r hi
          refine ⟨q1, fun k c hk => ?_⟩
          obtain ⟨u, m1, m2, m3⟩ := q2 k c hk
          exact ⟨u, m1, Imp.pure (purs_mem (pursS_mem hp r (List.mem_of_getElem? hi)) c (List.mem_of_getElem? hk)) _ _ _ _ _ hc m2, m3⟩
    · obtain ⟨id1, x1, p1, p2, p3⟩ := hget hi
      obtain ⟨id2, x2, q1, q2, q3⟩ := hget hj
      rw [(hβ p1).2] at hBi
      rw [(hβ q1).2] at hBj
      have := hw.inj id1 id2 x1 x2 B c c' p2 q2 (p3.live ▸ li) (q3.live ▸ lj) hBi hBj
      subst this
      exact hnd i j id1 p1 q1
  refine (h.2 S1 w vs hw1 (hx.rels hc hr)).mono fun e w' ⟨u, he, S2, r, Hp, q1, q2, q3, q4⟩ => ⟨u, he, ?_⟩
  obtain ⟨hlp, hpure⟩ := hR r Hp q4
  have hW2 : S2.W0 = w := q1.W0
  have hD2 : S2.D = D1 := q1.D
  let τ := outN β H.length
  let H' := putHs τ β Hp H ++ newHs τ β Hp
  let S' : RS := { W0 := S.W0, D := S.D, ρ := fun id => match idxN β id 0 with | some j => S2.ρ j | none => if id < H.length then S.ρ id else S2.ρ (β.length + (id - H.length)), φ := S2.φ }
  have hβlt : ∀ {j id : Nat}, β[j]? = some id → id < H.length := fun {j id} hj => by
    obtain ⟨x, b, h1, _⟩ := hb j id hj
    exact get_lt h1
  -- the three kinds of places
  have hin : ∀ {j id : Nat}, β[j]? = some id → (∃ b, Hp[j]? = some b ∧ H'[id]? = some (renB τ b)) ∧ S'.ρ id = S2.ρ j := fun {j id} hj => by
    have hjl : j < β.length := (List.getElem?_eq_some_iff.1 hj).1
    have h1 : Hp[j]? = some Hp[j] := List.getElem?_eq_getElem (by omega)
    refine ⟨⟨Hp[j], h1, ?_⟩, by simp only [S', idxN_some hn hj]⟩
    show (putHs τ β Hp H ++ newHs τ β Hp)[id]? = _
    rw [List.getElem?_append_left (by rw [putHs_length]; exact hβlt hj)]
    exact putHs_in τ β Hp H j id _ hn hj h1 (hβlt hj)
  have hout : ∀ {id : Nat}, id < H.length → id ∉ β → H'[id]? = H[id]? ∧ S'.ρ id = S.ρ id := fun {id} hid hni => by
    refine ⟨?_, by simp only [S', idxN_none hni, if_pos hid]⟩
    show (putHs τ β Hp H ++ newHs τ β Hp)[id]? = _
    rw [List.getElem?_append_left (by rw [putHs_length]; exact hid), putHs_out τ β Hp H id hni]
  have hnew : ∀ {id : Nat}, H.length ≤ id → H'[id]? = (Hp[β.length + (id - H.length)]?).map (renB τ) ∧ S'.ρ id = S2.ρ (β.length + (id - H.length)) := fun {id} hid => by
    have hni : id ∉ β := fun hm => by
      obtain ⟨j, hj⟩ := List.getElem?_of_mem hm
      have := hβlt hj
      omega
    refine ⟨?_, by simp only [S', idxN_none hni, if_neg (Nat.not_lt.2 hid)]⟩
    show (putHs τ β Hp H ++ newHs τ β Hp)[id]? = _
    rw [List.getElem?_append_right (by rw [putHs_length]; exact hid), putHs_length, newHs_get τ β Hp _ hlp]
  have renShp : ∀ b : ABlk, (renB τ b).shp = b.shp := fun b => by cases b <;> simp [renB, ABlk.shp, rens_length]
  have renLive : ∀ b : ABlk, (renB τ b).live = b.live := fun b => by cases b <;> rfl
  have hshape : ∀ {id j : Nat} {b : ABlk}, Hp[j]? = some b → H'[id]? = some (renB τ b) → shape H' id = shape Hp j := fun {id j b} h1 h2 => by rw [shape_get h1, shape_get h2, renShp]
  have hext2 : Cmp τ S2 (shape Hp) S' (shape H') := ⟨fun j id hj => by
    simp only [τ, outN, getL_eq, lenL_eq] at hj
    cases hg : β[j]? with
    | some id' =>
      rw [hg] at hj
      simp only [Option.some.injEq] at hj
      subst hj
      obtain ⟨⟨b, h1, h2⟩, h3⟩ := hin hg
      exact ⟨hshape h1 h2, h3⟩
    | none =>
      rw [hg] at hj
      simp only [Option.some.injEq] at hj
      have hge : β.length ≤ j := List.getElem?_eq_none_iff.1 hg
      obtain ⟨h1, h2⟩ := hnew (id := id) (by omega)
      rw [show β.length + (id - H.length) = j by omega] at h1 h2
      refine ⟨?_, h2⟩
      simp only [shape, h1, Option.map_map]
      cases Hp[j]? with
      | none => rfl
      | some b => simp [renShp], fun _ _ _ h => h⟩
  have hkeep : ∀ k, D1 k → w'.heap[k]? = w.heap[k]? := fun k hk => by
    have := (q2.prot k (by rw [hD2]; exact hk)).2
    rw [hW2] at this
    exact this
  have hDD : ∀ k, S.D k → D1 k := fun k hk => ⟨Nat.lt_of_lt_of_le (hw.prot k hk).1 hw.size, fun ⟨j, id, c, b, hj, hbb, hl, hρ⟩ => (hw.place_lt hbb hl hρ).2.1 hk⟩
  have hrest : ∀ {id : Nat} {b B c}, id ∉ β → H[id]? = some b → b.live = true → S.ρ id = some (B, c) → D1 B := fun {id b B c} hni hbb hl hρ => by
    refine ⟨(hw.place_lt hbb hl hρ).1, fun ⟨j, id', c', b', hj, hb', hl', hρ'⟩ => ?_⟩
    have := hw.inj id id' b b' B c c' hbb hb' hl hl' hρ hρ'
    subst this
    exact hni (List.mem_of_getElem? hj)
  have hext : Ext S (shape H) S' (shape H') := by
    have hcase : ∀ {id : Nat} {s}, shape H id = some s → (∃ j, β[j]? = some id ∧ shape H' id = shape Hp j ∧ S'.ρ id = S2.ρ j ∧ shape Hg j = some s ∧ S1.ρ j = S.ρ id) ∨ (shape H' id = some s ∧ S'.ρ id = S.ρ id) := fun {id s} hs => by
      by_cases hm : id ∈ β
      · obtain ⟨j, hj⟩ := List.getElem?_of_mem hm
        obtain ⟨⟨b, h1, h2⟩, h3⟩ := hin hj
        obtain ⟨h4, h5⟩ := hβ hj
        exact .inl ⟨j, hj, hshape h1 h2, h3, h4.trans hs, h5⟩
      · obtain ⟨h1, h2⟩ := hout (shape_lt hs) hm
        exact .inr ⟨by simp only [shape, h1]; exact hs, h2⟩
    refine ⟨rfl, rfl, q1.fro, fun B o v hv => ?_, fun id n hn => ?_, fun id hn => ?_, fun id m sz hn => ?_⟩
    · rcases q1.fnw B o v hv with h1 | h1
      · exact .inl h1
      · exact .inr fun hd => h1 (hDD B hd)
    · rcases hcase hn with ⟨j, hj, h1, h2, h3, h4⟩ | h1
      · obtain ⟨a, b⟩ := q1.box j n h3
        exact ⟨h1.trans a, h2.trans (b.trans h4)⟩
      · exact h1
    · rcases hcase hn with ⟨j, hj, h1, h2, h3, h4⟩ | h1
      · obtain ⟨a, b⟩ := q1.mp j h3
        exact ⟨h1.trans a, h2.trans (b.trans h4)⟩
      · exact h1
    · rcases hcase hn with ⟨j, hj, h1, h2, h3, h4⟩ | ⟨h1, h2⟩
      · obtain ⟨m', a, b, c⟩ := q1.row j m sz h3
        exact ⟨m', h1.trans a, b, fun hm => h2.trans ((c hm).trans h4)⟩
      · exact ⟨m, h1, Nat.le_refl _, fun _ => h2⟩
  refine ⟨S', Ab.ren τ r, H', hext, ?_, ren_rel hext2 r u q3, r, Hp, q4, rfl, rfl⟩
  have hsz : w.heap.size ≤ w'.heap.size := by have := q2.size; rw [hW2] at this; exact this
  have hOwn : ∀ B, Own S2 B → Own S' B := fun B ho => ⟨fun hd => ho.1 (by rw [hD2]; exact hDD B hd), ho.2⟩
  -- each block of H' is one of the callee's, or one beside
  have hkind : ∀ {id : Nat} {b}, H'[id]? = some b → (∃ j b0, Hp[j]? = some b0 ∧ b = renB τ b0 ∧ S'.ρ id = S2.ρ j ∧ (β[j]? = some id ∨ (H.length ≤ id ∧ j = β.length + (id - H.length)))) ∨ (id ∉ β ∧ id < H.length ∧ H[id]? = some b ∧ S'.ρ id = S.ρ id) := fun {id b} hb' => by
    by_cases hm : id ∈ β
    · obtain ⟨j, hj⟩ := List.getElem?_of_mem hm
      obtain ⟨⟨b0, h1, h2⟩, h3⟩ := hin hj
      rw [h2] at hb'
      injection hb' with hb'
      exact .inl ⟨j, b0, h1, hb'.symm, h3, .inl hj⟩
    · rcases Nat.lt_or_ge id H.length with hlt | hge
      · obtain ⟨h1, h2⟩ := hout hlt hm
        exact .inr ⟨hm, hlt, h1 ▸ hb', h2⟩
      · obtain ⟨h1, h2⟩ := hnew hge
        rw [h1] at hb'
        obtain ⟨b0, h3, h4⟩ := Option.map_eq_some_iff.1 hb'
        exact .inl ⟨_, b0, h3, h4.symm, h2, .inr ⟨hge, rfl⟩⟩
  refine ⟨?_, ?_, ?_, Nat.le_trans hw.size hsz, fun k hk => ?_, q2.fro, fun id b hb' => ?_, fun i j b b' B c c' hi hj li lj hBi hBj => ?_⟩
  · have := q2.os; rw [hW2] at this; exact this.trans hw.os
  · have := q2.tape; rw [hW2] at this; exact this.trans hw.tape
  · have := q2.output; rw [hW2] at this; exact this.trans hw.output
  · obtain ⟨a, b⟩ := hw.prot k hk
    exact ⟨a, (hkeep k (hDD k hk)).trans b⟩
  · rcases hkind hb' with ⟨j, b0, h1, rfl, h2, _⟩ | ⟨hm, hlt, h1, h2⟩
    · exact (BImp.ren fun e sz rows he => hpure j e sz rows (he ▸ h1)).blk hext2 h2 hOwn (q2.blk j b0 h1)
    · refine (hw.blk id b h1).keep hext (fun _ => h2) (fun B c hl hB _ ho => ?_)
      have hd := hrest hm h1 hl hB
      refine ⟨hkeep B hd, ho.1, fun o => ?_⟩
      cases hv : S'.φ B o with
      | none => rfl
      | some v =>
        rcases q1.fnw B o v hv with h3 | h3
        · have h3 : S.φ B o = some v := h3
          rw [ho.2 o] at h3; cases h3
        · exact absurd hd h3
  · rcases hkind hi with ⟨j1, b1, p1, rfl, p2, p3⟩ | ⟨m1, l1, p1, p2⟩ <;> rcases hkind hj with ⟨j2, b2, g1, rfl, g2, g3⟩ | ⟨m2, l2, g1, g2⟩
    · rw [p2] at hBi
      rw [g2] at hBj
      have := q2.inj j1 j2 b1 b2 B c c' p1 g1 (renLive b1 ▸ li) (renLive b2 ▸ lj) hBi hBj
      subst this
      rcases p3 with p3 | ⟨p3, p4⟩ <;> rcases g3 with g3 | ⟨g3, g4⟩
      · rw [p3] at g3; injection g3
      · have := (List.getElem?_eq_some_iff.1 p3).1; omega
      · have := (List.getElem?_eq_some_iff.1 g3).1; omega
      · omega
    · rw [p2] at hBi
      rw [g2] at hBj
      have hd := hrest m2 g1 lj hBj
      exact absurd (by rw [hD2]; exact hd) (q2.place_lt p1 (renLive b1 ▸ li) hBi).2.1
    · rw [p2] at hBi
      rw [g2] at hBj
      have hd := hrest m1 p1 li hBi
      exact absurd (by rw [hD2]; exact hd) (q2.place_lt g1 (renLive b2 ▸ lj) hBj).2.1
    · rw [p2] at hBi
      rw [g2] at hBj
      exact hw.inj i j b b' B c c' p1 g1 li lj hBi hBj
end
end Go.Ab
