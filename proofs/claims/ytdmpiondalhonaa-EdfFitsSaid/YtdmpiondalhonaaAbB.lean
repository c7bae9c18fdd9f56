/- The abstract heap's blocks over the model's world; what each change of the world does to them. -/
import Derived.Test.YtdmpiondalhonaaAbA
namespace Go.Ab
set_option linter.unusedVariables false
set_option linter.unusedSimpArgs false
open Go

inductive ABlk where
  | box (e : TypeId) (cells : List AV)
  | arr (e : TypeId) (sz : Nat) (rows : List (List AV))
  | mpb (rows : List (List AV))
  | dead (s : Shp)
  deriving Inhabited

instance : Inhabited Shp := ⟨.mp⟩

def ABlk.shp : ABlk → Shp
  | .box _ cs => .box cs.length
  | .arr _ sz rows => .row rows.length sz
  | .mpb _ => .mp
  | .dead s => s

def ABlk.live : ABlk → Bool
  | .dead _ => false
  | _ => true

def shape (H : List ABlk) : Sh := fun id => (H[id]?).map ABlk.shp

def Own (S : RS) (B : Nat) : Prop := ¬ S.D B ∧ ∀ o, S.φ B o = none

/-- A map's entries. -/
def entR (S : RS) : List (List AV) → List MapEntry → Prop
  | [], es => es = []
  | r :: rs, es => ∃ e es', es = e :: es' ∧ (∃ k v, r = [k, v] ∧ rel S k noSh e.key ∧ rel S v noSh e.val) ∧ entR S rs es'
theorem entR_ext {S S' : RS} (hx : Ext0 S noSh S' noSh) : ∀ {rows : List (List AV)} {es : List MapEntry}, entR S rows es → entR S' rows es
  | [], es, h => h
  | r :: rs, es, h => by
    obtain ⟨e, es', rfl, ⟨k, v, rfl, h1, h2⟩, h3⟩ := h
    exact ⟨e, es', rfl, ⟨k, v, rfl, rel_ext0 k noSh noSh _ hx h1, rel_ext0 v noSh noSh _ hx h2⟩, entR_ext hx h3⟩

def BlkRel (S : RS) (T : Sh) (b : ABlk) (id : Nat) (w : World) : Prop :=
  match b with
  | .box e cs => ∃ B c arr, S.ρ id = some (B, c) ∧ w.heap[B]? = some (.cells arr e (0, 0)) ∧ rels S cs T arr.toList ∧ (∀ u ∈ arr.toList, u.oneCell' = true) ∧ Own S B
  | .arr e sz rows => 0 < sz ∧
    match S.ρ id with
    | some (B, c) => ∃ arr, w.heap[B]? = some (.cells arr e (0, 0)) ∧ arr.size = c * sz ∧ rows.length ≤ c ∧
        (∀ (i : Nat) (r : List AV), rows[i]? = some r → r.length = sz ∧ ∀ (j : Nat) (c : AV), r[j]? = some c → ∃ u, arr[i * sz + j]? = some u ∧ rel S c T u ∧ u.oneCell' = true) ∧ Own S B
    | none => rows = []
  | .mpb rows => ∃ B c es clock, S.ρ id = some (B, c) ∧ w.heap[B]? = some (.map es clock) ∧ entR S rows es.toList ∧ Own S B
  | .dead _ => True

structure WRel (S : RS) (H : List ABlk) (w : World) : Prop where
  os : w.os = S.W0.os
  tape : w.tape = S.W0.tape
  output : w.output = S.W0.output
  size : S.W0.heap.size ≤ w.heap.size
  prot : ∀ k, S.D k → k < S.W0.heap.size ∧ w.heap[k]? = S.W0.heap[k]?
  fro : ∀ B o v, S.φ B o = some v → w.cell? ⟨B, o, none⟩ = some v
  blk : ∀ id b, H[id]? = some b → BlkRel S (shape H) b id w
  inj : ∀ i j b b' B c c', H[i]? = some b → H[j]? = some b' → b.live = true → b'.live = true → S.ρ i = some (B, c) → S.ρ j = some (B, c') → i = j

/-- Nothing but the blocks of `M`, and new ones, has changed. -/
structure Chg (w w' : World) (M : Nat → Prop) : Prop where
  os : w'.os = w.os
  tape : w'.tape = w.tape
  output : w'.output = w.output
  size : w.heap.size ≤ w'.heap.size
  block : ∀ k, k < w.heap.size → ¬ M k → w'.heap[k]? = w.heap[k]?

theorem Chg.refl (w : World) (M : Nat → Prop) : Chg w w M := ⟨rfl, rfl, rfl, Nat.le_refl _, fun _ _ _ => rfl⟩
theorem Chg.drew (w : World) (M : Nat → Prop) : Chg w w.drew M := ⟨rfl, rfl, rfl, Nat.le_refl _, fun _ _ _ => rfl⟩
theorem Chg.alloc (w : World) (o : Obj) (M : Nat → Prop) : Chg w (w.alloc o) M := ⟨rfl, rfl, rfl, by simp, fun k hk _ => Go.RowKit.Below.heap_alloc w o k hk⟩
theorem Chg.trans {a b c : World} {M : Nat → Prop} (h : Chg a b M) (k : Chg b c M) : Chg a c M :=
  ⟨k.os.trans h.os, k.tape.trans h.tape, k.output.trans h.output, Nat.le_trans h.size k.size, fun i hi hm => (k.block i (Nat.lt_of_lt_of_le hi h.size) hm).trans (h.block i hi hm)⟩
theorem Chg.setRow (w : World) (g : Nat) (cs : Array Value) : Chg w (w.setRow g cs) (· = g) :=
  ⟨rfl, rfl, rfl, by simp, fun k _ hk => setRow_other w g k cs hk⟩
theorem Chg.setCell (w : World) (a : Addr) (u : Value) : Chg w (w.setCell a u) (· = a.block) :=
  ⟨rfl, rfl, rfl, by simp, fun k _ hk => Go.RowKit.Below.heap_setCell w a u k hk⟩
theorem Chg.mono {w w' : World} {M M' : Nat → Prop} (h : Chg w w' M) (hm : ∀ k, M k → M' k) : Chg w w' M' :=
  ⟨h.os, h.tape, h.output, h.size, fun k hk hn => h.block k hk (fun x => hn (hm k x))⟩

theorem block_lt {w : World} {B : Nat} {o : Obj} (h : w.heap[B]? = some o) : B < w.heap.size := (Array.getElem?_eq_some_iff.1 h).1

/-- A block of which nothing has changed. -/
theorem BlkRel.keep {S S' : RS} {T T' : Sh} {b : ABlk} {id : Nat} {w w' : World} (h : BlkRel S T b id w) (e : Ext S T S' T')
    (hρ : b.live = true → S'.ρ id = S.ρ id) (hw : ∀ B c, b.live = true → S.ρ id = some (B, c) → B < w.heap.size → Own S B → w'.heap[B]? = w.heap[B]? ∧ Own S' B) : BlkRel S' T' b id w' := by
  cases b with
  | box e' cs =>
    obtain ⟨B, c, arr, h1, h2, h3, h4, h5⟩ := h
    obtain ⟨k1, k2⟩ := hw B c rfl h1 (block_lt h2) h5
    exact ⟨B, c, arr, (hρ rfl).trans h1, k1.trans h2, rels_ext cs T T' _ e h3, h4, k2⟩
  | arr e' sz rows =>
    obtain ⟨h0, h⟩ := h
    refine ⟨h0, ?_⟩
    rw [hρ rfl]
    cases hr : S.ρ id with
    | none => rw [hr] at h; exact h
    | some p =>
      obtain ⟨B, c⟩ := p
      rw [hr] at h
      obtain ⟨arr, h2, h3, h4, h5, h6⟩ := h
      obtain ⟨k1, k2⟩ := hw B c rfl hr (block_lt h2) h6
      refine ⟨arr, k1.trans h2, h3, h4, fun i r hi => ?_, k2⟩
      obtain ⟨g1, g2⟩ := h5 i r hi
      refine ⟨g1, fun j c hj => ?_⟩
      obtain ⟨u, m1, m2, m3⟩ := g2 j c hj
      exact ⟨u, m1, rel_ext c T T' u e m2, m3⟩
  | mpb rows =>
    obtain ⟨B, c, es, clock, h1, h2, h3, h5⟩ := h
    obtain ⟨k1, k2⟩ := hw B c rfl h1 (block_lt h2) h5
    exact ⟨B, c, es, clock, (hρ rfl).trans h1, k1.trans h2, entR_ext e.noSh.zero h3, k2⟩
  | dead s => trivial

/-- THE GENERAL STEP. `M`: the blocks that may have changed; `N`: the abstract blocks that are shown anew. -/
theorem WRel.step {S S' : RS} {H H' : List ABlk} {w w' : World} (h : WRel S H w) (e : Ext S (shape H) S' (shape H')) (M : Nat → Prop) (N : Nat → Prop) (c : Chg w w' M)
    (hM : ∀ k, k < w.heap.size → M k → Own S k)
    (hφ : ∀ B o v, S'.φ B o = some v → S.φ B o = some v ∨ w'.cell? ⟨B, o, none⟩ = some v ∧ w.heap.size ≤ B)
    (hD : ∀ k, S.D k → k < w.heap.size := fun k hk => Nat.lt_of_lt_of_le (h.prot k hk).1 h.size)
    (old : ∀ id b, H'[id]? = some b → ¬ N id → H[id]? = some b ∧ S'.ρ id = S.ρ id ∧ ∀ B c, b.live = true → S.ρ id = some (B, c) → ¬ M B)
    (new : ∀ id b, H'[id]? = some b → N id → BlkRel S' (shape H') b id w')
    (inj : ∀ i j b b' B c c', H'[i]? = some b → H'[j]? = some b' → b.live = true → b'.live = true → S'.ρ i = some (B, c) → S'.ρ j = some (B, c') → N i → i = j) : WRel S' H' w' where
  os := by rw [e.W0]; exact c.os.trans h.os
  tape := by rw [e.W0]; exact c.tape.trans h.tape
  output := by rw [e.W0]; exact c.output.trans h.output
  size := by rw [e.W0]; exact Nat.le_trans h.size c.size
  prot := fun k hk => by
    rw [e.D] at hk
    rw [e.W0]
    obtain ⟨h1, h2⟩ := h.prot k hk
    exact ⟨h1, (c.block k (hD k hk) (fun hm => (hM k (hD k hk) hm).1 hk)).trans h2⟩
  fro := fun B o v hv => by
    rcases hφ B o v hv with hv | ⟨hv, _⟩
    · have h1 := h.fro B o v hv
      have hB : B < w.heap.size := World.block_lt_of_cell? w _ h1
      rw [World.cell?_of_block (c.block B hB (fun hm => by have := (hM B hB hm).2 o; rw [hv] at this; cases this))]
      exact h1
    · exact hv
  blk := fun id b hb => by
    by_cases hn : N id
    · exact new id b hb hn
    · obtain ⟨h1, h2, h3⟩ := old id b hb hn
      refine (h.blk id b h1).keep e (fun _ => h2) (fun B c0 hl hB hlt ho => ⟨c.block B hlt (h3 B c0 hl hB), ?_⟩)
      refine ⟨by rw [e.D]; exact ho.1, fun o => ?_⟩
      cases hv : S'.φ B o with
      | none => rfl
      | some v =>
        rcases hφ B o v hv with hv' | ⟨_, hv'⟩
        · rw [ho.2 o] at hv'; cases hv'
        · omega
  inj := fun i j b b' B c0 c1 hi hj li lj hBi hBj => by
    by_cases hni : N i
    · exact inj i j b b' B c0 c1 hi hj li lj hBi hBj hni
    · by_cases hnj : N j
      · exact (inj j i b' b B c1 c0 hj hi lj li hBj hBi hnj).symm
      · obtain ⟨h1, h2, _⟩ := old i b hi hni
        obtain ⟨k1, k2, _⟩ := old j b' hj hnj
        exact h.inj i j b b' B c0 c1 h1 k1 li lj (h2 ▸ hBi) (k2 ▸ hBj)

/-- A live block's place is one of the world's. -/
theorem WRel.place_lt {S : RS} {H : List ABlk} {w : World} (h : WRel S H w) {id : Nat} {b : ABlk} {B c : Nat} (hb : H[id]? = some b) (hl : b.live = true) (hρ : S.ρ id = some (B, c)) : B < w.heap.size ∧ Own S B := by
  have h1 := h.blk id b hb
  cases b with
  | box e cs =>
    obtain ⟨B', c', arr, g1, g2, _, _, g5⟩ := h1
    rw [hρ] at g1
    injection g1 with g1
    injection g1 with g1 _
    subst g1
    exact ⟨block_lt g2, g5⟩
  | arr e sz rows =>
    obtain ⟨_, h1⟩ := h1
    rw [hρ] at h1
    obtain ⟨arr, g2, _, _, _, g5⟩ := h1
    exact ⟨block_lt g2, g5⟩
  | mpb rows =>
    obtain ⟨B', c', es, clock, g1, g2, _, g5⟩ := h1
    rw [hρ] at g1
    injection g1 with g1
    injection g1 with g1 _
    subst g1
    exact ⟨block_lt g2, g5⟩
  | dead s => cases hl

theorem shape_append (H L : List ABlk) (id : Nat) (h : id < H.length) : shape (H ++ L) id = shape H id := by
  simp [shape, List.getElem?_append_left h]

theorem shape_lt {H : List ABlk} {id : Nat} {s : Shp} (h : shape H id = some s) : id < H.length := by
  unfold shape at h
  rcases Nat.lt_or_ge id H.length with h' | h'
  · exact h'
  · rw [List.getElem?_eq_none h'] at h; cases h

/-- A draw. -/
theorem WRel.drew {S : RS} {H : List ABlk} {w : World} (h : WRel S H w) : WRel S H w.drew :=
  h.step (Ext.refl _ _) (fun _ => False) (fun _ => False) (Chg.drew w _) (fun _ _ h => h.elim) (fun _ _ _ h => .inl h) (old := fun _ _ hb _ => ⟨hb, rfl, fun _ _ _ _ h => h⟩)
    (new := fun _ _ _ h => h.elim) (inj := fun _ _ _ _ _ _ _ _ _ _ _ _ _ h => h.elim)

/-- A garbage block. -/
theorem WRel.alloc {S : RS} {H : List ABlk} {w : World} (h : WRel S H w) (o : Obj) : WRel S H (w.alloc o) :=
  h.step (Ext.refl _ _) (fun _ => False) (fun _ => False) (Chg.alloc w o _) (fun _ _ h => h.elim) (fun _ _ _ h => .inl h) (old := fun _ _ hb _ => ⟨hb, rfl, fun _ _ _ _ h => h⟩)
    (new := fun _ _ _ h => h.elim) (inj := fun _ _ _ _ _ _ _ _ _ _ _ _ _ h => h.elim)

def RS.put (S : RS) (id : Nat) (p : Option (Nat × Nat)) : RS := { S with ρ := fun i => if i = id then p else S.ρ i }

theorem Ext.put_new (S : RS) (H : List ABlk) (b : ABlk) (p : Option (Nat × Nat)) : Ext S (shape H) (S.put H.length p) (shape (H ++ [b])) where
  W0 := rfl
  D := rfl
  fro := fun _ _ _ h => h
  fnw := fun _ _ _ h => .inl h
  box := fun id n hn => by
    have := shape_lt hn
    exact ⟨by rw [shape_append _ _ _ this]; exact hn, by simp [RS.put]; omega⟩
  mp := fun id hn => by
    have := shape_lt hn
    exact ⟨by rw [shape_append _ _ _ this]; exact hn, by simp [RS.put]; omega⟩
  row := fun id m sz hn => by
    have := shape_lt hn
    exact ⟨m, by rw [shape_append _ _ _ this]; exact hn, Nat.le_refl _, fun _ => by simp [RS.put]; omega⟩

theorem get_append_one {H : List ABlk} {b b' : ABlk} {id : Nat} (h : (H ++ [b])[id]? = some b') : (id < H.length ∧ H[id]? = some b') ∨ (id = H.length ∧ b' = b) := by
  rcases Nat.lt_trichotomy id H.length with hlt | heq | hgt
  · exact .inl ⟨hlt, by rwa [List.getElem?_append_left hlt] at h⟩
  · subst heq
    simp at h
    exact .inr ⟨rfl, h.symm⟩
  · rw [List.getElem?_eq_none (by simp; omega)] at h
    cases h

/-- A new owned block. -/
theorem WRel.new {S : RS} {H : List ABlk} {w w' : World} (h : WRel S H w) (c : Chg w w' (fun _ => False)) (b : ABlk) (cap : Nat)
    (hb : BlkRel (S.put H.length (some (w.heap.size, cap))) (shape (H ++ [b])) b H.length w') : WRel (S.put H.length (some (w.heap.size, cap))) (H ++ [b]) w' :=
  h.step (Ext.put_new S H b _) (fun _ => False) (· = H.length) c (fun _ _ h => h.elim) (fun _ _ _ h => .inl h)
    (old := fun id b' hb' hn => by
      rcases get_append_one hb' with ⟨h1, h2⟩ | ⟨h1, _⟩
      · exact ⟨h2, by simp [RS.put]; omega, fun _ _ _ _ h => h⟩
      · exact absurd h1 hn)
    (new := fun id b' hb' hn => by
      subst hn
      rcases get_append_one hb' with ⟨h1, _⟩ | ⟨_, h1⟩
      · omega
      · subst h1; exact hb)
    (inj := fun i j b1 b2 B c0 c1 hi hj li lj hBi hBj hn => by
      subst hn
      simp only [RS.put, if_true, Option.some.injEq, Prod.mk.injEq] at hBi
      rcases get_append_one hj with ⟨h1, h2⟩ | ⟨h1, _⟩
      · have hne : j ≠ H.length := by omega
        simp only [RS.put, hne, if_false] at hBj
        have := (h.place_lt h2 lj hBj).1
        omega
      · exact h1.symm)

theorem rels_put {S : RS} {H : List ABlk} {b : ABlk} {p : Option (Nat × Nat)} {cs : List AV} {vs : List Value} (h : rels S cs (shape H) vs) : rels (S.put H.length p) cs (shape (H ++ [b])) vs :=
  rels_ext _ _ _ _ (Ext.put_new S H b p) h

theorem WRel.box_new {S : RS} {H : List ABlk} {w : World} (h : WRel S H w) (e : TypeId) (cs : List AV) (arr : Array Value) (hr : rels S cs (shape H) arr.toList) (ho : ∀ u ∈ arr.toList, u.oneCell' = true) :
    WRel (S.put H.length (some (w.heap.size, 0))) (H ++ [.box e cs]) (w.alloc (.cells arr e)) := by
  refine h.new (Chg.alloc w _ _) _ 0 ?_
  refine ⟨w.heap.size, 0, arr, by simp [RS.put], heap_alloc_new w _, rels_put hr, ho, ?_⟩
  refine ⟨fun hd => ?_, fun o => ?_⟩
  · have := (h.prot _ hd).1
    have := h.size
    omega
  · cases hv : S.φ w.heap.size o with
    | none => simpa [RS.put] using hv
    | some v =>
      have := World.block_lt_of_cell? w _ (h.fro _ _ _ hv)
      simp at this

theorem WRel.fresh {S : RS} {H : List ABlk} {w : World} (h : WRel S H w) (p : Option (Nat × Nat)) (id : Nat) : Own (S.put id p) w.heap.size := by
  refine ⟨fun hd => ?_, fun o => ?_⟩
  · have := (h.prot _ hd).1
    have := h.size
    omega
  · cases hv : S.φ w.heap.size o with
    | none => simpa [RS.put] using hv
    | some v =>
      have := World.block_lt_of_cell? w _ (h.fro _ _ _ hv)
      simp at this

end Go.Ab
