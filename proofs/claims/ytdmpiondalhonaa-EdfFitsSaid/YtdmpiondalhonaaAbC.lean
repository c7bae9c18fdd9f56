/- Changes of owned blocks, and what is frozen. -/
import Derived.Test.YtdmpiondalhonaaAbB
namespace Go.Ab
set_option linter.unusedVariables false
set_option linter.unusedSimpArgs false
open Go

theorem shape_set {H : List ABlk} {id : Nat} {b : ABlk} (h : id < H.length) (j : Nat) : shape (H.set id b) j = if j = id then some b.shp else shape H j := by
  unfold shape
  rw [List.getElem?_set]
  by_cases hj : id = j
  · subst hj; simp [h]
  · rw [if_neg hj, if_neg (fun e => hj e.symm)]

theorem get_lt {H : List ABlk} {id : Nat} {b : ABlk} (h : H[id]? = some b) : id < H.length := (List.getElem?_eq_some_iff.1 h).1

theorem shape_get {H : List ABlk} {id : Nat} {b : ABlk} (h : H[id]? = some b) : shape H id = some b.shp := by simp [shape, h]

theorem RS.put_self (S : RS) (id : Nat) : S.put id (S.ρ id) = S := by
  cases S
  simp only [RS.put, RS.mk.injEq, true_and, and_true]
  funext i
  split
  · rename_i h; rw [h]
  · rfl

/-- The same outer form, the same place. -/
theorem Ext.upd {S : RS} {H : List ABlk} {id : Nat} {b b' : ABlk} (hb : H[id]? = some b) (hs : b'.shp = b.shp) : Ext S (shape H) S (shape (H.set id b')) := by
  have : shape (H.set id b') = shape H := by
    funext j
    rw [shape_set (get_lt hb)]
    split
    · rename_i h; rw [h, shape_get hb, hs]
    · rfl
  rw [this]
  exact Ext.refl _ _

/-- A row grows. -/
theorem Ext.grow {S : RS} {H : List ABlk} {id : Nat} {e : TypeId} {sz : Nat} {rows rows' : List (List AV)} (hb : H[id]? = some (.arr e sz rows)) (hl : rows.length < rows'.length) (p : Option (Nat × Nat)) :
    Ext S (shape H) (S.put id p) (shape (H.set id (.arr e sz rows'))) where
  W0 := rfl
  D := rfl
  fro := fun _ _ _ h => h
  fnw := fun _ _ _ h => .inl h
  box := fun j n hn => by
    have hne : j ≠ id := by rintro rfl; rw [shape_get hb] at hn; cases hn
    exact ⟨by rw [shape_set (get_lt hb), if_neg hne]; exact hn, by simp [RS.put, hne]⟩
  mp := fun j hn => by
    have hne : j ≠ id := by rintro rfl; rw [shape_get hb] at hn; cases hn
    exact ⟨by rw [shape_set (get_lt hb), if_neg hne]; exact hn, by simp [RS.put, hne]⟩
  row := fun j m s hn => by
    by_cases hne : j = id
    · subst hne
      rw [shape_get hb] at hn
      simp only [ABlk.shp, Option.some.injEq, Shp.row.injEq] at hn
      obtain ⟨rfl, rfl⟩ := hn
      exact ⟨rows'.length, by rw [shape_set (get_lt hb), if_pos rfl]; rfl, by omega, fun h => by omega⟩
    · exact ⟨m, by rw [shape_set (get_lt hb), if_neg hne]; exact hn, Nat.le_refl _, fun _ => by simp [RS.put, hne]⟩

theorem get_set {H : List ABlk} {id j : Nat} {b b' : ABlk} (h : (H.set id b)[j]? = some b') : (j ≠ id ∧ H[j]? = some b') ∨ (j = id ∧ b' = b) := by
  rw [List.getElem?_set] at h
  split at h
  · rename_i hj
    subst hj
    split at h
    · exact .inr ⟨rfl, (Option.some.inj h).symm⟩
    · cases h
  · rename_i hj; exact .inl ⟨fun e => hj e.symm, h⟩

/-- AN OWNED BLOCK IS SHOWN ANEW, at its place or at a new one. -/
theorem WRel.repl {S : RS} {H : List ABlk} {w w' : World} (h : WRel S H w) {id : Nat} {b b' : ABlk} (hb : H[id]? = some b) (hl : b.live = true) (p : Option (Nat × Nat))
    (c : Chg w w' (fun k => ∃ c, S.ρ id = some (k, c))) (ext : Ext S (shape H) (S.put id p) (shape (H.set id b')))
    (hp : ∀ B c, p = some (B, c) → w.heap.size ≤ B ∨ ∃ c', S.ρ id = some (B, c'))
    (hr : BlkRel (S.put id p) (shape (H.set id b')) b' id w') : WRel (S.put id p) (H.set id b') w' :=
  h.step ext (fun k => ∃ c, S.ρ id = some (k, c)) (· = id) c (fun k _ ⟨c, hc⟩ => (h.place_lt hb hl hc).2) (fun _ _ _ h => .inl h)
    (old := fun j b1 hj hn => by
      rcases get_set hj with ⟨h1, h2⟩ | ⟨h1, _⟩
      · refine ⟨h2, by simp [RS.put, h1], fun B c1 hl1 hB ⟨c2, hc2⟩ => ?_⟩
        exact h1 (h.inj j id b1 b B c1 c2 h2 hb hl1 hl hB hc2)
      · exact absurd h1 hn)
    (new := fun j b1 hj hn => by
      subst hn
      rcases get_set hj with ⟨h1, _⟩ | ⟨_, h1⟩
      · exact absurd rfl h1
      · subst h1; exact hr)
    (inj := fun i j b1 b2 B c0 c1 hi hj li lj hBi hBj hn => by
      subst hn
      rcases get_set hj with ⟨h1, h2⟩ | ⟨h1, _⟩
      · simp only [RS.put, if_true] at hBi
        simp only [RS.put, h1, if_false] at hBj
        rcases hp B c0 hBi with hge | ⟨c', hc'⟩
        · have := (h.place_lt h2 lj hBj).1
          omega
        · exact h.inj i j b b2 B c' c1 hb h2 hl lj hc' hBj
      · exact h1.symm)

theorem rels_grow {S : RS} {H : List ABlk} {id : Nat} {e : TypeId} {sz : Nat} {rows rows' : List (List AV)} (hb : H[id]? = some (.arr e sz rows)) (hl : rows.length < rows'.length) (p : Option (Nat × Nat))
    {c : AV} {v : Value} (h : rel S c (shape H) v) : rel (S.put id p) c (shape (H.set id (.arr e sz rows'))) v := rel_ext _ _ _ _ (Ext.grow hb hl p) h

/-- A box is written. -/
theorem WRel.box_upd {S : RS} {H : List ABlk} {w w' : World} (h : WRel S H w) {id : Nat} {e : TypeId} {cs cs' : List AV} (hb : H[id]? = some (.box e cs)) {B c : Nat} (hρ : S.ρ id = some (B, c))
    (hc : Chg w w' (· = B)) {arr' : Array Value} (hw : w'.heap[B]? = some (.cells arr' e (0, 0))) (hl : cs'.length = cs.length)
    (hr : rels S cs' (shape H) arr'.toList) (ho : ∀ u ∈ arr'.toList, u.oneCell' = true) : WRel S (H.set id (.box e cs')) w' := by
  have hext : Ext S (shape H) S (shape (H.set id (.box e cs'))) := Ext.upd hb (by simp [ABlk.shp, hl])
  have := h.repl (b' := .box e cs') hb rfl (S.ρ id) (hc.mono fun k hk => ⟨c, by rw [hk]; exact hρ⟩) (by rw [RS.put_self]; exact hext) (fun B' c' hp => .inr ⟨c', hp⟩) (by
    rw [RS.put_self]
    exact ⟨B, c, arr', hρ, hw, rels_ext _ _ _ _ hext hr, ho, (h.place_lt hb rfl hρ).2⟩)
  rwa [RS.put_self] at this

/-- What a row's block holds. -/
def RowRel (S : RS) (T : Sh) (sz : Nat) (rows : List (List AV)) (arr : Array Value) : Prop :=
  ∀ (i : Nat) (r : List AV), rows[i]? = some r → r.length = sz ∧ ∀ (j : Nat) (c : AV), r[j]? = some c → ∃ u, arr[i * sz + j]? = some u ∧ rel S c T u ∧ u.oneCell' = true

theorem RowRel.ext {S S' : RS} {T T' : Sh} {sz : Nat} {rows : List (List AV)} {arr : Array Value} (h : RowRel S T sz rows arr) (e : Ext S T S' T') : RowRel S' T' sz rows arr := fun i r hi => by
  obtain ⟨h1, h2⟩ := h i r hi
  refine ⟨h1, fun j c hj => ?_⟩
  obtain ⟨u, k1, k2, k3⟩ := h2 j c hj
  exact ⟨u, k1, rel_ext _ _ _ _ e k2, k3⟩

/-- A row is written, its length staying, or grown where it lies. -/
theorem WRel.arr_upd {S : RS} {H : List ABlk} {w w' : World} (h : WRel S H w) {id : Nat} {e : TypeId} {sz : Nat} {rows rows' : List (List AV)} (hb : H[id]? = some (.arr e sz rows)) {B c : Nat} (hρ : S.ρ id = some (B, c))
    (hc : Chg w w' (· = B)) {arr' : Array Value} (hw : w'.heap[B]? = some (.cells arr' e (0, 0))) (hs : arr'.size = c * sz) (hl : rows.length ≤ rows'.length) (hle : rows'.length ≤ c)
    (hr : RowRel S (shape H) sz rows' arr') : WRel S (H.set id (.arr e sz rows')) w' ∧ Ext S (shape H) S (shape (H.set id (.arr e sz rows'))) := by
  have hext : Ext S (shape H) S (shape (H.set id (.arr e sz rows'))) := by
    rcases Nat.eq_or_lt_of_le hl with he | hlt
    · exact Ext.upd hb (by simp [ABlk.shp, he])
    · have := Ext.grow (S := S) hb hlt (S.ρ id)
      rwa [RS.put_self] at this
  refine ⟨?_, hext⟩
  have := h.repl (b' := .arr e sz rows') hb rfl (S.ρ id) (hc.mono fun k hk => ⟨c, by rw [hk]; exact hρ⟩) (by rw [RS.put_self]; exact hext) (fun B' c' hp => .inr ⟨c', hp⟩) (by
    rw [RS.put_self]
    refine ⟨(h.blk id _ hb).1, ?_⟩
    rw [hρ]
    exact ⟨arr', hw, hs, hle, hr.ext hext, (h.place_lt hb rfl hρ).2⟩)
  rwa [RS.put_self] at this

/-- A row grows at a new place. -/
theorem WRel.arr_move {S : RS} {H : List ABlk} {w w' : World} (h : WRel S H w) {id : Nat} {e : TypeId} {sz : Nat} {rows rows' : List (List AV)} (hb : H[id]? = some (.arr e sz rows)) (c : Nat)
    (hc : Chg w w' (fun _ => False)) {arr' : Array Value} (hw : w'.heap[w.heap.size]? = some (.cells arr' e (0, 0))) (hs : arr'.size = c * sz) (hl : rows.length < rows'.length) (hle : rows'.length ≤ c)
    (hr : RowRel S (shape H) sz rows' arr') : WRel (S.put id (some (w.heap.size, c))) (H.set id (.arr e sz rows')) w' ∧ Ext S (shape H) (S.put id (some (w.heap.size, c))) (shape (H.set id (.arr e sz rows'))) := by
  have hext := Ext.grow hb hl (some (w.heap.size, c)) (S := S)
  refine ⟨?_, hext⟩
  refine h.repl (b' := .arr e sz rows') hb rfl _ (hc.mono fun k hk => hk.elim) hext (fun B' c' hp => .inl (by simp at hp; omega)) ?_
  refine ⟨(h.blk id _ hb).1, ?_⟩
  simp only [RS.put, if_true]
  exact ⟨arr', hw, hs, hle, hr.ext hext, h.fresh _ _⟩

/-- A new row. -/
theorem WRel.arr_new {S : RS} {H : List ABlk} {w w' : World} (h : WRel S H w) (e : TypeId) (sz : Nat) (rows : List (List AV)) (c : Nat) (h0 : 0 < sz)
    (hc : Chg w w' (fun _ => False)) {arr' : Array Value} (hw : w'.heap[w.heap.size]? = some (.cells arr' e (0, 0))) (hs : arr'.size = c * sz) (hle : rows.length ≤ c)
    (hr : RowRel S (shape H) sz rows arr') : WRel (S.put H.length (some (w.heap.size, c))) (H ++ [.arr e sz rows]) w' ∧ Ext S (shape H) (S.put H.length (some (w.heap.size, c))) (shape (H ++ [.arr e sz rows])) := by
  have hext := Ext.put_new S H (.arr e sz rows) (some (w.heap.size, c))
  refine ⟨h.new hc _ c ?_, hext⟩
  refine ⟨h0, ?_⟩
  simp only [RS.put, if_true]
  exact ⟨arr', hw, hs, hle, hr.ext hext, h.fresh _ _⟩

/-- A row that has no place as yet. -/
theorem WRel.arr_none {S : RS} {H : List ABlk} {w : World} (h : WRel S H w) (e : TypeId) (sz : Nat) (h0 : 0 < sz) : WRel (S.put H.length none) (H ++ [.arr e sz []]) w ∧ Ext S (shape H) (S.put H.length none) (shape (H ++ [.arr e sz []])) := by
  have hext := Ext.put_new S H (.arr e sz []) none
  refine ⟨h.step hext (fun _ => False) (· = H.length) (Chg.refl w _) (fun _ _ h => h.elim) (fun _ _ _ h => .inl h) (old := fun id b' hb' hn => ?_) (new := fun id b' hb' hn => ?_) (inj := fun i j b1 b2 B c0 c1 hi hj li lj hBi hBj hn => ?_), hext⟩
  · rcases get_append_one hb' with ⟨h1, h2⟩ | ⟨h1, _⟩
    · exact ⟨h2, by simp [RS.put]; omega, fun _ _ _ _ h => h⟩
    · exact absurd h1 hn
  · subst hn
    rcases get_append_one hb' with ⟨h1, _⟩ | ⟨_, h1⟩
    · omega
    · subst h1; exact ⟨h0, by simp [RS.put]⟩
  · subst hn
    simp [RS.put] at hBi

/-! ### freezing -/
open Classical in
/-- What the blocks of `F` hold in `w` is frozen. -/
noncomputable def RS.frz (S : RS) (w : World) (F : Nat → Bool) (H : List ABlk) : RS :=
  { S with φ := fun B o => if ∃ id c b, F id = true ∧ H[id]? = some b ∧ b.live = true ∧ S.ρ id = some (B, c) then w.cell? ⟨B, o, none⟩ else S.φ B o }

def frzP (H : List ABlk) : Nat → AV → AV
  | 0, _ => .junk
  | _ + 1, .int k n => .int k n
  | _ + 1, .bool b => .bool b
  | _ + 1, .sb b => .sb b
  | _ + 1, .str s => .str s
  | _ + 1, .nilp => .nilp
  | _ + 1, .iptr cs => .iptr cs
  | _ + 1, .nils => .nils
  | _ + 1, .inl sz rows => .inl sz rows
  | _ + 1, .nilf => .nilf
  | _ + 1, .nili => .nili
  | _ + 1, .nilm => .nilm
  | _ + 1, .junk => .junk
  | _ + 1, .map _ => .junk
  | k + 1, .ptr id _ r o => match H[id]? with
    | some (.arr _ _ rows) => match rows[r]? with
      | some row => .iptr ((row.drop o).map (frzP H k))
      | none => .junk
    | _ => .junk
  | k + 1, .bptr id o => match H[id]? with
    | some (.box _ cs) => .iptr ((cs.drop o).map (frzP H k))
    | _ => .junk
  | k + 1, .sl id _ o n => match H[id]? with
    | some (.arr _ sz rows) => .inl sz (((rows.drop o).take n).map fun r => r.map (frzP H k))
    | _ => .junk
  | k + 1, .fn f a b => .fn f (a.map (frzP H k)) (b.map (frzP H k))
  | k + 1, .iface t x => .iface t (frzP H k x)
  | k + 1, .agg cs => .agg (cs.map (frzP H k))
  | k + 1, .tup cs => .tup (cs.map (frzP H k))

/-- What must hold for that: no stale part, nothing that stays owned. -/
def frzV (F : Nat → Bool) (H : List ABlk) : Nat → AV → Prop
  | 0, _ => True
  | k + 1, .ptr id t r o => match H[id]? with
    | some (.arr _ _ rows) => F id = true ∧ t = rows.length ∧ ∀ row, rows[r]? = some row → ∀ c ∈ row.drop o, frzV F H k c
    | _ => True
  | k + 1, .bptr id o => match H[id]? with
    | some (.box _ cs) => F id = true ∧ ∀ c ∈ cs.drop o, frzV F H k c
    | _ => True
  | k + 1, .sl id t o n => match H[id]? with
    | some (.arr _ _ rows) => F id = true ∧ t = rows.length ∧ ∀ row ∈ (rows.drop o).take n, ∀ c ∈ row, frzV F H k c
    | _ => True
  | k + 1, .fn _ a b => (∀ c ∈ a, frzV F H k c) ∧ ∀ c ∈ b, frzV F H k c
  | k + 1, .iface _ x => frzV F H k x
  | k + 1, .agg cs => ∀ c ∈ cs, frzV F H k c
  | k + 1, .tup cs => ∀ c ∈ cs, frzV F H k c
  | _ + 1, _ => True

theorem rels_map {S S' : RS} {T T' : Sh} (f : AV → AV) : ∀ {cs : List AV} {vs : List Value}, rels S cs T vs → (∀ c ∈ cs, ∀ v, rel S c T v → rel S' (f c) T' v) → rels S' (cs.map f) T' vs
  | [], vs, h, _ => by simpa [rels] using h
  | c :: cs, vs, h, hf => by
    simp only [rels] at h
    obtain ⟨v, vs', rfl, h2, h3⟩ := h
    simp only [List.map_cons, rels]
    exact ⟨v, vs', rfl, hf c (by simp) v h2, rels_map f h3 (fun c hc => hf c (by simp [hc]))⟩

theorem frz_fro {S : RS} {H : List ABlk} {w : World} (h : WRel S H w) (F : Nat → Bool) : ∀ B o v, S.φ B o = some v → (S.frz w F H).φ B o = some v := fun B o v hv => by
  simp only [RS.frz]
  split
  · rename_i hx
    obtain ⟨id, c, b, _, hb, hl, hρ⟩ := hx
    have := (h.place_lt hb hl hρ).2.2 o
    rw [hv] at this
    cases this
  · exact hv

theorem frz_fnw {S : RS} {H : List ABlk} {w : World} (h : WRel S H w) (F : Nat → Bool) : ∀ B o v, (S.frz w F H).φ B o = some v → S.φ B o = some v ∨ ¬ S.D B := fun B o v hv => by
  simp only [RS.frz] at hv
  split at hv
  · rename_i hx
    obtain ⟨id, c, b, _, hb, hl, hρ⟩ := hx
    exact .inr (h.place_lt hb hl hρ).2.1
  · exact .inl hv

theorem frz_cell {S : RS} {H : List ABlk} {w : World} {F : Nat → Bool} {id : Nat} {b : ABlk} (hF : F id = true) (hb : H[id]? = some b) (hl : b.live = true) {B c : Nat} (hρ : S.ρ id = some (B, c)) (o : Nat) :
    (S.frz w F H).φ B o = w.cell? ⟨B, o, none⟩ := by
  simp only [RS.frz]
  rw [if_pos ⟨id, c, b, hF, hb, hl, hρ⟩]

theorem frz_ext {S : RS} {H : List ABlk} {w : World} (h : WRel S H w) (F : Nat → Bool) : Ext S noSh (S.frz w F H) noSh :=
  ⟨rfl, rfl, frz_fro h F, frz_fnw h F, fun _ _ h => (by cases h), fun _ h => (by cases h), fun _ _ _ h => (by cases h)⟩

theorem frzP_rel {S : RS} {H : List ABlk} {w : World} (h : WRel S H w) (F : Nat → Bool) : ∀ (k : Nat) (c : AV) (v : Value), frzV F H k c → rel S c (shape H) v → rel (S.frz w F H) (frzP H k c) noSh v := by
  intro k
  induction k with
  | zero => intro c v _ _; simp [frzP, rel]
  | succ k ih =>
    intro c v hv hr
    cases c with
    | int => exact hr
    | bool => exact hr
    | sb => exact hr
    | str => exact hr
    | nilp => exact hr
    | nils => exact hr
    | nilf => exact hr
    | nili => exact hr
    | nilm => exact hr
    | junk => trivial
    | map id => simp [frzP, rel]
    | iptr cs =>
      simp only [frzP, rel] at hr ⊢
      obtain ⟨B, o, h1, h2⟩ := hr
      exact ⟨B, o, h1, fz_ext cs B o (frz_ext h F) h2⟩
    | inl sz rows =>
      simp only [frzP, rel] at hr ⊢
      obtain ⟨a, c, h1, h2, h3⟩ := hr
      refine ⟨a, c, h1, h2, ?_⟩
      rcases h3 with h3 | ⟨B, o, h3, h4⟩
      · exact .inl h3
      · exact .inr ⟨B, o, h3, fzs_ext rows B o sz (frz_ext h F) h4⟩
    | ptr id t r o =>
      simp only [frzP]
      cases hb : H[id]? with
      | none => simp [rel]
      | some b =>
        cases b with
        | box => simp [rel]
        | dead => simp [rel]
        | mpb => simp [rel]
        | arr e sz rows =>
          simp only
          cases hrow : rows[r]? with
          | none => simp [rel]
          | some row =>
            simp only
            simp only [frzV, hb] at hv
            obtain ⟨hF, ht, hc⟩ := hv
            simp only [rel] at hr
            obtain ⟨m, sz', B, o', h1, h2, g2, h3⟩ := hr
            rw [shape_get hb] at h1
            simp only [ABlk.shp, Option.some.injEq, Shp.row.injEq] at h1
            obtain ⟨rfl, rfl⟩ := h1
            obtain ⟨c, g1, rfl⟩ := h3 ht
            obtain ⟨_, hblk⟩ := h.blk id _ hb
            rw [g1] at hblk
            obtain ⟨arr, k1, k2, k3, k4, k5⟩ := hblk
            obtain ⟨m1, m2⟩ := k4 r row hrow
            simp only [rel]
            refine ⟨B, _, g2, fz_of_get fun j c' hj => ?_⟩
            rw [List.getElem?_map] at hj
            obtain ⟨c0, hc0, rfl⟩ := Option.map_eq_some_iff.1 hj
            have hmem : c0 ∈ row.drop o := List.mem_of_getElem? hc0
            rw [List.getElem?_drop] at hc0
            obtain ⟨u, n1, n2, n3⟩ := m2 _ _ hc0
            refine ⟨u, ?_, ih c0 u (hc row hrow c0 hmem) n2, n3⟩
            rw [frz_cell hF hb rfl g1]
            simp only [World.cell?, k1]
            simpa [Nat.add_assoc] using n1
    | bptr id o =>
      simp only [frzP]
      cases hb : H[id]? with
      | none => simp [rel]
      | some b =>
        cases b with
        | arr => simp [rel]
        | dead => simp [rel]
        | mpb => simp [rel]
        | box e cs =>
          simp only
          simp only [frzV, hb] at hv
          obtain ⟨hF, hc⟩ := hv
          simp only [rel] at hr
          obtain ⟨n, B, c, h1, h2, h3⟩ := hr
          obtain ⟨B', c', arr, g1, g2, g3, g4, g5⟩ := h.blk id _ hb
          rw [h2] at g1
          injection g1 with g1
          injection g1 with g1 g1'
          subst g1
          simp only [rel]
          refine ⟨B, o, h3, fz_of_get fun j c' hj => ?_⟩
          rw [List.getElem?_map] at hj
          obtain ⟨c0, hc0, rfl⟩ := Option.map_eq_some_iff.1 hj
          have hmem : c0 ∈ cs.drop o := List.mem_of_getElem? hc0
          rw [List.getElem?_drop] at hc0
          obtain ⟨u, n1, n2⟩ := rels_get g3 hc0
          refine ⟨u, ?_, ih c0 u (hc c0 hmem) n2, g4 u (List.mem_of_getElem? n1)⟩
          rw [frz_cell hF hb rfl h2]
          simp only [World.cell?, g2]
          simpa using n1
    | sl id t o n =>
      simp only [frzP]
      cases hb : H[id]? with
      | none => simp [rel]
      | some b =>
        cases b with
        | box => simp [rel]
        | dead => simp [rel]
        | mpb => simp [rel]
        | arr e sz rows =>
          simp only
          simp only [frzV, hb] at hv
          obtain ⟨hF, ht, hc⟩ := hv
          simp only [rel] at hr
          obtain ⟨m, sz', h1, h2, _, h3⟩ := hr
          rw [shape_get hb] at h1
          simp only [ABlk.shp, Option.some.injEq, Shp.row.injEq] at h1
          obtain ⟨rfl, rfl⟩ := h1
          obtain ⟨hon, h3⟩ := h3 ht
          obtain ⟨_, hblk⟩ := h.blk id _ hb
          cases hρ : S.ρ id with
          | none =>
            rw [hρ] at h3
            obtain ⟨rfl, a, rfl⟩ := h3
            simp only [rel]
            exact ⟨a, 0, by simp, by simp, .inl (by simp)⟩
          | some p =>
            obtain ⟨B, c⟩ := p
            rw [hρ] at h3 hblk
            obtain ⟨a, h4, h5⟩ := h3
            obtain ⟨arr, k1, k2, k3, k4, k5⟩ := hblk
            have hlen : (((rows.drop o).take n).map fun r => r.map (frzP H k)).length = n := by simp; omega
            simp only [rel]
            refine ⟨a, c - o, by rw [hlen]; exact h4, by rw [hlen]; omega, ?_⟩
            rcases Nat.eq_zero_or_pos n with hn | hn
            · exact .inl (List.eq_nil_of_length_eq_zero (by rw [hlen]; exact hn))
            · refine .inr ⟨B, o * sz, h5 (by omega), fzs_of_get fun i r hi => ?_⟩
              rw [List.getElem?_map] at hi
              obtain ⟨r0, hr0, rfl⟩ := Option.map_eq_some_iff.1 hi
              have hmem : r0 ∈ (rows.drop o).take n := List.mem_of_getElem? hr0
              rw [List.getElem?_take] at hr0
              split at hr0
              · rename_i hin
                rw [List.getElem?_drop] at hr0
                obtain ⟨m1, m2⟩ := k4 _ _ hr0
                refine ⟨by simpa using m1, fz_of_get fun j c' hj => ?_⟩
                rw [List.getElem?_map] at hj
                obtain ⟨c0, hc0, rfl⟩ := Option.map_eq_some_iff.1 hj
                obtain ⟨u, n1, n2, n3⟩ := m2 _ _ hc0
                refine ⟨u, ?_, ih c0 u (hc r0 hmem c0 (List.mem_of_getElem? hc0)) n2, n3⟩
                rw [frz_cell hF hb rfl hρ]
                simp only [World.cell?, k1]
                rw [← n1, Nat.add_mul]
                simp
              · cases hr0
    | fn f a b =>
      simp only [frzP, rel] at hr ⊢
      simp only [frzV] at hv
      obtain ⟨x, y, h1, h2, h3⟩ := hr
      exact ⟨x, y, h1, rels_map _ h2 (fun c hc u hu => ih c u (hv.1 c hc) hu), rels_map _ h3 (fun c hc u hu => ih c u (hv.2 c hc) hu)⟩
    | iface t x =>
      simp only [frzP, rel] at hr ⊢
      obtain ⟨u, h1, h2⟩ := hr
      exact ⟨u, h1, ih x u hv h2⟩
    | agg cs =>
      simp only [frzP, rel] at hr ⊢
      obtain ⟨us, h1, h2, h3⟩ := hr
      exact ⟨us, h1, rels_map _ h2 (fun c hc u hu => ih c u (hv c hc) hu), h3⟩
    | tup cs =>
      simp only [frzP, rel] at hr ⊢
      obtain ⟨us, h1, h2⟩ := hr
      exact ⟨us, h1, rels_map _ h2 (fun c hc u hu => ih c u (hv c hc) hu)⟩

end Go.Ab
