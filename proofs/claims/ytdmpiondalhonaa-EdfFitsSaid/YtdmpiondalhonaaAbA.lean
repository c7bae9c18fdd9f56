/- Abstract values and heaps over the model's memory: what a value of the abstract machine says of a value of the model. -/
import Derived.WalkKit
namespace Go.Ab
set_option linter.unusedVariables false
set_option linter.unusedSimpArgs false
open Go

inductive AV where
  | int (k : IntKind) (n : Int)
  | bool (b : Bool)
  | sb (b : Bool)
  | str (s : ByteArray)
  | nilp
  | ptr (id tot row off : Nat)
  | bptr (id off : Nat)
  | iptr (cells : List AV)
  | nils
  | sl (id tot off len : Nat)
  | inl (sz : Nat) (rows : List (List AV))
  | fn (f : Fn) (first cap : List AV)
  | nilf
  | iface (t : TypeId) (v : AV)
  | nili
  | agg (cs : List AV)
  | tup (vs : List AV)
  | map (id : Nat)
  | nilm
  | junk
  deriving Inhabited

/-- What is known of a block's outer form. -/
inductive Shp where
  | row (m sz : Nat)
  | box (n : Nat)
  | mp
  deriving DecidableEq

structure RS where
  W0 : World
  D : Nat → Prop
  ρ : Nat → Option (Nat × Nat)
  φ : Nat → Nat → Option Value

abbrev Sh := Nat → Option Shp
def noSh : Sh := fun _ => none

mutual
def rel (S : RS) : AV → Sh → Value → Prop
  | .int k n, _, v => v = .int k n
  | .bool b, _, v => v = .bool b
  | .sb b, _, v => v = .bool b
  | .str s, _, v => v = .string s
  | .nilp, _, v => v = .pointer none
  | .ptr id t r o, T, v => ∃ m sz B' o', T id = some (.row m sz) ∧ t ≤ m ∧ v = .pointer (some ⟨B', o', none⟩) ∧ (t = m → ∃ c, S.ρ id = some (B', c) ∧ o' = r * sz + o)
  | .bptr id o, T, v => ∃ n B c, T id = some (.box n) ∧ S.ρ id = some (B, c) ∧ v = .pointer (some ⟨B, o, none⟩)
  | .iptr cs, _, v => ∃ B o, v = .pointer (some ⟨B, o, none⟩) ∧ fz S B o cs
  | .nils, _, v => ∃ a, v = .slice a 0 0
  | .sl id t o n, T, v => ∃ m sz, T id = some (.row m sz) ∧ t ≤ m ∧ v.oneCell' = true ∧ (t = m → o + n ≤ m ∧
      match S.ρ id with
      | some (B, c) => ∃ a, v = .slice a n (c - o) ∧ (o < c → a = some ⟨B, o * sz, none⟩)
      | none => n = 0 ∧ ∃ a, v = .slice a 0 0)
  | .inl sz rows, _, v => ∃ a c, v = .slice a rows.length c ∧ rows.length ≤ c ∧ (rows = [] ∨ ∃ B o, a = some ⟨B, o, none⟩ ∧ fzs S B o sz rows)
  | .fn f fi ca, T, v => ∃ a b, v = .func f a b ∧ rels S fi T a.toList ∧ rels S ca T b.toList
  | .nilf, _, v => v = .nilFunc
  | .iface t x, T, v => ∃ u, v = .iface t u ∧ rel S x T u
  | .nili, _, v => v = .nilIface
  | .agg cs, T, v => ∃ us, v = .agg us ∧ rels S cs T us.toList ∧ ∀ u ∈ us.toList, u.oneCell' = true
  | .tup cs, T, v => ∃ us, v = .tuple us ∧ rels S cs T us.toList
  | .map id, T, v => ∃ B c, T id = some .mp ∧ S.ρ id = some (B, c) ∧ v = .map (some B)
  | .nilm, _, v => v = .map none
  | .junk, _, _ => True
def rels (S : RS) : List AV → Sh → List Value → Prop
  | [], _, vs => vs = []
  | c :: cs, T, vs => ∃ v vs', vs = v :: vs' ∧ rel S c T v ∧ rels S cs T vs'
def fz (S : RS) (B o : Nat) : List AV → Prop
  | [] => True
  | c :: cs => (∃ v, S.φ B o = some v ∧ rel S c noSh v ∧ v.oneCell' = true) ∧ fz S B (o + 1) cs
def fzs (S : RS) (B o sz : Nat) : List (List AV) → Prop
  | [] => True
  | r :: rs => r.length = sz ∧ fz S B o r ∧ fzs S B (o + sz) sz rs
end

/-- A later state: what is frozen stays, what is owned stays or grows. -/
structure Ext (S : RS) (T : Sh) (S' : RS) (T' : Sh) : Prop where
  W0 : S'.W0 = S.W0
  D : S'.D = S.D
  fro : ∀ B o v, S.φ B o = some v → S'.φ B o = some v
  fnw : ∀ B o v, S'.φ B o = some v → S.φ B o = some v ∨ ¬ S.D B
  box : ∀ id n, T id = some (.box n) → T' id = some (.box n) ∧ S'.ρ id = S.ρ id
  mp : ∀ id, T id = some .mp → T' id = some .mp ∧ S'.ρ id = S.ρ id
  row : ∀ id m sz, T id = some (.row m sz) → ∃ m', T' id = some (.row m' sz) ∧ m ≤ m' ∧ (m' = m → S'.ρ id = S.ρ id)

theorem Ext.refl (S : RS) (T : Sh) : Ext S T S T :=
  ⟨rfl, rfl, fun _ _ _ h => h, fun _ _ _ h => .inl h, fun _ _ h => ⟨h, rfl⟩, fun _ h => ⟨h, rfl⟩, fun _ m _ h => ⟨m, h, Nat.le_refl _, fun _ => rfl⟩⟩

theorem Ext.trans {S S' S'' : RS} {T T' T'' : Sh} (h : Ext S T S' T') (k : Ext S' T' S'' T'') : Ext S T S'' T'' where
  W0 := k.W0.trans h.W0
  D := k.D.trans h.D
  fro := fun B o v hv => k.fro B o v (h.fro B o v hv)
  fnw := fun B o v hv => by
    rcases k.fnw B o v hv with h1 | h1
    · exact h.fnw B o v h1
    · exact .inr (by rwa [h.D] at h1)
  box := fun id n hn => by
    obtain ⟨a, b⟩ := h.box id n hn
    obtain ⟨c, d⟩ := k.box id n a
    exact ⟨c, d.trans b⟩
  mp := fun id hn => by
    obtain ⟨a, b⟩ := h.mp id hn
    obtain ⟨c, d⟩ := k.mp id a
    exact ⟨c, d.trans b⟩
  row := fun id m sz hn => by
    obtain ⟨m1, a, b, c⟩ := h.row id m sz hn
    obtain ⟨m2, d, e, f⟩ := k.row id m1 sz a
    refine ⟨m2, d, Nat.le_trans b e, fun h2 => ?_⟩
    have h3 : m2 = m1 := by omega
    have h4 : m1 = m := by omega
    exact (f h3).trans (c h4)

theorem Ext.noSh {S S' : RS} {T T' : Sh} (h : Ext S T S' T') : Ext S noSh S' noSh :=
  ⟨h.W0, h.D, h.fro, h.fnw, fun _ _ h => (by cases h), fun _ h => (by cases h), fun _ _ _ h => (by cases h)⟩

/-- The part of it that values ask for. -/
structure Ext0 (S : RS) (T : Sh) (S' : RS) (T' : Sh) : Prop where
  fro : ∀ B o v, S.φ B o = some v → S'.φ B o = some v
  box : ∀ id n, T id = some (.box n) → T' id = some (.box n) ∧ S'.ρ id = S.ρ id
  mp : ∀ id, T id = some .mp → T' id = some .mp ∧ S'.ρ id = S.ρ id
  row : ∀ id m sz, T id = some (.row m sz) → ∃ m', T' id = some (.row m' sz) ∧ m ≤ m' ∧ (m' = m → S'.ρ id = S.ρ id)
theorem Ext0.noSh {S S' : RS} {T T' : Sh} (h : Ext0 S T S' T') : Ext0 S noSh S' noSh :=
  ⟨h.fro, fun _ _ h => (by cases h), fun _ h => (by cases h), fun _ _ _ h => (by cases h)⟩
theorem Ext.zero {S S' : RS} {T T' : Sh} (h : Ext S T S' T') : Ext0 S T S' T' := ⟨h.fro, h.box, h.mp, h.row⟩

mutual
theorem rel_ext0 {S S' : RS} : ∀ (c : AV) (T T' : Sh) (v : Value), Ext0 S T S' T' → rel S c T v → rel S' c T' v
  | .int .., _, _, _, _, h => h
  | .bool .., _, _, _, _, h => h
  | .sb .., _, _, _, _, h => h
  | .str .., _, _, _, _, h => h
  | .nilp, _, _, _, _, h => h
  | .nils, _, _, _, _, h => h
  | .nilf, _, _, _, _, h => h
  | .nili, _, _, _, _, h => h
  | .nilm, _, _, _, _, h => h
  | .junk, _, _, _, _, _ => trivial
  | .ptr id t r o, T, T', v, e, h => by
    simp only [rel] at h ⊢
    obtain ⟨m, sz, B', o', h1, h2, h0, h3⟩ := h
    obtain ⟨m', g1, g2, g3⟩ := e.row id m sz h1
    refine ⟨m', sz, B', o', g1, by omega, h0, fun ht => ?_⟩
    have hm : m' = m := by omega
    obtain ⟨c, k1, k2⟩ := h3 (by omega)
    exact ⟨c, (g3 hm).trans k1, k2⟩
  | .bptr id o, T, T', v, e, h => by
    simp only [rel] at h ⊢
    obtain ⟨n, B, c, h1, h2, h3⟩ := h
    obtain ⟨g1, g2⟩ := e.box id n h1
    exact ⟨n, B, c, g1, g2.trans h2, h3⟩
  | .iptr cs, T, T', v, e, h => by
    simp only [rel] at h ⊢
    obtain ⟨B, o, h1, h2⟩ := h
    exact ⟨B, o, h1, fz_ext0 cs B o e.noSh h2⟩
  | .sl id t o n, T, T', v, e, h => by
    simp only [rel] at h ⊢
    obtain ⟨m, sz, h1, h2, h0, h3⟩ := h
    obtain ⟨m', g1, g2, g3⟩ := e.row id m sz h1
    refine ⟨m', sz, g1, by omega, h0, fun ht => ?_⟩
    have hm : m' = m := by omega
    obtain ⟨k1, k2⟩ := h3 (by omega)
    rw [g3 hm]
    exact ⟨by omega, k2⟩
  | .inl sz rows, T, T', v, e, h => by
    simp only [rel] at h ⊢
    obtain ⟨a, c, h1, h2, h3⟩ := h
    refine ⟨a, c, h1, h2, ?_⟩
    rcases h3 with h3 | ⟨B, o, h3, h4⟩
    · exact .inl h3
    · exact .inr ⟨B, o, h3, fzs_ext0 rows B o sz e.noSh h4⟩
  | .fn f fi ca, T, T', v, e, h => by
    simp only [rel] at h ⊢
    obtain ⟨a, b, h1, h2, h3⟩ := h
    exact ⟨a, b, h1, rels_ext0 fi T T' _ e h2, rels_ext0 ca T T' _ e h3⟩
  | .iface t x, T, T', v, e, h => by
    simp only [rel] at h ⊢
    obtain ⟨u, h1, h2⟩ := h
    exact ⟨u, h1, rel_ext0 x T T' u e h2⟩
  | .agg cs, T, T', v, e, h => by
    simp only [rel] at h ⊢
    obtain ⟨us, h1, h2, h3⟩ := h
    exact ⟨us, h1, rels_ext0 cs T T' _ e h2, h3⟩
  | .tup cs, T, T', v, e, h => by
    simp only [rel] at h ⊢
    obtain ⟨us, h1, h2⟩ := h
    exact ⟨us, h1, rels_ext0 cs T T' _ e h2⟩
  | .map id, T, T', v, e, h => by
    simp only [rel] at h ⊢
    obtain ⟨B, c, h1, h2, h3⟩ := h
    obtain ⟨g1, g2⟩ := e.mp id h1
    exact ⟨B, c, g1, g2.trans h2, h3⟩
theorem rels_ext0 {S S' : RS} : ∀ (cs : List AV) (T T' : Sh) (vs : List Value), Ext0 S T S' T' → rels S cs T vs → rels S' cs T' vs
  | [], _, _, _, _, h => h
  | c :: cs, T, T', vs, e, h => by
    simp only [rels] at h ⊢
    obtain ⟨v, vs', h1, h2, h3⟩ := h
    exact ⟨v, vs', h1, rel_ext0 c T T' v e h2, rels_ext0 cs T T' vs' e h3⟩
theorem fz_ext0 {S S' : RS} : ∀ (cs : List AV) (B o : Nat), Ext0 S noSh S' noSh → fz S B o cs → fz S' B o cs
  | [], _, _, _, _ => trivial
  | c :: cs, B, o, e, h => by
    simp only [fz] at h ⊢
    obtain ⟨⟨v, h1, h2, h3⟩, h4⟩ := h
    exact ⟨⟨v, e.fro _ _ _ h1, rel_ext0 c noSh noSh v e h2, h3⟩, fz_ext0 cs B (o + 1) e h4⟩
theorem fzs_ext0 {S S' : RS} : ∀ (rs : List (List AV)) (B o sz : Nat), Ext0 S noSh S' noSh → fzs S B o sz rs → fzs S' B o sz rs
  | [], _, _, _, _, _ => trivial
  | r :: rs, B, o, sz, e, h => by
    simp only [fzs] at h ⊢
    obtain ⟨h1, h2, h3⟩ := h
    exact ⟨h1, fz_ext0 r B o e h2, fzs_ext0 rs B (o + sz) sz e h3⟩
end

theorem rel_ext {S S' : RS} (c : AV) (T T' : Sh) (v : Value) (e : Ext S T S' T') (h : rel S c T v) : rel S' c T' v := rel_ext0 c T T' v e.zero h
theorem rels_ext {S S' : RS} (cs : List AV) (T T' : Sh) (vs : List Value) (e : Ext S T S' T') (h : rels S cs T vs) : rels S' cs T' vs := rels_ext0 cs T T' vs e.zero h
theorem fz_ext {S S' : RS} (cs : List AV) (B o : Nat) (e : Ext S noSh S' noSh) (h : fz S B o cs) : fz S' B o cs := fz_ext0 cs B o e.zero h
theorem fzs_ext {S S' : RS} (rs : List (List AV)) (B o sz : Nat) (e : Ext S noSh S' noSh) (h : fzs S B o sz rs) : fzs S' B o sz rs := fzs_ext0 rs B o sz e.zero h

/-! ### lists of values -/
theorem rels_length {S : RS} {T : Sh} : ∀ {cs : List AV} {vs : List Value}, rels S cs T vs → vs.length = cs.length
  | [], vs, h => by simp only [rels] at h; simp [h]
  | c :: cs, vs, h => by
    simp only [rels] at h
    obtain ⟨v, vs', rfl, _, h3⟩ := h
    simp [rels_length h3]

theorem rels_get {S : RS} {T : Sh} : ∀ {cs : List AV} {vs : List Value} (_ : rels S cs T vs) {i : Nat} {c : AV}, cs[i]? = some c → ∃ v, vs[i]? = some v ∧ rel S c T v
  | [], vs, h, i, c, hc => by simp at hc
  | c0 :: cs, vs, h, i, c, hc => by
    simp only [rels] at h
    obtain ⟨v, vs', rfl, h2, h3⟩ := h
    cases i with
    | zero => simp at hc; subst hc; exact ⟨v, by simp, h2⟩
    | succ i => simp at hc; simpa using rels_get h3 hc

theorem rels_set {S : RS} {T : Sh} : ∀ {cs : List AV} {vs : List Value} (_ : rels S cs T vs) (i : Nat) {c : AV} {v : Value}, rel S c T v → rels S (cs.set i c) T (vs.set i v)
  | [], vs, h, i, c, v, hc => by simp only [rels] at h; subst h; simp [rels]
  | c0 :: cs, vs, h, i, c, v, hc => by
    simp only [rels] at h
    obtain ⟨v0, vs', rfl, h2, h3⟩ := h
    cases i with
    | zero => simp only [List.set_cons_zero, rels]; exact ⟨v, vs', rfl, hc, h3⟩
    | succ i => simp only [List.set_cons_succ, rels]; exact ⟨v0, _, rfl, h2, rels_set h3 i hc⟩

theorem rels_append {S : RS} {T : Sh} : ∀ {cs ds : List AV} {vs us : List Value}, rels S cs T vs → rels S ds T us → rels S (cs ++ ds) T (vs ++ us)
  | [], ds, vs, us, h, k => by simp only [rels] at h; subst h; simpa using k
  | c :: cs, ds, vs, us, h, k => by
    simp only [rels] at h
    obtain ⟨v, vs', rfl, h2, h3⟩ := h
    simp only [List.cons_append, rels]
    exact ⟨v, vs' ++ us, rfl, h2, rels_append h3 k⟩

theorem rels_of_get {S : RS} {T : Sh} : ∀ {cs : List AV} {vs : List Value}, vs.length = cs.length → (∀ (i : Nat) (c : AV), cs[i]? = some c → ∃ v, vs[i]? = some v ∧ rel S c T v) → rels S cs T vs
  | [], vs, hl, _ => by simp only [rels]; exact List.eq_nil_of_length_eq_zero (by simpa using hl)
  | c :: cs, [], hl, _ => by simp at hl
  | c :: cs, v :: vs, hl, h => by
    simp only [rels]
    obtain ⟨v', h1, h2⟩ := h 0 c (by simp)
    simp at h1
    subst h1
    exact ⟨v, vs, rfl, h2, rels_of_get (by simpa using hl) (fun i c' hc => by simpa using h (i + 1) c' (by simpa using hc))⟩

theorem rels_take {S : RS} {T : Sh} {cs : List AV} {vs : List Value} (h : rels S cs T vs) (n : Nat) : rels S (cs.take n) T (vs.take n) :=
  rels_of_get (by simp [rels_length h]) (fun i c hc => by
    rw [List.getElem?_take] at hc ⊢
    split at hc
    · rename_i hi; rw [if_pos hi]; exact rels_get h hc
    · cases hc)

theorem rels_drop {S : RS} {T : Sh} {cs : List AV} {vs : List Value} (h : rels S cs T vs) (n : Nat) : rels S (cs.drop n) T (vs.drop n) :=
  rels_of_get (by simp [rels_length h]) (fun i c hc => by
    rw [List.getElem?_drop] at hc ⊢
    exact rels_get h hc)

/-! ### frozen cells -/
theorem fz_get {S : RS} : ∀ {cs : List AV} {B o : Nat} (_ : fz S B o cs) {j : Nat} {c : AV}, cs[j]? = some c → ∃ v, S.φ B (o + j) = some v ∧ rel S c noSh v ∧ v.oneCell' = true
  | [], _, _, _, j, c, hc => by simp at hc
  | c0 :: cs, B, o, h, j, c, hc => by
    simp only [fz] at h
    obtain ⟨⟨v, h1, h2, h3⟩, h4⟩ := h
    cases j with
    | zero => simp at hc; subst hc; exact ⟨v, by simpa using h1, h2, h3⟩
    | succ j =>
      simp at hc
      obtain ⟨u, g1, g2⟩ := fz_get h4 hc
      exact ⟨u, by rw [← g1]; congr 1; omega, g2⟩

theorem fz_of_get {S : RS} : ∀ {cs : List AV} {B o : Nat}, (∀ (j : Nat) (c : AV), cs[j]? = some c → ∃ v, S.φ B (o + j) = some v ∧ rel S c noSh v ∧ v.oneCell' = true) → fz S B o cs
  | [], _, _, _ => trivial
  | c :: cs, B, o, h => by
    simp only [fz]
    refine ⟨by simpa using h 0 c (by simp), fz_of_get (fun j c' hc => ?_)⟩
    obtain ⟨v, h1, h2⟩ := h (j + 1) c' (by simpa using hc)
    exact ⟨v, by rw [← h1]; congr 1; omega, h2⟩

theorem fz_drop {S : RS} {cs : List AV} {B o : Nat} (h : fz S B o cs) (n : Nat) : fz S B (o + n) (cs.drop n) :=
  fz_of_get fun j c hc => by
    rw [List.getElem?_drop] at hc
    obtain ⟨v, h1, h2⟩ := fz_get h hc
    exact ⟨v, by rw [← h1]; congr 1; omega, h2⟩

theorem fzs_get {S : RS} : ∀ {rs : List (List AV)} {B o sz : Nat} (_ : fzs S B o sz rs) {i : Nat} {r : List AV}, rs[i]? = some r → r.length = sz ∧ fz S B (o + i * sz) r
  | [], _, _, _, _, i, r, hc => by simp at hc
  | r0 :: rs, B, o, sz, h, i, r, hc => by
    simp only [fzs] at h
    obtain ⟨h1, h2, h3⟩ := h
    cases i with
    | zero => simp at hc; subst hc; exact ⟨h1, by simpa using h2⟩
    | succ i =>
      simp at hc
      obtain ⟨g1, g2⟩ := fzs_get h3 hc
      refine ⟨g1, ?_⟩
      rw [show o + (i + 1) * sz = o + sz + i * sz by rw [Nat.add_mul]; omega]
      exact g2

theorem fzs_of_get {S : RS} : ∀ {rs : List (List AV)} {B o sz : Nat}, (∀ (i : Nat) (r : List AV), rs[i]? = some r → r.length = sz ∧ fz S B (o + i * sz) r) → fzs S B o sz rs
  | [], _, _, _, _ => trivial
  | r :: rs, B, o, sz, h => by
    simp only [fzs]
    obtain ⟨h1, h2⟩ := h 0 r (by simp)
    refine ⟨h1, by simpa using h2, fzs_of_get (fun i r' hr => ?_)⟩
    obtain ⟨g1, g2⟩ := h (i + 1) r' (by simpa using hr)
    refine ⟨g1, ?_⟩
    rw [show o + sz + i * sz = o + (i + 1) * sz by rw [Nat.add_mul]; omega]
    exact g2

/-- What says nothing of owned blocks says the same under every outer form. -/
theorem rel_noSh {S : RS} {T : Sh} {c : AV} {v : Value} (h : rel S c noSh v) : rel S c T v :=
  rel_ext c noSh T v ⟨rfl, rfl, fun _ _ _ h => h, fun _ _ _ h => .inl h, fun _ _ h => (by cases h), fun _ h => (by cases h), fun _ _ _ h => (by cases h)⟩ h
theorem rels_noSh {S : RS} {T : Sh} {cs : List AV} {vs : List Value} (h : rels S cs noSh vs) : rels S cs T vs :=
  rels_ext cs noSh T vs ⟨rfl, rfl, fun _ _ _ h => h, fun _ _ _ h => .inl h, fun _ _ h => (by cases h), fun _ h => (by cases h), fun _ _ _ h => (by cases h)⟩ h

end Go.Ab
