import Derived.WalkKit
import Derived.Lib.ItoaNum
namespace Go.Ab
set_option linter.unusedVariables false
set_option linter.unusedSimpArgs false
open Go
inductive AV where
 | int (k : IntKind) (n : Int)
 | bool (b : Bool)
 | sb (b : Bool)
 | str (s : ByteArray)
 | nilp
 | ptr (id tot row off : Nat)
 | bptr (id off : Nat)
 | iptr (cells : List AV)
 | nils
 | sl (id tot off len : Nat)
 | inl (sz : Nat) (rows : List (List AV))
 | fn (f : Fn) (first cap : List AV)
 | nilf
 | iface (t : TypeId) (v : AV)
 | nili
 | agg (cs : List AV)
 | tup (vs : List AV)
 | map (id : Nat)
 | nilm
 | junk
 deriving Inhabited
inductive Shp where
 | row (m sz : Nat)
 | box (n : Nat)
 | mp
 deriving DecidableEq
structure RS where
 W0 : World
 D : Nat → Prop
 ρ : Nat → Option (Nat × Nat)
 φ : Nat → Nat → Option Value
abbrev Sh := Nat → Option Shp
def noSh : Sh := fun _ => none
mutual
def rel (S : RS) : AV → Sh → Value → Prop
 | .int k n, _, v => v = .int k n
 | .bool b, _, v => v = .bool b
 | .sb b, _, v => v = .bool b
 | .str s, _, v => v = .string s
 | .nilp, _, v => v = .pointer none
 | .ptr id t r o, T, v => ∃ m sz B' o', T id = some (.row m sz) ∧ t ≤ m ∧ v = .pointer (some ⟨B', o', none⟩) ∧ (t = m → ∃ c, S.ρ id = some (B', c) ∧ o' = r * sz + o)
 | .bptr id o, T, v => ∃ n B c, T id = some (.box n) ∧ S.ρ id = some (B, c) ∧ v = .pointer (some ⟨B, o, none⟩)
 | .iptr cs, _, v => ∃ B o, v = .pointer (some ⟨B, o, none⟩) ∧ fz S B o cs
 | .nils, _, v => ∃ a, v = .slice a 0 0
 | .sl id t o n, T, v => ∃ m sz, T id = some (.row m sz) ∧ t ≤ m ∧ v.oneCell' = true ∧ (t = m → o + n ≤ m ∧
   match S.ρ id with
   | some (B, c) => ∃ a, v = .slice a n (c - o) ∧ (o < c → a = some ⟨B, o * sz, none⟩)
   | none => n = 0 ∧ ∃ a, v = .slice a 0 0)
 | .inl sz rows, _, v => ∃ a c, v = .slice a rows.length c ∧ rows.length ≤ c ∧ (rows = [] ∨ ∃ B o, a = some ⟨B, o, none⟩ ∧ fzs S B o sz rows)
 | .fn f fi ca, T, v => ∃ a b, v = .func f a b ∧ rels S fi T a.toList ∧ rels S ca T b.toList
 | .nilf, _, v => v = .nilFunc
 | .iface t x, T, v => ∃ u, v = .iface t u ∧ rel S x T u
 | .nili, _, v => v = .nilIface
 | .agg cs, T, v => ∃ us, v = .agg us ∧ rels S cs T us.toList ∧ ∀ u ∈ us.toList, u.oneCell' = true
 | .tup cs, T, v => ∃ us, v = .tuple us ∧ rels S cs T us.toList
 | .map id, T, v => ∃ B c, T id = some .mp ∧ S.ρ id = some (B, c) ∧ v = .map (some B)
 | .nilm, _, v => v = .map none
 | .junk, _, _ => True
def rels (S : RS) : List AV → Sh → List Value → Prop
 | [], _, vs => vs = []
 | c :: cs, T, vs => ∃ v vs', vs = v :: vs' ∧ rel S c T v ∧ rels S cs T vs'
def fz (S : RS) (B o : Nat) : List AV → Prop
 | [] => True
 | c :: cs => (∃ v, S.φ B o = some v ∧ rel S c noSh v ∧ v.oneCell' = true) ∧ fz S B (o + 1) cs
def fzs (S : RS) (B o sz : Nat) : List (List AV) → Prop
 | [] => True
 | r :: rs => r.length = sz ∧ fz S B o r ∧ fzs S B (o + sz) sz rs
end
structure Ext (S : RS) (T : Sh) (S' : RS) (T' : Sh) : Prop where
 W0 : S'.W0 = S.W0
 D : S'.D = S.D
 fro : ∀ B o v, S.φ B o = some v → S'.φ B o = some v
 fnw : ∀ B o v, S'.φ B o = some v → S.φ B o = some v ∨ ¬ S.D B
 box : ∀ id n, T id = some (.box n) → T' id = some (.box n) ∧ S'.ρ id = S.ρ id
 mp : ∀ id, T id = some .mp → T' id = some .mp ∧ S'.ρ id = S.ρ id
 row : ∀ id m sz, T id = some (.row m sz) → ∃ m', T' id = some (.row m' sz) ∧ m ≤ m' ∧ (m' = m → S'.ρ id = S.ρ id)
theorem Ext.refl (S : RS) (T : Sh) : Ext S T S T :=
 ⟨rfl, rfl, fun _ _ _ h => h, fun _ _ _ h => .inl h, fun _ _ h => ⟨h, rfl⟩, fun _ h => ⟨h, rfl⟩, fun _ m _ h => ⟨m, h, Nat.le_refl _, fun _ => rfl⟩⟩
theorem Ext.trans {S S' S'' : RS} {T T' T'' : Sh} (h : Ext S T S' T') (k : Ext S' T' S'' T'') : Ext S T S'' T'' where
 W0 := k.W0.trans h.W0
 D := k.D.trans h.D
 fro := fun B o v hv => k.fro B o v (h.fro B o v hv)
 fnw := fun B o v hv => by
  rcases k.fnw B o v hv with h1 | h1
  ·exact h.fnw B o v h1
  ·exact .inr (by rwa [h.D] at h1)
 box := fun id n hn => by
  obtain ⟨a, b⟩ := h.box id n hn
  obtain ⟨c, d⟩ := k.box id n a
  exact ⟨c, d.trans b⟩
 mp := fun id hn => by
  obtain ⟨a, b⟩ := h.mp id hn
  obtain ⟨c, d⟩ := k.mp id a
  exact ⟨c, d.trans b⟩
 row := fun id m sz hn => by
  obtain ⟨m1, a, b, c⟩ := h.row id m sz hn
  obtain ⟨m2, d, e, f⟩ := k.row id m1 sz a
  refine ⟨m2, d, Nat.le_trans b e, fun h2 => ?_⟩
  have h3 : m2 = m1 := by omega
  have h4 : m1 = m := by omega
  exact (f h3).trans (c h4)
theorem Ext.noSh {S S' : RS} {T T' : Sh} (h : Ext S T S' T') : Ext S noSh S' noSh :=
 ⟨h.W0, h.D, h.fro, h.fnw, fun _ _ h => (by cases h), fun _ h => (by cases h), fun _ _ _ h => (by cases h)⟩
structure Ext0 (S : RS) (T : Sh) (S' : RS) (T' : Sh) : Prop where
 fro : ∀ B o v, S.φ B o = some v → S'.φ B o = some v
 box : ∀ id n, T id = some (.box n) → T' id = some (.box n) ∧ S'.ρ id = S.ρ id
 mp : ∀ id, T id = some .mp → T' id = some .mp ∧ S'.ρ id = S.ρ id
 row : ∀ id m sz, T id = some (.row m sz) → ∃ m', T' id = some (.row m' sz) ∧ m ≤ m' ∧ (m' = m → S'.ρ id = S.ρ id)
theorem Ext0.noSh {S S' : RS} {T T' : Sh} (h : Ext0 S T S' T') : Ext0 S noSh S' noSh :=
 ⟨h.fro, fun _ _ h => (by cases h), fun _ h => (by cases h), fun _ _ _ h => (by cases h)⟩
theorem Ext.zero {S S' : RS} {T T' : Sh} (h : Ext S T S' T') : Ext0 S T S' T' := ⟨h.fro, h.box, h.mp, h.row⟩
mutual
theorem rel_ext0 {S S' : RS} : ∀ (c : AV) (T T' : Sh) (v : Value), Ext0 S T S' T' → rel S c T v → rel S' c T' v
 | .int .., _, _, _, _, h => h
 | .bool .., _, _, _, _, h => h
 | .sb .., _, _, _, _, h => h
 | .str .., _, _, _, _, h => h
 | .nilp, _, _, _, _, h => h
 | .nils, _, _, _, _, h => h
 | .nilf, _, _, _, _, h => h
 | .nili, _, _, _, _, h => h
 | .nilm, _, _, _, _, h => h
 | .junk, _, _, _, _, _ => trivial
 | .ptr id t r o, T, T', v, e, h => by
  simp only [rel] at h ⊢
  obtain ⟨m, sz, B', o', h1, h2, h0, h3⟩ := h
  obtain ⟨m', g1, g2, g3⟩ := e.row id m sz h1
  refine ⟨m', sz, B', o', g1, by omega, h0, fun ht => ?_⟩
  have hm : m' = m := by omega
  obtain ⟨c, k1, k2⟩ := h3 (by omega)
  exact ⟨c, (g3 hm).trans k1, k2⟩
 | .bptr id o, T, T', v, e, h => by
  simp only [rel] at h ⊢
  obtain ⟨n, B, c, h1, h2, h3⟩ := h
  obtain ⟨g1, g2⟩ := e.box id n h1
  exact ⟨n, B, c, g1, g2.trans h2, h3⟩
 | .iptr cs, T, T', v, e, h => by
  simp only [rel] at h ⊢
  obtain ⟨B, o, h1, h2⟩ := h
  exact ⟨B, o, h1, fz_ext0 cs B o e.noSh h2⟩
 | .sl id t o n, T, T', v, e, h => by
  simp only [rel] at h ⊢
  obtain ⟨m, sz, h1, h2, h0, h3⟩ := h
  obtain ⟨m', g1, g2, g3⟩ := e.row id m sz h1
  refine ⟨m', sz, g1, by omega, h0, fun ht => ?_⟩
  have hm : m' = m := by omega
  obtain ⟨k1, k2⟩ := h3 (by omega)
  rw [g3 hm]
  exact ⟨by omega, k2⟩
 | .inl sz rows, T, T', v, e, h => by
  simp only [rel] at h ⊢
  obtain ⟨a, c, h1, h2, h3⟩ := h
  refine ⟨a, c, h1, h2, ?_⟩
  rcases h3 with h3 | ⟨B, o, h3, h4⟩
  ·exact .inl h3
  ·exact .inr ⟨B, o, h3, fzs_ext0 rows B o sz e.noSh h4⟩
 | .fn f fi ca, T, T', v, e, h => by
  simp only [rel] at h ⊢
  obtain ⟨a, b, h1, h2, h3⟩ := h
  exact ⟨a, b, h1, rels_ext0 fi T T' _ e h2, rels_ext0 ca T T' _ e h3⟩
 | .iface t x, T, T', v, e, h => by
  simp only [rel] at h ⊢
  obtain ⟨u, h1, h2⟩ := h
  exact ⟨u, h1, rel_ext0 x T T' u e h2⟩
 | .agg cs, T, T', v, e, h => by
  simp only [rel] at h ⊢
  obtain ⟨us, h1, h2, h3⟩ := h
  exact ⟨us, h1, rels_ext0 cs T T' _ e h2, h3⟩
 | .tup cs, T, T', v, e, h => by
  simp only [rel] at h ⊢
  obtain ⟨us, h1, h2⟩ := h
  exact ⟨us, h1, rels_ext0 cs T T' _ e h2⟩
 | .map id, T, T', v, e, h => by
  simp only [rel] at h ⊢
  obtain ⟨B, c, h1, h2, h3⟩ := h
  obtain ⟨g1, g2⟩ := e.mp id h1
  exact ⟨B, c, g1, g2.trans h2, h3⟩
theorem rels_ext0 {S S' : RS} : ∀ (cs : List AV) (T T' : Sh) (vs : List Value), Ext0 S T S' T' → rels S cs T vs → rels S' cs T' vs
 | [], _, _, _, _, h => h
 | c :: cs, T, T', vs, e, h => by
  simp only [rels] at h ⊢
  obtain ⟨v, vs', h1, h2, h3⟩ := h
  exact ⟨v, vs', h1, rel_ext0 c T T' v e h2, rels_ext0 cs T T' vs' e h3⟩
theorem fz_ext0 {S S' : RS} : ∀ (cs : List AV) (B o : Nat), Ext0 S noSh S' noSh → fz S B o cs → fz S' B o cs
 | [], _, _, _, _ => trivial
 | c :: cs, B, o, e, h => by
  simp only [fz] at h ⊢
  obtain ⟨⟨v, h1, h2, h3⟩, h4⟩ := h
  exact ⟨⟨v, e.fro _ _ _ h1, rel_ext0 c noSh noSh v e h2, h3⟩, fz_ext0 cs B (o + 1) e h4⟩
theorem fzs_ext0 {S S' : RS} : ∀ (rs : List (List AV)) (B o sz : Nat), Ext0 S noSh S' noSh → fzs S B o sz rs → fzs S' B o sz rs
 | [], _, _, _, _, _ => trivial
 | r :: rs, B, o, sz, e, h => by
  simp only [fzs] at h ⊢
  obtain ⟨h1, h2, h3⟩ := h
  exact ⟨h1, fz_ext0 r B o e h2, fzs_ext0 rs B (o + sz) sz e h3⟩
end
theorem rel_ext {S S' : RS} (c : AV) (T T' : Sh) (v : Value) (e : Ext S T S' T') (h : rel S c T v) : rel S' c T' v := rel_ext0 c T T' v e.zero h
theorem rels_ext {S S' : RS} (cs : List AV) (T T' : Sh) (vs : List Value) (e : Ext S T S' T') (h : rels S cs T vs) : rels S' cs T' vs := rels_ext0 cs T T' vs e.zero h
theorem fz_ext {S S' : RS} (cs : List AV) (B o : Nat) (e : Ext S noSh S' noSh) (h : fz S B o cs) : fz S' B o cs := fz_ext0 cs B o e.zero h
theorem fzs_ext {S S' : RS} (rs : List (List AV)) (B o sz : Nat) (e : Ext S noSh S' noSh) (h : fzs S B o sz rs) : fzs S' B o sz rs := fzs_ext0 rs B o sz e.zero h
theorem rels_length {S : RS} {T : Sh} : ∀ {cs : List AV} {vs : List Value}, rels S cs T vs → vs.length = cs.length
 | [], vs, h => by simp only [rels] at h; simp [h]
 | c :: cs, vs, h => by
  simp only [rels] at h
  obtain ⟨v, vs', rfl, _, h3⟩ := h
  simp [rels_length h3]
theorem rels_get {S : RS} {T : Sh} : ∀ {cs : List AV} {vs : List Value} (_ : rels S cs T vs) {i : Nat} {c : AV}, cs[i]? = some c → ∃ v, vs[i]? = some v ∧ rel S c T v
 | [], vs, h, i, c, hc => by simp at hc
 | c0 :: cs, vs, h, i, c, hc => by
  simp only [rels] at h
  obtain ⟨v, vs', rfl, h2, h3⟩ := h
  cases i with
  | zero => simp at hc; subst hc; exact ⟨v, by simp, h2⟩
  | succ i => simp at hc; simpa using rels_get h3 hc
theorem rels_set {S : RS} {T : Sh} : ∀ {cs : List AV} {vs : List Value} (_ : rels S cs T vs) (i : Nat) {c : AV} {v : Value}, rel S c T v → rels S (cs.set i c) T (vs.set i v)
 | [], vs, h, i, c, v, hc => by simp only [rels] at h; subst h; simp [rels]
 | c0 :: cs, vs, h, i, c, v, hc => by
  simp only [rels] at h
  obtain ⟨v0, vs', rfl, h2, h3⟩ := h
  cases i with
  | zero => simp only [List.set_cons_zero, rels]; exact ⟨v, vs', rfl, hc, h3⟩
  | succ i => simp only [List.set_cons_succ, rels]; exact ⟨v0, _, rfl, h2, rels_set h3 i hc⟩
theorem rels_append {S : RS} {T : Sh} : ∀ {cs ds : List AV} {vs us : List Value}, rels S cs T vs → rels S ds T us → rels S (cs ++ ds) T (vs ++ us)
 | [], ds, vs, us, h, k => by simp only [rels] at h; subst h; simpa using k
 | c :: cs, ds, vs, us, h, k => by
  simp only [rels] at h
  obtain ⟨v, vs', rfl, h2, h3⟩ := h
  simp only [List.cons_append, rels]
  exact ⟨v, vs' ++ us, rfl, h2, rels_append h3 k⟩
theorem rels_of_get {S : RS} {T : Sh} : ∀ {cs : List AV} {vs : List Value}, vs.length = cs.length → (∀ (i : Nat) (c : AV), cs[i]? = some c → ∃ v, vs[i]? = some v ∧ rel S c T v) → rels S cs T vs
 | [], vs, hl, _ => by simp only [rels]; exact List.eq_nil_of_length_eq_zero (by simpa using hl)
 | c :: cs, [], hl, _ => by simp at hl
 | c :: cs, v :: vs, hl, h => by
  simp only [rels]
  obtain ⟨v', h1, h2⟩ := h 0 c (by simp)
  simp at h1
  subst h1
  exact ⟨v, vs, rfl, h2, rels_of_get (by simpa using hl) (fun i c' hc => by simpa using h (i + 1) c' (by simpa using hc))⟩
theorem rels_take {S : RS} {T : Sh} {cs : List AV} {vs : List Value} (h : rels S cs T vs) (n : Nat) : rels S (cs.take n) T (vs.take n) :=
 rels_of_get (by simp [rels_length h]) (fun i c hc => by
  rw [List.getElem?_take] at hc ⊢
  split at hc
  ·rename_i hi; rw [if_pos hi]; exact rels_get h hc
  ·cases hc)
theorem rels_drop {S : RS} {T : Sh} {cs : List AV} {vs : List Value} (h : rels S cs T vs) (n : Nat) : rels S (cs.drop n) T (vs.drop n) :=
 rels_of_get (by simp [rels_length h]) (fun i c hc => by
  rw [List.getElem?_drop] at hc ⊢
  exact rels_get h hc)
theorem fz_get {S : RS} : ∀ {cs : List AV} {B o : Nat} (_ : fz S B o cs) {j : Nat} {c : AV}, cs[j]? = some c → ∃ v, S.φ B (o + j) = some v ∧ rel S c noSh v ∧ v.oneCell' = true
 | [], _, _, _, j, c, hc => by simp at hc
 | c0 :: cs, B, o, h, j, c, hc => by
  simp only [fz] at h
  obtain ⟨⟨v, h1, h2, h3⟩, h4⟩ := h
  cases j with
  | zero => simp at hc; subst hc; exact ⟨v, by simpa using h1, h2, h3⟩
  | succ j =>
   simp at hc
   obtain ⟨u, g1, g2⟩ := fz_get h4 hc
   exact ⟨u, by rw [← g1]; congr 1; omega, g2⟩
theorem fz_of_get {S : RS} : ∀ {cs : List AV} {B o : Nat}, (∀ (j : Nat) (c : AV), cs[j]? = some c → ∃ v, S.φ B (o + j) = some v ∧ rel S c noSh v ∧ v.oneCell' = true) → fz S B o cs
 | [], _, _, _ => trivial
 | c :: cs, B, o, h => by
  simp only [fz]
  refine ⟨by simpa using h 0 c (by simp), fz_of_get (fun j c' hc => ?_)⟩
  obtain ⟨v, h1, h2⟩ := h (j + 1) c' (by simpa using hc)
  exact ⟨v, by rw [← h1]; congr 1; omega, h2⟩
theorem fz_drop {S : RS} {cs : List AV} {B o : Nat} (h : fz S B o cs) (n : Nat) : fz S B (o + n) (cs.drop n) :=
 fz_of_get fun j c hc => by
  rw [List.getElem?_drop] at hc
  obtain ⟨v, h1, h2⟩ := fz_get h hc
  exact ⟨v, by rw [← h1]; congr 1; omega, h2⟩
theorem fzs_get {S : RS} : ∀ {rs : List (List AV)} {B o sz : Nat} (_ : fzs S B o sz rs) {i : Nat} {r : List AV}, rs[i]? = some r → r.length = sz ∧ fz S B (o + i * sz) r
 | [], _, _, _, _, i, r, hc => by simp at hc
 | r0 :: rs, B, o, sz, h, i, r, hc => by
  simp only [fzs] at h
  obtain ⟨h1, h2, h3⟩ := h
  cases i with
  | zero => simp at hc; subst hc; exact ⟨h1, by simpa using h2⟩
  | succ i =>
   simp at hc
   obtain ⟨g1, g2⟩ := fzs_get h3 hc
   refine ⟨g1, ?_⟩
   rw [show o + (i + 1) * sz = o + sz + i * sz by rw [Nat.add_mul]; omega]
   exact g2
theorem fzs_of_get {S : RS} : ∀ {rs : List (List AV)} {B o sz : Nat}, (∀ (i : Nat) (r : List AV), rs[i]? = some r → r.length = sz ∧ fz S B (o + i * sz) r) → fzs S B o sz rs
 | [], _, _, _, _ => trivial
 | r :: rs, B, o, sz, h => by
  simp only [fzs]
  obtain ⟨h1, h2⟩ := h 0 r (by simp)
  refine ⟨h1, by simpa using h2, fzs_of_get (fun i r' hr => ?_)⟩
  obtain ⟨g1, g2⟩ := h (i + 1) r' (by simpa using hr)
  refine ⟨g1, ?_⟩
  rw [show o + sz + i * sz = o + (i + 1) * sz by rw [Nat.add_mul]; omega]
  exact g2
theorem rel_noSh {S : RS} {T : Sh} {c : AV} {v : Value} (h : rel S c noSh v) : rel S c T v :=
 rel_ext c noSh T v ⟨rfl, rfl, fun _ _ _ h => h, fun _ _ _ h => .inl h, fun _ _ h => (by cases h), fun _ h => (by cases h), fun _ _ _ h => (by cases h)⟩ h
end Go.Ab

namespace Go.Ab
open Go
def gvOk : Nat → Nat → Option (Value → Prop)
 | 0, 0 => some fun v => ∃ m, v = .int .i64 m
 | 1, 0 => some fun _ => True
 | _, _ => none
def gvB (k : Nat) (b : Option Obj) : Prop := k = 1 → (match b with | some (.cells cs _ _) => some cs | _ => none) = some (Lib.pow10Tab.map fun z => Value.int .u64 z).toArray
def boxArr (e : Nat) : Bool := e == 37
end Go.Ab

namespace Go.Ab
set_option linter.unusedVariables false
set_option linter.unusedSimpArgs false
open Go
inductive ABlk where
 | box (e : TypeId) (cells : List AV)
 | arr (e : TypeId) (sz : Nat) (rows : List (List AV))
 | mpb (rows : List (List AV))
 | dead (s : Shp)
 deriving Inhabited
instance : Inhabited Shp := ⟨.mp⟩
def ABlk.shp : ABlk → Shp
 | .box _ cs => .box cs.length
 | .arr _ sz rows => .row rows.length sz
 | .mpb _ => .mp
 | .dead s => s
def ABlk.live : ABlk → Bool
 | .dead _ => false
 | _ => true
def shape (H : List ABlk) : Sh := fun id => (H[id]?).map ABlk.shp
def Own (S : RS) (B : Nat) : Prop := ¬ S.D B ∧ ∀ o, S.φ B o = none
def entR (S : RS) : List (List AV) → List MapEntry → Prop
 | [], es => es = []
 | r :: rs, es => ∃ e es', es = e :: es' ∧ (∃ k v, r = [k, v] ∧ rel S k noSh e.key ∧ rel S v noSh e.val) ∧ entR S rs es'
theorem entR_ext {S S' : RS} (hx : Ext0 S noSh S' noSh) : ∀ {rows : List (List AV)} {es : List MapEntry}, entR S rows es → entR S' rows es
 | [], es, h => h
 | r :: rs, es, h => by
  obtain ⟨e, es', rfl, ⟨k, v, rfl, h1, h2⟩, h3⟩ := h
  exact ⟨e, es', rfl, ⟨k, v, rfl, rel_ext0 k noSh noSh _ hx h1, rel_ext0 v noSh noSh _ hx h2⟩, entR_ext hx h3⟩
def BlkRel (S : RS) (T : Sh) (b : ABlk) (id : Nat) (w : World) : Prop :=
 match b with
 | .box e cs => ∃ B c arr, S.ρ id = some (B, c) ∧ w.heap[B]? = some (.cells arr e (0, 0)) ∧ rels S cs T arr.toList ∧ (∀ u ∈ arr.toList, u.oneCell' = true) ∧ Own S B
 | .arr e sz rows => 0 < sz ∧
  match S.ρ id with
  | some (B, c) => ∃ arr, w.heap[B]? = some (.cells arr e (0, 0)) ∧ arr.size = c * sz ∧ rows.length ≤ c ∧
    (∀ (i : Nat) (r : List AV), rows[i]? = some r → r.length = sz ∧ ∀ (j : Nat) (c : AV), r[j]? = some c → ∃ u, arr[i * sz + j]? = some u ∧ rel S c T u ∧ u.oneCell' = true) ∧ Own S B
  | none => rows = []
 | .mpb rows => ∃ B c es clock, S.ρ id = some (B, c) ∧ w.heap[B]? = some (.map es clock) ∧ entR S rows es.toList ∧ Own S B
 | .dead _ => True
structure WRel (S : RS) (H : List ABlk) (w : World) : Prop where
 os : w.os = S.W0.os
 tape : w.tape = S.W0.tape
 output : w.output = S.W0.output
 size : S.W0.heap.size ≤ w.heap.size
 prot : ∀ k, S.D k → k < S.W0.heap.size ∧ w.heap[k]? = S.W0.heap[k]?
 fro : ∀ B o v, S.φ B o = some v → w.cell? ⟨B, o, none⟩ = some v
 gl : ∀ k o p, gvOk k o = some p → ∃ v, S.φ k o = some v ∧ p v ∧ gvB k w.heap[k]?
 blk : ∀ id b, H[id]? = some b → BlkRel S (shape H) b id w
 inj : ∀ i j b b' B c c', H[i]? = some b → H[j]? = some b' → b.live = true → b'.live = true → S.ρ i = some (B, c) → S.ρ j = some (B, c') → i = j
structure Chg (w w' : World) (M : Nat → Prop) : Prop where
 os : w'.os = w.os
 tape : w'.tape = w.tape
 output : w'.output = w.output
 size : w.heap.size ≤ w'.heap.size
 block : ∀ k, k < w.heap.size → ¬ M k → w'.heap[k]? = w.heap[k]?
theorem Chg.refl (w : World) (M : Nat → Prop) : Chg w w M := ⟨rfl, rfl, rfl, Nat.le_refl _, fun _ _ _ => rfl⟩
theorem Chg.drew (w : World) (M : Nat → Prop) : Chg w w.drew M := ⟨rfl, rfl, rfl, Nat.le_refl _, fun _ _ _ => rfl⟩
theorem Chg.alloc (w : World) (o : Obj) (M : Nat → Prop) : Chg w (w.alloc o) M := ⟨rfl, rfl, rfl, by simp, fun k hk _ => Go.RowKit.Below.heap_alloc w o k hk⟩
theorem Chg.trans {a b c : World} {M : Nat → Prop} (h : Chg a b M) (k : Chg b c M) : Chg a c M :=
 ⟨k.os.trans h.os, k.tape.trans h.tape, k.output.trans h.output, Nat.le_trans h.size k.size, fun i hi hm => (k.block i (Nat.lt_of_lt_of_le hi h.size) hm).trans (h.block i hi hm)⟩
theorem Chg.setRow (w : World) (g : Nat) (cs : Array Value) : Chg w (w.setRow g cs) (· = g) :=
 ⟨rfl, rfl, rfl, by simp, fun k _ hk => setRow_other w g k cs hk⟩
theorem Chg.mono {w w' : World} {M M' : Nat → Prop} (h : Chg w w' M) (hm : ∀ k, M k → M' k) : Chg w w' M' :=
 ⟨h.os, h.tape, h.output, h.size, fun k hk hn => h.block k hk (fun x => hn (hm k x))⟩
theorem block_lt {w : World} {B : Nat} {o : Obj} (h : w.heap[B]? = some o) : B < w.heap.size := (Array.getElem?_eq_some_iff.1 h).1
theorem BlkRel.keep {S S' : RS} {T T' : Sh} {b : ABlk} {id : Nat} {w w' : World} (h : BlkRel S T b id w) (e : Ext S T S' T')
  (hρ : b.live = true → S'.ρ id = S.ρ id) (hw : ∀ B c, b.live = true → S.ρ id = some (B, c) → B < w.heap.size → Own S B → w'.heap[B]? = w.heap[B]? ∧ Own S' B) : BlkRel S' T' b id w' := by
 cases b with
 | box e' cs =>
  obtain ⟨B, c, arr, h1, h2, h3, h4, h5⟩ := h
  obtain ⟨k1, k2⟩ := hw B c rfl h1 (block_lt h2) h5
  exact ⟨B, c, arr, (hρ rfl).trans h1, k1.trans h2, rels_ext cs T T' _ e h3, h4, k2⟩
 | arr e' sz rows =>
  obtain ⟨h0, h⟩ := h
  refine ⟨h0, ?_⟩
  rw [hρ rfl]
  cases hr : S.ρ id with
  | none => rw [hr] at h; exact h
  | some p =>
   obtain ⟨B, c⟩ := p
   rw [hr] at h
   obtain ⟨arr, h2, h3, h4, h5, h6⟩ := h
   obtain ⟨k1, k2⟩ := hw B c rfl hr (block_lt h2) h6
   refine ⟨arr, k1.trans h2, h3, h4, fun i r hi => ?_, k2⟩
   obtain ⟨g1, g2⟩ := h5 i r hi
   refine ⟨g1, fun j c hj => ?_⟩
   obtain ⟨u, m1, m2, m3⟩ := g2 j c hj
   exact ⟨u, m1, rel_ext c T T' u e m2, m3⟩
 | mpb rows =>
  obtain ⟨B, c, es, clock, h1, h2, h3, h5⟩ := h
  obtain ⟨k1, k2⟩ := hw B c rfl h1 (block_lt h2) h5
  exact ⟨B, c, es, clock, (hρ rfl).trans h1, k1.trans h2, entR_ext e.noSh.zero h3, k2⟩
 | dead s => trivial
theorem WRel.step {S S' : RS} {H H' : List ABlk} {w w' : World} (h : WRel S H w) (e : Ext S (shape H) S' (shape H')) (M : Nat → Prop) (N : Nat → Prop) (c : Chg w w' M)
  (hM : ∀ k, k < w.heap.size → M k → Own S k)
  (hφ : ∀ B o v, S'.φ B o = some v → S.φ B o = some v ∨ w'.cell? ⟨B, o, none⟩ = some v ∧ w.heap.size ≤ B)
  (hD : ∀ k, S.D k → k < w.heap.size := fun k hk => Nat.lt_of_lt_of_le (h.prot k hk).1 h.size)
  (old : ∀ id b, H'[id]? = some b → ¬ N id → H[id]? = some b ∧ S'.ρ id = S.ρ id ∧ ∀ B c, b.live = true → S.ρ id = some (B, c) → ¬ M B)
  (new : ∀ id b, H'[id]? = some b → N id → BlkRel S' (shape H') b id w')
  (inj : ∀ i j b b' B c c', H'[i]? = some b → H'[j]? = some b' → b.live = true → b'.live = true → S'.ρ i = some (B, c) → S'.ρ j = some (B, c') → N i → i = j) : WRel S' H' w' where
 os := by rw [e.W0]; exact c.os.trans h.os
 tape := by rw [e.W0]; exact c.tape.trans h.tape
 output := by rw [e.W0]; exact c.output.trans h.output
 size := by rw [e.W0]; exact Nat.le_trans h.size c.size
 prot := fun k hk => by
  rw [e.D] at hk
  rw [e.W0]
  obtain ⟨h1, h2⟩ := h.prot k hk
  exact ⟨h1, (c.block k (hD k hk) (fun hm => (hM k (hD k hk) hm).1 hk)).trans h2⟩
 fro := fun B o v hv => by
  rcases hφ B o v hv with hv | ⟨hv, _⟩
  ·have h1 := h.fro B o v hv
   have hB : B < w.heap.size := World.block_lt_of_cell? w _ h1
   rw [World.cell?_of_block (c.block B hB (fun hm => by have := (hM B hB hm).2 o; rw [hv] at this; cases this))]
   exact h1
  ·exact hv
 gl := fun k o p hp => by
  obtain ⟨v, h1, h2, h3⟩ := h.gl k o p hp
  refine ⟨v, e.fro k o v h1, h2, ?_⟩
  have hB : k < w.heap.size := World.block_lt_of_cell? w _ (h.fro k o v h1)
  rw [c.block k hB (fun hm => by have := (hM k hB hm).2 o; rw [h1] at this; cases this)]
  exact h3
 blk := fun id b hb => by
  by_cases hn : N id
  ·exact new id b hb hn
  ·obtain ⟨h1, h2, h3⟩ := old id b hb hn
   refine (h.blk id b h1).keep e (fun _ => h2) (fun B c0 hl hB hlt ho => ⟨c.block B hlt (h3 B c0 hl hB), ?_⟩)
   refine ⟨by rw [e.D]; exact ho.1, fun o => ?_⟩
   cases hv : S'.φ B o with
   | none => rfl
   | some v =>
    rcases hφ B o v hv with hv' | ⟨_, hv'⟩
    ·rw [ho.2 o] at hv'; cases hv'
    ·omega
 inj := fun i j b b' B c0 c1 hi hj li lj hBi hBj => by
  by_cases hni : N i
  ·exact inj i j b b' B c0 c1 hi hj li lj hBi hBj hni
  ·by_cases hnj : N j
   ·exact (inj j i b' b B c1 c0 hj hi lj li hBj hBi hnj).symm
   ·obtain ⟨h1, h2, _⟩ := old i b hi hni
    obtain ⟨k1, k2, _⟩ := old j b' hj hnj
    exact h.inj i j b b' B c0 c1 h1 k1 li lj (h2 ▸ hBi) (k2 ▸ hBj)
theorem WRel.place_lt {S : RS} {H : List ABlk} {w : World} (h : WRel S H w) {id : Nat} {b : ABlk} {B c : Nat} (hb : H[id]? = some b) (hl : b.live = true) (hρ : S.ρ id = some (B, c)) : B < w.heap.size ∧ Own S B := by
 have h1 := h.blk id b hb
 cases b with
 | box e cs =>
  obtain ⟨B', c', arr, g1, g2, _, _, g5⟩ := h1
  rw [hρ] at g1
  injection g1 with g1
  injection g1 with g1 _
  subst g1
  exact ⟨block_lt g2, g5⟩
 | arr e sz rows =>
  obtain ⟨_, h1⟩ := h1
  rw [hρ] at h1
  obtain ⟨arr, g2, _, _, _, g5⟩ := h1
  exact ⟨block_lt g2, g5⟩
 | mpb rows =>
  obtain ⟨B', c', es, clock, g1, g2, _, g5⟩ := h1
  rw [hρ] at g1
  injection g1 with g1
  injection g1 with g1 _
  subst g1
  exact ⟨block_lt g2, g5⟩
 | dead s => cases hl
theorem shape_append (H L : List ABlk) (id : Nat) (h : id < H.length) : shape (H ++ L) id = shape H id := by
 simp [shape, List.getElem?_append_left h]
theorem shape_lt {H : List ABlk} {id : Nat} {s : Shp} (h : shape H id = some s) : id < H.length := by
 unfold shape at h
 rcases Nat.lt_or_ge id H.length with h' | h'
 ·exact h'
 ·rw [List.getElem?_eq_none h'] at h; cases h
theorem WRel.drew {S : RS} {H : List ABlk} {w : World} (h : WRel S H w) : WRel S H w.drew :=
 h.step (Ext.refl _ _) (fun _ => False) (fun _ => False) (Chg.drew w _) (fun _ _ h => h.elim) (fun _ _ _ h => .inl h) (old := fun _ _ hb _ => ⟨hb, rfl, fun _ _ _ _ h => h⟩)
  (new := fun _ _ _ h => h.elim) (inj := fun _ _ _ _ _ _ _ _ _ _ _ _ _ h => h.elim)
theorem WRel.alloc {S : RS} {H : List ABlk} {w : World} (h : WRel S H w) (o : Obj) : WRel S H (w.alloc o) :=
 h.step (Ext.refl _ _) (fun _ => False) (fun _ => False) (Chg.alloc w o _) (fun _ _ h => h.elim) (fun _ _ _ h => .inl h) (old := fun _ _ hb _ => ⟨hb, rfl, fun _ _ _ _ h => h⟩)
  (new := fun _ _ _ h => h.elim) (inj := fun _ _ _ _ _ _ _ _ _ _ _ _ _ h => h.elim)
def RS.put (S : RS) (id : Nat) (p : Option (Nat × Nat)) : RS := { S with ρ := fun i => if i = id then p else S.ρ i }
theorem Ext.put_new (S : RS) (H : List ABlk) (b : ABlk) (p : Option (Nat × Nat)) : Ext S (shape H) (S.put H.length p) (shape (H ++ [b])) where
 W0 := rfl
 D := rfl
 fro := fun _ _ _ h => h
 fnw := fun _ _ _ h => .inl h
 box := fun id n hn => by
  have := shape_lt hn
  exact ⟨by rw [shape_append _ _ _ this]; exact hn, by simp [RS.put]; omega⟩
 mp := fun id hn => by
  have := shape_lt hn
  exact ⟨by rw [shape_append _ _ _ this]; exact hn, by simp [RS.put]; omega⟩
 row := fun id m sz hn => by
  have := shape_lt hn
  exact ⟨m, by rw [shape_append _ _ _ this]; exact hn, Nat.le_refl _, fun _ => by simp [RS.put]; omega⟩
theorem get_append_one {H : List ABlk} {b b' : ABlk} {id : Nat} (h : (H ++ [b])[id]? = some b') : (id < H.length ∧ H[id]? = some b') ∨ (id = H.length ∧ b' = b) := by
 rcases Nat.lt_trichotomy id H.length with hlt | heq | hgt
 ·exact .inl ⟨hlt, by rwa [List.getElem?_append_left hlt] at h⟩
 ·subst heq
  simp at h
  exact .inr ⟨rfl, h.symm⟩
 ·rw [List.getElem?_eq_none (by simp; omega)] at h
  cases h
theorem WRel.new {S : RS} {H : List ABlk} {w w' : World} (h : WRel S H w) (c : Chg w w' (fun _ => False)) (b : ABlk) (cap : Nat)
  (hb : BlkRel (S.put H.length (some (w.heap.size, cap))) (shape (H ++ [b])) b H.length w') : WRel (S.put H.length (some (w.heap.size, cap))) (H ++ [b]) w' :=
 h.step (Ext.put_new S H b _) (fun _ => False) (· = H.length) c (fun _ _ h => h.elim) (fun _ _ _ h => .inl h)
  (old := fun id b' hb' hn => by
   rcases get_append_one hb' with ⟨h1, h2⟩ | ⟨h1, _⟩
   ·exact ⟨h2, by simp [RS.put]; omega, fun _ _ _ _ h => h⟩
   ·exact absurd h1 hn)
  (new := fun id b' hb' hn => by
   subst hn
   rcases get_append_one hb' with ⟨h1, _⟩ | ⟨_, h1⟩
   ·omega
   ·subst h1; exact hb)
  (inj := fun i j b1 b2 B c0 c1 hi hj li lj hBi hBj hn => by
   subst hn
   simp only [RS.put, if_true, Option.some.injEq, Prod.mk.injEq] at hBi
   rcases get_append_one hj with ⟨h1, h2⟩ | ⟨h1, _⟩
   ·have hne : j ≠ H.length := by omega
    simp only [RS.put, hne, if_false] at hBj
    have := (h.place_lt h2 lj hBj).1
    omega
   ·exact h1.symm)
theorem rels_put {S : RS} {H : List ABlk} {b : ABlk} {p : Option (Nat × Nat)} {cs : List AV} {vs : List Value} (h : rels S cs (shape H) vs) : rels (S.put H.length p) cs (shape (H ++ [b])) vs :=
 rels_ext _ _ _ _ (Ext.put_new S H b p) h
theorem WRel.box_new {S : RS} {H : List ABlk} {w : World} (h : WRel S H w) (e : TypeId) (cs : List AV) (arr : Array Value) (hr : rels S cs (shape H) arr.toList) (ho : ∀ u ∈ arr.toList, u.oneCell' = true) :
  WRel (S.put H.length (some (w.heap.size, 0))) (H ++ [.box e cs]) (w.alloc (.cells arr e)) := by
 refine h.new (Chg.alloc w _ _) _ 0 ?_
 refine ⟨w.heap.size, 0, arr, by simp [RS.put], heap_alloc_new w _, rels_put hr, ho, ?_⟩
 refine ⟨fun hd => ?_, fun o => ?_⟩
 ·have := (h.prot _ hd).1
  have := h.size
  omega
 ·cases hv : S.φ w.heap.size o with
  | none => simpa [RS.put] using hv
  | some v =>
   have := World.block_lt_of_cell? w _ (h.fro _ _ _ hv)
   simp at this
theorem WRel.fresh {S : RS} {H : List ABlk} {w : World} (h : WRel S H w) (p : Option (Nat × Nat)) (id : Nat) : Own (S.put id p) w.heap.size := by
 refine ⟨fun hd => ?_, fun o => ?_⟩
 ·have := (h.prot _ hd).1
  have := h.size
  omega
 ·cases hv : S.φ w.heap.size o with
  | none => simpa [RS.put] using hv
  | some v =>
   have := World.block_lt_of_cell? w _ (h.fro _ _ _ hv)
   simp at this
end Go.Ab

namespace Go.Ab
set_option linter.unusedVariables false
set_option linter.unusedSimpArgs false
open Go
theorem shape_set {H : List ABlk} {id : Nat} {b : ABlk} (h : id < H.length) (j : Nat) : shape (H.set id b) j = if j = id then some b.shp else shape H j := by
 unfold shape
 rw [List.getElem?_set]
 by_cases hj : id = j
 ·subst hj; simp [h]
 ·rw [if_neg hj, if_neg (fun e => hj e.symm)]
theorem get_lt {H : List ABlk} {id : Nat} {b : ABlk} (h : H[id]? = some b) : id < H.length := (List.getElem?_eq_some_iff.1 h).1
theorem shape_get {H : List ABlk} {id : Nat} {b : ABlk} (h : H[id]? = some b) : shape H id = some b.shp := by simp [shape, h]
theorem RS.put_self (S : RS) (id : Nat) : S.put id (S.ρ id) = S := by
 cases S
 simp only [RS.put, RS.mk.injEq, true_and, and_true]
 funext i
 split
 ·rename_i h; rw [h]
 ·rfl
theorem Ext.upd {S : RS} {H : List ABlk} {id : Nat} {b b' : ABlk} (hb : H[id]? = some b) (hs : b'.shp = b.shp) : Ext S (shape H) S (shape (H.set id b')) := by
 have : shape (H.set id b') = shape H := by
  funext j
  rw [shape_set (get_lt hb)]
  split
  ·rename_i h; rw [h, shape_get hb, hs]
  ·rfl
 rw [this]
 exact Ext.refl _ _
theorem Ext.grow {S : RS} {H : List ABlk} {id : Nat} {e : TypeId} {sz : Nat} {rows rows' : List (List AV)} (hb : H[id]? = some (.arr e sz rows)) (hl : rows.length < rows'.length) (p : Option (Nat × Nat)) :
  Ext S (shape H) (S.put id p) (shape (H.set id (.arr e sz rows'))) where
 W0 := rfl
 D := rfl
 fro := fun _ _ _ h => h
 fnw := fun _ _ _ h => .inl h
 box := fun j n hn => by
  have hne : j ≠ id := by rintro rfl; rw [shape_get hb] at hn; cases hn
  exact ⟨by rw [shape_set (get_lt hb), if_neg hne]; exact hn, by simp [RS.put, hne]⟩
 mp := fun j hn => by
  have hne : j ≠ id := by rintro rfl; rw [shape_get hb] at hn; cases hn
  exact ⟨by rw [shape_set (get_lt hb), if_neg hne]; exact hn, by simp [RS.put, hne]⟩
 row := fun j m s hn => by
  by_cases hne : j = id
  ·subst hne
   rw [shape_get hb] at hn
   simp only [ABlk.shp, Option.some.injEq, Shp.row.injEq] at hn
   obtain ⟨rfl, rfl⟩ := hn
   exact ⟨rows'.length, by rw [shape_set (get_lt hb), if_pos rfl]; rfl, by omega, fun h => by omega⟩
  ·exact ⟨m, by rw [shape_set (get_lt hb), if_neg hne]; exact hn, Nat.le_refl _, fun _ => by simp [RS.put, hne]⟩
theorem get_set {H : List ABlk} {id j : Nat} {b b' : ABlk} (h : (H.set id b)[j]? = some b') : (j ≠ id ∧ H[j]? = some b') ∨ (j = id ∧ b' = b) := by
 rw [List.getElem?_set] at h
 split at h
 ·rename_i hj
  subst hj
  split at h
  ·exact .inr ⟨rfl, (Option.some.inj h).symm⟩
  ·cases h
 ·rename_i hj; exact .inl ⟨fun e => hj e.symm, h⟩
theorem WRel.repl {S : RS} {H : List ABlk} {w w' : World} (h : WRel S H w) {id : Nat} {b b' : ABlk} (hb : H[id]? = some b) (hl : b.live = true) (p : Option (Nat × Nat))
  (c : Chg w w' (fun k => ∃ c, S.ρ id = some (k, c))) (ext : Ext S (shape H) (S.put id p) (shape (H.set id b')))
  (hp : ∀ B c, p = some (B, c) → w.heap.size ≤ B ∨ ∃ c', S.ρ id = some (B, c'))
  (hr : BlkRel (S.put id p) (shape (H.set id b')) b' id w') : WRel (S.put id p) (H.set id b') w' :=
 h.step ext (fun k => ∃ c, S.ρ id = some (k, c)) (· = id) c (fun k _ ⟨c, hc⟩ => (h.place_lt hb hl hc).2) (fun _ _ _ h => .inl h)
  (old := fun j b1 hj hn => by
   rcases get_set hj with ⟨h1, h2⟩ | ⟨h1, _⟩
   ·refine ⟨h2, by simp [RS.put, h1], fun B c1 hl1 hB ⟨c2, hc2⟩ => ?_⟩
    exact h1 (h.inj j id b1 b B c1 c2 h2 hb hl1 hl hB hc2)
   ·exact absurd h1 hn)
  (new := fun j b1 hj hn => by
   subst hn
   rcases get_set hj with ⟨h1, _⟩ | ⟨_, h1⟩
   ·exact absurd rfl h1
   ·subst h1; exact hr)
  (inj := fun i j b1 b2 B c0 c1 hi hj li lj hBi hBj hn => by
   subst hn
   rcases get_set hj with ⟨h1, h2⟩ | ⟨h1, _⟩
   ·simp only [RS.put, if_true] at hBi
    simp only [RS.put, h1, if_false] at hBj
    rcases hp B c0 hBi with hge | ⟨c', hc'⟩
    ·have := (h.place_lt h2 lj hBj).1
     omega
    ·exact h.inj i j b b2 B c' c1 hb h2 hl lj hc' hBj
   ·exact h1.symm)
theorem WRel.box_upd {S : RS} {H : List ABlk} {w w' : World} (h : WRel S H w) {id : Nat} {e : TypeId} {cs cs' : List AV} (hb : H[id]? = some (.box e cs)) {B c : Nat} (hρ : S.ρ id = some (B, c))
  (hc : Chg w w' (· = B)) {arr' : Array Value} (hw : w'.heap[B]? = some (.cells arr' e (0, 0))) (hl : cs'.length = cs.length)
  (hr : rels S cs' (shape H) arr'.toList) (ho : ∀ u ∈ arr'.toList, u.oneCell' = true) : WRel S (H.set id (.box e cs')) w' := by
 have hext : Ext S (shape H) S (shape (H.set id (.box e cs'))) := Ext.upd hb (by simp [ABlk.shp, hl])
 have := h.repl (b' := .box e cs') hb rfl (S.ρ id) (hc.mono fun k hk => ⟨c, by rw [hk]; exact hρ⟩) (by rw [RS.put_self]; exact hext) (fun B' c' hp => .inr ⟨c', hp⟩) (by
  rw [RS.put_self]
  exact ⟨B, c, arr', hρ, hw, rels_ext _ _ _ _ hext hr, ho, (h.place_lt hb rfl hρ).2⟩)
 rwa [RS.put_self] at this
def RowRel (S : RS) (T : Sh) (sz : Nat) (rows : List (List AV)) (arr : Array Value) : Prop :=
 ∀ (i : Nat) (r : List AV), rows[i]? = some r → r.length = sz ∧ ∀ (j : Nat) (c : AV), r[j]? = some c → ∃ u, arr[i * sz + j]? = some u ∧ rel S c T u ∧ u.oneCell' = true
theorem RowRel.ext {S S' : RS} {T T' : Sh} {sz : Nat} {rows : List (List AV)} {arr : Array Value} (h : RowRel S T sz rows arr) (e : Ext S T S' T') : RowRel S' T' sz rows arr := fun i r hi => by
 obtain ⟨h1, h2⟩ := h i r hi
 refine ⟨h1, fun j c hj => ?_⟩
 obtain ⟨u, k1, k2, k3⟩ := h2 j c hj
 exact ⟨u, k1, rel_ext _ _ _ _ e k2, k3⟩
theorem WRel.arr_upd {S : RS} {H : List ABlk} {w w' : World} (h : WRel S H w) {id : Nat} {e : TypeId} {sz : Nat} {rows rows' : List (List AV)} (hb : H[id]? = some (.arr e sz rows)) {B c : Nat} (hρ : S.ρ id = some (B, c))
  (hc : Chg w w' (· = B)) {arr' : Array Value} (hw : w'.heap[B]? = some (.cells arr' e (0, 0))) (hs : arr'.size = c * sz) (hl : rows.length ≤ rows'.length) (hle : rows'.length ≤ c)
  (hr : RowRel S (shape H) sz rows' arr') : WRel S (H.set id (.arr e sz rows')) w' ∧ Ext S (shape H) S (shape (H.set id (.arr e sz rows'))) := by
 have hext : Ext S (shape H) S (shape (H.set id (.arr e sz rows'))) := by
  rcases Nat.eq_or_lt_of_le hl with he | hlt
  ·exact Ext.upd hb (by simp [ABlk.shp, he])
  ·have := Ext.grow (S := S) hb hlt (S.ρ id)
   rwa [RS.put_self] at this
 refine ⟨?_, hext⟩
 have := h.repl (b' := .arr e sz rows') hb rfl (S.ρ id) (hc.mono fun k hk => ⟨c, by rw [hk]; exact hρ⟩) (by rw [RS.put_self]; exact hext) (fun B' c' hp => .inr ⟨c', hp⟩) (by
  rw [RS.put_self]
  refine ⟨(h.blk id _ hb).1, ?_⟩
  rw [hρ]
  exact ⟨arr', hw, hs, hle, hr.ext hext, (h.place_lt hb rfl hρ).2⟩)
 rwa [RS.put_self] at this
theorem WRel.arr_move {S : RS} {H : List ABlk} {w w' : World} (h : WRel S H w) {id : Nat} {e : TypeId} {sz : Nat} {rows rows' : List (List AV)} (hb : H[id]? = some (.arr e sz rows)) (c : Nat)
  (hc : Chg w w' (fun _ => False)) {arr' : Array Value} (hw : w'.heap[w.heap.size]? = some (.cells arr' e (0, 0))) (hs : arr'.size = c * sz) (hl : rows.length < rows'.length) (hle : rows'.length ≤ c)
  (hr : RowRel S (shape H) sz rows' arr') : WRel (S.put id (some (w.heap.size, c))) (H.set id (.arr e sz rows')) w' ∧ Ext S (shape H) (S.put id (some (w.heap.size, c))) (shape (H.set id (.arr e sz rows'))) := by
 have hext := Ext.grow hb hl (some (w.heap.size, c)) (S := S)
 refine ⟨?_, hext⟩
 refine h.repl (b' := .arr e sz rows') hb rfl _ (hc.mono fun k hk => hk.elim) hext (fun B' c' hp => .inl (by simp at hp; omega)) ?_
 refine ⟨(h.blk id _ hb).1, ?_⟩
 simp only [RS.put, if_true]
 exact ⟨arr', hw, hs, hle, hr.ext hext, h.fresh _ _⟩
theorem WRel.arr_new {S : RS} {H : List ABlk} {w w' : World} (h : WRel S H w) (e : TypeId) (sz : Nat) (rows : List (List AV)) (c : Nat) (h0 : 0 < sz)
  (hc : Chg w w' (fun _ => False)) {arr' : Array Value} (hw : w'.heap[w.heap.size]? = some (.cells arr' e (0, 0))) (hs : arr'.size = c * sz) (hle : rows.length ≤ c)
  (hr : RowRel S (shape H) sz rows arr') : WRel (S.put H.length (some (w.heap.size, c))) (H ++ [.arr e sz rows]) w' ∧ Ext S (shape H) (S.put H.length (some (w.heap.size, c))) (shape (H ++ [.arr e sz rows])) := by
 have hext := Ext.put_new S H (.arr e sz rows) (some (w.heap.size, c))
 refine ⟨h.new hc _ c ?_, hext⟩
 refine ⟨h0, ?_⟩
 simp only [RS.put, if_true]
 exact ⟨arr', hw, hs, hle, hr.ext hext, h.fresh _ _⟩
theorem WRel.arr_none {S : RS} {H : List ABlk} {w : World} (h : WRel S H w) (e : TypeId) (sz : Nat) (h0 : 0 < sz) : WRel (S.put H.length none) (H ++ [.arr e sz []]) w ∧ Ext S (shape H) (S.put H.length none) (shape (H ++ [.arr e sz []])) := by
 have hext := Ext.put_new S H (.arr e sz []) none
 refine ⟨h.step hext (fun _ => False) (· = H.length) (Chg.refl w _) (fun _ _ h => h.elim) (fun _ _ _ h => .inl h) (old := fun id b' hb' hn => ?_) (new := fun id b' hb' hn => ?_) (inj := fun i j b1 b2 B c0 c1 hi hj li lj hBi hBj hn => ?_), hext⟩
 ·rcases get_append_one hb' with ⟨h1, h2⟩ | ⟨h1, _⟩
  ·exact ⟨h2, by simp [RS.put]; omega, fun _ _ _ _ h => h⟩
  ·exact absurd h1 hn
 ·subst hn
  rcases get_append_one hb' with ⟨h1, _⟩ | ⟨_, h1⟩
  ·omega
  ·subst h1; exact ⟨h0, by simp [RS.put]⟩
 ·subst hn
  simp [RS.put] at hBi
open Classical in
noncomputable def RS.frz (S : RS) (w : World) (F : Nat → Bool) (H : List ABlk) : RS :=
 { S with φ := fun B o => if ∃ id c b, F id = true ∧ H[id]? = some b ∧ b.live = true ∧ S.ρ id = some (B, c) then w.cell? ⟨B, o, none⟩ else S.φ B o }
theorem frz_fro {S : RS} {H : List ABlk} {w : World} (h : WRel S H w) (F : Nat → Bool) : ∀ B o v, S.φ B o = some v → (S.frz w F H).φ B o = some v := fun B o v hv => by
 simp only [RS.frz]
 split
 ·rename_i hx
  obtain ⟨id, c, b, _, hb, hl, hρ⟩ := hx
  have := (h.place_lt hb hl hρ).2.2 o
  rw [hv] at this
  cases this
 ·exact hv
theorem frz_fnw {S : RS} {H : List ABlk} {w : World} (h : WRel S H w) (F : Nat → Bool) : ∀ B o v, (S.frz w F H).φ B o = some v → S.φ B o = some v ∨ ¬ S.D B := fun B o v hv => by
 simp only [RS.frz] at hv
 split at hv
 ·rename_i hx
  obtain ⟨id, c, b, _, hb, hl, hρ⟩ := hx
  exact .inr (h.place_lt hb hl hρ).2.1
 ·exact .inl hv
theorem frz_cell {S : RS} {H : List ABlk} {w : World} {F : Nat → Bool} {id : Nat} {b : ABlk} (hF : F id = true) (hb : H[id]? = some b) (hl : b.live = true) {B c : Nat} (hρ : S.ρ id = some (B, c)) (o : Nat) :
  (S.frz w F H).φ B o = w.cell? ⟨B, o, none⟩ := by
 simp only [RS.frz]
 rw [if_pos ⟨id, c, b, hF, hb, hl, hρ⟩]
theorem frz_ext {S : RS} {H : List ABlk} {w : World} (h : WRel S H w) (F : Nat → Bool) : Ext S noSh (S.frz w F H) noSh :=
 ⟨rfl, rfl, frz_fro h F, frz_fnw h F, fun _ _ h => (by cases h), fun _ h => (by cases h), fun _ _ _ h => (by cases h)⟩
end Go.Ab

namespace Go.Ab
open Go
set_option linter.unusedVariables false
set_option linter.unusedSimpArgs false
inductive AX where
 | t (n : Nat)
 | c (v : AV)
 deriving Inhabited
inductive TK where
 | b | p | i | s | ag (offs : List (Nat × Nat)) | o
 deriving Inhabited
abbrev MT := List (String × List (TypeId × FuncId × Option (Option Nat)))
inductive AO where
 | mv (x : AX)
 | pick (c a b : AX)
 | alloc (e : TypeId) (cells : List AV)
 | box (e : TypeId) (x : AX)
 | build (zero : List AV) (parts : List (Nat × Nat × AX))
 | lit (e sz n : Nat) (zero : List AV) (parts : List (Nat × AX))
 | ld (n : Option Nat) (x : AX)
 | st (n : Nat) (a v : AX)
 | nilc (mt : MT) (x : AX)
 | bin (op : BinOp) (k : TK) (x y : AX)
 | un (op : UnOp) (x : AX)
 | cvt (k : IntKind) (x : AX)
 | mki (t : TypeId) (x : AX)
 | mkf (f : Fn) (first cap : List AX)
 | mks (e sz bytes : Nat) (zero : List AV) (l c : AX)
 | slc (k : Option Nat) (x : AX) (lo hi : Option AX)
 | slc3 (k : Nat) (x lo hi mx : AX)
 | fad (off : Nat) (x : AX)
 | fld (off : Nat) (n : Option Nat) (x : AX)
 | idx (e sz : Nat) (x i : AX)
 | idxs (x i : AX)
 | ext (x : AX) (i : Nat)
 | asrt (t : TypeId) (zero : List AV) (ag : Bool) (ok : Bool) (x : AX)
 | call (f : FuncId) (args : List AX)
 | callv (x : AX) (args : List AX)
 | inv (tab : List (TypeId × FuncId × Option (Option Nat))) (x : AX) (args : List AX)
 | len (str : Bool) (x : AX)
 | app (e sz bytes : Nat) (zero : List AV) (x y : AX)
 | mnmx (mx : Bool) (x y : AX)
 | addc (x y z : AX)
 | mx4 (x y z u : AX)
 | mkm
 | mget (zero : AV) (x i : AX)
 | mset (x i v : AX)
 | clr (sz : Nat) (zero : List AV) (x : AX)
 | nilS (neg : Bool) (x : AX)
 | nilI (neg : Bool) (x : AX)
 | b2s (x : AX)
 | apps (e bytes : Nat) (x y : AX)
 | mka (e sz n : Nat) (z : List AV)
 | idxp (e sz n : Nat) (x i : AX)
 | slp (e sz n : Nat) (x : AX)
 | bad
 deriving Inhabited
def one : AV → Bool
 | .agg _ | .tup _ | .junk => false
 | _ => true
def hasInl : List AV → Bool
 | [] => false
 | .inl _ _ :: _ => true
 | _ :: l => hasInl l
def isStrR : List (List AV) → Bool
 | [.str _] :: _ => true
 | _ => false
def litOwn (n sz : Nat) (rows : List (List AV)) : Bool := (Nat.beq n 1 && (Nat.beq sz 1 || match rows with | r :: _ => hasInl r | [] => false)) || (Nat.beq n 2 && isStrR rows)
def allOne : List AV → Bool
 | [] => true
 | c :: cs => one c && allOne cs
mutual
def cv : Value → Option AV
 | .int k n => some (.int k n)
 | .bool b => some (.bool b)
 | .string s => some (.str s)
 | .pointer none => some .nilp
 | .slice none 0 0 => some .nils
 | .nilFunc => some .nilf
 | .nilIface => some .nili
 | .map none => some .nilm
 | .agg ⟨cs⟩ => (cvs cs).bind fun l => if allOne l = true then some (.agg l) else none
 | .tuple ⟨cs⟩ => (cvs cs).map .tup
 | _ => none
def cvs : List Value → Option (List AV)
 | [] => some []
 | v :: vs => match cv v, cvs vs with
  | some a, some as => some (a :: as)
  | _, _ => none
end
def rx : Operand → Option AX
 | .tmp n => some (.t n)
 | .const v => (cv v).map .c
 | .func f => some (.c (.fn (.func f) [] []))
 | .global _ => none
def rxs (l : List Operand) : Option (List AX) := l.mapM rx
def isAg (P : Program) (t : TypeId) : Option Bool :=
 match P.underlying t with
 | some (.struct _) | some (.array _ _) => some true
 | some _ => some false
 | none => none
def szOf (P : Program) (t : TypeId) : Option Nat := (P.info? t).map (·.size)
def ldOf (P : Program) (t : TypeId) : Option (Option Nat) :=
 match isAg P t, szOf P t with
 | some true, some n => some (some n)
 | some false, some 1 => some none
 | _, _ => none
def zeroOf (P : Program) (t : TypeId) : Option (List AV) :=
 match P.info? t with
 | some i => match i.zero with
  | some z => cvs z.cells.toList
  | none => none
 | none => none
def orBad (o : Option AO) : AO := o.getD .bad
def methTab (P : Program) (name : String) : List (TypeId × FuncId × Option (Option Nat)) :=
 (List.range P.types.size).filterMap fun t =>
  match P.info? t with
  | none => none
  | some i => match i.methods.find? (·.name == name) with
   | none => none
   | some m => if m.path.isEmpty then
     match m.func, P.underlying t with
     | some (f, true), some (.pointer _) => some (t, f, none)
     | some (f, false), some (.pointer e) => (ldOf P e).map fun l => (t, f, some l)
     | some (f, false), some _ => some (t, f, none)
     | _, _ => none
    else none
def ifNames (P : Program) : List String :=
 ((List.range P.types.size).flatMap fun t => match P.underlying t with
  | some (.interface ms) => ms.toList.map (·.1)
  | _ => []).eraseDups
def mtsOf (P : Program) : MT := (ifNames P).filterMap fun n => match methTab P n with
 | [] => none
 | l => some (n, l)
def resolveFn (P : Program) (f : FuncId) (args : List AX) : Option AO :=
 match P.funcs[f]? with
 | none => none
 | some fn =>
  if fn.name == "runtime.NumGoroutine" then none
  else if fn.body.isNone then
   (if fn.name == "math/bits.Add64" && fn.origin == "" then
    match args with
    | [x, y, z] => some (.addc x y z)
    | _ => none
   else none)
  else some (.call f args)
def resolveApp (P : Program) (t t' : TypeId) (x y : AX) : Option AO :=
 if t = t' then
  match P.underlying t with
  | some (.slice e) =>
   match P.info? e, zeroOf P e with
   | some i, some z => if i.size = z.length ∧ 0 < i.size then some (.app e i.size i.bytes z x y) else none
   | _, _ => none
  | _ => none
 else match P.underlying t, P.underlying t' with
  | some (.slice e), some .string => match P.info? e with
   | some i => match i.zero, i.size with
    | some (.int .u8 0), 1 => some (.apps e i.bytes x y)
    | _, _ => none
   | none => none
  | _, _ => none
def resolveBi (P : Program) (b : Builtin) (ts : List TypeId) (args : List AX) : Option AO :=
 match b, args with
 | .len, [x] => match (ts[0]?).bind P.underlying with
  | some .string => some (.len true x)
  | some (.slice _) => some (.len false x)
  | _ => none
 | .append, [x, y] => match ts with
  | [t, t'] => resolveApp P t t' x y
  | _ => none
 | .clear, [x] => match ts with
  | [t] => match P.underlying t with
   | some (.slice e) => match P.info? e, zeroOf P e with
    | some i, some z => if i.size = z.length ∧ 0 < i.size ∧ allOne z = true then some (.clr i.size z x) else none
    | _, _ => none
   | _ => none
  | _ => none
 | .max, [x, y] => some (.mnmx true x y)
 | .min, [x, y] => some (.mnmx false x y)
 | .max, [x, y, z, u] => some (.mx4 x y z u)
 | _, _ => none
def resolveCall (P : Program) (c : Call) : Option AO :=
 (rxs c.args.toList).bind fun args =>
  match c.callee with
  | .value (.func f) => resolveFn P f args
  | .value (.tmp n) => some (.callv (.t n) args)
  | .value _ => none
  | .invoke r m => (rx r).map fun r => .inv (methTab P m) r args
  | .builtin b => resolveBi P b c.argTypes.toList args
def flatOffs (P : Program) : List Field → Option (List (Nat × Nat))
 | [] => some []
 | f :: fs =>
  if f.name ≠ "_" then
   match P.underlying f.type with
   | some (.int _) => (flatOffs P fs).map ((f.offset, 0) :: ·)
   | some .bool => (flatOffs P fs).map ((f.offset, 1) :: ·)
   | some .string => (flatOffs P fs).map ((f.offset, 2) :: ·)
   | _ => none
  else none
def tkOf (P : Program) (t : TypeId) : TK :=
 match P.underlying t with
 | some .bool => .b
 | some (.pointer _) => .p
 | some (.interface _) => .i
 | some (.slice _) => .s
 | some (.struct fs) => if P.stoodInHeld t = false ∧ P.eqGuardType P.depth t = false then
   match flatOffs P fs.toList with
   | some l => .ag l
   | none => .o
  else .o
 | _ => .o
def optX : Option Operand → Option (Option AX)
 | none => some none
 | some y => (rx y).map some
def isNilS (P : Program) (op : BinOp) (t : TypeId) (y : Operand) : Option Bool :=
 match op, P.underlying t, y with
 | .eql, some (.slice _), .const (.slice none 0 0) => some false
 | .neq, some (.slice _), .const (.slice none 0 0) => some true
 | _, _, _ => none
def isNilI (P : Program) (op : BinOp) (t : TypeId) (y : Operand) : Option Bool :=
 match op, P.underlying t, y with
 | .eql, some (.interface _), .const .nilIface => some false
 | .neq, some (.interface _), .const .nilIface => some true
 | _, _, _ => none
def rslv (P : Program) (op : Op) : AO := orBad <|
 match op with
 | .move x | .assign x => (rx x).map .mv
 | .pick c a b => do some (.pick (← rx c) (← rx a) (← rx b))
 | .alloc e => match P.underlying e with
  | some (.array n el) => if boxArr e = true then (zeroOf P e).map (.alloc e) else do
   let sz ← szOf P el
   let z ← zeroOf P e
   if z.length = n * sz ∧ 0 < sz then some (.mka e sz n z) else none
  | _ => (zeroOf P e).map (.alloc e)
 | .box e x => (rx x).map (.box e)
 | .build t parts => do
  let z ← zeroOf P t
  match P.underlying t with
  | some (.struct fs) =>
   let ps ← parts.toList.mapM fun (i, x) => do
    let f ← fs[i]?
    some (f.offset, ← szOf P f.type, ← rx x)
   let _ ← fs.toList.mapM fun f => szOf P f.type
   some (.build z ps)
  | _ => none
 | .buildSlice t n parts =>
  match P.underlying t with
  | some (.slice e) => do
   let sz ← szOf P e
   let z ← zeroOf P e
   let ps ← parts.toList.mapM fun (i, x) => do some (i, ← rx x)
   if n * sz ≤ 2 ^ 24 ∧ z.length = sz ∧ 0 < sz then some (.lit e sz n z ps) else none
  | _ => none
 | .load t x => do some (.ld (← ldOf P t) (← rx x))
 | .store t a v => do some (.st (← szOf P t) (← rx a) (← rx v))
 | .nilCheck x => (rx x).map (.nilc (mtsOf P))
 | .binOp op t x y _ => match isNilS P op t y with
  | some neg => do some (.nilS neg (← rx x))
  | none => match isNilI P op t y with
   | some neg => do some (.nilI neg (← rx x))
   | none => do some (.bin op (tkOf P t) (← rx x) (← rx y))
 | .unOp op _ x => (rx x).map (.un op)
 | .convert s d x =>
  match P.underlying s, P.underlying d with
  | some (.int _), some (.int k) => (rx x).map (.cvt k)
  | some (.slice e), some .string => match P.underlying e, szOf P e with
   | some (.int .u8), some 1 => (rx x).map .b2s
   | _, _ => none
  | _, _ => none
 | .makeInterface t x =>
  match P.underlying t with
  | some (.interface _) | none => none
  | _ => (rx x).map (.mki t)
 | .makeFunc f a b => do some (.mkf f (← rxs a.toList) (← rxs b.toList))
 | .makeSlice t l c =>
  match P.underlying t with
  | some (.slice e) => do
   let i ← P.info? e
   let z ← zeroOf P e
   if i.size = z.length ∧ 0 < i.size then some (.mks e i.size i.bytes z (← rx l) (← rx c)) else none
  | _ => none
 | .slice t x (some lo) (some hi) (some mx) =>
  match P.underlying t with
  | some (.slice e) => do
   some (.slc3 (← szOf P e) (← rx x) (← rx lo) (← rx hi) (← rx mx))
  | _ => none
 | .slice t x lo hi none =>
  match P.underlying t with
  | some (.slice e) => do
   let k ← szOf P e
   let lo' ← optX lo
   let hi' ← optX hi
   some (.slc (some k) (← rx x) lo' hi')
  | some .string => do
   let lo' ← optX lo
   let hi' ← optX hi
   some (.slc none (← rx x) lo' hi')
  | some (.array n e) => match lo, hi with
   | none, none => do some (.slp t (← szOf P e) n (← rx x))
   | _, _ => none
  | _ => none
 | .fieldAddr s x i =>
  match P.underlying s with
  | some (.struct fs) => do
   let f ← fs[i]?
   let n ← szOf P f.type
   if n = 0 then none else some (.fad f.offset (← rx x))
  | _ => none
 | .field s x i =>
  match P.underlying s with
  | some (.struct fs) => do
   let f ← fs[i]?
   some (.fld f.offset (← ldOf P f.type) (← rx x))
  | _ => none
 | .indexAddr t x i =>
  match P.underlying t with
  | some (.slice e) => do some (.idx e (← szOf P e) (← rx x) (← rx i))
  | some (.array n e) => do some (.idxp t (← szOf P e) n (← rx x) (← rx i))
  | _ => none
 | .index t x i =>
  match P.underlying t with
  | some .string => do some (.idxs (← rx x) (← rx i))
  | _ => none
 | .extract x i => (rx x).map (.ext · i)
 | .typeAssert x _ t ok =>
  match P.underlying t with
  | some (.interface _) | none => none
  | _ => do some (.asrt t (← zeroOf P t) (← isAg P t) ok (← rx x))
 | .call c => resolveCall P c
 | .makeMap _ none => some .mkm
 | .lookup t x i false =>
  match P.underlying t with
  | some (.map k e) => match P.underlying k, (P.info? e).bind (·.zero) with
   | some (.int _), some (.bool b) => do some (.mget (.bool b) (← rx x) (← rx i))
   | some (.int _), some (.int k n) => do some (.mget (.int k n) (← rx x) (← rx i))
   | _, _ => none
  | _ => none
 | .mapUpdate t x i v =>
  match P.underlying t with
  | some (.map k _) => match P.underlying k with
   | some (.int _) => do some (.mset (← rx x) (← rx i) (← rx v))
   | _ => none
  | _ => none
 | _ => none
mutual
def pur : AV → Bool
 | .ptr .. | .bptr .. | .sl .. | .map _ => false
 | .fn _ a b => purs a && purs b
 | .iface _ x => pur x
 | .agg cs => purs cs
 | .tup cs => purs cs
 | _ => true
def purs : List AV → Bool
 | [] => true
 | c :: cs => pur c && purs cs
end
def pursS : List (List AV) → Bool
 | [] => true
 | r :: rs => purs r && pursS rs
inductive Cnd where
 | t
 | and (a b : Cnd)
 | eqN (x y : Nat)
 | leN (x y : Nat)
 | leI (x y : Int)
 | ltI (x y : Int)
 | neI (x y : Int)
 | rget (rows : List (List AV)) (i : Nat) (r : List AV)
 | nil (rows : List (List AV))
 | pu (rows : List (List AV))
 | mget (rows : List (List AV)) (k : IntKind) (n : Int) (z v : AV)
 | mset (rows : List (List AV)) (k : IntKind) (n : Int) (v : AV) (rows' : List (List AV))
 | byt (rows : List (List AV))
 deriving Inhabited
def mgetS (k : IntKind) (n : Int) (z : AV) : List (List AV) → Option AV
 | [] => some z
 | [.int k' m, v] :: rows => if k = k' then if n = m then some v else mgetS k n z rows else none
 | _ => none
def msetS (k : IntKind) (n : Int) (v : AV) : List (List AV) → Option (List (List AV))
 | [] => some [[.int k n, v]]
 | [.int k' m, u] :: rows => if k = k' then if n = m then some ([.int k n, v] :: rows) else (msetS k n v rows).map ([.int k' m, u] :: ·) else none
 | _ => none
def mBS (rows : List (List AV)) (k : IntKind) (n : Int) : Bool := match mgetS k n .junk rows with
 | some (.bool b) => b
 | _ => false
def mIS (rows : List (List AV)) (k : IntKind) (n : Int) : Int := match mgetS k n .junk rows with
 | some (.int _ m) => m
 | _ => 0
def mSS (rows : List (List AV)) (k : IntKind) (n : Int) (v : AV) : List (List AV) := (msetS k n v rows).getD rows
def srowS (s : ByteArray) : List (List AV) := s.data.toList.map fun b => [.int .u8 b.toNat]
def bstrS (rows : List (List AV)) : ByteArray := ⟨(rows.map fun r => match r with
 | [.int _ n] => n.toNat.toUInt8
 | _ => 0).toArray⟩
def Cnd.holds : Cnd → Prop
 | .t => True
 | .and a b => a.holds ∧ b.holds
 | .eqN x y => x = y
 | .leN x y => x ≤ y
 | .leI x y => x ≤ y
 | .ltI x y => x < y
 | .neI x y => x ≠ y
 | .rget rows i r => rows[i]? = some r
 | .nil rows => rows = []
 | .pu rows => pursS rows = true
 | .mget rows k n z v => mgetS k n z rows = some v
 | .mset rows k n v rows' => msetS k n v rows = some rows'
 | .byt rows => ∀ r ∈ rows, ∃ n : Int, r = [.int .u8 n]
structure Ar where
 iop : BinOp → IntKind → Int → Int → Int
 cmp : BinOp → Int → Int → Bool
 sop : BinOp → ByteArray → ByteArray → Bool
 cat : ByteArray → ByteArray → ByteArray
 ssub : ByteArray → Nat → Nat → ByteArray
 beq : Bool → Bool → Bool
 and : Bool → Bool → Bool
 not : Bool → Bool
 neg : IntKind → Int → Int
 xor : IntKind → Int → Int
 cvt : IntKind → Int → Int
 mx : Int → Int → Int
 mn : Int → Int → Int
 tn : Int → Nat
 ofN : Nat → Int
 add : Nat → Nat → Nat
 mul : Nat → Nat → Nat
 mulI : Int → Nat → Int
 sub : Nat → Nat → Nat
 slen : ByteArray → Nat
 sidx : ByteArray → Int → Int
 rlen : List (List AV) → Nat
 rtake : List (List AV) → Nat → List (List AV)
 rdrop : List (List AV) → Nat → List (List AV)
 rapp : List (List AV) → Nat → List (List AV) → List (List AV)
 rset : List (List AV) → Nat → List AV → List (List AV)
 rrep : Nat → List AV → List (List AV)
 nd : Cnd → Prop
 im : Bool → Bool → Prop → Prop
 cI : List (List AV) → Nat → Nat → Int
 cB : List (List AV) → Nat → Nat → Bool
 cS : List (List AV) → Nat → Nat → ByteArray
 cR : List (List AV) → Nat → Nat → List (List AV)
 cX : List (List AV) → Nat → List AV
 s0 : Int → Int → Int
 c0 : Int → Int → Int
 mB : List (List AV) → IntKind → Int → Bool
 mI : List (List AV) → IntKind → Int → Int
 mS : List (List AV) → IntKind → Int → AV → List (List AV)
 adz : Nat → Nat → Nat
 bstr : List (List AV) → ByteArray
 srow : ByteArray → List (List AV)
def adzS : Nat → Nat → Nat
 | 0, x => x
 | k + 1, x => k + 1 + x
theorem adzS_eq (o x : Nat) : adzS o x = o + x := by cases o <;> simp [adzS]
def iopS (op : BinOp) (k : IntKind) (x y : Int) : Int :=
 match op with
 | .add => k.wrap (x + y)
 | .sub => k.wrap (x - y)
 | .mul => k.wrap (x * y)
 | .quo => k.wrap (x.tdiv y)
 | .rem => x.tmod y
 | .and => k.wrap (BitVec.ofInt k.bits x &&& BitVec.ofInt k.bits y).toNat
 | .or => k.wrap (BitVec.ofInt k.bits x ||| BitVec.ofInt k.bits y).toNat
 | .xor => k.wrap (BitVec.ofInt k.bits x ^^^ BitVec.ofInt k.bits y).toNat
 | .andNot => k.wrap (BitVec.ofInt k.bits x &&& ~~~ BitVec.ofInt k.bits y).toNat
 | .shl => k.wrap (x * 2 ^ (Nat.min y.toNat k.bits))
 | .shr => x.fdiv (2 ^ (Nat.min y.toNat k.bits))
 | _ => 0
def cmpS (op : BinOp) (x y : Int) : Bool :=
 match op with
 | .eql => x == y
 | .neq => x != y
 | .lss => decide (x < y)
 | .leq => decide (x ≤ y)
 | .gtr => decide (x > y)
 | .geq => decide (x ≥ y)
 | _ => false
def sopS (op : BinOp) (x y : ByteArray) : Bool :=
 match op with
 | .eql => x.toList == y.toList
 | .neq => !(x.toList == y.toList)
 | .lss => Op.bytesLess x.toList y.toList
 | .leq => Op.bytesLess x.toList y.toList || x.toList == y.toList
 | .gtr => !(Op.bytesLess x.toList y.toList || x.toList == y.toList)
 | .geq => !(Op.bytesLess x.toList y.toList)
 | _ => false
def rappS (rows : List (List AV)) (n : Nat) (new : List (List AV)) : List (List AV) := rows.take n ++ new ++ rows.drop (n + new.length)
def cellS (rows : List (List AV)) (i j : Nat) : AV := ((rows[i]?).bind (·[j]?)).getD .junk
def cIS (rows : List (List AV)) (i j : Nat) : Int := match cellS rows i j with
 | .int _ n => n
 | _ => 0
def cBS (rows : List (List AV)) (i j : Nat) : Bool := match cellS rows i j with
 | .bool b => b
 | _ => false
def cSS (rows : List (List AV)) (i j : Nat) : ByteArray := match cellS rows i j with
 | .str s => s
 | _ => ByteArray.empty
def cRS (rows : List (List AV)) (i j : Nat) : List (List AV) := match cellS rows i j with
 | .inl _ rs => rs
 | _ => []
def arS : Ar where
 iop := iopS
 cmp := cmpS
 sop := sopS
 cat := fun x y => x ++ y
 ssub := fun s a b => s.extract a b
 beq := fun x y => x == y
 and := fun x y => x && y
 not := fun x => !x
 neg := fun k x => k.wrap (0 - x)
 xor := fun k x => k.wrap (BitVec.ofInt k.bits (if k.signed then -1 else k.max) ^^^ BitVec.ofInt k.bits x).toNat
 cvt := fun k x => k.wrap x
 mx := fun x y => if y > x then y else x
 mn := fun x y => if y < x then y else x
 tn := Int.toNat
 ofN := fun n => (n : Int)
 add := fun x y => x + y
 mul := fun x y => x * y
 mulI := fun x y => x * y
 sub := fun x y => x - y
 slen := fun s => s.size
 sidx := fun s n => ((s.data.toList.getD n.toNat 0).toNat : Int)
 rlen := List.length
 rtake := fun r n => r.take n
 rdrop := fun r n => r.drop n
 rapp := rappS
 rset := fun r n x => r.set n x
 rrep := fun n r => List.replicate n r
 nd := Cnd.holds
 im := fun b c q => b = c → q
 cI := cIS
 cB := cBS
 cS := cSS
 cR := cRS
 cX := fun rows i => (rows[i]?).getD []
 s0 := fun x y => ((x.toNat + y.toNat : Nat) : Int) % 18446744073709551616
 c0 := fun x y => ((x.toNat + y.toNat : Nat) : Int) / 18446744073709551616
 mB := mBS
 mI := mIS
 mS := mSS
 adz := adzS
 bstr := bstrS
 srow := srowS
abbrev RowF := Ar → TypeId → List (List AV) → Nat → List AV
inductive Out where
 | ok (v : AV) (H : List ABlk)
 | need (p : Cnd) (o : Out)
 | ask (p : List AV → Prop) (k : List AV → Out)
 | br (b : Bool) (k : Bool → Out)
 | nilq (neg : Bool) (n : Nat) (H : List ABlk)
 | call (f : FuncId) (args : List AV)
 | bad
 deriving Inhabited
def sym : AV → AV
 | .bool b => .sb b
 | v => v
def uns : AV → AV
 | .sb b => .bool b
 | v => v
def cellsOf : AV → List AV
 | .agg cs => cs
 | v => [uns v]
def lenL {α : Type} : List α → Nat
 | [] => 0
 | _ :: l => lenL l + 1
def getL {α : Type} : List α → Nat → Option α
 | [], _ => none
 | x :: _, 0 => some x
 | _ :: l, n + 1 => getL l n
def setL {α : Type} : List α → Nat → α → List α
 | [], _, _ => []
 | _ :: l, 0, y => y :: l
 | x :: l, n + 1, y => x :: setL l n y
def dropL {α : Type} : Nat → List α → List α
 | 0, l => l
 | _ + 1, [] => []
 | n + 1, _ :: l => dropL n l
def takeL {α : Type} : Nat → List α → Option (List α)
 | 0, _ => some []
 | _ + 1, [] => none
 | n + 1, x :: l => (takeL n l).map (x :: ·)
def appL {α : Type} : List α → List α → List α
 | [], m => m
 | x :: l, m => x :: appL l m
def splL : List AV → Nat → List AV → Option (List AV)
 | cs, 0, [] => some cs
 | [], 0, _ :: _ => none
 | _ :: cs, 0, y :: ys => (splL cs 0 ys).map (y :: ·)
 | [], _ + 1, _ => none
 | c :: cs, o + 1, ys => (splL cs o ys).map (c :: ·)
def repL {α : Type} : Nat → α → List α
 | 0, _ => []
 | n + 1, x => x :: repL n x
def ev (fr : List AV) : AX → AV
 | .t n => (getL fr n).getD .junk
 | .c v => v
def evs (fr : List AV) : List AX → List AV
 | [] => []
 | x :: xs => ev fr x :: evs fr xs
def partA (n : Option Nat) (cs : List AV) : Option AV :=
 match n with
 | none => match cs with
  | c :: _ => some (sym c)
  | [] => none
 | some n => (takeL n cs).map .agg
def okO (v : Option AV) (H : List ABlk) : Out :=
 match v with
 | some v => .ok v H
 | none => .bad
def buildA (fr : List AV) : List AV → List (Nat × Nat × AX) → Option (List AV)
 | z, [] => some z
 | z, (o, n, x) :: ps =>
  let cs := cellsOf (ev fr x)
  if lenL cs = n ∧ allOne cs = true then
   match splL z o cs with
   | some z' => buildA fr z' ps
   | none => none
  else none
def litA (fr : List AV) (sz : Nat) : List (List AV) → List (Nat × AX) → Option (List (List AV))
 | rows, [] => some rows
 | rows, (i, x) :: ps =>
  let cs := cellsOf (ev fr x)
  if lenL cs = sz ∧ allOne cs = true ∧ i < lenL rows then litA fr sz (setL rows i cs) ps else none
def rowsOf (A : Ar) (H : List ABlk) (x : AV) (k : List (List AV) → Out) (sz : Nat) : Out :=
 match x with
 | .nils => k []
 | .inl sz' rows => if sz' = sz then k rows else .need (.nil rows) (k [])
 | .sl id t o n => match getL H id with
  | some (.arr _ sz' rows) => if sz' = sz then .need (.and (.eqN t (A.rlen rows)) (.leN (A.add o n) (A.rlen rows))) (k (A.rtake (A.rdrop rows o) n)) else .bad
  | _ => .bad
 | _ => .bad
def binA (A : Ar) (op : BinOp) (x y : AV) (H : List ABlk) : Out :=
 match x, y with
 | .int k a, .int k' b =>
  match op with
  | .shl | .shr => .need (.leI 0 b) (.ok (.int k (A.iop op k a b)) H)
  | _ => if k = k' then
    match op with
    | .quo | .rem => .need (.neI b 0) (.ok (.int k (A.iop op k a b)) H)
    | .add | .sub | .mul | .and | .or | .xor | .andNot => .ok (.int k (A.iop op k a b)) H
    | .eql | .neq | .lss | .leq | .gtr | .geq => .ok (.sb (A.cmp op a b)) H
    | _ => .bad
   else .bad
 | .str s, .str t =>
  match op with
  | .add => .need (.leN (A.add (A.slen s) (A.slen t)) 9223372036854775807) (.ok (.str (A.cat s t)) H)
  | .eql | .neq | .lss | .leq | .gtr | .geq => .ok (.sb (A.sop op s t)) H
  | _ => .bad
 | _, _ => .bad
def nilQ (x : AV) (H : List ABlk) (k : Bool → Out) : Out :=
 match x with
 | .nilp => k true
 | .bptr _ _ => k false
 | .iptr _ => k false
 | .ptr _ _ _ _ => k false
 | _ => .bad
def isNilp : AV → Bool
 | .nilp => true
 | _ => false
def nil2 (x y : AV) (H : List ABlk) (k : Bool → Out) : Out :=
 match isNilp y, isNilp x with
 | true, _ => nilQ x H k
 | false, true => nilQ y H k
 | false, false => .bad
def eqC (A : Ar) (k : Nat) (x y : AV) : Option Bool :=
 match k, x, y with
 | 0, .int k a, .int k' b => if k = k' then some (A.cmp .eql a b) else none
 | 1, .bool a, .bool b => some (A.beq a b)
 | 2, .str a, .str b => some (A.sop .eql a b)
 | _, _, _ => none
def eqF (A : Ar) (xs ys : List AV) : List (Nat × Nat) → Option Bool
 | [] => some true
 | (o, k) :: os => match getL xs o, getL ys o with
  | some x, some y => match eqC A k x y, eqF A xs ys os with
   | some b, some c => some (A.and b c)
   | _, _ => none
  | _, _ => none
def binQ (A : Ar) (op : BinOp) (k : TK) (x y : AV) (H : List ABlk) : Out :=
 match x, y with
 | .int _ _, .int _ _ => binA A op x y H
 | .str _, .str _ => binA A op x y H
 | .agg xs, .agg ys => match k, op with
  | .ag offs, .eql => match eqF A xs ys offs with
   | some b => .ok (.sb b) H
   | none => .bad
  | .ag offs, .neq => match eqF A xs ys offs with
   | some b => .ok (.sb (A.not b)) H
   | none => .bad
  | _, _ => .bad
 | x, y => match k, op with
  | .b, .eql => match sym x, sym y with
   | .sb a, .sb b => .ok (.sb (A.beq a b)) H
   | _, _ => .bad
  | .b, .neq => match sym x, sym y with
   | .sb a, .sb b => .ok (.sb (A.not (A.beq a b))) H
   | _, _ => .bad
  | .p, .eql => nil2 x y H fun b => .ok (.bool b) H
  | .p, .neq => nil2 x y H fun b => .ok (.bool (!b)) H
  | _, _ => .bad
def ldA (A : Ar) (σr : RowF) (n : Option Nat) (x : AV) (H : List ABlk) (k : AV → Out) : Out :=
 match x with
 | .bptr id o => match getL H id with
  | some (.box _ cs) => match partA n (dropL o cs) with
   | some v => k v
   | none => .bad
  | _ => .bad
 | .iptr cs => match partA n cs with
  | some v => k v
  | none => .bad
 | .ptr id t r o => match getL H id with
  | some (.arr e _ rows) => .need (.and (.eqN t (A.rlen rows)) (.rget rows r (σr A e rows r))) (match partA n (dropL o (σr A e rows r)) with
   | some v => k v
   | none => .bad)
  | _ => .bad
 | _ => .bad
def bndA (fr : List AV) : Option AX → Option (Option Int)
 | none => some none
 | some x => match ev fr x with
  | .int _ n => some (some n)
  | _ => none
def slcA (A : Ar) (k : Option Nat) (x : AV) (lo hi : Option Int) (H : List ABlk) : Out :=
 match k, x with
 | some z, .inl sz rows => if sz = z then match lo, hi with
  | none, none => .ok (.inl sz rows) H
  | none, some h => .need (.and (.leI 0 h) (.leI h (A.ofN (A.rlen rows)))) (.ok (.inl sz (A.rtake rows (A.tn h))) H)
  | some l, none => .need (.and (.leI 0 l) (.leI l (A.ofN (A.rlen rows)))) (.ok (.inl sz (A.rdrop rows (A.tn l))) H)
  | some l, some h => .need (.and (.leI 0 l) (.and (.leI l h) (.leI h (A.ofN (A.rlen rows))))) (.ok (.inl sz (A.rdrop (A.rtake rows (A.tn h)) (A.tn l))) H)
  else .bad
 | some z, .sl id t o n => match getL H id with
  | some (.arr _ sz rows) => if sz = z then match lo, hi with
   | none, none => .need (.eqN t (A.rlen rows)) (.ok (.sl id t o n) H)
   | none, some h => .need (.and (.leI 0 h) (.and (.leI h (A.ofN n)) (.eqN t (A.rlen rows)))) (.ok (.sl id t o (A.tn h)) H)
   | some l, none => .need (.and (.leI 0 l) (.and (.leI l (A.ofN n)) (.eqN t (A.rlen rows)))) (.ok (.sl id t (A.add o (A.tn l)) (A.sub n (A.tn l))) H)
   | some l, some h => .need (.and (.leI 0 l) (.and (.leI l h) (.and (.leI h (A.ofN (A.sub (A.rlen rows) o))) (.eqN t (A.rlen rows))))) (.ok (.sl id t (A.add o (A.tn l)) (A.sub (A.tn h) (A.tn l))) H)
   else .bad
  | _ => .bad
 | some _, .nils => .need (.and (.leI (lo.getD 0) 0) (.and (.leI 0 (lo.getD 0)) (.and (.leI (hi.getD 0) 0) (.leI 0 (hi.getD 0))))) (.ok .nils H)
 | none, .str s => match lo, hi with
  | none, none => .ok (.str s) H
  | none, some h => .need (.and (.leI 0 h) (.leI h (A.ofN (A.slen s)))) (.ok (.str (A.ssub s 0 (A.tn h))) H)
  | some l, none => .need (.and (.leI 0 l) (.leI l (A.ofN (A.slen s)))) (.ok (.str (A.ssub s (A.tn l) (A.slen s))) H)
  | some l, some h => .need (.and (.leI 0 l) (.and (.leI l h) (.leI h (A.ofN (A.slen s))))) (.ok (.str (A.ssub s (A.tn l) (A.tn h))) H)
 | _, _ => .bad
def appA (A : Ar) (e sz bytes : Nat) (x : AV) (new : List (List AV)) (H : List ABlk) : Out :=
 match x with
 | .nils => .need (.and (.leN (A.rlen new) 140737488355328) (.leN (A.mul (A.rlen new) bytes) 140737488355328)) (.ok (.sl (lenL H) (A.rlen new) 0 (A.rlen new)) (appL H [.arr e sz new]))
 | .sl id t 0 n => match getL H id with
  | some (.arr e' sz' rows) => if e' = e ∧ sz' = sz then
    .need (.and (.eqN t (A.rlen rows)) (.and (.leN n (A.rlen rows)) (.and (.leN (A.add n (A.rlen new)) 140737488355328) (.leN (A.mul (A.add n (A.rlen new)) bytes) 140737488355328)))) (.ok (.sl id (A.rlen (A.rapp rows n new)) 0 (A.add n (A.rlen new))) (setL H id (.arr e sz (A.rapp rows n new))))
   else .bad
  | _ => .bad
 | _ => .bad
def lookT : List (TypeId × FuncId × Option (Option Nat)) → TypeId → Option (FuncId × Option (Option Nat))
 | [], _ => none
 | (t', f, l) :: r, t => if t' = t then some (f, l) else lookT r t
def lookM : MT → String → TypeId → Option (FuncId × Option (Option Nat))
 | [], _, _ => none
 | (m, l) :: r, n, t => if m = n then lookT l t else lookM r n t
def mvalOk (mt : MT) (n : String) : List AV → List AV → Bool
 | [.iface t _], [] => match lookM mt n t with
  | some (_, none) => true
  | _ => false
 | _, _ => false
def chunk (sz : Nat) : Nat → List AV → List (List AV)
 | 0, _ => []
 | n + 1, z => (takeL sz z).getD [] :: chunk sz n (dropL sz z)
def exec1 (A : Ar) (σr : RowF) (fr : List AV) (H : List ABlk) : AO → Out
 | .mv x => .ok (ev fr x) H
 | .pick c a b => match ev fr c with
  | .bool true => .ok (ev fr a) H
  | .bool false => .ok (ev fr b) H
  | .sb s => .br s fun s => .ok (ev fr (if s then a else b)) H
  | _ => .bad
 | .alloc e z => if allOne z = true then .ok (.bptr (lenL H) 0) (appL H [.box e z]) else .bad
 | .box e x => let cs := cellsOf (ev fr x); if allOne cs = true then .ok (.bptr (lenL H) 0) (appL H [.box e cs]) else .bad
 | .build z ps => if allOne z = true then okO ((buildA fr z ps).map .agg) H else .bad
 | .lit e sz n z ps => if allOne z = true then
   match litA fr sz (repL n z) ps with
   | some rows => if n = 0 then .ok .nils H else if pursS rows && !(litOwn n sz rows) then .ok (.inl sz rows) H else .ok (.sl (lenL H) n 0 n) (appL H [.arr e sz rows])
   | none => .bad
  else .bad
 | .ld n x => ldA A σr n (ev fr x) H fun v => .ok v H
 | .st n a v =>
  let cs := cellsOf (ev fr v)
  if lenL cs = n ∧ allOne cs = true then
   match ev fr a with
   | .bptr id o => match getL H id with
    | some (.box e bs) => match splL bs o cs with
     | some bs' => .ok (.tup []) (setL H id (.box e bs'))
     | none => .bad
    | _ => .bad
   | .ptr id t r o => match getL H id with
    | some (.arr e sz rows) => match splL (σr A e rows r) o cs with
     | some row' => .need (.and (.eqN t (A.rlen rows)) (.rget rows r (σr A e rows r))) (.ok (.tup []) (setL H id (.arr e sz (A.rset rows r row'))))
     | none => .bad
    | _ => .bad
   | _ => .bad
  else .bad
 | .nilc mt x => match ev fr x with
  | .ptr a b c d => .ok (.ptr a b c d) H
  | .bptr a b => .ok (.bptr a b) H
  | .iptr cs => .ok (.iptr cs) H
  | .fn (.func f) a b => .ok (.fn (.func f) a b) H
  | .fn (.method n) fi ca => if mvalOk mt n fi ca then .ok (.fn (.method n) fi ca) H else .bad
  | _ => .bad
 | .bin op k x y => binQ A op k (ev fr x) (ev fr y) H
 | .un op x => match op, ev fr x with
  | .not, .bool b => .ok (.bool (!b)) H
  | .not, .sb b => .ok (.sb (A.not b)) H
  | .neg, .int k n => .ok (.int k (A.neg k n)) H
  | .xor, .int k n => .ok (.int k (A.xor k n)) H
  | _, _ => .bad
 | .cvt k x => match ev fr x with
  | .int _ n => .ok (.int k (A.cvt k n)) H
  | _ => .bad
 | .mki t x => .ok (.iface t (uns (ev fr x))) H
 | .mkf f a b => .ok (.fn f (evs fr a) (evs fr b)) H
 | .mks e sz bytes z l c => match ev fr l, ev fr c with
  | .int .i64 l, .int .i64 c => if allOne z = true then .need (.and (.leI 0 l) (.and (.leI l c) (.and (.leI c 140737488355328) (.leI (A.mulI c bytes) 140737488355328)))) (.ok (.sl (lenL H) (A.tn l) 0 (A.tn l)) (appL H [.arr e sz (A.rrep (A.tn l) z)])) else .bad
  | _, _ => .bad
 | .slc k x lo hi => match bndA fr lo, bndA fr hi with
  | some lo, some hi => slcA A k (ev fr x) lo hi H
  | _, _ => .bad
 | .slc3 k x lo hi mx => match ev fr x, ev fr lo, ev fr hi, ev fr mx with
  | .sl id t o n, .int _ l, .int _ h, .int _ m => match getL H id with
   | some (.arr _ sz rows) => if sz = k then .need (.and (.eqN t (A.rlen rows)) (.and (.leI 0 l) (.and (.leI l h) (.and (.leI h m) (.leI m (A.ofN n)))))) (.ok .junk H) else .bad
   | _ => .bad
  | _, _, _, _ => .bad
 | .fad off x => match ev fr x with
  | .bptr id o => .ok (.bptr id (o + off)) H
  | .iptr cs => .ok (.iptr (dropL off cs)) H
  | .ptr id t r o => .ok (.ptr id t r (o + off)) H
  | _ => .bad
 | .fld off n x => match ev fr x with
  | .agg cs => okO (partA n (dropL off cs)) H
  | _ => .bad
 | .idx e sz x i => match ev fr x, ev fr i with
  | .inl sz' rows, .int _ n => if sz = sz' then .need (.and (.leI 0 n) (.rget rows (A.tn n) (σr A e rows (A.tn n)))) (.ok (.iptr (σr A e rows (A.tn n))) H) else .bad
  | .sl id t o len, .int _ n => match getL H id with
   | some (.arr _ sz' rows) => if sz = sz' then .need (.and (.leI 0 n) (.and (.ltI n (A.ofN len)) (.eqN t (A.rlen rows)))) (.ok (.ptr id t (A.adz o (A.tn n)) 0) H) else .bad
   | _ => .bad
  | _, _ => .bad
 | .idxs x i => match ev fr x, ev fr i with
  | .str s, .int _ n => .need (.and (.leI 0 n) (.ltI n (A.ofN (A.slen s)))) (.ok (.int .u8 (A.sidx s n)) H)
  | _, _ => .bad
 | .ext x i => match ev fr x with
  | .tup vs => okO ((getL vs i).map sym) H
  | _ => .bad
 | .asrt t z ag ok x => match ev fr x with
  | .iface t' v => if t' = t then .ok (if ok then .tup [v, .bool true] else sym v) H else .bad
  | _ => .bad
 | .call f args => .call f (evs fr args)
 | .callv x args => match ev fr x with
  | .fn (.func f) a b => .call f (appL a (appL (evs fr args) b))
  | _ => .bad
 | .inv tab x args => match ev fr x with
  | .iface t v => match lookT tab t with
   | some (f, none) => .call f (v :: evs fr args)
   | some (f, some l) => ldA A σr l v H fun u => .call f (u :: evs fr args)
   | none => .bad
  | _ => .bad
 | .len str x => match str, ev fr x with
  | false, .nils => .ok (.int .i64 0) H
  | false, .inl _ rows => .ok (.int .i64 (A.ofN (A.rlen rows))) H
  | false, .sl id t _ n => match getL H id with
   | some (.arr _ _ rows) => .need (.eqN t (A.rlen rows)) (.ok (.int .i64 (A.ofN n)) H)
   | _ => .bad
  | true, .str s => .ok (.int .i64 (A.ofN (A.slen s))) H
  | _, _ => .bad
 | .app e sz bytes _ x y => rowsOf A H (ev fr y) (fun new => appA A e sz bytes (ev fr x) new H) sz
 | .mnmx mx x y => match ev fr x, ev fr y with
  | .int k a, .int k' b => if k = k' then .ok (.int k (if mx then A.mx a b else A.mn a b)) H else .bad
  | _, _ => .bad
 | .addc x y z => match ev fr x, ev fr y, ev fr z with
  | .int .u64 a, .int .u64 b, .int .u64 0 => .ok (.tup [.int .u64 (A.s0 a b), .int .u64 (A.c0 a b)]) H
  | _, _, _ => .bad
 | .mx4 x y z u => match ev fr x, ev fr y, ev fr z, ev fr u with
  | .int .i64 a, .int .i64 b, .int .i64 c, .int .i64 d => .ok (.int .i64 (A.mx (A.mx (A.mx a b) c) d)) H
  | _, _, _, _ => .bad
 | .mkm => .ok (.map (lenL H)) (appL H [.mpb []])
 | .mget z x i => match ev fr x, ev fr i with
  | .nilm, .int _ _ => .ok (sym z) H
  | .map id, .int k n => match getL H id with
   | some (.mpb rows) => match z with
    | .bool b => .need (.mget rows k n (.bool b) (.bool (A.mB rows k n))) (.ok (.sb (A.mB rows k n)) H)
    | .int k' m => .need (.mget rows k n (.int k' m) (.int k' (A.mI rows k n))) (.ok (.int k' (A.mI rows k n)) H)
    | _ => .bad
   | _ => .bad
  | _, _ => .bad
 | .mset x i v => match ev fr x, ev fr i with
  | .map id, .int k n => match getL H id with
   | some (.mpb rows) => if pur (uns (ev fr v)) = true then .need (.mset rows k n (uns (ev fr v)) (A.mS rows k n (uns (ev fr v)))) (.ok (.tup []) (setL H id (.mpb (A.mS rows k n (uns (ev fr v)))))) else .bad
   | _ => .bad
  | _, _ => .bad
 | .nilS neg x => match ev fr x with
  | .nils => .nilq neg 0 H
  | .inl _ rows => .nilq neg (A.rlen rows) H
  | .sl id t _ n => match getL H id with
   | some (.arr _ _ rows) => .need (.eqN t (A.rlen rows)) (.nilq neg n H)
   | _ => .bad
  | _ => .bad
 | .nilI neg x => match ev fr x with
  | .nili => .ok (.bool (!neg)) H
  | .iface _ _ => .ok (.bool neg) H
  | _ => .bad
 | .mka e sz n z => if allOne z = true then .ok (.ptr (lenL H) n 0 0) (appL H [.arr e sz (chunk sz n z)]) else .bad
 | .idxp e sz n x i => match ev fr x, ev fr i with
  | .ptr id t r 0, .int _ k => match getL H id with
   | some (.arr e' sz' rows) => if e' = e ∧ sz' = sz then .need (.and (.leI 0 k) (.and (.ltI k (A.ofN n)) (.and (.eqN t (A.rlen rows)) (.eqN r 0)))) (.ok (.ptr id t (A.tn k) 0) H) else .bad
   | _ => .bad
  | .bptr id o, .int _ k => .need (.and (.leI 0 k) (.ltI k (A.ofN n))) (.ok (.bptr id (A.add o (A.mul (A.tn k) sz))) H)
  | _, _ => .bad
 | .slp e sz n x => match ev fr x with
  | .ptr id t r 0 => match getL H id with
   | some (.arr e' sz' rows) => if e' = e ∧ sz' = sz then .need (.and (.eqN t (A.rlen rows)) (.and (.eqN r 0) (.and (.eqN (A.rlen rows) n) (.pu rows)))) (.ok (.inl sz rows) (setL H id (.dead (.row (A.rlen rows) sz)))) else .bad
   | _ => .bad
  | _ => .bad
 | .b2s x => rowsOf A H (ev fr x) (fun rows => .need (.byt rows) (.ok (.str (A.bstr rows)) H)) 1
 | .apps e bytes x y => match ev fr y with
  | .str s => appA A e 1 bytes (ev fr x) (A.srow s) H
  | _ => .bad
 | .clr sz z x => match ev fr x with
  | .nils => .ok (.tup []) H
  | .sl id t o n => match getL H id with
   | some (.arr e sz' rows) => if sz' = sz then .need (.and (.eqN t (A.rlen rows)) (.leN (A.add o n) (A.rlen rows))) (.ok (.tup []) (setL H id (.arr e sz (A.rapp rows o (A.rrep n z))))) else .bad
   | _ => .bad
  | _ => .bad
 | .bad => .bad
end Go.Ab

namespace Go.Ab
open Go
set_option linter.unusedVariables false
set_option linter.unusedSimpArgs false
theorem lenL_eq {α : Type} : ∀ l : List α, lenL l = l.length
 | [] => rfl
 | _ :: l => by simp [lenL, lenL_eq l]
theorem getL_eq {α : Type} : ∀ (l : List α) (n : Nat), getL l n = l[n]?
 | [], _ => by simp [getL]
 | x :: _, 0 => by simp [getL]
 | _ :: l, n + 1 => by simp [getL, getL_eq l n]
theorem setL_eq {α : Type} : ∀ (l : List α) (n : Nat) (y : α), setL l n y = l.set n y
 | [], _, _ => rfl
 | _ :: l, 0, y => rfl
 | x :: l, n + 1, y => by simp [setL, setL_eq l n y]
theorem dropL_eq {α : Type} : ∀ (n : Nat) (l : List α), dropL n l = l.drop n
 | 0, l => by simp [dropL]
 | _ + 1, [] => by simp [dropL]
 | n + 1, _ :: l => by simp [dropL, dropL_eq n l]
theorem appL_eq {α : Type} : ∀ l m : List α, appL l m = l ++ m
 | [], m => rfl
 | x :: l, m => by simp [appL, appL_eq l m]
theorem takeL_eq {α : Type} : ∀ (n : Nat) (l r : List α), takeL n l = some r → r = l.take n ∧ r.length = n
 | 0, l, r, h => by simp [takeL] at h; subst h; simp
 | n + 1, [], r, h => by simp [takeL] at h
 | n + 1, x :: l, r, h => by
  simp only [takeL, Option.map_eq_some_iff] at h
  obtain ⟨r', h1, rfl⟩ := h
  obtain ⟨h2, h3⟩ := takeL_eq n l r' h1
  simp [← h2, h3]
theorem repL_eq {α : Type} : ∀ (n : Nat) (x : α), repL n x = List.replicate n x
 | 0, _ => rfl
 | n + 1, x => by simp [repL, List.replicate_succ, repL_eq n x]
theorem splL_eq : ∀ (cs : List AV) (o : Nat) (ys r : List AV), splL cs o ys = some r → o + ys.length ≤ cs.length ∧ r = cs.take o ++ ys ++ cs.drop (o + ys.length)
 | cs, 0, [], r, h => by simp [splL] at h; subst h; simp
 | [], 0, _ :: _, r, h => by simp [splL] at h
 | _ :: cs, 0, y :: ys, r, h => by
  simp only [splL, Option.map_eq_some_iff] at h
  obtain ⟨r', h1, rfl⟩ := h
  obtain ⟨h2, h3⟩ := splL_eq cs 0 ys r' h1
  subst h3
  simp at h2 ⊢
  omega
 | [], _ + 1, ys, r, h => by cases ys <;> simp [splL] at h
 | c :: cs, o + 1, ys, r, h => by
  have h' : (splL cs o ys).map (c :: ·) = some r := by cases ys <;> simpa [splL] using h
  simp only [Option.map_eq_some_iff] at h'
  obtain ⟨r', h1, rfl⟩ := h'
  obtain ⟨h2, h3⟩ := splL_eq cs o ys r' h1
  subst h3
  refine ⟨by simp; omega, ?_⟩
  rw [show o + 1 + ys.length = (o + ys.length) + 1 by omega]
  simp
theorem one_cell {S : RS} {T : Sh} {c : AV} {v : Value} (h : rel S c T v) (h1 : one c = true) : v.oneCell' = true := by
 cases c <;> simp only [one, Bool.false_eq_true] at h1 <;> simp only [rel] at h
 case int => subst h; rfl
 case bool => subst h; rfl
 case sb => subst h; rfl
 case str => subst h; rfl
 case nilp => subst h; rfl
 case nilf => subst h; rfl
 case nili => subst h; rfl
 case nilm => subst h; rfl
 case ptr => obtain ⟨_, _, _, _, _, _, rfl, _⟩ := h; rfl
 case bptr => obtain ⟨_, _, _, _, _, rfl⟩ := h; rfl
 case iptr => obtain ⟨_, _, rfl, _⟩ := h; rfl
 case nils => obtain ⟨_, rfl⟩ := h; rfl
 case sl => obtain ⟨_, _, _, _, h0, _⟩ := h; exact h0
 case inl => obtain ⟨_, _, rfl, _⟩ := h; rfl
 case fn => obtain ⟨_, _, rfl, _⟩ := h; rfl
 case iface => obtain ⟨_, rfl, _⟩ := h; rfl
 case map => obtain ⟨_, _, _, _, rfl⟩ := h; rfl
theorem rels_one {S : RS} {T : Sh} : ∀ {cs : List AV} {vs : List Value}, rels S cs T vs → allOne cs = true → ∀ u ∈ vs, u.oneCell' = true
 | [], vs, h, _, u, hu => by simp only [rels] at h; subst h; simp at hu
 | c :: cs, vs, h, h1, u, hu => by
  simp only [rels] at h
  obtain ⟨v, vs', rfl, h2, h3⟩ := h
  simp only [allOne, Bool.and_eq_true] at h1
  rcases List.mem_cons.1 hu with rfl | hu
  ·exact one_cell h2 h1.1
  ·exact rels_one h3 h1.2 u hu
mutual
theorem cv_rel {S : RS} {T : Sh} : ∀ (v : Value) (c : AV), cv v = some c → rel S c T v
 | .int k n, c, h => by simp [cv] at h; subst h; simp [rel]
 | .bool b, c, h => by simp [cv] at h; subst h; simp [rel]
 | .string s, c, h => by simp [cv] at h; subst h; simp [rel]
 | .pointer none, c, h => by simp [cv] at h; subst h; simp [rel]
 | .pointer (some a), c, h => by simp [cv] at h
 | .slice none 0 0, c, h => by simp [cv] at h; subst h; exact ⟨none, rfl⟩
 | .slice none 0 (_ + 1), c, h => by simp [cv] at h
 | .slice none (_ + 1) _, c, h => by simp [cv] at h
 | .slice (some _) _ _, c, h => by simp [cv] at h
 | .nilFunc, c, h => by simp [cv] at h; subst h; simp [rel]
 | .nilIface, c, h => by simp [cv] at h; subst h; simp [rel]
 | .map none, c, h => by simp [cv] at h; subst h; simp [rel]
 | .map (some _), c, h => by simp [cv] at h
 | .float .., c, h => by simp [cv] at h
 | .complex .., c, h => by simp [cv] at h
 | .chan _, c, h => by simp [cv] at h
 | .func .., c, h => by simp [cv] at h
 | .iface .., c, h => by simp [cv] at h
 | .agg ⟨cs⟩, c, h => by
  simp only [cv, Option.bind_eq_some_iff] at h
  obtain ⟨l, h1, h2⟩ := h
  split at h2
  ·rename_i ho
   injection h2 with h2
   subst h2
   simp only [rel]
   have hr := cvs_rel (S := S) (T := T) cs l h1
   exact ⟨_, rfl, hr, fun u hu => rels_one hr ho u hu⟩
  ·cases h2
 | .tuple ⟨cs⟩, c, h => by
  simp only [cv, Option.map_eq_some_iff] at h
  obtain ⟨l, h1, rfl⟩ := h
  simp only [rel]
  exact ⟨_, rfl, cvs_rel cs l h1⟩
theorem cvs_rel {S : RS} {T : Sh} : ∀ (vs : List Value) (cs : List AV), cvs vs = some cs → rels S cs T vs
 | [], cs, h => by simp [cvs] at h; subst h; simp [rels]
 | v :: vs, cs, h => by
  simp only [cvs] at h
  cases h1 : cv v with
  | none => rw [h1] at h; cases h
  | some a =>
   cases h2 : cvs vs with
   | none => rw [h1, h2] at h; cases h
   | some as =>
    rw [h1, h2] at h
    injection h with h
    subst h
    simp only [rels]
    exact ⟨v, vs, rfl, cv_rel v a h1, cvs_rel vs as h2⟩
end
def Act.vals (a : Act) : List Value := a.tmps.toList
theorem rx_rel {S : RS} {T : Sh} {fr : List AV} {a : Act} (hf : rels S fr T a.tmps.toList) {x : Operand} {ax : AX} (h : rx x = some ax) : rel S (ev fr ax) T (a.eval x) := by
 cases x with
 | tmp n =>
  simp only [rx, Option.some.injEq] at h
  subst h
  simp only [ev, getL_eq]
  cases hn : fr[n]? with
  | none => simp [rel]
  | some c =>
   obtain ⟨v, h1, h2⟩ := rels_get hf hn
   simp only [Option.getD_some, Act.eval]
   have : a.tmps.getD n undef = v := by
    rw [Array.getElem?_toList] at h1
    simp [Array.getD_eq_getD_getElem?, h1]
   rw [this]
   exact h2
 | const v =>
  simp only [rx, Option.map_eq_some_iff] at h
  obtain ⟨c, h1, rfl⟩ := h
  exact cv_rel v c h1
 | func f =>
  simp only [rx, Option.some.injEq] at h
  subst h
  simp [ev, rel, rels, Act.eval]
 | global g => simp [rx] at h
theorem rxs_rel {S : RS} {T : Sh} {fr : List AV} {a : Act} (hf : rels S fr T a.tmps.toList) : ∀ {xs : List Operand} {axs : List AX}, rxs xs = some axs → rels S (evs fr axs) T (xs.map a.eval)
 | [], axs, h => by
  simp [rxs] at h
  subst h
  simp [evs, rels]
 | x :: xs, axs, h => by
  simp only [rxs, List.mapM_cons, Option.bind_eq_bind, Option.bind_eq_some_iff, Option.pure_def, Option.some.injEq] at h
  obtain ⟨ax, h1, as, h2, rfl⟩ := h
  simp only [evs, List.map_cons, rels]
  exact ⟨_, _, rfl, rx_rel hf h1, rxs_rel hf h2⟩
theorem run_info {P : Program} {t : TypeId} {i : TypeInfo} (h : P.info? t = some i) (w : World) : (typeInfo t).run P w = .ok i w := by simp [typeInfo, h]
theorem run_szOf {P : Program} {t : TypeId} {n : Nat} (h : szOf P t = some n) (w : World) : (sizeOf t).run P w = .ok n w := by
 simp only [szOf, Option.map_eq_some_iff] at h
 obtain ⟨i, h1, rfl⟩ := h
 simp [sizeOf, run_info h1]
theorem run_isAg {P : Program} {t : TypeId} {b : Bool} (h : isAg P t = some b) (w : World) : (isAgg t).run P w = .ok b w := by
 unfold isAg at h
 cases hu : P.underlying t with
 | none => rw [hu] at h; cases h
 | some d =>
  rw [hu] at h
  simp only [isAgg, Sem.run_bind, run_underlying hu, Result.andThen_ok]
  cases d <;> simp at h <;> subst h <;> rfl
def CellsAt (S : RS) (T : Sh) (w : World) (a : Addr) (cs : List AV) : Prop :=
 a.spot = none ∧ ∀ (j : Nat) (c : AV), cs[j]? = some c → ∃ u, w.cell? (a.add j) = some u ∧ rel S c T u ∧ u.oneCell' = true
theorem CellsAt.drop {S : RS} {T : Sh} {w : World} {a : Addr} {cs : List AV} (h : CellsAt S T w a cs) (n : Nat) : CellsAt S T w ⟨a.block, a.off + n, none⟩ (cs.drop n) := by
 obtain ⟨B, o, s⟩ := a
 obtain ⟨h0, h⟩ := h
 simp only at h0
 subst h0
 refine ⟨rfl, fun j c hj => ?_⟩
 rw [List.getElem?_drop] at hj
 obtain ⟨u, h1, h2⟩ := h _ _ hj
 exact ⟨u, by rw [← h1]; simp [Addr.add_lit, Nat.add_assoc], h2⟩
theorem sym_rel {S : RS} {T : Sh} {c : AV} {v : Value} (h : rel S c T v) : rel S (sym c) T v := by
 cases c <;> first | exact h | (simp only [sym, rel] at h ⊢; exact h)
theorem uns_rel {S : RS} {T : Sh} {c : AV} {v : Value} (h : rel S c T v) : rel S (uns c) T v := by
 cases c <;> first | exact h | (simp only [uns, rel] at h ⊢; exact h)
theorem run_ld {P : Program} {S : RS} {T : Sh} {w : World} {t : TypeId} {n : Option Nat} (hl : ldOf P t = some n) {a : Addr} {cs : List AV} (hc : CellsAt S T w a cs) {v : AV} (hv : partA n cs = some v) :
  ∃ u, (loadVar t a).run P w = .ok u w ∧ rel S v T u := by
 unfold ldOf at hl
 cases hag : isAg P t with
 | none => rw [hag] at hl; cases hl
 | some b =>
  cases hsz : szOf P t with
  | none => rw [hag, hsz] at hl; cases b <;> cases hl
  | some m =>
   rw [hag, hsz] at hl
   cases b with
   | true =>
    injection hl with hl
    subst hl
    simp only [partA, Option.map_eq_some_iff] at hv
    obtain ⟨r, h1, rfl⟩ := hv
    obtain ⟨h2, h3⟩ := takeL_eq _ _ _ h1
    have hex : ∃ us : List Value, us.length = r.length ∧ ∀ (j : Nat) (c : AV), r[j]? = some c → ∃ u, us[j]? = some u ∧ w.cell? (a.add j) = some u ∧ rel S c T u ∧ u.oneCell' = true := by
     have hr : ∀ (j : Nat) (c : AV), r[j]? = some c → ∃ u, w.cell? (a.add j) = some u ∧ rel S c T u ∧ u.oneCell' = true := fun j c hj => hc.2 j c (by
      rw [h2, List.getElem?_take] at hj
      split at hj
      ·exact hj
      ·cases hj)
     clear h1 h2 h3
     have key : ∀ (r : List AV) (k : Nat), (∀ (j : Nat) (c : AV), r[j]? = some c → ∃ u, w.cell? (a.add (k + j)) = some u ∧ rel S c T u ∧ u.oneCell' = true) → ∃ us : List Value, us.length = r.length ∧ ∀ (j : Nat) (c : AV), r[j]? = some c → ∃ u, us[j]? = some u ∧ w.cell? (a.add (k + j)) = some u ∧ rel S c T u ∧ u.oneCell' = true := by
      intro r
      induction r with
      | nil => intro k _; exact ⟨[], rfl, fun j c hj => by simp at hj⟩
      | cons c r ih =>
       intro k h
       obtain ⟨u, g1, g2⟩ := h 0 c (by simp)
       obtain ⟨us, k1, k2⟩ := ih (k + 1) (fun j c' hj => by
        obtain ⟨u', m1, m2⟩ := h (j + 1) c' (by simpa using hj)
        exact ⟨u', by rw [show k + 1 + j = k + (j + 1) by omega]; exact m1, m2⟩)
       refine ⟨u :: us, by simp [k1], fun j c' hj => ?_⟩
       cases j with
       | zero => simp at hj; subst hj; exact ⟨u, by simp, g1, g2⟩
       | succ j =>
        obtain ⟨u', m1, m2, m3⟩ := k2 j c' (by simpa using hj)
        exact ⟨u', by simpa using m1, by rw [show k + (j + 1) = k + 1 + j by omega]; exact m2, m3⟩
     simpa using key r 0 (by simpa using hr)
    obtain ⟨us, k1, k2⟩ := hex
    have hload := run_loadCells_list (P := P) w a us (fun j u hj => by
     have hlt : j < r.length := by rw [← k1]; exact (List.getElem?_eq_some_iff.1 hj).1
     obtain ⟨u', m1, m2, _⟩ := k2 j r[j] (by simp [hlt])
     rw [m1] at hj
     injection hj with hj
     subst hj
     exact m2)
    rw [k1, h3] at hload
    refine ⟨.agg us.toArray, ?_, ?_⟩
    ·simp [loadVar, run_isAg hag, run_szOf hsz, hload]
    ·simp only [rel]
     refine ⟨_, rfl, rels_of_get (by simpa using k1) (fun j c hj => ?_), fun u hu => ?_⟩
     ·obtain ⟨u, m1, _, m3, _⟩ := k2 j c hj
      exact ⟨u, by simpa using m1, m3⟩
     ·simp at hu
      obtain ⟨j, hj⟩ := List.getElem?_of_mem hu
      have hlt : j < r.length := by rw [← k1]; exact (List.getElem?_eq_some_iff.1 hj).1
      obtain ⟨u', m1, _, _, m4⟩ := k2 j r[j] (by simp [hlt])
      rw [m1] at hj
      injection hj with hj
      subst hj
      exact m4
   | false =>
    have hm : m = 1 ∧ n = none := by
     cases m with
     | zero => cases hl
     | succ m => cases m with
      | zero => injection hl with hl; exact ⟨rfl, hl.symm⟩
      | succ m => cases hl
    obtain ⟨rfl, rfl⟩ := hm
    cases cs with
    | nil => simp [partA] at hv
    | cons c cs =>
     simp only [partA, Option.some.injEq] at hv
     subst hv
     obtain ⟨u, g1, g2, _⟩ := hc.2 0 c (by simp)
     have ha : a.add 0 = a := by simp [Addr.add]
     rw [ha] at g1
     exact ⟨u, by simp [loadVar, run_isAg hag, g1], sym_rel g2⟩
theorem cellsAt_iptr {S : RS} {H : List ABlk} {T : Sh} {w : World} (h : WRel S H w) {B o : Nat} {cs : List AV} (hf : fz S B o cs) : CellsAt S T w ⟨B, o, none⟩ cs :=
 ⟨rfl, fun j c hj => by
  obtain ⟨v, h1, h2, h3⟩ := fz_get hf hj
  exact ⟨v, by rw [Addr.add_lit]; exact h.fro _ _ _ h1, rel_noSh h2, h3⟩⟩
theorem cellsAt_box {S : RS} {H : List ABlk} {w : World} (h : WRel S H w) {id B c : Nat} {e : TypeId} {cs : List AV} (hb : H[id]? = some (.box e cs)) (hρ : S.ρ id = some (B, c)) : CellsAt S (shape H) w ⟨B, 0, none⟩ cs := by
 obtain ⟨B', c', arr, h1, h2, h3, h4, _⟩ := h.blk id _ hb
 rw [hρ] at h1
 injection h1 with h1
 injection h1 with h1 _
 subst h1
 refine ⟨rfl, fun j c hj => ?_⟩
 obtain ⟨u, k1, k2⟩ := rels_get h3 hj
 refine ⟨u, ?_, k2, h4 u (List.mem_of_getElem? k1)⟩
 rw [Addr.add_lit]
 simp only [World.cell?, h2]
 simpa using k1
theorem cellsAt_row {S : RS} {H : List ABlk} {w : World} (h : WRel S H w) {id B c : Nat} {e : TypeId} {sz : Nat} {rows : List (List AV)} (hb : H[id]? = some (.arr e sz rows)) (hρ : S.ρ id = some (B, c)) {r : Nat} {row : List AV} (hr : rows[r]? = some row) :
  CellsAt S (shape H) w ⟨B, r * sz, none⟩ row := by
 obtain ⟨_, h1⟩ := h.blk id _ hb
 rw [hρ] at h1
 obtain ⟨arr, k1, k2, k3, k4, _⟩ := h1
 refine ⟨rfl, fun j c hj => ?_⟩
 obtain ⟨u, m1, m2, m3⟩ := (k4 r row hr).2 j c hj
 refine ⟨u, ?_, m2, m3⟩
 rw [Addr.add_lit]
 simp only [World.cell?, k1]
 simpa using m1
end Go.Ab

namespace Go.Ab
open Go
set_option linter.unusedVariables false
set_option linter.unusedSimpArgs false
variable {σr : RowF}
def Done (S : RS) (H : List ABlk) (K : AV → List ABlk → Prop) (u : Value) (w' : World) : Prop :=
 ∃ S' v H', Ext S (shape H) S' (shape H') ∧ WRel S' H' w' ∧ rel S' v (shape H') u ∧ K v H'
def Callable (P : Program) (f : FuncId) : Prop := ∃ fn, P.funcs[f]? = some fn ∧ (fn.name == "runtime.NumGoroutine") = false ∧ fn.body.isNone = false
def CallsA (P : Program) (f : FuncId) (args : List AV) (H : List ABlk) (R : AV → List ABlk → Prop) : Prop :=
 Callable P f ∧ ∀ S w vs, WRel S H w → rels S args (shape H) vs → Calls P f vs.toArray w fun e w' => ∃ u, e = .returned u ∧ Done S H R u w'
def unsL : List AV → List AV
 | [] => []
 | v :: l => uns v :: unsL l
def symL : List AV → List AV
 | [] => []
 | v :: l => sym v :: symL l
theorem unsL_rel {S : RS} {T : Sh} : ∀ {cs : List AV} {vs : List Value}, rels S cs T vs → rels S (unsL cs) T vs
 | [], _, h => h
 | c :: cs, vs, h => by
  simp only [rels, unsL] at h ⊢
  obtain ⟨v, vs', h1, h2, h3⟩ := h
  exact ⟨v, vs', h1, uns_rel h2, unsL_rel h3⟩
theorem symL_rel {S : RS} {T : Sh} : ∀ {cs : List AV} {vs : List Value}, rels S cs T vs → rels S (symL cs) T vs
 | [], _, h => h
 | c :: cs, vs, h => by
  simp only [rels, symL] at h ⊢
  obtain ⟨v, vs', h1, h2, h3⟩ := h
  exact ⟨v, vs', h1, sym_rel h2, symL_rel h3⟩
def sat (A : Ar) (P : Program) (H : List ABlk) : Out → (AV → List ABlk → Prop) → Prop
 | .ok v H', K => K v H'
 | .need p o, K => A.nd p ∧ sat A P H o K
 | .ask p k, K => ∃ r, p r ∧ sat A P H (k r) K
 | .br b k, K => sat A P H (k b) K
 | .nilq neg n H', K => A.im (A.cmp .eql (A.ofN n) 0) true (K (.bool (!neg)) H') ∧ K (.bool neg) H'
 | .call f args, K => CallsA P f (unsL args) H fun r H' => K (sym r) H'
 | .bad, _ => False
def opRes (P : Program) (o : Oper) (a : Act) (w : World) (G : Value → World → Prop) : Prop :=
 match (execOp a.eval o).run P w with
 | .ok (.value u) w' => G u w'
 | .ok .skip w' => G undef w'
 | .ok (.enter f args) w' => Calls P f args w' fun e w'' => ∃ u, e = .returned u ∧ G u w''
 | _ => False
theorem Done.here {S : RS} {H : List ABlk} {K : AV → List ABlk → Prop} {u : Value} {w : World} {v : AV} (h : WRel S H w) (hr : rel S v (shape H) u) (hK : K v H) : Done S H K u w :=
 ⟨S, v, H, Ext.refl _ _, h, hr, hK⟩
theorem Done.sym {S : RS} {H : List ABlk} {K : AV → List ABlk → Prop} {u : Value} {w : World} (h : Done S H (fun r H' => K (sym r) H') u w) : Done S H K u w := by
 obtain ⟨S', v, H', h1, h2, h3, h4⟩ := h
 exact ⟨S', Ab.sym v, H', h1, h2, sym_rel h3, h4⟩
theorem shape_last (H : List ABlk) (b : ABlk) : shape (H ++ [b]) H.length = some b.shp := by simp [shape]
theorem put_same (S : RS) (i : Nat) (p : Option (Nat × Nat)) : (S.put i p).ρ i = p := by simp [RS.put]
section
variable {P : Program} {S : RS} {H : List ABlk} {fr : List AV} {K : AV → List ABlk → Prop} {o : Oper} {a : Act} {w : World}
theorem orBad_some {A : Ar} {x : Option AO} (h : sat A P H (exec1 A σr fr H (orBad x)) K) : ∃ ao, x = some ao ∧ sat A P H (exec1 A σr fr H ao) K := by
 cases x with
 | none => exact h.elim
 | some ao => exact ⟨ao, rfl, h⟩
theorem sat_okO {A : Ar} {x : Option AV} (h : sat A P H (okO x H) K) : ∃ v, x = some v ∧ K v H := by
 cases x with
 | none => exact h.elim
 | some v => exact ⟨v, rfl, h⟩
theorem op_mv {x : Operand} (ho : o.op = .move x ∨ o.op = .assign x) (hf : rels S fr (shape H) a.tmps.toList) (h : WRel S H w) {ax : AX} (hx : rx x = some ax) (hK : K (ev fr ax) H) : opRes P o a w (Done S H K) := by
 unfold opRes execOp
 rcases ho with ho | ho <;> (simp only [ho, Sem.run_pure]; exact .here h (rx_rel hf hx) hK)
theorem cellsOf_rel {T : Sh} {v : AV} {u : Value} (h : rel S v T u) (h1 : allOne (cellsOf v) = true) : rels S (cellsOf v) T u.cells.toList ∧ ∀ x ∈ u.cells.toList, x.oneCell' = true := by
 by_cases hc : ∃ cs, v = .agg cs
 ·obtain ⟨cs, rfl⟩ := hc
  simp only [rel] at h
  obtain ⟨us, rfl, h2, h3⟩ := h
  exact ⟨h2, h3⟩
 ·have hcell : cellsOf v = [uns v] := by
   cases v <;> first | rfl | exact absurd ⟨_, rfl⟩ hc
  rw [hcell] at h1 ⊢
  simp only [allOne, Bool.and_true] at h1
  have hu := uns_rel h
  have ho := one_cell hu h1
  have hcu : u.cells = #[u] := by cases u <;> first | rfl | (simp [Value.oneCell'] at ho)
  rw [hcu]
  exact ⟨by simp only [rels]; exact ⟨u, [], rfl, hu, rfl⟩, by simpa using ho⟩
theorem op_box {e : TypeId} {x : Operand} (ho : o.op = .box e x) (hf : rels S fr (shape H) a.tmps.toList) (h : WRel S H w) {ax : AX} (hx : rx x = some ax) (h1 : allOne (cellsOf (ev fr ax)) = true)
  (hK : K (.bptr (lenL H) 0) (appL H [.box e (cellsOf (ev fr ax))])) : opRes P o a w (Done S H K) := by
 unfold opRes execOp
 simp only [ho, Instr.box, newVar, newRow, Sem.run_bind, run_newObj, World.alloc_eq, Result.andThen_ok, Sem.run_pure]
 obtain ⟨g1, g2⟩ := cellsOf_rel (rx_rel hf hx) h1
 rw [lenL_eq, appL_eq] at hK
 refine ⟨_, _, _, Ext.put_new S H _ _, h.box_new e _ _ g1 g2, ?_, hK⟩
 simp only [rel]
 exact ⟨_, _, _, shape_last _ _, put_same _ _ _, rfl⟩
theorem zeroOf_spec {t : TypeId} {z : List AV} (hz : zeroOf P t = some z) : ∃ i v, P.info? t = some i ∧ i.zero = some v ∧ cvs v.cells.toList = some z := by
 unfold zeroOf at hz
 cases h1 : P.info? t with
 | none => rw [h1] at hz; cases hz
 | some i =>
  rw [h1] at hz
  simp only at hz
  cases h2 : i.zero with
  | none => rw [h2] at hz; cases hz
  | some v => rw [h2] at hz; exact ⟨i, v, rfl, h2, hz⟩
theorem run_zero {t : TypeId} {i : TypeInfo} {v : Value} (h1 : P.info? t = some i) (h2 : i.zero = some v) (w : World) : (zeroValue t).run P w = .ok v w := by
 simp [zeroValue, run_info h1, h2]
theorem op_alloc {e : TypeId} (ho : o.op = .alloc e) (h : WRel S H w) {z : List AV} (hz : zeroOf P e = some z) (h1 : allOne z = true)
  (hK : K (.bptr (lenL H) 0) (appL H [.box e z])) : opRes P o a w (Done S H K) := by
 obtain ⟨i, v, hi, hv, hc⟩ := zeroOf_spec hz
 have hr := cvs_rel (S := S) (T := shape H) _ _ hc
 unfold opRes execOp
 simp only [ho, Instr.alloc, run_zero hi hv, newVar, newRow, Sem.run_bind, run_newObj, World.alloc_eq, Result.andThen_ok, Sem.run_pure]
 rw [lenL_eq, appL_eq] at hK
 refine ⟨_, _, _, Ext.put_new S H _ _, h.box_new e _ _ hr (rels_one hr h1), ?_, hK⟩
 simp only [rel]
 exact ⟨_, _, _, shape_last _ _, put_same _ _ _, rfl⟩
theorem ldA_sat {n : Option Nat} {x : AV} {k : AV → Out} {u : Value} (hA : ∀ p : Cnd, arS.nd p = p.holds) (h : WRel S H w) (hx : rel S x (shape H) u) (hs : sat arS P H (ldA arS σr n x H k) K) {t : TypeId} (hl : ldOf P t = some n) :
  ∃ v y, (Instr.loadAt t u).run P w = .ok y w ∧ rel S v (shape H) y ∧ sat arS P H (k v) K := by
 cases x <;> simp only [ldA] at hs
 case bptr id o =>
  simp only [rel] at hx
  obtain ⟨m, B, c, h1, h2, rfl⟩ := hx
  rw [getL_eq] at hs
  cases hb : H[id]? with
  | none => rw [hb] at hs; exact hs.elim
  | some b =>
   rw [hb] at hs
   cases b <;> simp only at hs
   case arr => exact hs.elim
   case dead => exact hs.elim
   case mpb => exact hs.elim
   case box e cs =>
    rw [dropL_eq] at hs
    have hc := (cellsAt_box h hb h2).drop o
    simp only [Nat.zero_add] at hc
    cases hp : partA n (cs.drop o) with
    | none => rw [hp] at hs; exact hs.elim
    | some v =>
     rw [hp] at hs
     obtain ⟨y, g1, g2⟩ := run_ld hl hc hp
     exact ⟨v, y, by simp [Instr.loadAt, Instr.sureAddr, g1], g2, hs⟩
 case iptr cs =>
  simp only [rel] at hx
  obtain ⟨B, o, rfl, h2⟩ := hx
  have hc := cellsAt_iptr (T := shape H) h h2
  cases hp : partA n cs with
  | none => rw [hp] at hs; exact hs.elim
  | some v =>
   rw [hp] at hs
   obtain ⟨y, g1, g2⟩ := run_ld hl hc hp
   exact ⟨v, y, by simp [Instr.loadAt, Instr.sureAddr, g1], g2, hs⟩
 case ptr id t' r o =>
  rw [getL_eq] at hs
  cases hb : H[id]? with
  | none => rw [hb] at hs; exact hs.elim
  | some b =>
   rw [hb] at hs
   cases b <;> simp only at hs
   case box => exact hs.elim
   case dead => exact hs.elim
   case mpb => exact hs.elim
   case arr e sz rows =>
    simp only [sat, hA] at hs
    obtain ⟨⟨ht, hrow⟩, hs⟩ := hs
    generalize σr arS e rows r = row at *
    have hrow : rows[r]? = some row := hrow
    simp only [rel] at hx
    obtain ⟨m, sz', B, o', h1, h2, rfl, h3⟩ := hx
    rw [shape_get hb] at h1
    simp only [ABlk.shp, Option.some.injEq, Shp.row.injEq] at h1
    obtain ⟨rfl, rfl⟩ := h1
    obtain ⟨c, g1, rfl⟩ := h3 ht
    have hc := (cellsAt_row h hb g1 hrow).drop o
    rw [dropL_eq] at hs
    cases hp : partA n (row.drop o) with
    | none => rw [hp] at hs; exact hs.elim
    | some v =>
     rw [hp] at hs
     obtain ⟨y, k1, k2⟩ := run_ld hl hc hp
     exact ⟨v, y, by simp [Instr.loadAt, Instr.sureAddr, k1], k2, hs⟩
 all_goals exact hs.elim
theorem op_ld {t : TypeId} {x : Operand} (ho : o.op = .load t x) (hf : rels S fr (shape H) a.tmps.toList) (h : WRel S H w) {ax : AX} (hx : rx x = some ax) {n : Option Nat} (hl : ldOf P t = some n)
  (hs : sat arS P H (exec1 arS σr fr H (.ld n ax)) K) : opRes P o a w (Done S H K) := by
 simp only [exec1] at hs
 obtain ⟨v, y, h1, h2, h3⟩ := ldA_sat (fun _ => rfl) h (rx_rel hf hx) hs hl
 unfold opRes execOp
 simp only [ho, Sem.run_bind, h1, Result.andThen_ok, Sem.run_pure]
 exact .here h h2 h3
end
end Go.Ab
