/- Shapes: how a state is spelt by what varies in it, and how a state is matched against one. -/
import Derived.Test.YtdmpiondalhonaaAbZ2
namespace Go.Ab
open Go
set_option linter.unusedVariables false
set_option linter.unusedSimpArgs false

/-- What varies. -/
inductive Lf where
  | i (n : Int)
  | b (b : Bool)
  | s (s : ByteArray)
  | r (rows : List (List AV))
  | n (n : Nat)
  deriving Inhabited

abbrev Rs := List (List (List AV))

/-- A value's shape; blocks by the shape's own numbers. -/
inductive S1 where
  | any
  | c (v : AV)
  | int (k : IntKind)
  | sb
  | str
  | inl (sz : Nat)
  | sl (id : Nat)
  | slp (id : Nat)
  | slh (id : Nat)
  | ptr (id off : Nat)
  | bptr (id off : Nat)
  | map (id : Nat)
  | iptr (cs : List S1)
  | agg (cs : List S1)
  | tup (cs : List S1)
  | fn (f : FuncId) (a b : List S1)
  | iface (t : TypeId) (s : S1)
  deriving Inhabited

inductive SB where
  | box (e : TypeId) (cs : List S1)
  | arr (e sz : Nat)
  | mp
  deriving Inhabited

def puAll : Rs → Prop
  | [] => True
  | r :: rs => pursS r = true ∧ puAll rs

def eqK : AV → AV → Bool
  | .nilp, .nilp => true
  | .nils, .nils => true
  | .nilf, .nilf => true
  | .nili, .nili => true
  | .nilm, .nilm => true
  | .bool true, .bool true => true
  | .bool false, .bool false => true
  | _, _ => false

theorem eqK_eq {a b : AV} (h : eqK a b = true) : b = a ∧ pur a = true := by
  unfold eqK at h
  split at h <;> first | exact ⟨rfl, rfl⟩ | cases h

mutual
def bld (A : Ar) (ρ : Nat → List (List AV)) : S1 → List Lf → AV × List Lf
  | .any, vs => (.junk, vs)
  | .c v, vs => (v, vs)
  | .int k, vs => match vs with
    | .i n :: vs => (.int k n, vs)
    | vs => (.junk, vs)
  | .sb, vs => match vs with
    | .b b :: vs => (.sb b, vs)
    | vs => (.junk, vs)
  | .str, vs => match vs with
    | .s x :: vs => (.str x, vs)
    | vs => (.junk, vs)
  | .inl sz, vs => match vs with
    | .r rows :: vs => (.inl sz rows, vs)
    | vs => (.junk, vs)
  | .sl id, vs => (.sl id (A.rlen (ρ id)) 0 (A.rlen (ρ id)), vs)
  | .slp id, vs => match vs with
    | .n o :: .n k :: vs => (.sl id (A.rlen (ρ id)) o k, vs)
    | vs => (.junk, vs)
  | .slh id, vs => match vs with
    | .n k :: vs => (.sl id (A.rlen (ρ id)) 0 k, vs)
    | vs => (.junk, vs)
  | .ptr id off, vs => match vs with
    | .n r :: vs => (.ptr id (A.rlen (ρ id)) r off, vs)
    | vs => (.junk, vs)
  | .bptr id off, vs => (.bptr id off, vs)
  | .map id, vs => (.map id, vs)
  | .iptr cs, vs => match blds A ρ cs vs with
    | (xs, vs) => (.iptr xs, vs)
  | .agg cs, vs => match blds A ρ cs vs with
    | (xs, vs) => (.agg xs, vs)
  | .tup cs, vs => match blds A ρ cs vs with
    | (xs, vs) => (.tup xs, vs)
  | .fn f a b, vs => match blds A ρ a vs with
    | (xs, vs) => match blds A ρ b vs with
      | (ys, vs) => (.fn (.func f) xs ys, vs)
  | .iface t s, vs => match bld A ρ s vs with
    | (x, vs) => (.iface t x, vs)
def blds (A : Ar) (ρ : Nat → List (List AV)) : List S1 → List Lf → List AV × List Lf
  | [], vs => ([], vs)
  | s :: ss, vs => match bld A ρ s vs with
    | (x, vs) => match blds A ρ ss vs with
      | (xs, vs) => (x :: xs, vs)
end

def lookP : List (Nat × Nat) → Nat → Option Nat
  | [], _ => none
  | (j, id) :: l, i => match Nat.beq j i with
    | true => some id
    | false => lookP l i

def bnd (β : List (Nat × Nat)) (j id : Nat) (k : List (Nat × Nat) → Prop) : Prop :=
  match lookP β j with
  | some id' => match Nat.beq id id' with
    | true => k β
    | false => False
  | none => k ((j, id) :: β)

mutual
def mt (A : Ar) (H : List ABlk) : S1 → AV → List (Nat × Nat) → List Lf → (List (Nat × Nat) → List Lf → Prop) → Prop
  | .any, _, β, vs, k => k β vs
  | .c v0, v, β, vs, k => match eqK v0 v with
    | true => k β vs
    | false => False
  | .int k0, v, β, vs, k => match v with
    | .int k1 n => if k0 = k1 then k β (appL vs [.i n]) else False
    | _ => False
  | .sb, v, β, vs, k => match v with
    | .bool b => k β (appL vs [.b b])
    | .sb b => k β (appL vs [.b b])
    | _ => False
  | .str, v, β, vs, k => match v with
    | .str s => k β (appL vs [.s s])
    | _ => False
  | .inl sz, v, β, vs, k => match v with
    | .inl sz' rows => match Nat.beq sz sz' with
      | true => k β (appL vs [.r rows])
      | false => False
    | .nils => k β (appL vs [.r []])
    | _ => False
  | .sl j, v, β, vs, k => match v with
    | .sl id t o n => match getL H id with
      | some (.arr _ _ rows) => bnd β j id fun β => A.nd (.and (.eqN t (A.rlen rows)) (.and (.eqN o 0) (.eqN n (A.rlen rows)))) ∧ k β vs
      | _ => False
    | _ => False
  | .slp j, v, β, vs, k => match v with
    | .sl id t o n => match getL H id with
      | some (.arr _ _ rows) => bnd β j id fun β => A.nd (.eqN t (A.rlen rows)) ∧ k β (appL vs [.n o, .n n])
      | _ => False
    | _ => False
  | .slh j, v, β, vs, k => match v with
    | .sl id t o n => match getL H id with
      | some (.arr _ _ rows) => bnd β j id fun β => A.nd (.and (.eqN t (A.rlen rows)) (.eqN o 0)) ∧ k β (appL vs [.n n])
      | _ => False
    | _ => False
  | .ptr j off, v, β, vs, k => match v with
    | .ptr id t r o => match Nat.beq off o, getL H id with
      | true, some (.arr _ _ rows) => bnd β j id fun β => A.nd (.eqN t (A.rlen rows)) ∧ k β (appL vs [.n r])
      | _, _ => False
    | _ => False
  | .map j, v, β, vs, k => match v with
    | .map id => bnd β j id fun β => k β vs
    | _ => False
  | .bptr j off, v, β, vs, k => match v with
    | .bptr id o => match Nat.beq off o with
      | true => bnd β j id fun β => k β vs
      | false => False
    | _ => False
  | .iptr cs, v, β, vs, k => match v with
    | .iptr xs => mts A H cs xs β vs k
    | _ => False
  | .agg cs, v, β, vs, k => match v with
    | .agg xs => mts A H cs xs β vs k
    | _ => False
  | .tup cs, v, β, vs, k => match v with
    | .tup xs => mts A H cs xs β vs k
    | _ => False
  | .fn f a b, v, β, vs, k => match v with
    | .fn (.func f') xs ys => match Nat.beq f f' with
      | true => mts A H a xs β vs fun β vs => mts A H b ys β vs k
      | false => False
    | _ => False
  | .iface t s, v, β, vs, k => match v with
    | .iface t' x => match Nat.beq t t' with
      | true => mt A H s x β vs k
      | false => False
    | _ => False
def mts (A : Ar) (H : List ABlk) : List S1 → List AV → List (Nat × Nat) → List Lf → (List (Nat × Nat) → List Lf → Prop) → Prop
  | [], xs, β, vs, k => match xs with
    | [] => k β vs
    | _ => False
  | s :: ss, xs, β, vs, k => match xs with
    | x :: xs => mt A H s x β vs fun β vs => mts A H ss xs β vs k
    | [] => False
end

def LeP (β β' : List (Nat × Nat)) : Prop := ∀ j id, lookP β j = some id → lookP β' j = some id
theorem LeP.refl (β : List (Nat × Nat)) : LeP β β := fun _ _ h => h
theorem LeP.trans {β β' β'' : List (Nat × Nat)} (h : LeP β β') (k : LeP β' β'') : LeP β β'' := fun j id hj => k j id (h j id hj)

def GoodP (H : List ABlk) (τ : Nat → Option Nat) (ρ : Nat → List (List AV)) (β : List (Nat × Nat)) : Prop :=
  ∀ j id, lookP β j = some id → τ id = some j ∧ ∀ e sz rows, H[id]? = some (.arr e sz rows) → ρ j = rows
theorem GoodP.le {H : List ABlk} {τ : Nat → Option Nat} {ρ : Nat → List (List AV)} {β β' : List (Nat × Nat)} (h : GoodP H τ ρ β') (hl : LeP β β') : GoodP H τ ρ β := fun j id hj => h j id (hl j id hj)

theorem bnd_sound {β : List (Nat × Nat)} {j id : Nat} {k : List (Nat × Nat) → Prop} (h : bnd β j id k) : ∃ β', k β' ∧ LeP β β' ∧ lookP β' j = some id := by
  unfold bnd at h
  split at h
  · rename_i id' he
    split at h
    · rename_i hb
      have := Nat.eq_of_beq_eq_true hb
      subst this
      exact ⟨β, h, LeP.refl _, he⟩
    · exact h.elim
  · rename_i he
    refine ⟨_, h, fun j' id' hj' => ?_, ?_⟩
    · simp only [lookP]
      cases hb : Nat.beq j j' with
      | true => have := Nat.eq_of_beq_eq_true hb; subst this; rw [he] at hj'; cases hj'
      | false => exact hj'
    · simp only [lookP, Nat.beq_refl]

section
variable {H : List ABlk}

theorem Imps.fz {τ : Nat → Option Nat} {S : RS} {T : Sh} {S' : RS} {T' : Sh} (hc : Cmp τ S T S' T') : ∀ {xs ys : List AV} {B o : Nat}, Imps τ xs ys → fz S B o xs → fz S' B o ys
  | [], [], B, o, _, _ => trivial
  | x :: xs, y :: ys, B, o, hi, h => by
    simp only [Ab.fz] at h ⊢
    obtain ⟨⟨v, h1, h2, h3⟩, h4⟩ := h
    exact ⟨⟨v, hc.fro _ _ _ h1, hi.1 S Ab.noSh S' Ab.noSh v ⟨fun id j hj => ⟨rfl, (hc.blk id j hj).2⟩, hc.fro⟩ h2, h3⟩, Imps.fz hc hi.2 h4⟩
  | [], _ :: _, _, _, h, _ => h.elim
  | _ :: _, [], _, _, h, _ => h.elim

/-- What a match tells. -/
def MtOk (H : List ABlk) (s : S1) (v : AV) (β : List (Nat × Nat)) (vs : List Lf) (k : List (Nat × Nat) → List Lf → Prop) : Prop :=
  ∃ β' new, k β' (vs ++ new) ∧ LeP β β' ∧ ∀ τ ρ, GoodP H τ ρ β' → ∀ rest, ∃ a, bld arS ρ s (new ++ rest) = (a, rest) ∧ Imp τ v a
def MtsOk (H : List ABlk) (ss : List S1) (xs : List AV) (β : List (Nat × Nat)) (vs : List Lf) (k : List (Nat × Nat) → List Lf → Prop) : Prop :=
  ∃ β' new, k β' (vs ++ new) ∧ LeP β β' ∧ ∀ τ ρ, GoodP H τ ρ β' → ∀ rest, ∃ as, blds arS ρ ss (new ++ rest) = (as, rest) ∧ Imps τ xs as

theorem Imp.sl {τ : Nat → Option Nat} {id j t o n : Nat} (h : τ id = some j) : Imp τ (.sl id t o n) (.sl j t o n) := by
  have := Imp.ren (τ := τ) (.sl id t o n)
  simpa [Ab.ren, h] using this
theorem Imp.ptr {τ : Nat → Option Nat} {id j t o n : Nat} (h : τ id = some j) : Imp τ (.ptr id t o n) (.ptr j t o n) := by
  have := Imp.ren (τ := τ) (.ptr id t o n)
  simpa [Ab.ren, h] using this
theorem Imp.map {τ : Nat → Option Nat} {id j : Nat} (h : τ id = some j) : Imp τ (.map id) (.map j) := by
  have := Imp.ren (τ := τ) (.map id)
  simpa [Ab.ren, h] using this
theorem Imp.bptr {τ : Nat → Option Nat} {id j o : Nat} (h : τ id = some j) : Imp τ (.bptr id o) (.bptr j o) := by
  have := Imp.ren (τ := τ) (.bptr id o)
  simpa [Ab.ren, h] using this

mutual
theorem mt_sound : ∀ (s : S1) (v : AV) (β : List (Nat × Nat)) (vs : List Lf) (k : List (Nat × Nat) → List Lf → Prop), mt arS H s v β vs k → MtOk H s v β vs k
  | .any, v, β, vs, k, h => ⟨β, [], by simpa [mt] using h, LeP.refl _, fun τ ρ _ rest => ⟨.junk, by simp [bld], Imp.junk _⟩⟩
  | .c v0, v, β, vs, k, h => by
    simp only [mt] at h
    split at h
    · rename_i he
      obtain ⟨rfl, hp⟩ := eqK_eq he
      exact ⟨β, [], by simpa using h, LeP.refl _, fun τ ρ _ rest => ⟨v, by simp [bld], Imp.pure hp⟩⟩
    · exact h.elim
  | .int k0, v, β, vs, k, h => by
    simp only [mt] at h
    split at h
    · split at h
      · rename_i k1 n he
        subst he
        exact ⟨β, [.i n], by simpa [appL_eq] using h, LeP.refl _, fun τ ρ _ rest => ⟨.int k0 n, by simp [bld], Imp.pure rfl⟩⟩
      · exact h.elim
    · exact h.elim
  | .sb, v, β, vs, k, h => by
    simp only [mt] at h
    split at h
    · rename_i b
      exact ⟨β, [.b b], by simpa [appL_eq] using h, LeP.refl _, fun τ ρ _ rest => ⟨.sb b, by simp [bld], fun S T S' T' v _ hv => by simpa only [rel] using hv⟩⟩
    · rename_i b
      exact ⟨β, [.b b], by simpa [appL_eq] using h, LeP.refl _, fun τ ρ _ rest => ⟨.sb b, by simp [bld], Imp.pure rfl⟩⟩
    · exact h.elim
  | .str, v, β, vs, k, h => by
    simp only [mt] at h
    split at h
    · rename_i x
      exact ⟨β, [.s x], by simpa [appL_eq] using h, LeP.refl _, fun τ ρ _ rest => ⟨.str x, by simp [bld], Imp.pure rfl⟩⟩
    · exact h.elim
  | .inl sz, v, β, vs, k, h => by
    simp only [mt] at h
    split at h
    · split at h
      · rename_i sz' rows _ hb
        have := Nat.eq_of_beq_eq_true hb
        subst this
        exact ⟨β, [.r rows], by simpa [appL_eq] using h, LeP.refl _, fun τ ρ _ rest => ⟨.inl sz rows, by simp [bld], Imp.pure rfl⟩⟩
      · exact h.elim
    · exact ⟨β, [.r []], by simpa [appL_eq] using h, LeP.refl _, fun τ ρ _ rest => ⟨.inl sz [], by simp [bld], fun S T S' T' v hc hv => by
        have := rel_nils sz hv
        have := (Imp.pure (τ := τ) (c := .inl sz []) rfl) _ _ _ _ _ hc this
        exact this⟩⟩
    · exact h.elim
  | .sl j, v, β, vs, k, h => by
    simp only [mt] at h
    split at h
    · rename_i id t o n
      split at h
      · rename_i e sz rows hg
        rw [getL_eq] at hg
        obtain ⟨β', ⟨⟨h1, h2, h3⟩, h4⟩, hl, hj⟩ := bnd_sound h
        refine ⟨β', [], by simpa using h4, hl, fun τ ρ hG rest => ⟨_, by simp only [bld, List.nil_append]; rfl, ?_⟩⟩
        obtain ⟨g1, g2⟩ := hG j id hj
        have h1 : t = rows.length := h1
        have h2 : o = 0 := h2
        have h3 : n = rows.length := h3
        rw [g2 e sz rows hg]
        subst h1 h2 h3
        exact Imp.sl g1
      · exact h.elim
    · exact h.elim
  | .slp j, v, β, vs, k, h => by
    simp only [mt] at h
    split at h
    · rename_i id t o n
      split at h
      · rename_i e sz rows hg
        rw [getL_eq] at hg
        obtain ⟨β', ⟨h1, h4⟩, hl, hj⟩ := bnd_sound h
        refine ⟨β', [.n o, .n n], by simpa [appL_eq] using h4, hl, fun τ ρ hG rest => ⟨_, by simp only [bld, List.cons_append, List.nil_append]; rfl, ?_⟩⟩
        obtain ⟨g1, g2⟩ := hG j id hj
        have h1 : t = rows.length := h1
        rw [g2 e sz rows hg]
        subst h1
        exact Imp.sl g1
      · exact h.elim
    · exact h.elim
  | .slh j, v, β, vs, k, h => by
    simp only [mt] at h
    split at h
    · rename_i id t o n
      split at h
      · rename_i e sz rows hg
        rw [getL_eq] at hg
        obtain ⟨β', ⟨⟨h1, h2⟩, h4⟩, hl, hj⟩ := bnd_sound h
        refine ⟨β', [.n n], by simpa [appL_eq] using h4, hl, fun τ ρ hG rest => ⟨_, by simp only [bld, List.cons_append, List.nil_append]; rfl, ?_⟩⟩
        obtain ⟨g1, g2⟩ := hG j id hj
        have h1 : t = rows.length := h1
        have h2 : o = 0 := h2
        rw [g2 e sz rows hg]
        subst h1 h2
        exact Imp.sl g1
      · exact h.elim
    · exact h.elim
  | .ptr j off, v, β, vs, k, h => by
    simp only [mt] at h
    split at h
    · rename_i id t r o
      split at h
      · rename_i e sz rows hb hg
        rw [getL_eq] at hg
        have := Nat.eq_of_beq_eq_true hb
        subst this
        obtain ⟨β', ⟨h1, h4⟩, hl, hj⟩ := bnd_sound h
        refine ⟨β', [.n r], by simpa [appL_eq] using h4, hl, fun τ ρ hG rest => ⟨_, by simp only [bld, List.cons_append, List.nil_append]; rfl, ?_⟩⟩
        obtain ⟨g1, g2⟩ := hG j id hj
        have h1 : t = rows.length := h1
        rw [g2 e sz rows hg]
        subst h1
        exact Imp.ptr g1
      · exact h.elim
    · exact h.elim
  | .map j, v, β, vs, k, h => by
    simp only [mt] at h
    split at h
    · rename_i id
      obtain ⟨β', h4, hl, hj⟩ := bnd_sound h
      exact ⟨β', [], by simpa using h4, hl, fun τ ρ hG rest => ⟨.map j, by simp only [bld, List.nil_append], Imp.map (hG j id hj).1⟩⟩
    · exact h.elim
  | .bptr j off, v, β, vs, k, h => by
    simp only [mt] at h
    split at h
    · rename_i id o
      split at h
      · rename_i hb
        have := Nat.eq_of_beq_eq_true hb
        subst this
        obtain ⟨β', h4, hl, hj⟩ := bnd_sound h
        exact ⟨β', [], by simpa using h4, hl, fun τ ρ hG rest => ⟨.bptr j off, by simp only [bld, List.nil_append], Imp.bptr (hG j id hj).1⟩⟩
      · exact h.elim
    · exact h.elim
  | .iptr cs, v, β, vs, k, h => by
    simp only [mt] at h
    split at h
    · rename_i xs
      obtain ⟨β', new, h1, h2, h3⟩ := mts_sound cs xs β vs k h
      refine ⟨β', new, h1, h2, fun τ ρ hG rest => ?_⟩
      obtain ⟨as, q1, q2⟩ := h3 τ ρ hG rest
      refine ⟨.iptr as, by simp only [bld, q1], fun S T S' T' v hc hv => ?_⟩
      simp only [rel] at hv ⊢
      obtain ⟨B, o, p1, p2⟩ := hv
      exact ⟨B, o, p1, q2.fz hc p2⟩
    · exact h.elim
  | .agg cs, v, β, vs, k, h => by
    simp only [mt] at h
    split at h
    · rename_i xs
      obtain ⟨β', new, h1, h2, h3⟩ := mts_sound cs xs β vs k h
      refine ⟨β', new, h1, h2, fun τ ρ hG rest => ?_⟩
      obtain ⟨as, q1, q2⟩ := h3 τ ρ hG rest
      refine ⟨.agg as, by simp only [bld, q1], fun S T S' T' v hc hv => ?_⟩
      simp only [rel] at hv ⊢
      obtain ⟨us, p1, p2, p3⟩ := hv
      exact ⟨us, p1, q2.rels hc p2, p3⟩
    · exact h.elim
  | .tup cs, v, β, vs, k, h => by
    simp only [mt] at h
    split at h
    · rename_i xs
      obtain ⟨β', new, h1, h2, h3⟩ := mts_sound cs xs β vs k h
      refine ⟨β', new, h1, h2, fun τ ρ hG rest => ?_⟩
      obtain ⟨as, q1, q2⟩ := h3 τ ρ hG rest
      refine ⟨.tup as, by simp only [bld, q1], fun S T S' T' v hc hv => ?_⟩
      simp only [rel] at hv ⊢
      obtain ⟨us, p1, p2⟩ := hv
      exact ⟨us, p1, q2.rels hc p2⟩
    · exact h.elim
  | .fn f a b, v, β, vs, k, h => by
    simp only [mt] at h
    split at h
    · rename_i f' xs ys
      split at h
      · rename_i hb
        have := Nat.eq_of_beq_eq_true hb
        subst this
        obtain ⟨β1, n1, h1, h2, h3⟩ := mts_sound a xs β vs _ h
        obtain ⟨β2, n2, g1, g2, g3⟩ := mts_sound b ys β1 _ _ h1
        refine ⟨β2, n1 ++ n2, by rw [← List.append_assoc]; exact g1, h2.trans g2, fun τ ρ hG rest => ?_⟩
        obtain ⟨as, q1, q2⟩ := h3 τ ρ (hG.le g2) (n2 ++ rest)
        obtain ⟨bs, r1, r2⟩ := g3 τ ρ hG rest
        refine ⟨.fn (.func f) as bs, by simp only [bld, List.append_assoc, q1, r1], fun S T S' T' v hc hv => ?_⟩
        simp only [rel] at hv ⊢
        obtain ⟨u1, u2, p1, p2, p3⟩ := hv
        exact ⟨u1, u2, p1, q2.rels hc p2, r2.rels hc p3⟩
      · exact h.elim
    · exact h.elim
  | .iface t s, v, β, vs, k, h => by
    simp only [mt] at h
    split at h
    · rename_i t' x
      split at h
      · rename_i hb
        have := Nat.eq_of_beq_eq_true hb
        subst this
        obtain ⟨β', new, h1, h2, h3⟩ := mt_sound s x β vs k h
        refine ⟨β', new, h1, h2, fun τ ρ hG rest => ?_⟩
        obtain ⟨a, q1, q2⟩ := h3 τ ρ hG rest
        refine ⟨.iface t a, by simp only [bld, q1], fun S T S' T' v hc hv => ?_⟩
        simp only [rel] at hv ⊢
        obtain ⟨u, p1, p2⟩ := hv
        exact ⟨u, p1, q2 _ _ _ _ _ hc p2⟩
      · exact h.elim
    · exact h.elim
theorem mts_sound : ∀ (ss : List S1) (xs : List AV) (β : List (Nat × Nat)) (vs : List Lf) (k : List (Nat × Nat) → List Lf → Prop), mts arS H ss xs β vs k → MtsOk H ss xs β vs k
  | [], xs, β, vs, k, h => by
    simp only [mts] at h
    split at h
    · exact ⟨β, [], by simpa using h, LeP.refl _, fun τ ρ _ rest => ⟨[], by simp [blds], trivial⟩⟩
    · exact h.elim
  | s :: ss, xs, β, vs, k, h => by
    simp only [mts] at h
    split at h
    · rename_i x xs
      obtain ⟨β1, n1, h1, h2, h3⟩ := mt_sound s x β vs _ h
      obtain ⟨β2, n2, g1, g2, g3⟩ := mts_sound ss xs β1 _ _ h1
      refine ⟨β2, n1 ++ n2, by rw [← List.append_assoc]; exact g1, h2.trans g2, fun τ ρ hG rest => ?_⟩
      obtain ⟨a, q1, q2⟩ := h3 τ ρ (hG.le g2) (n2 ++ rest)
      obtain ⟨as, r1, r2⟩ := g3 τ ρ hG rest
      exact ⟨a :: as, by simp only [blds, List.append_assoc, q1, r1], q2, r2⟩
    · exact h.elim
end
end
end Go.Ab
