/- A state is made ready for a shape: nil slices are owned, owned rows are frozen. -/
import Derived.Test.YtdmpiondalhonaaAbZ4
namespace Go.Ab
open Go
set_option linter.unusedVariables false
set_option linter.unusedSimpArgs false

/-! ### nil slices are owned -/
def setMany (x : AV) : List Nat → List AV → List AV
  | [], l => l
  | i :: is, l => setMany x is (setL l i x)
def nilsS (m : Nat) (fr : List AV) : List (Nat × S1) → List Nat
  | [] => []
  | (i, s) :: l => match s with
    | .sl m' => match Nat.beq m m', getL fr i with
      | true, some .nils => i :: nilsS m fr l
      | _, _ => nilsS m fr l
    | .slh m' => match Nat.beq m m', getL fr i with
      | true, some .nils => i :: nilsS m fr l
      | _, _ => nilsS m fr l
    | _ => nilsS m fr l
def nilsC (m : Nat) : Nat → List S1 → List AV → List Nat
  | k, s :: ss, x :: xs => match s with
    | .sl m' => match Nat.beq m m', x with
      | true, .nils => k :: nilsC m (k + 1) ss xs
      | _, _ => nilsC m (k + 1) ss xs
    | .slh m' => match Nat.beq m m', x with
      | true, .nils => k :: nilsC m (k + 1) ss xs
      | _, _ => nilsC m (k + 1) ss xs
    | _ => nilsC m (k + 1) ss xs
  | _, _, _ => []
/-- Where a shape's box stands. -/
def boxAt (n0 j : Nat) (fr : List AV) : List (Nat × S1) → Option Nat
  | [] => match Nat.blt j n0 with
    | true => some j
    | false => none
  | (i, s) :: l => match s with
    | .bptr j' _ => match Nat.beq j j', getL fr i with
      | true, some (.bptr id _) => some id
      | _, _ => boxAt n0 j fr l
    | _ => boxAt n0 j fr l
def ownBx (n0 m N : Nat) (fr : List AV) (slots : List (Nat × S1)) : Nat → List SB → List ABlk → List ABlk × Bool
  | _, [], H => (H, false)
  | j, .arr _ _ :: hp, H => ownBx n0 m N fr slots (j + 1) hp H
  | j, .mp :: hp, H => ownBx n0 m N fr slots (j + 1) hp H
  | j, .box _ cs :: hp, H => match boxAt n0 j fr slots with
    | some id => match getL H id with
      | some (.box e xs) => match nilsC m 0 cs xs with
        | [] => ownBx n0 m N fr slots (j + 1) hp H
        | is => ((ownBx n0 m N fr slots (j + 1) hp (setL H id (.box e (setMany (.sl N 0 0 0) is xs)))).1, true)
      | _ => ownBx n0 m N fr slots (j + 1) hp H
    | none => ownBx n0 m N fr slots (j + 1) hp H

def ownAll (n0 : Nat) (slots : List (Nat × S1)) (hp0 : List SB) : Nat → List SB → List AV → List ABlk → List AV × List ABlk
  | _, [], fr, H => (fr, H)
  | m, .box _ _ :: hp, fr, H => ownAll n0 slots hp0 (m + 1) hp fr H
  | m, .mp :: hp, fr, H => ownAll n0 slots hp0 (m + 1) hp fr H
  | m, .arr e sz :: hp, fr, H => match ownBx n0 m (lenL H) fr slots 0 hp0 H, nilsS m fr slots with
    | (_, false), [] => ownAll n0 slots hp0 (m + 1) hp fr H
    | (H', _), is => match Nat.blt 0 sz, Nat.ble n0 (lenL H) with
      | true, true => ownAll n0 slots hp0 (m + 1) hp (setMany (.sl (lenL H) 0 0 0) is fr) (appL H' [.arr e sz []])
      | _, _ => ownAll n0 slots hp0 (m + 1) hp fr H

theorem ownL_refl (N : Nat) : ∀ xs : List AV, ownL N xs xs
  | [] => trivial
  | x :: xs => ⟨.inl rfl, ownL_refl N xs⟩
theorem ownL_set {N : Nat} : ∀ {xs ys : List AV} {i : Nat}, ownL N xs ys → xs[i]? = some .nils → ownL N xs (ys.set i (.sl N 0 0 0))
  | [], [], _, h, hv => by simp at hv
  | x :: xs, y :: ys, 0, h, hv => by simp at hv; subst hv; exact ⟨.inr (.inr ⟨rfl, rfl⟩), h.2⟩
  | x :: xs, y :: ys, i + 1, h, hv => ⟨h.1, ownL_set h.2 (by simpa using hv)⟩
  | [], _ :: _, _, h, _ => h.elim
  | _ :: _, [], _, h, _ => h.elim
theorem setMany_own {N : Nat} {xs : List AV} : ∀ (is : List Nat) (ys : List AV), (∀ i ∈ is, xs[i]? = some .nils) → ownL N xs ys → ownL N xs (setMany (.sl N 0 0 0) is ys)
  | [], ys, _, h => h
  | i :: is, ys, hi, h => by
    rw [setMany, setL_eq]
    exact setMany_own is _ (fun j hj => hi j (by simp [hj])) (ownL_set h (hi i (by simp)))
theorem nilsS_nil {m : Nat} {fr : List AV} : ∀ (l : List (Nat × S1)), ∀ i ∈ nilsS m fr l, fr[i]? = some .nils
  | [], i, h => by simp [nilsS] at h
  | (j, s) :: l, i, h => by
    simp only [nilsS] at h
    split at h
    · split at h
      · rename_i hg
        rcases List.mem_cons.1 h with rfl | h
        · rw [← getL_eq]; exact hg
        · exact nilsS_nil l i h
      · exact nilsS_nil l i h
    · split at h
      · rename_i hg
        rcases List.mem_cons.1 h with rfl | h
        · rw [← getL_eq]; exact hg
        · exact nilsS_nil l i h
      · exact nilsS_nil l i h
    · exact nilsS_nil l i h
theorem nilsC_nil {m : Nat} : ∀ (cs : List S1) (xs : List AV) (k : Nat), ∀ i ∈ nilsC m k cs xs, k ≤ i ∧ xs[i - k]? = some .nils
  | [], xs, k, i, h => by simp [nilsC] at h
  | s :: ss, [], k, i, h => by simp [nilsC] at h
  | s :: ss, x :: xs, k, i, h => by
    have key : i ∈ nilsC m (k + 1) ss xs → k ≤ i ∧ (x :: xs)[i - k]? = some .nils := fun h => by
      obtain ⟨h1, h2⟩ := nilsC_nil ss xs (k + 1) i h
      refine ⟨by omega, ?_⟩
      rw [show i - k = (i - (k + 1)) + 1 by omega]
      simpa using h2
    simp only [nilsC] at h
    split at h
    · split at h
      · rcases List.mem_cons.1 h with rfl | h
        · simp
        · exact key h
      · exact key h
    · split at h
      · rcases List.mem_cons.1 h with rfl | h
        · simp
        · exact key h
      · exact key h
    · exact key h

theorem ownH_refl (N : Nat) : ∀ H : List ABlk, ownH N H H
  | [] => trivial
  | x :: xs => ⟨.inl rfl, ownH_refl N xs⟩
theorem ownL_trans {N : Nat} : ∀ {xs ys zs : List AV}, ownL N xs ys → ownL N ys zs → ownL N xs zs
  | [], [], [], _, _ => trivial
  | x :: xs, y :: ys, z :: zs, h, k => by
    refine ⟨?_, ownL_trans h.2 k.2⟩
    rcases h.1 with rfl | rfl | ⟨rfl, rfl⟩
    · exact k.1
    · rcases k.1 with h1 | h1 | ⟨h1, _⟩
      · exact .inr (.inl h1.symm)
      · exact .inr (.inl h1)
      · cases h1
    · rcases k.1 with h1 | h1 | ⟨h1, _⟩
      · exact .inr (.inr ⟨rfl, h1.symm⟩)
      · exact .inr (.inl h1)
      · cases h1
  | [], _ :: _, _, h, _ => h.elim
  | _ :: _, [], _, h, _ => h.elim
  | _ :: _, _ :: _, [], _, k => k.elim
  | [], [], _ :: _, _, k => k.elim
theorem ownH_set {N : Nat} : ∀ {H H' : List ABlk} {id : Nat} {e : TypeId} {xs xs' : List AV}, ownH N H H' → H'[id]? = some (.box e xs) → ownL N xs xs' → ownH N H (H'.set id (.box e xs'))
  | [], [], _, _, _, _, h, hv, _ => by simp at hv
  | x :: H, y :: H', 0, e, xs, xs', h, hv, hl => by
    simp at hv
    subst hv
    refine ⟨.inr ?_, h.2⟩
    rcases h.1 with rfl | ⟨e', cs, cs', rfl, h2, h3⟩
    · exact ⟨e, xs, xs', rfl, rfl, hl⟩
    · simp only [ABlk.box.injEq] at h2
      obtain ⟨rfl, rfl⟩ := h2
      exact ⟨e, cs, xs', rfl, rfl, ownL_trans h3 hl⟩
  | x :: H, y :: H', i + 1, e, xs, xs', h, hv, hl => ⟨h.1, ownH_set h.2 (by simpa using hv) hl⟩
  | [], _ :: _, _, _, _, _, h, _, _ => h.elim
  | _ :: _, [], _, _, _, _, h, _, _ => h.elim

theorem ownBx_own {n0 m N : Nat} {fr : List AV} {slots : List (Nat × S1)} {H0 : List ABlk} : ∀ (hp : List SB) (j : Nat) (H : List ABlk), ownH N H0 H → ownH N H0 (ownBx n0 m N fr slots j hp H).1
  | [], j, H, h => h
  | .arr _ _ :: hp, j, H, h => by simp only [ownBx]; exact ownBx_own hp (j + 1) H h
  | .mp :: hp, j, H, h => by simp only [ownBx]; exact ownBx_own hp (j + 1) H h
  | .box _ cs :: hp, j, H, h => by
    simp only [ownBx, getL_eq, setL_eq]
    split
    · rename_i id hid
      split
      · rename_i e xs hg
        split
        · exact ownBx_own hp (j + 1) H h
        · rename_i is his hne
          exact ownBx_own hp (j + 1) _ (ownH_set h hg (setMany_own _ _ (fun i hi => by simpa using (nilsC_nil cs xs 0 i hi).2) (ownL_refl N xs)))
      · exact ownBx_own hp (j + 1) H h
    · exact ownBx_own hp (j + 1) H h

theorem Ent.ownH {n e sz : Nat} {xs : List AV} {H H' : List ABlk} (hn : n ≤ H.length) (h0 : 0 < sz) {xs' : List AV} (hf : ownL H.length xs xs') (hH : Ab.ownH H.length H H') : Ent n xs H xs' (H' ++ [.arr e sz []]) := by
  intro S0 H0 w vs hl0 ⟨S, he, hr, hw⟩
  obtain ⟨w1, e1⟩ := hw.arr_none e sz h0
  have hT : shape (H ++ [ABlk.arr e sz []]) H.length = some (.row 0 sz) := by rw [shape_last]; rfl
  have hρ : (S.put H.length none).ρ H.length = none := put_same _ _ _
  have hl := ownH_length hH
  have hs : ∀ i : Nat, ((H' ++ [ABlk.arr e sz []])[i]?).map ABlk.shp = ((H ++ [ABlk.arr e sz []])[i]?).map ABlk.shp := fun i => by
    rcases Nat.lt_or_ge i H.length with hi | hi
    · rw [List.getElem?_append_left (by omega), List.getElem?_append_left hi]
      exact ownH_shape hH i
    · rw [List.getElem?_append_right (by omega), List.getElem?_append_right hi, hl]
  have hsh : shape (H' ++ [ABlk.arr e sz []]) = shape (H ++ [ABlk.arr e sz []]) := funext hs
  refine ⟨S.put H.length none, by rw [hsh]; exact he.trans e1, by rw [hsh]; exact ownL_rels hT hρ hf (rels_ext _ _ _ _ e1 hr), w1.swap hs fun i y hy => ?_⟩
  rcases get_append_one hy with ⟨hi, hy⟩ | ⟨hi, rfl⟩
  · obtain ⟨x, hx, hxy⟩ := ownH_get hH i y hy
    refine ⟨x, by rw [List.getElem?_append_left (by omega)]; exact hx, ?_⟩
    rcases hxy with rfl | ⟨e', cs, cs', rfl, rfl, hc⟩
    · exact .inl rfl
    · exact .inr ⟨e', cs, cs', rfl, rfl, fun vs hv => ownL_rels hT hρ hc hv⟩
  · exact ⟨_, by rw [hi, hl]; simp, .inl rfl⟩

theorem ownAll_ent {n0 : Nat} {slots : List (Nat × S1)} {hp0 : List SB} : ∀ (hp : List SB) (m : Nat) (fr : List AV) (H : List ABlk), Ent n0 fr H (ownAll n0 slots hp0 m hp fr H).1 (ownAll n0 slots hp0 m hp fr H).2
  | [], m, fr, H => Ent.refl _ _ _
  | .box _ _ :: hp, m, fr, H => by simp only [ownAll]; exact ownAll_ent hp (m + 1) fr H
  | .mp :: hp, m, fr, H => by simp only [ownAll]; exact ownAll_ent hp (m + 1) fr H
  | .arr e sz :: hp, m, fr, H => by
    simp only [ownAll, appL_eq, lenL_eq]
    split
    · exact ownAll_ent hp (m + 1) fr H
    · rename_i H' b hb hne
      split
      · rename_i h1 h2
        refine Ent.trans (Ent.ownH (e := e) (sz := sz) (Nat.ble_eq.mp h2) (Nat.blt_eq.mp h1) (setMany_own _ _ (nilsS_nil slots) (ownL_refl _ fr)) ?_) (ownAll_ent hp (m + 1) _ _)
        have := ownBx_own (n0 := n0) (m := m) (N := H.length) (fr := fr) (slots := slots) (H0 := H) hp0 0 H (ownH_refl _ H)
        rw [hb] at this
        exact this
      · exact ownAll_ent hp (m + 1) fr H

/-! ### owned rows are frozen -/
mutual
def frzV1 (A : Ar) (id sz : Nat) (rows : List (List AV)) : AV → AV
  | .sl id' t o n => match Nat.beq id' id with
    | true => .inl sz (A.rtake (A.rdrop rows o) n)
    | false => .sl id' t o n
  | .ptr id' t r o => match Nat.beq id' id with
    | true => .junk
    | false => .ptr id' t r o
  | .bptr id' o => match Nat.beq id' id with
    | true => .junk
    | false => .bptr id' o
  | .map id' => match Nat.beq id' id with
    | true => .junk
    | false => .map id'
  | .fn f x y => .fn f (frzV1s A id sz rows x) (frzV1s A id sz rows y)
  | .iface t x => .iface t (frzV1 A id sz rows x)
  | .agg cs => .agg (frzV1s A id sz rows cs)
  | .tup cs => .tup (frzV1s A id sz rows cs)
  | c => c
def frzV1s (A : Ar) (id sz : Nat) (rows : List (List AV)) : List AV → List AV
  | [] => []
  | c :: cs => frzV1 A id sz rows c :: frzV1s A id sz rows cs
end
mutual
/-- Pointers into the block are forgotten. -/
def jkV (id : Nat) : AV → AV
  | .ptr id' t r o => match Nat.beq id' id with
    | true => .junk
    | false => .ptr id' t r o
  | .bptr id' o => match Nat.beq id' id with
    | true => .junk
    | false => .bptr id' o
  | .fn f x y => .fn f (jkVs id x) (jkVs id y)
  | .iface t x => .iface t (jkV id x)
  | .agg cs => .agg (jkVs id cs)
  | .tup cs => .tup (jkVs id cs)
  | c => c
def jkVs (id : Nat) : List AV → List AV
  | [] => []
  | c :: cs => jkV id c :: jkVs id cs
end
mutual
/-- The parts of the block are parts of it as it is now. -/
def ocV (id m : Nat) : AV → Cnd
  | .sl id' t _ _ => match Nat.beq id' id with
    | true => .eqN t m
    | false => .t
  | .fn _ x y => .and (ocVs id m x) (ocVs id m y)
  | .iface _ x => ocV id m x
  | .agg cs => ocVs id m cs
  | .tup cs => ocVs id m cs
  | _ => .t
def ocVs (id m : Nat) : List AV → Cnd
  | [] => .t
  | c :: cs => match ocV id m c with
    | .t => ocVs id m cs
    | p => .and p (ocVs id m cs)
end
mutual
def noV (id : Nat) : AV → Bool
  | .sl id' .. => !Nat.beq id' id
  | .ptr id' .. => !Nat.beq id' id
  | .bptr id' .. => !Nat.beq id' id
  | .map id' => !Nat.beq id' id
  | .fn _ x y => noVs id x && noVs id y
  | .iface _ x => noV id x
  | .agg cs => noVs id cs
  | .tup cs => noVs id cs
  | _ => true
def noVs (id : Nat) : List AV → Bool
  | [] => true
  | c :: cs => noV id c && noVs id cs
end
def noBx (id : Nat) : List ABlk → Bool
  | [] => true
  | .box _ cs :: H => noVs id cs && noBx id H
  | .arr _ _ _ :: H => noBx id H
  | .mpb _ :: H => noBx id H
  | .dead _ :: H => noBx id H
def puC : List ABlk → Cnd
  | [] => .t
  | .arr _ _ rows :: H => .and (.pu rows) (puC H)
  | .box _ _ :: H => puC H
  | .mpb _ :: H => puC H
  | .dead _ :: H => puC H

def frzOne (A : Ar) (n0 id : Nat) (fr : List AV) (H : List ABlk) (k : List AV → List ABlk → Prop) : Prop :=
  match getL H id with
  | some (.arr _ sz rows) => match Nat.ble n0 id && noBx id H with
    | true => A.nd (.and (puC H) (ocVs id (A.rlen rows) fr)) ∧ k (frzV1s A id sz rows fr) (setL H id (.dead .mp))
    | false => False
  | _ => False

section
variable {id sz : Nat} {rows : List (List AV)} {e : TypeId}
mutual
theorem jkV_imp : ∀ (c : AV), Imp some c (jkV id c)
  | .int .. => Imp.pure rfl
  | .bool .. => Imp.pure rfl
  | .sb .. => Imp.pure rfl
  | .str .. => Imp.pure rfl
  | .nilp => Imp.pure rfl
  | .nils => Imp.pure rfl
  | .nilf => Imp.pure rfl
  | .nili => Imp.pure rfl
  | .nilm => Imp.pure rfl
  | .junk => Imp.junk _
  | .iptr _ => Imp.pure rfl
  | .inl .. => Imp.pure rfl
  | .sl i t o n => by simp only [jkV]; exact Imp.sl rfl
  | .map i => by have := Imp.ren (τ := some) (.map i); simpa [Ab.ren, jkV] using this
  | .ptr i t r o => by
    simp only [jkV]
    split
    · exact Imp.junk _
    · exact Imp.ptr rfl
  | .bptr i o => by
    simp only [jkV]
    split
    · exact Imp.junk _
    · exact Imp.bptr rfl
  | .fn f x y => by
    intro S T S' T' v hc h
    simp only [jkV, rel] at h ⊢
    obtain ⟨a, b, h1, h2, h3⟩ := h
    exact ⟨a, b, h1, (jkVs_imp x).rels hc h2, (jkVs_imp y).rels hc h3⟩
  | .iface t x => by
    intro S T S' T' v hc h
    simp only [jkV, rel] at h ⊢
    obtain ⟨u, h1, h2⟩ := h
    exact ⟨u, h1, jkV_imp x _ _ _ _ _ hc h2⟩
  | .agg cs => by
    intro S T S' T' v hc h
    simp only [jkV, rel] at h ⊢
    obtain ⟨us, h1, h2, h3⟩ := h
    exact ⟨us, h1, (jkVs_imp cs).rels hc h2, h3⟩
  | .tup cs => by
    intro S T S' T' v hc h
    simp only [jkV, rel] at h ⊢
    obtain ⟨us, h1, h2⟩ := h
    exact ⟨us, h1, (jkVs_imp cs).rels hc h2⟩
theorem jkVs_imp : ∀ (cs : List AV), Imps some cs (jkVs id cs)
  | [] => trivial
  | c :: cs => ⟨jkV_imp c, jkVs_imp cs⟩
end
mutual
theorem frzV1_eq : ∀ (c : AV), frzV1 arS id sz rows c = fzV id (.arr e sz rows) (jkV id c)
  | .int .. => rfl
  | .bool .. => rfl
  | .sb .. => rfl
  | .str .. => rfl
  | .nilp => rfl
  | .nils => rfl
  | .nilf => rfl
  | .nili => rfl
  | .nilm => rfl
  | .junk => rfl
  | .iptr _ => rfl
  | .inl .. => rfl
  | .sl i t o n => by
    simp only [frzV1, jkV, fzV]
    cases Nat.beq i id <;> rfl
  | .map i => by
    simp only [frzV1, jkV, fzV]
    cases Nat.beq i id <;> rfl
  | .ptr i t r o => by
    simp only [frzV1, jkV]
    cases h : Nat.beq i id <;> simp [fzV, h]
  | .bptr i o => by
    simp only [frzV1, jkV]
    cases h : Nat.beq i id <;> simp [fzV, h]
  | .fn f x y => by simp only [frzV1, jkV, fzV, frzV1s_eq x, frzV1s_eq y]
  | .iface t x => by simp only [frzV1, jkV, fzV, frzV1_eq x]
  | .agg cs => by simp only [frzV1, jkV, fzV, frzV1s_eq cs]
  | .tup cs => by simp only [frzV1, jkV, fzV, frzV1s_eq cs]
theorem frzV1s_eq : ∀ (cs : List AV), frzV1s arS id sz rows cs = fzVs id (.arr e sz rows) (jkVs id cs)
  | [] => rfl
  | c :: cs => by simp only [frzV1s, jkVs, fzVs, frzV1_eq c, frzV1s_eq cs]
end
mutual
theorem oc_fzO {m : Nat} : ∀ (c : AV), (ocV id m c).holds → fzO id m (jkV id c)
  | .int .., _ => trivial
  | .bool .., _ => trivial
  | .sb .., _ => trivial
  | .str .., _ => trivial
  | .nilp, _ => trivial
  | .nils, _ => trivial
  | .nilf, _ => trivial
  | .nili, _ => trivial
  | .nilm, _ => trivial
  | .junk, _ => trivial
  | .iptr _, _ => trivial
  | .inl .., _ => trivial
  | .sl i t o n, h => by
    simp only [ocV] at h
    simp only [jkV, fzO]
    cases hb : Nat.beq i id
    · trivial
    · rw [hb] at h; exact h
  | .map i, _ => trivial
  | .ptr i t r o, _ => by
    simp only [jkV]
    cases h : Nat.beq i id <;> simp [fzO, h]
  | .bptr i o, _ => by
    simp only [jkV]
    cases h : Nat.beq i id <;> simp [fzO]
  | .fn f x y, h => by simp only [ocV] at h; simp only [jkV, fzO]; exact ⟨ocs_fzOs x h.1, ocs_fzOs y h.2⟩
  | .iface t x, h => by simp only [ocV] at h; simp only [jkV, fzO]; exact oc_fzO x h
  | .agg cs, h => by simp only [ocV] at h; simp only [jkV, fzO]; exact ocs_fzOs cs h
  | .tup cs, h => by simp only [ocV] at h; simp only [jkV, fzO]; exact ocs_fzOs cs h
theorem ocs_fzOs {m : Nat} : ∀ (cs : List AV), (ocVs id m cs).holds → fzOs id m (jkVs id cs)
  | [], _ => trivial
  | c :: cs, h => by
    simp only [ocVs] at h
    split at h
    · rename_i he
      exact ⟨oc_fzO c (by rw [he]; trivial), ocs_fzOs cs h⟩
    · exact ⟨oc_fzO c h.1, ocs_fzOs cs h.2⟩
end
mutual
theorem no_fz {b : ABlk} {m : Nat} : ∀ (c : AV), noV id c = true → fzV id b c = c ∧ fzO id m c
  | .int .., _ => ⟨rfl, trivial⟩
  | .bool .., _ => ⟨rfl, trivial⟩
  | .sb .., _ => ⟨rfl, trivial⟩
  | .str .., _ => ⟨rfl, trivial⟩
  | .nilp, _ => ⟨rfl, trivial⟩
  | .nils, _ => ⟨rfl, trivial⟩
  | .nilf, _ => ⟨rfl, trivial⟩
  | .nili, _ => ⟨rfl, trivial⟩
  | .nilm, _ => ⟨rfl, trivial⟩
  | .junk, _ => ⟨rfl, trivial⟩
  | .iptr _, _ => ⟨rfl, trivial⟩
  | .inl .., _ => ⟨rfl, trivial⟩
  | .sl i t o n, h => by simp only [noV, Bool.not_eq_true'] at h; simp [fzV, fzO, h]
  | .map i, h => by simp only [noV, Bool.not_eq_true'] at h; simp [fzV, fzO, h]
  | .ptr i t r o, h => by simp only [noV, Bool.not_eq_true'] at h; simp [fzV, fzO, h]
  | .bptr i o, h => by simp only [noV, Bool.not_eq_true'] at h; simp [fzV, fzO, h]
  | .fn f x y, h => by
    simp only [noV, Bool.and_eq_true] at h
    obtain ⟨h1, h2⟩ := nos_fz (b := b) (m := m) x h.1
    obtain ⟨h3, h4⟩ := nos_fz (b := b) (m := m) y h.2
    exact ⟨by simp only [fzV, h1, h3], h2, h4⟩
  | .iface t x, h => by
    simp only [noV] at h
    obtain ⟨h1, h2⟩ := no_fz (b := b) (m := m) x h
    exact ⟨by simp only [fzV, h1], h2⟩
  | .agg cs, h => by
    simp only [noV] at h
    obtain ⟨h1, h2⟩ := nos_fz (b := b) (m := m) cs h
    exact ⟨by simp only [fzV, h1], h2⟩
  | .tup cs, h => by
    simp only [noV] at h
    obtain ⟨h1, h2⟩ := nos_fz (b := b) (m := m) cs h
    exact ⟨by simp only [fzV, h1], h2⟩
theorem nos_fz {b : ABlk} {m : Nat} : ∀ (cs : List AV), noVs id cs = true → fzVs id b cs = cs ∧ fzOs id m cs
  | [], _ => ⟨rfl, trivial⟩
  | c :: cs, h => by
    simp only [noVs, Bool.and_eq_true] at h
    obtain ⟨h1, h2⟩ := no_fz (b := b) (m := m) c h.1
    obtain ⟨h3, h4⟩ := nos_fz (b := b) (m := m) cs h.2
    exact ⟨by simp only [fzVs, h1, h3], h2, h4⟩
end
mutual
theorem pur_no : ∀ (c : AV), pur c = true → noV id c = true
  | .int .., _ => rfl
  | .bool .., _ => rfl
  | .sb .., _ => rfl
  | .str .., _ => rfl
  | .nilp, _ => rfl
  | .nils, _ => rfl
  | .nilf, _ => rfl
  | .nili, _ => rfl
  | .nilm, _ => rfl
  | .junk, _ => rfl
  | .iptr _, _ => rfl
  | .inl .., _ => rfl
  | .sl .., h => by simp [pur] at h
  | .map _, h => by simp [pur] at h
  | .ptr .., h => by simp [pur] at h
  | .bptr .., h => by simp [pur] at h
  | .fn f x y, h => by simp only [pur, Bool.and_eq_true] at h; simp only [noV, Bool.and_eq_true]; exact ⟨purs_no x h.1, purs_no y h.2⟩
  | .iface t x, h => by simp only [pur] at h; simp only [noV]; exact pur_no x h
  | .agg cs, h => by simp only [pur] at h; simp only [noV]; exact purs_no cs h
  | .tup cs, h => by simp only [pur] at h; simp only [noV]; exact purs_no cs h
theorem purs_no : ∀ (cs : List AV), purs cs = true → noVs id cs = true
  | [], _ => rfl
  | c :: cs, h => by simp only [purs, Bool.and_eq_true] at h; simp only [noVs, Bool.and_eq_true]; exact ⟨pur_no c h.1, purs_no cs h.2⟩
end
end

theorem puC_mem : ∀ {H : List ABlk}, (puC H).holds → ∀ e sz rows, ABlk.arr e sz rows ∈ H → pursS rows = true
  | [], _, e, sz, rows, hm => by cases hm
  | .arr e' sz' rows' :: H, h, e, sz, rows, hm => by
    rcases List.mem_cons.1 hm with hm | hm
    · simp only [ABlk.arr.injEq] at hm; obtain ⟨_, _, rfl⟩ := hm; exact h.1
    · exact puC_mem h.2 e sz rows hm
  | .box _ _ :: H, h, e, sz, rows, hm => by
    rcases List.mem_cons.1 hm with hm | hm
    · cases hm
    · exact puC_mem (H := H) h e sz rows hm
  | .dead _ :: H, h, e, sz, rows, hm => by
    rcases List.mem_cons.1 hm with hm | hm
    · cases hm
    · exact puC_mem (H := H) h e sz rows hm
  | .mpb _ :: H, h, e, sz, rows, hm => by
    rcases List.mem_cons.1 hm with hm | hm
    · cases hm
    · exact puC_mem (H := H) h e sz rows hm
theorem noBx_mem {id : Nat} : ∀ {H : List ABlk}, noBx id H = true → ∀ e cs, ABlk.box e cs ∈ H → noVs id cs = true
  | [], _, e, cs, hm => by cases hm
  | .box e' cs' :: H, h, e, cs, hm => by
    simp only [noBx, Bool.and_eq_true] at h
    rcases List.mem_cons.1 hm with hm | hm
    · simp only [ABlk.box.injEq] at hm; obtain ⟨_, rfl⟩ := hm; exact h.1
    · exact noBx_mem h.2 e cs hm
  | .arr _ _ _ :: H, h, e, cs, hm => by
    rcases List.mem_cons.1 hm with hm | hm
    · cases hm
    · exact noBx_mem (H := H) h e cs hm
  | .dead _ :: H, h, e, cs, hm => by
    rcases List.mem_cons.1 hm with hm | hm
    · cases hm
    · exact noBx_mem (H := H) h e cs hm
  | .mpb _ :: H, h, e, cs, hm => by
    rcases List.mem_cons.1 hm with hm | hm
    · cases hm
    · exact noBx_mem (H := H) h e cs hm

theorem frzOne_sound {n0 id : Nat} {fr : List AV} {H : List ABlk} {k : List AV → List ABlk → Prop} (h : frzOne arS n0 id fr H k) : ∃ fr' H', k fr' H' ∧ Ent n0 fr H fr' H' := by
  unfold frzOne at h
  rw [getL_eq] at h
  split at h
  · rename_i e sz rows hg
    split at h
    · rename_i hb
      simp only [Bool.and_eq_true] at hb
      obtain ⟨⟨h1, h2⟩, h3⟩ := h
      have hself : ∀ x ∈ H, fzB id (.arr e sz rows) x = x ∧ fzBO id (rowsN (.arr e sz rows)) x := fun x hx => by
        cases x with
        | box e' cs =>
          obtain ⟨a, b⟩ := nos_fz (id := id) (b := .arr e sz rows) (m := rowsN (.arr e sz rows)) cs (noBx_mem hb.2 e' cs hx)
          exact ⟨by simp only [fzB, a], b⟩
        | arr e' sz' rows' =>
          have hp := puC_mem h1 e' sz' rows' hx
          have key : ∀ r ∈ rows', fzVs id (.arr e sz rows) r = r ∧ fzOs id (rowsN (.arr e sz rows)) r := fun r hr => nos_fz r (purs_no r (pursS_mem hp r hr))
          refine ⟨?_, fun r hr => (key r hr).2⟩
          simp only [fzB, ABlk.arr.injEq, true_and]
          exact (List.map_congr_left fun r hr => (key r hr).1).trans (List.map_id _)
        | mpb s => exact ⟨rfl, trivial⟩
        | dead s => exact ⟨rfl, trivial⟩
      have hH : fzH id (.arr e sz rows) H = H.set id (.dead .mp) := by
        simp only [fzH]
        refine (List.map_congr_left fun x hx => ?_).trans (List.map_id _)
        rcases List.mem_or_eq_of_mem_set hx with hx | rfl
        · exact (hself x hx).1
        · rfl
      refine ⟨_, _, h3, (Ent.sub (jkVs_imp (id := id) fr)).trans ?_⟩
      rw [frzV1s_eq (e := e), setL_eq, ← hH]
      exact Ent.fz id _ hg (Nat.ble_eq.mp hb.1) (puC_mem h1 e sz rows (List.mem_of_getElem? hg)) (ocs_fzOs fr h2) fun x hx => (hself x hx).2
    · exact h.elim
  · exact h.elim

def frzSlots (A : Ar) (n0 : Nat) : List (Nat × S1) → List AV → List ABlk → (List AV → List ABlk → Prop) → Prop
  | [], fr, H, k => k fr H
  | (i, s) :: l, fr, H, k => match s, getL fr i with
    | .inl _, some (.sl id _ _ _) => frzOne A n0 id fr H fun fr H => frzSlots A n0 l fr H k
    | _, _ => frzSlots A n0 l fr H k
def frzTs (A : Ar) (n0 : Nat) : List Nat → List AV → List ABlk → (List AV → List ABlk → Prop) → Prop
  | [], fr, H, k => k fr H
  | i :: l, fr, H, k => match getL fr i with
    | some (.sl id _ _ _) => frzOne A n0 id fr H fun fr H => frzTs A n0 l fr H k
    | _ => frzTs A n0 l fr H k
def needF (fr : List AV) : List (Nat × S1) → Bool
  | [] => false
  | (i, s) :: l => match s, getL fr i with
    | .inl _, some (.sl _ _ _ _) => true
    | _, _ => needF fr l
def idxs : List (Nat × S1) → List Nat
  | [] => []
  | (i, _) :: l => i :: idxs l

theorem frzSlots_sound {n0 : Nat} : ∀ (l : List (Nat × S1)) (fr : List AV) (H : List ABlk) (k : List AV → List ABlk → Prop), frzSlots arS n0 l fr H k → ∃ fr' H', k fr' H' ∧ Ent n0 fr H fr' H'
  | [], fr, H, k, h => ⟨fr, H, h, Ent.refl _ _ _⟩
  | (i, s) :: l, fr, H, k, h => by
    simp only [frzSlots] at h
    split at h
    · obtain ⟨fr1, H1, h1, e1⟩ := frzOne_sound h
      obtain ⟨fr2, H2, h2, e2⟩ := frzSlots_sound l fr1 H1 k h1
      exact ⟨fr2, H2, h2, e1.trans e2⟩
    · exact frzSlots_sound l fr H k h
theorem frzTs_sound {n0 : Nat} : ∀ (l : List Nat) (fr : List AV) (H : List ABlk) (k : List AV → List ABlk → Prop), frzTs arS n0 l fr H k → ∃ fr' H', k fr' H' ∧ Ent n0 fr H fr' H'
  | [], fr, H, k, h => ⟨fr, H, h, Ent.refl _ _ _⟩
  | i :: l, fr, H, k, h => by
    simp only [frzTs] at h
    split at h
    · obtain ⟨fr1, H1, h1, e1⟩ := frzOne_sound h
      obtain ⟨fr2, H2, h2, e2⟩ := frzTs_sound l fr1 H1 k h1
      exact ⟨fr2, H2, h2, e1.trans e2⟩
    · exact frzTs_sound l fr H k h

theorem rel_some {S : RS} {T : Sh} {S' : RS} {T' : Sh} {x : AV} {v : Value} (hc : Cmp some S T S' T') (h : rel S x T v) : rel S' x T' v :=
  rel_ext0 x T T' v ⟨hc.fro, fun id n hn => ⟨by rw [(hc.blk id id rfl).1]; exact hn, (hc.blk id id rfl).2⟩, fun id hn => ⟨by rw [(hc.blk id id rfl).1]; exact hn, (hc.blk id id rfl).2⟩, fun id m sz hn => ⟨m, by rw [(hc.blk id id rfl).1]; exact hn, Nat.le_refl _, fun _ => (hc.blk id id rfl).2⟩⟩ h
theorem maskL_imps (ts : List Nat) : ∀ (k : Nat) (l : List AV), Imps some l (maskL ts k l)
  | _, [] => trivial
  | k, x :: l => by
    refine ⟨?_, maskL_imps ts (k + 1) l⟩
    split
    · exact fun S T S' T' v hc h => rel_some hc h
    · exact Imp.junk _

/-- To a shape: what varies there. -/
def jump (A : Ar) (n0 nt : Nat) (st : St) (fr : List AV) (H : List ABlk) (k : Rs → List Lf → Prop) : Prop :=
  match ownAll n0 st.slots st.hp 0 st.hp fr H with
  | (fr, H) => match needF fr st.slots with
    | true => frzSlots A n0 st.slots (maskL (idxs st.slots) 0 fr) H fun fr H => mtS A n0 nt st fr H k
    | false => mtS A n0 nt st fr H k

theorem jump_sound {n0 nt : Nat} {st : St} {fr : List AV} {H : List ABlk} {k : Rs → List Lf → Prop} (h : jump arS n0 nt st fr H k) : ∃ rs vs, k rs vs ∧ puAll rs ∧ Ent n0 fr H (bldS arS nt st rs vs).1 (bldS arS nt st rs vs).2 ∧ n0 ≤ (bldS arS nt st rs vs).2.length := by
  unfold jump at h
  have ho := ownAll_ent (n0 := n0) (slots := st.slots) (hp0 := st.hp) st.hp 0 fr H
  split at h
  rename_i fr1 H1 he
  rw [he] at ho
  split at h
  · obtain ⟨fr2, H2, h2, e2⟩ := frzSlots_sound _ _ _ _ h
    obtain ⟨rs, vs, h3, h4, h5, h6⟩ := mtS_sound h2
    exact ⟨rs, vs, h3, h4, ho.trans ((Ent.sub (maskL_imps _ 0 fr1)).trans (e2.trans h5)), h6⟩
  · obtain ⟨rs, vs, h3, h4, h5, h6⟩ := mtS_sound h
    exact ⟨rs, vs, h3, h4, ho.trans h5, h6⟩
end Go.Ab
