/- Drawn regions by computation. -/
import Derived.Test.YtdmpiondalhonaaAbT
namespace Go.Ab
open Go
set_option linter.unusedVariables false
set_option linter.unusedSimpArgs false
variable {σr : RowF}

def hideL : List Bool → List ABlk → List ABlk
  | true :: bs, x :: H => x :: hideL bs H
  | false :: bs, _ :: H => .dead .mp :: hideL bs H
  | _, _ => []

/-- The live blocks of one are blocks of the other. -/
def SubH (HB H : List ABlk) : Prop := ∀ (id : Nat) (b : ABlk), getL HB id = some b → b.live = true → getL H id = some b

theorem hideL_sub : ∀ {bs : List Bool} {H H2 : List ABlk}, keepP bs H H2 → SubH (hideL bs H) H2
  | [], _, _, _, id, b, h, _ => by simp [hideL, getL] at h
  | true :: bs, [], _, h, _, _, _, _ => h.elim
  | true :: bs, _ :: _, [], h, _, _, _, _ => h.elim
  | false :: bs, [], _, h, _, _, _, _ => h.elim
  | false :: bs, _ :: _, [], h, _, _, _, _ => h.elim
  | true :: bs, x :: H, y :: H2, h, 0, b, hb, _ => by simp only [hideL, getL] at hb ⊢; rw [← h.1]; exact hb
  | true :: bs, x :: H, y :: H2, h, id + 1, b, hb, hl => by simp only [hideL, getL] at hb ⊢; exact hideL_sub h.2 id b hb hl
  | false :: bs, x :: H, y :: H2, h, 0, b, hb, hl => by simp only [hideL, getL, Option.some.injEq] at hb; subst hb; cases hl
  | false :: bs, x :: H, y :: H2, h, id + 1, b, hb, hl => by simp only [hideL, getL] at hb ⊢; exact hideL_sub (bs := bs) h id b hb hl

def mvK : AO → Bool
  | .alloc .. | .box .. | .st .. | .mks .. | .app .. | .lit .. | .mkm | .mset .. | .clr .. | .nilS .. | .bad => false
  | _ => true

def mvS (A : Ar) (C : FuncId → List AV → List ABlk → (AV → List ABlk → Prop) → Prop) : Out → AV → Prop
  | .ok v' _, v => v' = v
  | .need p o, v => A.nd p ∧ mvS A C o v
  | .ask p k, v => ∃ r, p r ∧ mvS A C (k r) v
  | .br b k, v => mvS A C (k b) v
  | .nilq .., _ => False
  | .call f args, v => purs (unsL args) = true ∧ C f (unsL args) [] fun r H' => sym r = v ∧ H' = []
  | .bad, _ => False

section
variable {P : Program} {HB H2 : List ABlk} {v : AV}

theorem partA_sim {n : Option Nat} {cs : List AV} {k k2 : AV → Out} {K : AV → List ABlk → Prop} (hk : ∀ u, mvS arS (CallsA P) (k u) v → sat arS P H2 (k2 u) K)
    (h : mvS arS (CallsA P) (match partA n cs with | some u => k u | none => .bad) v) : sat arS P H2 (match partA n cs with | some u => k2 u | none => .bad) K := by
  cases hp : partA n cs with
  | none => rw [hp] at h; exact h.elim
  | some u => rw [hp] at h; exact hk u h

theorem ldA_sim (hs : SubH HB H2) {n : Option Nat} {x : AV} {k k2 : AV → Out} {K : AV → List ABlk → Prop} (hk : ∀ u, mvS arS (CallsA P) (k u) v → sat arS P H2 (k2 u) K)
    (h : mvS arS (CallsA P) (ldA arS σr n x HB k) v) : sat arS P H2 (ldA arS σr n x H2 k2) K := by
  unfold ldA at h ⊢
  cases x <;> first | exact False.elim h | skip
  case ptr id t r o =>
    simp only at h ⊢
    cases hg : getL HB id with
    | none => rw [hg] at h; exact h.elim
    | some b =>
      rw [hg] at h
      cases b with
      | box => exact h.elim
      | dead => exact h.elim
      | mpb => exact h.elim
      | arr e sz rows =>
        rw [hs id _ hg rfl]
        exact ⟨h.1, partA_sim hk h.2⟩
  case bptr id o =>
    simp only at h ⊢
    cases hg : getL HB id with
    | none => rw [hg] at h; exact h.elim
    | some b =>
      rw [hg] at h
      cases b with
      | arr => exact h.elim
      | dead => exact h.elim
      | mpb => exact h.elim
      | box e cs =>
        rw [hs id _ hg rfl]
        exact partA_sim hk h
  case iptr cs => exact partA_sim hk h

theorem call_sim {f : FuncId} {args : List AV} (h : mvS arS (CallsA P) (.call f args) v) : sat arS P H2 (.call f args) (fun r H' => r = v ∧ H' = H2) := by
  obtain ⟨h1, h2⟩ := h
  exact CallsA.pure (Q := fun r => sym r = v) h2 h1 H2

theorem ok_sim {u : AV} {H' : List ABlk} (h : mvS arS (CallsA P) (.ok u H') v) : sat arS P H2 (.ok u H2) (fun r H' => r = v ∧ H' = H2) := ⟨h, rfl⟩

theorem okO_sim {u : Option AV} (h : mvS arS (CallsA P) (okO u HB) v) : sat arS P H2 (okO u H2) (fun r H' => r = v ∧ H' = H2) := by
  cases u with
  | none => exact h.elim
  | some u => exact ⟨h, rfl⟩

theorem nil2_sim {x y : AV} {k k2 : Bool → Out} {K : AV → List ABlk → Prop} (hk : ∀ u, mvS arS (CallsA P) (k u) v → sat arS P H2 (k2 u) K)
    (h : mvS arS (CallsA P) (nil2 x y HB k) v) : sat arS P H2 (nil2 x y H2 k2) K := by
  unfold nil2 at h ⊢
  have hq : ∀ x, mvS arS (CallsA P) (nilQ x HB k) v → sat arS P H2 (nilQ x H2 k2) K := by
    intro x h
    unfold nilQ at h ⊢
    cases x <;> first | exact False.elim h | exact hk _ h
  split at h <;> first | exact hq _ h | exact h.elim

theorem binA_sim {op : BinOp} {x y : AV} (h : mvS arS (CallsA P) (binA arS op x y HB) v) : sat arS P H2 (binA arS op x y H2) (fun r H' => r = v ∧ H' = H2) := by
  unfold binA at h ⊢
  cases x <;> cases y <;> first | exact False.elim h | skip
  · cases op <;> simp only at h ⊢ <;> first
      | exact ⟨h.1, h.2, rfl⟩
      | (split at h
         · rename_i hk; rw [if_pos hk]; first | exact ⟨h.1, h.2, rfl⟩ | exact ⟨h, rfl⟩ | exact h.elim
         · exact h.elim)
  · cases op <;> simp only at h ⊢ <;> first
      | exact ⟨h.1, h.2, rfl⟩
      | exact ⟨h, rfl⟩
      | exact h.elim

theorem binQ_sim {op : BinOp} {tk : TK} {x y : AV} (h : mvS arS (CallsA P) (binQ arS op tk x y HB) v) : sat arS P H2 (binQ arS op tk x y H2) (fun r H' => r = v ∧ H' = H2) := by
  unfold binQ at h ⊢
  split at h
  · exact binA_sim h
  · exact binA_sim h
  · split at h
    · split at h
      · exact ⟨h, rfl⟩
      · exact h.elim
    · split at h
      · exact ⟨h, rfl⟩
      · exact h.elim
    · exact h.elim
  · split at h
    · split at h
      · exact ⟨h, rfl⟩
      · exact h.elim
    · split at h
      · exact ⟨h, rfl⟩
      · exact h.elim
    · exact nil2_sim (k := fun b => .ok (.bool b) HB) (fun u hu => ⟨hu, rfl⟩) h
    · exact nil2_sim (k := fun b => .ok (.bool (!b)) HB) (fun u hu => ⟨hu, rfl⟩) h
    · exact h.elim

theorem slcA_sim (hs : SubH HB H2) {k : Option Nat} {x : AV} {lo hi : Option Int} (h : mvS arS (CallsA P) (slcA arS k x lo hi HB) v) : sat arS P H2 (slcA arS k x lo hi H2) (fun r H' => r = v ∧ H' = H2) := by
  unfold slcA at h ⊢
  split at h
  · split at h
    · rename_i hz
      simp only [if_pos hz]
      split at h <;> first | exact ⟨h.1, h.2, rfl⟩ | exact ⟨h, rfl⟩
    · exact h.elim
  · rename_i z id t o n
    cases hg : getL HB id with
    | none => rw [hg] at h; exact h.elim
    | some b =>
      rw [hg] at h
      cases b with
      | box => exact h.elim
      | dead => exact h.elim
      | mpb => exact h.elim
      | arr e sz rows =>
        rw [hs id _ hg rfl]
        simp only at h ⊢
        split at h
        · rename_i hz
          simp only [if_pos hz]
          split at h <;> exact ⟨h.1, h.2, rfl⟩
        · exact h.elim
  · exact ⟨h.1, h.2, rfl⟩
  · split at h <;> first | exact ⟨h.1, h.2, rfl⟩ | exact ⟨h, rfl⟩
  · exact h.elim

/-- What a quiet operation comes to beside less it comes to beside more. -/
theorem mv_sim (hs : SubH HB H2) {fr : List AV} {ao : AO} (hk : mvK ao = true) (h : mvS arS (CallsA P) (exec1 arS σr fr HB ao) v) : sat arS P H2 (exec1 arS σr fr H2 ao) (fun r H' => r = v ∧ H' = H2) := by
  cases ao <;> first | exact (Bool.noConfusion hk : False).elim | skip
  case mv => exact ok_sim h
  case pick c a b =>
    simp only [exec1] at h ⊢
    split at h <;> first | exact ⟨h, rfl⟩ | exact h.elim
  case build z ps =>
    simp only [exec1] at h ⊢
    split at h
    · rename_i hz; rw [if_pos hz]; exact okO_sim h
    · exact h.elim
  case ld n x => exact ldA_sim hs (k := fun v => .ok v HB) (fun u hu => ⟨hu, rfl⟩) h
  case nilc mt x =>
    simp only [exec1] at h ⊢
    split at h <;> first | exact ⟨h, rfl⟩ | exact h.elim | (split at h <;> first | (rename_i hz; rw [if_pos hz]; exact ⟨h, rfl⟩) | exact h.elim)
  case bin op k x y => exact binQ_sim h
  case un op x =>
    simp only [exec1] at h ⊢
    split at h <;> first | exact ⟨h, rfl⟩ | exact h.elim
  case cvt k x =>
    simp only [exec1] at h ⊢
    split at h <;> first | exact ⟨h, rfl⟩ | exact h.elim
  case mki => exact ok_sim h
  case mkf => exact ok_sim h
  case slc k x lo hi =>
    simp only [exec1] at h ⊢
    split at h
    · exact slcA_sim hs h
    · exact h.elim
  case fad off x =>
    simp only [exec1] at h ⊢
    split at h <;> first | exact ⟨h, rfl⟩ | exact h.elim
  case fld off n x =>
    simp only [exec1] at h ⊢
    split at h
    · exact okO_sim h
    · exact h.elim
  case idx e0 sz x i =>
    simp only [exec1] at h ⊢
    split at h
    · split at h
      · rename_i hz
        rw [if_pos hz]
        exact ⟨h.1, h.2, rfl⟩
      · exact h.elim
    · rename_i id t o len k n _ _
      cases hg : getL HB id with
      | none => rw [hg] at h; exact h.elim
      | some b =>
        rw [hg] at h
        cases b with
        | box => exact h.elim
        | dead => exact h.elim
        | mpb => exact h.elim
        | arr e sz' rows =>
          rw [hs id _ hg rfl]
          simp only at h ⊢
          split at h
          · rename_i hz
            rw [if_pos hz]
            exact ⟨h.1, h.2, rfl⟩
          · exact h.elim
    · exact h.elim
  case idxs x i =>
    simp only [exec1] at h ⊢
    split at h <;> first | exact ⟨h.1, h.2, rfl⟩ | exact h.elim
  case ext x i =>
    simp only [exec1] at h ⊢
    split at h
    · exact okO_sim h
    · exact h.elim
  case asrt t z ag ok x =>
    simp only [exec1] at h ⊢
    split at h
    · split at h
      · rename_i hz; rw [if_pos hz]; exact ⟨h, rfl⟩
      · exact h.elim
    · exact h.elim
  case call f args => exact call_sim h
  case callv x args =>
    simp only [exec1] at h ⊢
    split at h
    · exact call_sim h
    · exact h.elim
  case inv tab x args =>
    simp only [exec1] at h ⊢
    split at h
    · split at h
      · exact call_sim h
      · exact ldA_sim hs (k := fun u => .call _ (u :: evs fr args)) (fun u hu => call_sim hu) h
      · exact h.elim
    · exact h.elim
  case len str x =>
    simp only [exec1] at h ⊢
    split at h
    · exact ⟨h, rfl⟩
    · exact ⟨h, rfl⟩
    · rename_i id t _ n _
      cases hg : getL HB id with
      | none => rw [hg] at h; exact h.elim
      | some b =>
        rw [hg] at h
        cases b with
        | box => exact h.elim
        | dead => exact h.elim
        | mpb => exact h.elim
        | arr e sz' rows =>
          rw [hs id _ hg rfl]
          exact ⟨h.1, h.2, rfl⟩
    · exact ⟨h, rfl⟩
    · exact h.elim
  case mget z x i =>
    simp only [exec1] at h ⊢
    split at h
    · exact ⟨h, rfl⟩
    · rename_i id k n _ _
      cases hg : getL HB id with
      | none => rw [hg] at h; exact h.elim
      | some b =>
        rw [hg] at h
        cases b with
        | box => exact h.elim
        | dead => exact h.elim
        | arr => exact h.elim
        | mpb rows =>
          rw [hs id _ hg rfl]
          simp only at h ⊢
          split at h
          · exact ⟨h.1, h.2, rfl⟩
          · exact ⟨h.1, h.2, rfl⟩
          · exact h.elim
    · exact h.elim
  case mnmx mx x y =>
    simp only [exec1] at h ⊢
    split at h
    · split at h
      · rename_i hz; rw [if_pos hz]; exact ⟨h, rfl⟩
      · exact h.elim
    · exact h.elim
  case addc x y z =>
    simp only [exec1] at h ⊢
    split at h
    · exact ⟨h, rfl⟩
    · exact h.elim
end
end Go.Ab
