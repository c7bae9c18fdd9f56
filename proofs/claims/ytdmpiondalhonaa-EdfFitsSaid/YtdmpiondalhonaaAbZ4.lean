/- States matched against shapes: frames, blocks. -/
import Derived.Test.YtdmpiondalhonaaAbZ3
namespace Go.Ab
open Go
set_option linter.unusedVariables false
set_option linter.unusedSimpArgs false

/-- The rows of a shape's block. -/
def rowN : List SB → Rs → Nat → List (List AV)
  | .box _ _ :: hp, rs, i => match i with
    | 0 => []
    | i + 1 => rowN hp rs i
  | .arr _ _ :: hp, rs, i => match rs with
    | [] => []
    | r :: rs => match i with
      | 0 => r
      | i + 1 => rowN hp rs i
  | .mp :: hp, rs, i => match rs with
    | [] => []
    | r :: rs => match i with
      | 0 => r
      | i + 1 => rowN hp rs i
  | [], _, _ => []

def bldF (A : Ar) (ρ : Nat → List (List AV)) : List (Nat × S1) → List AV → List Lf → List AV × List Lf
  | [], fr, vs => (fr, vs)
  | (i, s) :: l, fr, vs => match bld A ρ s vs with
    | (x, vs) => bldF A ρ l (setL fr i x) vs

def bldH (A : Ar) (ρ : Nat → List (List AV)) : List SB → Rs → List Lf → List ABlk
  | [], _, _ => []
  | .box e cs :: hp, rs, vs => match blds A ρ cs vs with
    | (xs, vs) => .box e xs :: bldH A ρ hp rs vs
  | .arr e sz :: hp, rs, vs => match rs with
    | r :: rs => .arr e sz r :: bldH A ρ hp rs vs
    | [] => []
  | .mp :: hp, rs, vs => match rs with
    | r :: rs => .mpb r :: bldH A ρ hp rs vs
    | [] => []

def mtF (A : Ar) (H : List ABlk) (fr : List AV) : List (Nat × S1) → List (Nat × Nat) → List Lf → (List (Nat × Nat) → List Lf → Prop) → Prop
  | [], β, vs, k => k β vs
  | (i, s) :: l, β, vs, k => match getL fr i with
    | some v => mt A H s v β vs fun β vs => mtF A H fr l β vs k
    | none => False

def mtH (A : Ar) (H : List ABlk) : Nat → List SB → List (Nat × Nat) → List Lf → Rs → (List (Nat × Nat) → List Lf → Rs → Prop) → Prop
  | _, [], β, vs, rs, k => k β vs rs
  | j, .box e cs :: hp, β, vs, rs, k => match lookP β j with
    | some id => match getL H id with
      | some (.box e' xs) => match Nat.beq e e' with
        | true => mts A H cs xs β vs fun β vs => mtH A H (j + 1) hp β vs rs k
        | false => False
      | _ => False
    | none => False
  | j, .arr e sz :: hp, β, vs, rs, k => match lookP β j with
    | some id => match getL H id with
      | some (.arr e' sz' rows) => match Nat.beq e e', Nat.beq sz sz' with
        | true, true => A.nd (.pu rows) ∧ mtH A H (j + 1) hp β vs (appL rs [rows]) k
        | _, _ => False
      | _ => False
    | none => False
  | j, .mp :: hp, β, vs, rs, k => match lookP β j with
    | some id => match getL H id with
      | some (.mpb rows) => A.nd (.pu rows) ∧ mtH A H (j + 1) hp β vs (appL rs [rows]) k
      | _ => False
    | none => False

def lsB (β : List (Nat × Nat)) : Nat → Nat → Option (List Nat)
  | _, 0 => some []
  | j, n + 1 => match lookP β j with
    | some id => match lsB β (j + 1) n with
      | some l => some (id :: l)
      | none => none
    | none => none
def ndB : List Nat → Bool
  | [] => true
  | x :: xs => !memN x xs && ndB xs
def ltB (n : Nat) : List (Nat × Nat) → Bool
  | [] => true
  | (j, _) :: l => Nat.blt j n && ltB n l
def fixB : Nat → Nat → List Nat → Bool
  | _, 0, _ => true
  | k, n + 1, x :: l => Nat.beq x k && fixB (k + 1) n l
  | _, _ + 1, [] => false
def idB : Nat → Nat → List (Nat × Nat)
  | _, 0 => []
  | k, n + 1 => (k, k) :: idB (k + 1) n
def finB (n0 len : Nat) (β : List (Nat × Nat)) : Option (List Nat) :=
  match lsB β 0 len with
  | some l => match ndB l && (fixB 0 n0 l && ltB len β) with
    | true => some l
    | false => none
  | none => none

theorem lsB_get {β : List (Nat × Nat)} : ∀ {n j : Nat} {l : List Nat}, lsB β j n = some l → l.length = n ∧ ∀ i id : Nat, l[i]? = some id → lookP β (j + i) = some id
  | 0, j, l, h => by simp only [lsB, Option.some.injEq] at h; subst h; exact ⟨rfl, fun i id h => by simp at h⟩
  | n + 1, j, l, h => by
    simp only [lsB] at h
    split at h
    · rename_i id he
      split at h
      · rename_i l' hl
        simp only [Option.some.injEq] at h
        subst h
        obtain ⟨h1, h2⟩ := lsB_get hl
        refine ⟨by simp [h1], fun i id' hi => ?_⟩
        cases i with
        | zero => simp at hi; subst hi; exact he
        | succ i => rw [show j + (i + 1) = j + 1 + i by omega]; exact h2 i id' (by simpa using hi)
      · cases h
    · cases h
theorem ndB_nodup : ∀ {l : List Nat}, ndB l = true → l.Nodup
  | [], _ => List.nodup_nil
  | x :: xs, h => by
    simp only [ndB, Bool.and_eq_true, memN_eq] at h
    exact List.nodup_cons.2 ⟨by simpa using h.1, ndB_nodup h.2⟩
theorem lookP_mem {β : List (Nat × Nat)} {j id : Nat} (h : lookP β j = some id) : ∃ p ∈ β, p.1 = j := by
  induction β with
  | nil => cases h
  | cons p β ih =>
    obtain ⟨j', id'⟩ := p
    simp only [lookP] at h
    cases hb : Nat.beq j' j with
    | true => exact ⟨(j', id'), by simp, Nat.eq_of_beq_eq_true hb⟩
    | false =>
      rw [hb] at h
      obtain ⟨p, h1, h2⟩ := ih h
      exact ⟨p, by simp [h1], h2⟩
theorem ltB_lt {n : Nat} : ∀ {β : List (Nat × Nat)}, ltB n β = true → ∀ p ∈ β, p.1 < n
  | [], _, p, hp => by cases hp
  | (j, id) :: l, h, p, hp => by
    simp only [ltB, Bool.and_eq_true] at h
    rcases List.mem_cons.1 hp with rfl | hp
    · exact Nat.blt_eq.mp h.1
    · exact ltB_lt h.2 p hp
theorem fixB_get : ∀ {n k : Nat} {l : List Nat}, fixB k n l = true → n ≤ l.length ∧ ∀ j : Nat, j < n → l[j]? = some (k + j)
  | 0, k, l, _ => ⟨Nat.zero_le _, fun j h => by omega⟩
  | n + 1, k, [], h => by cases h
  | n + 1, k, x :: l, h => by
    simp only [fixB, Bool.and_eq_true] at h
    obtain ⟨h1, h2⟩ := fixB_get h.2
    refine ⟨by simp; omega, fun j hj => ?_⟩
    cases j with
    | zero => simp [Nat.eq_of_beq_eq_true h.1]
    | succ j => rw [show k + (j + 1) = k + 1 + j by omega]; simpa using h2 j (by omega)

section
variable {H : List ABlk}

theorem Imps.set {τ : Nat → Option Nat} {v a : AV} (hi : Imp τ v a) : ∀ {xs ys : List AV} {i : Nat}, Imps τ xs ys → xs[i]? = some v → Imps τ xs (ys.set i a)
  | [], [], _, h, hv => by simp at hv
  | x :: xs, y :: ys, 0, h, hv => by simp at hv; subst hv; exact ⟨hi, h.2⟩
  | x :: xs, y :: ys, i + 1, h, hv => ⟨h.1, Imps.set hi h.2 (by simpa using hv)⟩
  | [], _ :: _, _, h, _ => h.elim
  | _ :: _, [], _, h, _ => h.elim

theorem Imps.junks {τ : Nat → Option Nat} : ∀ (xs : List AV), Imps τ xs (repL xs.length .junk)
  | [] => trivial
  | x :: xs => ⟨Imp.junk x, Imps.junks xs⟩

theorem mtF_sound {fr : List AV} : ∀ (l : List (Nat × S1)) (β : List (Nat × Nat)) (vs : List Lf) (k : List (Nat × Nat) → List Lf → Prop), mtF arS H fr l β vs k →
    ∃ β' new, k β' (vs ++ new) ∧ LeP β β' ∧ ∀ τ ρ, GoodP H τ ρ β' → ∀ rest fr0, Imps τ fr fr0 → ∃ fr', bldF arS ρ l fr0 (new ++ rest) = (fr', rest) ∧ Imps τ fr fr'
  | [], β, vs, k, h => ⟨β, [], by simpa [mtF] using h, LeP.refl _, fun τ ρ _ rest fr0 h0 => ⟨fr0, by simp [bldF], h0⟩⟩
  | (i, s) :: l, β, vs, k, h => by
    simp only [mtF, getL_eq] at h
    split at h
    · rename_i v hv
      obtain ⟨β1, n1, h1, h2, h3⟩ := mt_sound s v β vs _ h
      obtain ⟨β2, n2, g1, g2, g3⟩ := mtF_sound l β1 _ _ h1
      refine ⟨β2, n1 ++ n2, by rw [← List.append_assoc]; exact g1, h2.trans g2, fun τ ρ hG rest fr0 h0 => ?_⟩
      obtain ⟨a, q1, q2⟩ := h3 τ ρ (hG.le g2) (n2 ++ rest)
      obtain ⟨fr', r1, r2⟩ := g3 τ ρ hG rest (fr0.set i a) (Imps.set q2 h0 hv)
      exact ⟨fr', by simp only [bldF, List.append_assoc, q1, setL_eq, r1], r2⟩
    · exact h.elim

/-- The blocks, as they are matched. -/
theorem mtH_sound : ∀ (hp : List SB) (j : Nat) (β : List (Nat × Nat)) (vs : List Lf) (rs : Rs) (k : List (Nat × Nat) → List Lf → Rs → Prop), mtH arS H j hp β vs rs k →
    ∃ β' new nr, k β' (vs ++ new) (rs ++ nr) ∧ LeP β β' ∧ puAll nr ∧
      (∀ (i id e sz : Nat) (rows : List (List AV)), i < hp.length → lookP β' (j + i) = some id → H[id]? = some (.arr e sz rows) → rowN hp nr i = rows) ∧
      ∀ τ ρ, GoodP H τ ρ β' → ∀ rest, (bldH arS ρ hp nr (new ++ rest)).length = hp.length ∧
        ∀ i : Nat, i < hp.length → ∃ id b b', lookP β' (j + i) = some id ∧ H[id]? = some b ∧ (bldH arS ρ hp nr (new ++ rest))[i]? = some b' ∧ BImp τ b b'
  | [], j, β, vs, rs, k, h => ⟨β, [], [], by simpa [mtH] using h, LeP.refl _, trivial, fun i _ _ _ _ hi => by simp at hi, fun τ ρ _ rest => ⟨rfl, fun i hi => by simp at hi⟩⟩
  | .box e cs :: hp, j, β, vs, rs, k, h => by
    simp only [mtH, getL_eq] at h
    split at h
    · rename_i id hid
      split at h
      · rename_i e' xs hg
        split at h
        · rename_i hb
          have := Nat.eq_of_beq_eq_true hb
          subst this
          obtain ⟨β1, n1, h1, h2, h3⟩ := mts_sound cs xs β vs _ h
          obtain ⟨β2, n2, nr, g1, g2, g3, g4, g5⟩ := mtH_sound hp (j + 1) β1 _ rs k h1
          refine ⟨β2, n1 ++ n2, nr, by rw [← List.append_assoc]; exact g1, h2.trans g2, g3, fun i id' e' sz rows hi hl hH => ?_, fun τ ρ hG rest => ?_⟩
          · cases i with
            | zero =>
              have := g2 j id (h2 j id hid)
              rw [Nat.add_zero] at hl
              rw [hl] at this
              injection this with this
              subst this
              rw [hg] at hH; cases hH
            | succ i => exact g4 i id' e' sz rows (by simpa using hi) (by rw [← hl]; congr 1; omega) hH
          · obtain ⟨as, q1, q2⟩ := h3 τ ρ (hG.le g2) (n2 ++ rest)
            obtain ⟨p1, p2⟩ := g5 τ ρ hG rest
            have e1 : bldH arS ρ (.box e cs :: hp) nr (n1 ++ n2 ++ rest) = .box e as :: bldH arS ρ hp nr (n2 ++ rest) := by simp only [bldH, List.append_assoc, q1]
            rw [e1]
            refine ⟨by simp [p1], fun i hi => ?_⟩
            cases i with
            | zero => exact ⟨id, _, _, g2 j id (h2 j id hid), hg, rfl, rfl, q2⟩
            | succ i =>
              obtain ⟨id', b, b', r1, r2, r3, r4⟩ := p2 i (by simpa using hi)
              exact ⟨id', b, b', by rw [← r1]; congr 1; omega, r2, by simpa using r3, r4⟩
        · exact h.elim
      · exact h.elim
    · exact h.elim
  | .arr e sz :: hp, j, β, vs, rs, k, h => by
    simp only [mtH, getL_eq] at h
    split at h
    · rename_i id hid
      split at h
      · rename_i e' sz' rows hg
        split at h
        · rename_i hb hb2
          have := Nat.eq_of_beq_eq_true hb
          have := Nat.eq_of_beq_eq_true hb2
          subst e' sz'
          obtain ⟨hpu, h⟩ := h
          have hpu : pursS rows = true := hpu
          obtain ⟨β2, n2, nr, g1, g2, g3, g4, g5⟩ := mtH_sound hp (j + 1) β vs _ k h
          refine ⟨β2, n2, rows :: nr, by simpa [appL_eq] using g1, g2, ⟨hpu, g3⟩, fun i id' e' sz' rows' hi hl hH => ?_, fun τ ρ hG rest => ?_⟩
          · cases i with
            | zero =>
              have := g2 j id hid
              rw [Nat.add_zero] at hl
              rw [hl] at this
              injection this with this
              subst this
              rw [hg] at hH
              simp only [Option.some.injEq, ABlk.arr.injEq] at hH
              simp only [rowN]
              exact hH.2.2
            | succ i => exact g4 i id' e' sz' rows' (by simpa using hi) (by rw [← hl]; congr 1; omega) hH
          · obtain ⟨p1, p2⟩ := g5 τ ρ hG rest
            have e1 : bldH arS ρ (.arr e sz :: hp) (rows :: nr) (n2 ++ rest) = .arr e sz rows :: bldH arS ρ hp nr (n2 ++ rest) := by simp only [bldH]
            rw [e1]
            refine ⟨by simp [p1], fun i hi => ?_⟩
            cases i with
            | zero => exact ⟨id, _, _, g2 j id hid, hg, rfl, rfl, rfl, rfl, hpu⟩
            | succ i =>
              obtain ⟨id', b, b', r1, r2, r3, r4⟩ := p2 i (by simpa using hi)
              exact ⟨id', b, b', by rw [← r1]; congr 1; omega, r2, by simpa using r3, r4⟩
        · exact h.elim
      · exact h.elim
    · exact h.elim

  | .mp :: hp, j, β, vs, rs, k, h => by
    simp only [mtH, getL_eq] at h
    split at h
    · rename_i id hid
      split at h
      · rename_i rows hg
        obtain ⟨hpu, h⟩ := h
        have hpu : pursS rows = true := hpu
        obtain ⟨β2, n2, nr, g1, g2, g3, g4, g5⟩ := mtH_sound hp (j + 1) β vs _ k h
        refine ⟨β2, n2, rows :: nr, by simpa [appL_eq] using g1, g2, ⟨hpu, g3⟩, fun i id' e' sz' rows' hi hl hH => ?_, fun τ ρ hG rest => ?_⟩
        · cases i with
          | zero =>
            have := g2 j id hid
            rw [Nat.add_zero] at hl
            rw [hl] at this
            injection this with this
            subst this
            rw [hg] at hH
            cases hH
          | succ i => exact g4 i id' e' sz' rows' (by simpa using hi) (by rw [← hl]; congr 1; omega) hH
        · obtain ⟨p1, p2⟩ := g5 τ ρ hG rest
          have e1 : bldH arS ρ (.mp :: hp) (rows :: nr) (n2 ++ rest) = .mpb rows :: bldH arS ρ hp nr (n2 ++ rest) := by simp only [bldH]
          rw [e1]
          refine ⟨by simp [p1], fun i hi => ?_⟩
          cases i with
          | zero => exact ⟨id, _, _, g2 j id hid, hg, rfl, rfl⟩
          | succ i =>
            obtain ⟨id', b, b', r1, r2, r3, r4⟩ := p2 i (by simpa using hi)
            exact ⟨id', b, b', by rw [← r1]; congr 1; omega, r2, by simpa using r3, r4⟩
      · exact h.elim
    · exact h.elim

/-- A state's shape. -/
structure St where
  slots : List (Nat × S1)
  hp : List SB
  deriving Inhabited

def bldS (A : Ar) (nt : Nat) (st : St) (rs : Rs) (vs : List Lf) : List AV × List ABlk :=
  match bldF A (rowN st.hp rs) st.slots (repL nt .junk) vs with
  | (fr, vs) => (fr, bldH A (rowN st.hp rs) st.hp rs vs)

def mtS (A : Ar) (n0 nt : Nat) (st : St) (fr : List AV) (H : List ABlk) (k : Rs → List Lf → Prop) : Prop :=
  match Nat.beq (lenL fr) nt with
  | true => mtF A H fr st.slots (idB 0 n0) [] fun β vs => mtH A H 0 st.hp β vs [] fun β vs rs => match finB n0 (lenL st.hp) β with
    | some _ => k rs vs
    | none => False
  | false => False

theorem finB_spec {n0 len : Nat} {β : List (Nat × Nat)} {l : List Nat} (h : finB n0 len β = some l) : l.length = len ∧ (∀ i id : Nat, l[i]? = some id → lookP β i = some id) ∧ l.Nodup ∧ (n0 ≤ len ∧ ∀ j : Nat, j < n0 → l[j]? = some j) ∧ ∀ j id, lookP β j = some id → j < len := by
  unfold finB at h
  split at h
  · rename_i l' hl
    split at h
    · rename_i hb
      simp only [Option.some.injEq] at h
      subst h
      simp only [Bool.and_eq_true] at hb
      obtain ⟨h1, h2⟩ := lsB_get hl
      obtain ⟨h3, h4⟩ := fixB_get hb.2.1
      refine ⟨h1, fun i id hi => by simpa using h2 i id hi, ndB_nodup hb.1, ⟨by omega, fun j hj => by simpa using h4 j hj⟩, fun j id hj => ?_⟩
      obtain ⟨p, hp, rfl⟩ := lookP_mem hj
      exact ltB_lt hb.2.2 p hp
    · cases h
  · cases h

/-- What the end of a match tells of its blocks. -/
theorem goodP_of {hp : List SB} {β : List (Nat × Nat)} {l : List Nat} {n0 : Nat} {nr : Rs} (hf : finB n0 hp.length β = some l)
    (h : ∀ (i id e sz : Nat) (rows : List (List AV)), i < hp.length → lookP β (0 + i) = some id → H[id]? = some (.arr e sz rows) → rowN hp nr i = rows) : GoodP H (fun i => idxN l i 0) (rowN hp nr) β := by
  obtain ⟨h1, h2, h3, _, h5⟩ := finB_spec hf
  intro j id hj
  have hjl := h5 j id hj
  have hlj : l[j]? = some id := by
    have hg : l[j]? = some l[j] := List.getElem?_eq_getElem (by omega)
    have := h2 j _ hg
    rw [hj] at this
    rw [hg, ← this]
  exact ⟨idxN_some h3 hlj, fun e sz rows hH => h j id e sz rows hjl (by simpa using hj) hH⟩

theorem mtS_sound {n0 nt : Nat} {st : St} {fr : List AV} {k : Rs → List Lf → Prop} (h : mtS arS n0 nt st fr H k) : ∃ rs vs, k rs vs ∧ puAll rs ∧ Ent n0 fr H (bldS arS nt st rs vs).1 (bldS arS nt st rs vs).2 ∧ n0 ≤ (bldS arS nt st rs vs).2.length := by
  unfold mtS at h
  split at h
  · rename_i hn
    have hn := Nat.eq_of_beq_eq_true hn
    rw [lenL_eq] at hn
    obtain ⟨β1, n1, h1, h2, h3⟩ := mtF_sound st.slots _ [] _ h
    obtain ⟨β2, n2, nr, g1, g2, g3, g4, g5⟩ := mtH_sound st.hp 0 β1 _ [] _ h1
    simp only [List.nil_append] at g1
    split at g1
    · rename_i l hl
      rw [lenL_eq] at hl
      obtain ⟨f1, f2, f3, ⟨f4, f5⟩, f6⟩ := finB_spec hl
      have hG := goodP_of (H := H) hl g4
      refine ⟨nr, n1 ++ n2, g1, g3, ?_⟩
      obtain ⟨fr', q1, q2⟩ := h3 _ _ (hG.le g2) (n2 ++ []) (repL nt .junk) (by rw [← hn]; exact Imps.junks fr)
      obtain ⟨p1, p2⟩ := g5 _ _ hG []
      simp only [List.append_nil] at q1 p1 p2
      have e1 : bldS arS nt st nr (n1 ++ n2) = (fr', bldH arS (rowN st.hp nr) st.hp nr n2) := by simp only [bldS, q1]
      rw [e1]
      refine ⟨?_, by simp only; omega⟩
      refine Ent.ren l (by omega) f5 (nodup_get f3) (by simp [p1, f1]) (fun j id hj => ?_) q2
      have hjl : j < st.hp.length := by rw [← f1]; exact (List.getElem?_eq_some_iff.1 hj).1
      obtain ⟨id', b, b', r1, r2, r3, r4⟩ := p2 j hjl
      have := f2 j id hj
      rw [Nat.zero_add, this] at r1
      injection r1 with r1
      subst r1
      exact ⟨b, b', r2, r3, r4⟩
    · exact g1.elim
  · exact h.elim

/-- A call's arguments and blocks against a signature. -/
def mtC (A : Ar) (ss : List S1) (hp : List SB) (args : List AV) (H : List ABlk) (k : List Nat → Rs → List Lf → Prop) : Prop :=
  mts A H ss args [] [] fun β vs => mtH A H 0 hp β vs [] fun β vs rs => match finB 0 (lenL hp) β with
    | some l => k l rs vs
    | none => False

/-- Arguments and blocks, built. -/
def bldC (A : Ar) (ss : List S1) (hp : List SB) (rs : Rs) (vs : List Lf) : List AV × List ABlk :=
  match blds A (rowN hp rs) ss vs with
  | (xs, vs) => (xs, bldH A (rowN hp rs) hp rs vs)

theorem mtC_sound {ss : List S1} {hp : List SB} {args : List AV} {k : List Nat → Rs → List Lf → Prop} (h : mtC arS ss hp args H k) : ∃ l rs vs, k l rs vs ∧ puAll rs ∧ l.Nodup ∧ (bldC arS ss hp rs vs).2.length = l.length ∧
    (∀ j id : Nat, l[j]? = some id → ∃ x b, H[id]? = some x ∧ (bldC arS ss hp rs vs).2[j]? = some b ∧ BImp (fun i => idxN l i 0) x b) ∧ Imps (fun i => idxN l i 0) args (bldC arS ss hp rs vs).1 := by
  unfold mtC at h
  obtain ⟨β1, n1, h1, h2, h3⟩ := mts_sound ss args [] [] _ h
  obtain ⟨β2, n2, nr, g1, g2, g3, g4, g5⟩ := mtH_sound hp 0 β1 _ [] _ h1
  simp only [List.nil_append] at g1
  split at g1
  · rename_i l hl
    rw [lenL_eq] at hl
    obtain ⟨f1, f2, f3, _, f6⟩ := finB_spec hl
    have hG := goodP_of (H := H) hl g4
    obtain ⟨as, q1, q2⟩ := h3 _ _ (hG.le g2) (n2 ++ [])
    obtain ⟨p1, p2⟩ := g5 _ _ hG []
    simp only [List.append_nil] at q1 p1 p2
    have e1 : bldC arS ss hp nr (n1 ++ n2) = (as, bldH arS (rowN hp nr) hp nr n2) := by simp only [bldC, q1]
    refine ⟨l, nr, n1 ++ n2, g1, g3, f3, ?_, ?_, ?_⟩
    · rw [e1]; simp [p1, f1]
    · intro j id hj
      rw [e1]
      have hjl : j < hp.length := by rw [← f1]; exact (List.getElem?_eq_some_iff.1 hj).1
      obtain ⟨id', b, b', r1, r2, r3, r4⟩ := p2 j hjl
      have := f2 j id hj
      rw [Nat.zero_add, this] at r1
      injection r1 with r1
      subst r1
      exact ⟨b, b', r2, r3, r4⟩
    · rw [e1]; exact q2
  · exact g1.elim
end
end Go.Ab
