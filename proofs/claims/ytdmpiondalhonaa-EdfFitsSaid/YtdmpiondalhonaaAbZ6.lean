/- Running a function's text between the places at which its states have shapes. -/
import Derived.Test.YtdmpiondalhonaaAbZ5
namespace Go.Ab
open Go
set_option linter.unusedVariables false
set_option linter.unusedSimpArgs false

/-- One way a function hands its results out. -/
structure Exit where
  tup : Bool
  st : St
  deriving Inhabited
/-- What a function takes and hands out. -/
structure Sig where
  f : FuncId
  args : List S1
  hp : List SB
  exits : List Exit
  deriving Inhabited
/-- A place at which states have a shape. -/
structure Stop where
  n : Nat
  K : List AItem
  st : St
  deriving Inhabited
/-- Ahead of an operation: what is still used, and what is frozen. -/
structure Ann where
  m : Nat
  k : Nat
  live : List Nat
  ts : List Nat
  deriving Inhabited

def bldX (A : Ar) (ex : Exit) (rs : Rs) (vs : List Lf) : AV × List ABlk :=
  match bldS A (lenL ex.st.slots) ex.st rs vs with
  | (xs, H) => (match ex.tup with
    | true => .tup xs
    | false => match xs with
      | x :: _ => x
      | [] => .junk, H)

def ok1 : S1 → AV → Bool
  | .any, _ => true
  | .c v0, v => eqK v0 v
  | .int _, .int _ _ => true
  | .sb, .sb _ => true
  | .sb, .bool _ => true
  | .str, .str _ => true
  | .inl _, .inl _ _ => true
  | .inl _, .nils => true
  | .inl _, .sl _ _ _ _ => true
  | .sl _, .sl _ _ _ _ => true
  | .sl _, .nils => true
  | .slp _, .sl _ _ _ _ => true
  | .slh _, .sl _ _ _ _ => true
  | .slh _, .nils => true
  | .ptr _ _, .ptr _ _ _ _ => true
  | .bptr _ _, .bptr _ _ => true
  | .map _, .map _ => true
  | .iptr _, .iptr _ => true
  | .agg _, .agg _ => true
  | .tup _, .tup _ => true
  | .fn f _ _, .fn (.func f') _ _ => Nat.beq f f'
  | .iface t _, .iface t' _ => Nat.beq t t'
  | _, _ => false
def okArgs : List S1 → List AV → Bool
  | [], [] => true
  | s :: ss, x :: xs => ok1 s x && okArgs ss xs
  | _, _ => false
def okSl (fr : List AV) : List (Nat × S1) → Bool
  | [] => true
  | (i, s) :: l => match getL fr i with
    | some v => ok1 s v && okSl fr l
    | none => false
def pickX (tup : Bool) (fr : List AV) : Nat → List Exit → Option (Nat × Exit)
  | _, [] => none
  | i, ex :: l => match (match tup with | true => ex.tup | false => !ex.tup) && (Nat.beq (lenL fr) (lenL ex.st.slots) && okSl fr ex.st.slots) with
    | true => some (i, ex)
    | false => pickX tup fr (i + 1) l
def findSig (f : FuncId) (args : List AV) : Nat → List Sig → Option (Nat × Sig)
  | _, [] => none
  | i, g :: l => match Nat.beq g.f f && okArgs g.args args with
    | true => some (i, g)
    | false => findSig f args (i + 1) l

/-- What a function hands out, told by what varies. -/
def RX (exits : List Exit) (n0 : Nat) (Q : Nat → Rs → List Lf → Prop) (r : AV) (H : List ABlk) : Prop :=
  ∃ x ex rs vs, getL exits x = some ex ∧ puAll rs ∧ Q x rs vs ∧ bldX arS ex rs vs = (r, H) ∧ n0 ≤ H.length ∧ pureA H
/-- .. or may be weakened to that. -/
def RC (exits : List Exit) (n0 : Nat) (Q : Nat → Rs → List Lf → Prop) (r : AV) (H : List ABlk) : Prop :=
  ∃ r' H', Ent n0 [r] H [r'] H' ∧ RX exits n0 Q r' H'

/-- THE CONTRACT OF A FUNCTION by shapes: with these arguments it hands out what `Q` tells. -/
def EC (P : Program) (g : Sig) (rs : Rs) (vs : List Lf) (Q : Nat → Rs → List Lf → Prop) : Prop :=
  puAll rs → CallsA P g.f (bldC arS g.args g.hp rs vs).1 (bldC arS g.args g.hp rs vs).2 (RX g.exits (bldC arS g.args g.hp rs vs).2.length Q)

theorem EC.mono {P : Program} {g : Sig} {rs : Rs} {vs : List Lf} {Q Q' : Nat → Rs → List Lf → Prop} (h : EC P g rs vs Q) (hm : ∀ x rs' vs', Q x rs' vs' → Q' x rs' vs') : EC P g rs vs Q' :=
  fun hp => (h hp).mono fun r H ⟨x, ex, rs', vs', h1, h2, h3, h4⟩ => ⟨x, ex, rs', vs', h1, h2, hm _ _ _ h3, h4⟩
theorem EC.monoP {P : Program} {g : Sig} {rs : Rs} {vs : List Lf} {Q Q' : Nat → Rs → List Lf → Prop} (h : EC P g rs vs Q) (hm : ∀ x rs' vs', puAll rs' → Q x rs' vs' → Q' x rs' vs') : EC P g rs vs Q' :=
  fun hp => (h hp).mono fun r H ⟨x, ex, rs', vs', h1, h2, h3, h4⟩ => ⟨x, ex, rs', vs', h1, h2, hm _ _ _ h2 h3, h4⟩

/-- .. at a place of its text. -/
def ES (P : Program) (fn : Func) (tab : List Node) (exits : List Exit) (n0 nt : Nat) (Q : Nat → Rs → List Lf → Prop) (s : Stop) (rs : Rs) (vs : List Lf) : Prop :=
  puAll rs → ∀ H0 : List ABlk, H0.length = n0 → Run P fn tab H0 (RC exits n0 Q) (.c s.n :: s.K) (bldS arS nt s.st rs vs).1 (bldS arS nt s.st rs vs).2

theorem bldH_pure {A : Ar} {ρ : Nat → List (List AV)} : ∀ (hp : List SB) (rs : Rs) (vs : List Lf), puAll rs → pureA (bldH A ρ hp rs vs)
  | [], rs, vs, _ => fun j e sz rows h => by simp [bldH] at h
  | .box e cs :: hp, rs, vs, h => fun j e' sz rows hj => by
    simp only [bldH] at hj
    cases j with
    | zero => simp at hj
    | succ j => exact bldH_pure hp rs _ h j e' sz rows (by simpa using hj)
  | .arr e sz :: hp, rs, vs, h => fun j e' sz' rows hj => by
    cases rs with
    | nil => simp [bldH] at hj
    | cons r rs =>
      simp only [bldH] at hj
      cases j with
      | zero => simp at hj; rw [← hj.2.2]; exact h.1
      | succ j => exact bldH_pure hp rs _ h.2 j e' sz' rows (by simpa using hj)
  | .mp :: hp, rs, vs, h => fun j e' sz' rows hj => by
    cases rs with
    | nil => simp [bldH] at hj
    | cons r rs =>
      simp only [bldH] at hj
      cases j with
      | zero => simp at hj
      | succ j => exact bldH_pure hp rs _ h.2 j e' sz' rows (by simpa using hj)

theorem bldS_pure {A : Ar} {nt : Nat} {st : St} {rs : Rs} {vs : List Lf} (h : puAll rs) : pureA (bldS A nt st rs vs).2 := by
  unfold bldS
  exact bldH_pure st.hp rs _ h

theorem bldX_2 {A : Ar} {ex : Exit} {rs : Rs} {vs : List Lf} : (bldX A ex rs vs).2 = (bldS A (lenL ex.st.slots) ex.st rs vs).2 := rfl

theorem Ent.tup {n : Nat} {xs xs' : List AV} {H H' : List ABlk} (h : Ent n xs H xs' H') : Ent n [.tup xs] H [.tup xs'] H' := by
  intro S0 H0 w vs hn ⟨S, h1, h2, h3⟩
  simp only [rels, rel] at h2
  obtain ⟨v, _, rfl, ⟨us, rfl, h2⟩, rfl⟩ := h2
  obtain ⟨S', g1, g2, g3⟩ := h S0 H0 w us.toList hn ⟨S, h1, h2, h3⟩
  exact ⟨S', g1, by simp only [rels, rel]; exact ⟨_, [], rfl, ⟨us, rfl, g2⟩, rfl⟩, g3⟩

/-- A result, handed out. -/
def retS (A : Ar) (exits : List Exit) (n0 : Nat) (RR : Nat → Rs → List Lf → Prop) (v : AV) (H : List ABlk) : Prop :=
  match v with
  | .tup xs => match pickX true xs 0 exits with
    | some (i, ex) => jump A n0 (lenL ex.st.slots) ex.st xs H fun rs vs => RR i rs vs
    | none => False
  | v => match pickX false [v] 0 exits with
    | some (i, ex) => jump A n0 (lenL ex.st.slots) ex.st [v] H fun rs vs => RR i rs vs
    | none => False

theorem pickX_get {tup : Bool} {fr : List AV} : ∀ {l : List Exit} {k i : Nat} {ex : Exit}, pickX tup fr k l = some (i, ex) → k ≤ i ∧ l[i - k]? = some ex ∧ ex.tup = tup ∧ fr.length = ex.st.slots.length
  | [], k, i, ex, h => by simp [pickX] at h
  | e0 :: l, k, i, ex, h => by
    simp only [pickX] at h
    split at h
    · rename_i hb
      simp only [Option.some.injEq, Prod.mk.injEq] at h
      obtain ⟨rfl, rfl⟩ := h
      simp only [Bool.and_eq_true, lenL_eq] at hb
      refine ⟨Nat.le_refl _, by simp, ?_, Nat.eq_of_beq_eq_true hb.2.1⟩
      cases tup
      · simpa using hb.1
      · exact hb.1
    · obtain ⟨h1, h2, h3⟩ := pickX_get h
      refine ⟨by omega, ?_, h3⟩
      rw [show i - k = (i - (k + 1)) + 1 by omega]
      simpa using h2

theorem retS_sound {exits : List Exit} {n0 : Nat} {Q : Nat → Rs → List Lf → Prop} {v : AV} {H : List ABlk} (h : retS arS exits n0 Q v H) : RC exits n0 Q v H := by
  have single : ∀ (v : AV), (match pickX false [v] 0 exits with
    | some (i, ex) => jump arS n0 (lenL ex.st.slots) ex.st [v] H fun rs vs => Q i rs vs
    | none => False) → RC exits n0 Q v H := fun v h => by
    split at h
    · rename_i i ex he
      obtain ⟨_, h1, h2, h3⟩ := pickX_get he
      obtain ⟨rs, vs, g1, g2, g3, g4⟩ := jump_sound h
      have hlen : (bldS arS (lenL ex.st.slots) ex.st rs vs).1.length = 1 := by
        have hF : ∀ (ρ : Nat → List (List AV)) (l : List (Nat × S1)) (fr : List AV) (vs : List Lf), (bldF arS ρ l fr vs).1.length = fr.length := by
          intro ρ l
          induction l with
          | nil => intro fr vs; rfl
          | cons p l ih =>
            intro fr vs
            obtain ⟨i, s⟩ := p
            simp only [bldF]
            rw [ih, setL_eq]
            simp
        simp only [bldS]
        rw [hF, repL_eq, List.length_replicate, lenL_eq, ← h3]
        rfl
      obtain ⟨x, hx⟩ : ∃ x, (bldS arS (lenL ex.st.slots) ex.st rs vs).1 = [x] := by
        cases hc : (bldS arS (lenL ex.st.slots) ex.st rs vs).1 with
        | nil => rw [hc] at hlen; cases hlen
        | cons x l =>
          cases l with
          | nil => exact ⟨x, rfl⟩
          | cons _ _ => rw [hc] at hlen; simp at hlen
      rw [hx] at g3
      refine ⟨x, (bldS arS (lenL ex.st.slots) ex.st rs vs).2, g3, i, ex, rs, vs, by rw [getL_eq]; simpa using h1, g2, g1, ?_, g4, bldS_pure g2⟩
      unfold bldX
      cases hb : bldS arS (lenL ex.st.slots) ex.st rs vs with
      | mk a b =>
        rw [hb] at hx
        simp only at hx
        subst hx
        simp [h2]
    · exact h.elim
  unfold retS at h
  split at h
  · rename_i xs
    split at h
    · rename_i i ex he
      obtain ⟨_, h1, h2, h3⟩ := pickX_get he
      obtain ⟨rs, vs, g1, g2, g3, g4⟩ := jump_sound h
      refine ⟨_, _, g3.tup, i, ex, rs, vs, by rw [getL_eq]; simpa using h1, g2, g1, ?_, g4, bldS_pure g2⟩
      unfold bldX
      cases hb : bldS arS (lenL ex.st.slots) ex.st rs vs with
      | mk a b => simp [h2]
    · exact h.elim
  · exact single _ h

/-- A call, by shapes. -/
def callS (A : Ar) (sigs : List Sig) (CE : Nat → Rs → List Lf → (Nat → Rs → List Lf → Prop) → Prop) (f : FuncId) (args : List AV) (H : List ABlk) (K : AV → List ABlk → Prop) : Prop :=
  match findSig f args 0 sigs with
  | some (i, g) => mtC A g.args g.hp args H fun β rs vs => CE i rs vs fun x rs' vs' => match getL g.exits x with
    | some ex => match bldX A ex rs' vs' with
      | (r, H0) => K (ren (outN β (lenL H)) r) (appL (putHs (outN β (lenL H)) β H0 H) (newHs (outN β (lenL H)) β H0))
    | none => True
  | none => False

theorem findSig_get {f : FuncId} {args : List AV} : ∀ {l : List Sig} {k i : Nat} {g : Sig}, findSig f args k l = some (i, g) → k ≤ i ∧ l[i - k]? = some g ∧ g.f = f
  | [], k, i, g, h => by simp [findSig] at h
  | g0 :: l, k, i, g, h => by
    simp only [findSig] at h
    split at h
    · rename_i hb
      simp only [Option.some.injEq, Prod.mk.injEq] at h
      obtain ⟨rfl, rfl⟩ := h
      simp only [Bool.and_eq_true] at hb
      exact ⟨Nat.le_refl _, by simp, Nat.eq_of_beq_eq_true hb.1⟩
    · obtain ⟨h1, h2, h3⟩ := findSig_get h
      refine ⟨by omega, ?_, h3⟩
      rw [show i - k = (i - (k + 1)) + 1 by omega]
      simpa using h2

section
variable {P : Program} {sigs : List Sig} {CE : Nat → Rs → List Lf → (Nat → Rs → List Lf → Prop) → Prop}

theorem callS_sound (hCE : ∀ i g rs vs Q, sigs[i]? = some g → CE i rs vs Q → EC P g rs vs Q) {f : FuncId} {args : List AV} {H : List ABlk} {K K' : AV → List ABlk → Prop} (hm : ∀ v H', K v H' → K' v H')
    (h : callS arS sigs CE f args H K) : CallsA P f args H K' := by
  unfold callS at h
  split at h
  · rename_i i g hg
    obtain ⟨_, h1, h2⟩ := findSig_get hg
    obtain ⟨β, rs, vs, g1, g2, g3, g4, g5, g6⟩ := mtC_sound h
    have hE := hCE i g rs vs _ (by simpa using h1) g1 g2
    rw [h2] at hE
    refine (hE.ren β g3 g4 g5 g6 fun r H' ⟨x, ex, rs', vs', _, _, _, _, q5, q6⟩ => ⟨by rw [← g4]; exact q5, q6⟩).mono fun r H'' ⟨r0, H0, ⟨x, ex, rs', vs', q1, q2, q3, q4, q5, q6⟩, e1, e2⟩ => ?_
    simp only [q1, q4] at q3
    rw [e1, e2]
    rw [appL_eq, lenL_eq] at q3
    exact hm _ _ q3
  · exact h.elim

theorem satC_callS (hCE : ∀ i g rs vs Q, sigs[i]? = some g → CE i rs vs Q → EC P g rs vs Q) {H : List ABlk} : ∀ {o : Out} {K K' : AV → List ABlk → Prop}, (∀ v H', K v H' → K' v H') → satC arS (callS arS sigs CE) H o K → satC arS (CallsA P) H o K'
  | .ok _ _, _, _, hm, h => hm _ _ h
  | .need _ _, _, _, hm, h => ⟨h.1, satC_callS hCE hm h.2⟩
  | .ask _ _, _, _, hm, h => h.elim fun r hr => ⟨r, hr.1, satC_callS hCE hm hr.2⟩
  | .br _ _, _, _, hm, h => by simp only [satC] at h ⊢; exact satC_callS hCE hm h
  | .nilq _ _ _, _, _, hm, h => ⟨fun hb => hm _ _ (h.1 hb), hm _ _ h.2⟩
  | .call _ _, _, _, hm, h => callS_sound hCE (fun v H' hk => hm _ _ hk) h
  | .bad, _, _, _, h => h

theorem mvG_mono (hCE : ∀ i g rs vs Q, sigs[i]? = some g → CE i rs vs Q → EC P g rs vs Q) : ∀ {o : Out} {K K' L L' : AV → Prop}, (∀ v, K v → L v) → (∀ v, K' v → L' v) → mvG arS (callS arS sigs CE) o K K' → mvG arS (CallsA P) o L L' := by
  intro o
  induction o with
  | ok v H => intro K K' L L' h1 h2 h; exact h1 _ h
  | need p o ih =>
    intro K K' L L' h1 h2 h
    cases o with
    | ok v H => exact ⟨h.1, h1 _ h.2⟩
    | need p' o' => exact ⟨h.1, ih h2 h2 h.2⟩
    | ask p' k' => exact ⟨h.1, ih h2 h2 h.2⟩
    | br b k' => exact ⟨h.1, ih h2 h2 h.2⟩
    | nilq => exact h.2.elim
    | call f args => exact ⟨h.1, ih h2 h2 h.2⟩
    | bad => exact ⟨h.1, ih h2 h2 h.2⟩
  | ask p k ih => intro K K' L L' h1 h2 h; obtain ⟨r, g1, g2⟩ := h; exact ⟨r, g1, ih r h2 h2 g2⟩
  | br b k ih => intro K K' L L' h1 h2 h; exact ih b h2 h2 h
  | nilq => intro K K' L L' h1 h2 h; exact h.elim
  | call f args =>
    intro K K' L L' h1 h2 h
    obtain ⟨v, ⟨g1, g2⟩, g3⟩ := h
    exact ⟨v, ⟨g1, callS_sound hCE (fun _ _ h => h) g2⟩, h2 _ g3⟩
  | bad => intro K K' L L' h1 h2 h; exact h

section
variable {σr : RowF} {l : List AOp} {bs : List Bool}
theorem allG_mono (hCE : ∀ i g rs vs Q, sigs[i]? = some g → CE i rs vs Q → EC P g rs vs Q) {fr : List AV} {H : List ABlk} {cont stop cont' stop' : Nat → AOp → AV → List ABlk → Prop} (h1 : ∀ i o v H', keepP bs H H' → cont i o v H' → cont' i o v H') (h2 : ∀ i o v H', keepP bs H H' → stop i o v H' → stop' i o v H') :
    ∀ {rs : List Nat}, allG arS σr (callS arS sigs CE) l bs fr H cont stop rs → allG arS σr (CallsA P) l bs fr H cont' stop' rs
  | [], _ => trivial
  | i :: is, h => by
    simp only [allG] at h ⊢
    refine ⟨?_, allG_mono hCE h1 h2 h.2⟩
    have h := h.1
    split
    · rename_i o ho
      rw [ho] at h
      simp only at h
      split
      · rename_i hg
        rw [hg] at h
        exact ⟨h.1, h1 _ _ _ _ h.1 h.2⟩
      · rename_i hg
        rw [hg] at h
        simp only at h
        split
        · rename_i v H' hx
          rw [hx] at h
          exact ⟨h.1, h1 _ _ _ _ h.1 h.2⟩
        · rename_i p v H' hx
          rw [hx] at h
          exact ⟨h.1, h.2.1, h1 _ _ _ _ h.2.1 h.2.2⟩
        · rename_i hn1 hn2
          split at h
          · rename_i hx; exact absurd hx (hn1 _ _)
          · rename_i hx; exact absurd hx (hn2 _ _ _)
          · exact satC_callS hCE (fun v H' ⟨q1, q2⟩ => ⟨q1, h2 _ _ _ _ q1 q2⟩) h
      · rename_i hn1 hn2
        split at h
        · rename_i hg; exact absurd hg hn1
        · rename_i hg; exact absurd hg hn2
        · exact h
    · rename_i ho
      rw [ho] at h
      exact h

theorem drawG_mono {qf : List Nat} (hCE : ∀ i g rs vs Q, sigs[i]? = some g → CE i rs vs Q → EC P g rs vs Q) {Fin Fin' : List AV → List ABlk → Prop} {Dr Dr' : Nat → List Bool → List AV → List ABlk → Prop} (hF : ∀ fr H, Fin fr H → Fin' fr H) (hD : ∀ n li fr H, keepP bs H H → Dr n li fr H → Dr' n li fr H) :
    ∀ (n : Nat) (listed : List Bool) (fr : List AV) (H : List ABlk), keepP bs H H → drawG arS σr (callS arS sigs CE) Fin Dr l bs qf n listed fr H → drawG arS σr (CallsA P) Fin' Dr' l bs qf n listed fr H := by
  intro n
  induction n with
  | zero =>
    intro listed fr H hk h
    simp only [drawG] at h ⊢
    split at h
    · exact hF _ _ h
    · exact h.elim
  | succ n ih =>
    intro listed fr H hk h
    simp only [drawG] at h ⊢
    split at h
    · exact hF _ _ h
    · split at h
      · exact ⟨fun hb => hD _ _ _ _ hk (h.1 hb), fun hb => hD _ _ _ _ hk (h.2 hb)⟩
      · split at h
        · exact ih _ _ _ hk h
        · exact mvG_mono hCE (fun v hv => ih _ _ _ hk hv) (fun v hv => hD _ _ _ _ hk hv) h
        · exact allG_mono hCE (fun i o v H' q1 q2 => ih _ _ _ (keepP_right q1) q2) (fun i o v H' q1 q2 => hD _ _ _ _ (keepP_right q1) q2) h
end
end
end Go.Ab
