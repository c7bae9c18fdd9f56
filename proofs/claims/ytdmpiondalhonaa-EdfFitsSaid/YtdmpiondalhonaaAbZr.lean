/- Closed calls, reckoned: where all that is handed in is known, what is handed out, whatever it is. -/
import Derived.Test.YtdmpiondalhonaaAbZ9
namespace Go.Ab
open Go
set_option linter.unusedVariables false
set_option linter.unusedSimpArgs false

mutual
/-- The same value, booleans that are known or not alike. -/
def eqU : AV → AV → Bool
  | .bool a, .sb b => a == b
  | .sb a, .bool b => a == b
  | .tup xs, .tup ys => eqUs xs ys
  | a, b => eqA a b
def eqUs : List AV → List AV → Bool
  | [], [] => true
  | x :: xs, y :: ys => eqU x y && eqUs xs ys
  | _, _ => false
end
mutual
theorem eqU_rel {S : RS} {T : Sh} : ∀ (a b : AV) (v : Value), eqU a b = true → rel S a T v → rel S b T v
  | a, b, v, h, hr => by
    unfold eqU at h
    split at h
    · rw [beq_iff_eq] at h; subst h; simpa only [rel] using hr
    · rw [beq_iff_eq] at h; subst h; simpa only [rel] using hr
    · simp only [rel] at hr ⊢
      obtain ⟨us, h1, h2⟩ := hr
      exact ⟨us, h1, eqUs_rel _ _ _ h h2⟩
    · rw [eqA_eq _ _ h] at hr; exact hr
theorem eqUs_rel {S : RS} {T : Sh} : ∀ (a b : List AV) (vs : List Value), eqUs a b = true → rels S a T vs → rels S b T vs
  | [], [], _, _, hr => hr
  | x :: xs, y :: ys, vs, h, hr => by
    simp only [eqUs, Bool.and_eq_true] at h
    simp only [rels] at hr ⊢
    obtain ⟨v, vs', h1, h2, h3⟩ := hr
    exact ⟨v, vs', h1, eqU_rel x y v h.1 h2, eqUs_rel xs ys vs' h.2 h3⟩
  | [], _ :: _, _, h, _ => by simp [eqUs] at h
  | _ :: _, [], _, h, _ => by simp [eqUs] at h
end

def puB : Rs → Bool
  | [] => true
  | r :: rs => pursS r && puB rs
theorem puB_all : ∀ {rs : Rs}, puB rs = true → puAll rs
  | [], _ => trivial
  | r :: rs, h => by simp only [puB, Bool.and_eq_true] at h; exact ⟨h.1, puB_all h.2⟩

def reckB (T : List (Nat × AFn)) (n : Nat) (g : Sig) (rs : Rs) (vs : List Lf) (x : Nat) (rs' : Rs) (vs' : List Lf) : Bool :=
  match bldC arS g.args g.hp rs vs with
  | (args, H) => match callC T n g.f args H with
    | some (r, H') => match canD (lenL H) [r] H', getL g.exits x with
      | ([r1], H1), some ex => match bldX arS ex rs' vs' with
        | (r2, H2) => eqU r1 r2 && (eqH H1 H2 && (puB rs' && Nat.ble (lenL H) (lenL H2)))
      | _, _ => false
    | none => false

/-- A CLOSED CALL, whatever it hands out. -/
theorem EC.reckon {P : Program} {T : List (Nat × AFn)} (hm : P.follows .mixedOrders = true) (hT : ∀ p ∈ T, ∃ fn, p.2.at P p.1 fn) {n : Nat} {g : Sig} {rs : Rs} {vs : List Lf} {x : Nat} {rs' : Rs} {vs' : List Lf} (h : reckB T n g rs vs x rs' vs' = true) :
    EC P g rs vs fun y rs1 vs1 => y = x ∧ rs1 = rs' ∧ vs1 = vs' := by
  intro _
  unfold reckB at h
  cases hb : bldC arS g.args g.hp rs vs with
  | mk args H =>
    rw [hb] at h
    simp only at h ⊢
    cases hc : callC T n g.f args H with
    | none => rw [hc] at h; cases h
    | some p =>
      obtain ⟨r, H'⟩ := p
      rw [hc] at h
      simp only at h
      have hce := canD_ent (lenL H) [r] H'
      split at h
      · rename_i r1 H1 ex h1 h2
        rw [h1] at hce
        cases hx : bldX arS ex rs' vs' with
        | mk r2 H2 =>
          rw [hx] at h
          simp only [Bool.and_eq_true] at h
          obtain ⟨q1, q2, q3, q4⟩ := h
          have q2 := eqH_eq _ _ q2
          subst q2
          have q4 := Nat.ble_eq.mp q4
          rw [lenL_eq, lenL_eq] at q4
          rw [lenL_eq] at hce
          refine CallsA.ent ((callC_sound hm hT hc).mono fun r0 H0 ⟨e1, e2⟩ => ⟨r2, H1, ?_, x, ex, rs', vs', h2, puB_all q3, ⟨rfl, rfl, rfl⟩, hx, q4, ?_⟩)
          · subst e1 e2
            refine hce.trans (Ent.sub ⟨fun S T S' T' v hcc hv => rel_some hcc (eqU_rel _ _ _ q1 hv), trivial⟩)
          · have := bldS_pure (A := arS) (nt := lenL ex.st.slots) (st := ex.st) (rs := rs') (vs := vs') (puB_all q3)
            rw [← bldX_2, hx] at this
            exact this
      · cases h

/-- What a closed call hands out, canonical. -/
def reck1 (T : List (Nat × AFn)) (n : Nat) (g : Sig) (rs : Rs) (vs : List Lf) : Option (Nat × List AV × List ABlk) :=
  match bldC arS g.args g.hp rs vs with
  | (args, H) => match callC T n g.f args H with
    | some (r, H') => match canD (lenL H) [r] H' with
      | (fr, H1) => some (lenL H, fr, H1)
    | none => none
def reck2 (n0 : Nat) (g : Sig) (x : Nat) (rs' : Rs) (vs' : List Lf) (fr : List AV) (H : List ABlk) : Bool :=
  match canD n0 fr H, getL g.exits x with
  | ([r1], H1), some ex => match bldX arS ex rs' vs' with
    | (r2, H2) => eqU r1 r2 && (eqH H1 H2 && (puB rs' && Nat.ble n0 (lenL H2)))
  | _, _ => false

/-- A CLOSED CALL whose slice is frozen. -/
theorem EC.reckonF {P : Program} {T : List (Nat × AFn)} (hm : P.follows .mixedOrders = true) (hT : ∀ p ∈ T, ∃ fn, p.2.at P p.1 fn) {n : Nat} {g : Sig} {rs : Rs} {vs : List Lf} {x id n0 : Nat} {fr : List AV} {H1 : List ABlk} {rs' : Rs} {vs' : List Lf} (h : reck1 T n g rs vs = some (n0, fr, H1))
    (h2 : frzOne arS n0 id fr H1 fun fr2 H2 => reck2 n0 g x rs' vs' fr2 H2 = true) :
    EC P g rs vs fun y rs1 vs1 => y = x ∧ rs1 = rs' ∧ vs1 = vs' := by
  intro _
  unfold reck1 at h
  cases hb : bldC arS g.args g.hp rs vs with
  | mk args H =>
    rw [hb] at h
    simp only at h ⊢
    cases hc : callC T n g.f args H with
    | none => rw [hc] at h; cases h
    | some p =>
      obtain ⟨r, H'⟩ := p
      rw [hc] at h
      simp only [Option.some.injEq, Prod.mk.injEq] at h
      obtain ⟨rfl, rfl, rfl⟩ := h
      have hce := canD_ent (lenL H) [r] H'
      obtain ⟨fr2, H2, h3, e2⟩ := frzOne_sound h2
      unfold reck2 at h3
      have hce2 := canD_ent (lenL H) fr2 H2
      split at h3
      · rename_i r1 H3 ex h1 hx0
        rw [h1] at hce2
        cases hx : bldX arS ex rs' vs' with
        | mk r2 H4 =>
          rw [hx] at h3
          simp only [Bool.and_eq_true] at h3
          obtain ⟨q1, q2, q3, q4⟩ := h3
          have q2 := eqH_eq _ _ q2
          subst q2
          have q4 := Nat.ble_eq.mp q4
          have hall := (hce.trans e2).trans hce2
          rw [lenL_eq] at hall
          rw [lenL_eq, lenL_eq] at q4
          refine CallsA.ent ((callC_sound hm hT hc).mono fun r0 H0 ⟨e1, e2'⟩ => ⟨r2, H3, ?_, x, ex, rs', vs', hx0, puB_all q3, ⟨rfl, rfl, rfl⟩, hx, q4, ?_⟩)
          · subst e1 e2'
            exact hall.trans (Ent.sub ⟨fun S T S' T' v hcc hv => rel_some hcc (eqU_rel _ _ _ q1 hv), trivial⟩)
          · have := bldS_pure (A := arS) (nt := lenL ex.st.slots) (st := ex.st) (rs := rs') (vs := vs') (puB_all q3)
            rw [← bldX_2, hx] at this
            exact this
      · cases h3
end Go.Ab
