/- Words for the printed texts (what is to be shown from place to place): purity, lengths, numbers. -/
import Derived.Test.YtdmpiondalhonaaAbZ9
namespace Go.Ab
open Go
set_option linter.unusedVariables false
set_option linter.unusedSimpArgs false

theorem vnot {a b : Bool} (h : (!a) = b) : a = !b := by cases a <;> cases b <;> simp_all
theorem notE {A : Ar} (hA : A = arS) {a b : Bool} (h : A.not a = b) : a = !b := by subst hA; exact vnot h
theorem vpur {r : List (List AV)} (h : pursS r = true := by rfl) : pursS r = true := h
theorem pursS_iff {rows : List (List AV)} : pursS rows = true ↔ ∀ r ∈ rows, purs r = true := by
  induction rows with
  | nil => simp [pursS]
  | cons r rs ih => simp [pursS, ih]
theorem vset {rows : List (List AV)} {i : Nat} {r : List AV} (h : pursS rows = true) (hr : purs r = true) : pursS (rows.set i r) = true := by
  rw [pursS_iff] at *
  intro x hx
  rcases List.mem_or_eq_of_mem_set hx with h1 | rfl
  · exact h x h1
  · exact hr
theorem vtake {rows : List (List AV)} {i : Nat} (h : pursS rows = true) : pursS (rows.take i) = true := by
  rw [pursS_iff] at *
  exact fun x hx => h x (List.mem_of_mem_take hx)
theorem vdrop {rows : List (List AV)} {i : Nat} (h : pursS rows = true) : pursS (rows.drop i) = true := by
  rw [pursS_iff] at *
  exact fun x hx => h x (List.mem_of_mem_drop hx)
theorem vapp {rows new : List (List AV)} {i : Nat} (h : pursS rows = true) (hn : pursS new = true) : pursS (rappS rows i new) = true := by
  rw [pursS_iff] at *
  intro x hx
  unfold rappS at hx
  rcases List.mem_append.1 hx with h1 | h1
  · rcases List.mem_append.1 h1 with h2 | h2
    · exact h x (List.mem_of_mem_take h2)
    · exact hn x h2
  · exact h x (List.mem_of_mem_drop h1)
theorem vrep {n : Nat} {r : List AV} (h : purs r = true) : pursS (List.replicate n r) = true := by
  rw [pursS_iff]
  intro x hx
  rw [List.eq_of_mem_replicate hx]; exact h

theorem msetS_pure {k : IntKind} {n : Int} {v : AV} (hv : pur v = true) : ∀ {rows rows' : List (List AV)}, msetS k n v rows = some rows' → pursS rows = true → pursS rows' = true
  | [], rows', h, _ => by
    simp only [msetS, Option.some.injEq] at h
    subst h
    simp [pursS, purs, pur, hv]
  | r :: rows, rows', h, hp => by
    simp only [pursS, Bool.and_eq_true] at hp
    unfold msetS at h
    split at h
    · rename_i e; cases e
    · rename_i k' m u rs e
      simp only [List.cons.injEq] at e
      obtain ⟨rfl, rfl⟩ := e
      split at h
      · split at h
        · simp only [Option.some.injEq] at h
          subst h
          simp [pursS, purs, pur, hv, hp.2]
        · obtain ⟨rs', h1, rfl⟩ := Option.map_eq_some_iff.1 h
          simp only [pursS, Bool.and_eq_true]
          exact ⟨hp.1, msetS_pure hv h1 hp.2⟩
      · cases h
    · cases h
theorem vmset {k : IntKind} {n : Int} {v : AV} {rows : List (List AV)} (h : pursS rows = true) (hv : pur v = true) : pursS (mSS rows k n v) = true := by
  unfold mSS
  cases hm : msetS k n v rows with
  | none => exact h
  | some r => exact msetS_pure hv hm h

theorem wrap64 {x : Int} (h0 : -9223372036854775808 ≤ x) (h1 : x < 9223372036854775808) : IntKind.wrap .i64 x = x := wrap_i64 h0 (by omega)
theorem mxS (x y : Int) : arS.mx x y = max x y := by
  show (if y > x then y else x) = _
  split <;> omega
theorem mnS (x y : Int) : arS.mn x y = min x y := by
  show (if y < x then y else x) = _
  split <;> omega
end Go.Ab
