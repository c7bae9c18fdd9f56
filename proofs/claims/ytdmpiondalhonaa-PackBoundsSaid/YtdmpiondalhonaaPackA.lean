import Derived.Test.YtdmpiondalhonaaPkS
import Derived.Test.YtdmpiondalhonaaAbZk
import Derived.Test.YtdmpiondalhonaaPkV
import Derived.Test.YtdmpiondalhonaaAbLaw
namespace Go.Ab
open Go Go.Proofs
theorem fixed44 : EC Try.prog G32 [] [] fun x rs vs => x = 0 ∧ rs = [] ∧ vs = [.b true] := EC.closedK mixed TT_at noKn (n := 100000) (by kernel_rfl)
end Go.Ab

namespace Go.Ab
open Go Go.Proofs
set_option linter.unusedVariables false
set_option linter.unusedSimpArgs false
set_option maxRecDepth 100000
set_option maxHeartbeats 1000000

def AllP (l : List Int) (room : Int) : Prop := ∀ n ∈ l, 1 ≤ n ∧ n ≤ room
def RightP (l : List Int) (room : Int) : Prop := AllP l room ∧ l.length ≤ 4096 ∧ 1 ≤ room ∧ room ≤ 1048576
instance (l : List Int) (room : Int) : Decidable (AllP l room) := by unfold AllP; infer_instance
instance (l : List Int) (room : Int) : Decidable (RightP l room) := by unfold RightP; infer_instance
theorem w1 (m : Nat) (h : m < 4611686018427387904) : IntKind.wrap .i64 ((m : Int) + 1) = ((m + 1 : Nat) : Int) := by rw [wrap64 (by omega) (by omega)]; rfl
theorem getD_of {l : List Int} {i : Nat} (h : i < l.length) : l.getD i 0 = l[i] := by simp [List.getD_eq_getElem?_getD, h]
theorem AllP_iff (l : List Int) (room : Int) : AllP l room ↔ ∀ k < l.length, 1 ≤ l.getD k 0 ∧ l.getD k 0 ≤ room := by
  constructor
  · intro h k hk; rw [getD_of hk]; exact h _ (List.getElem_mem hk)
  · intro h n hn
    obtain ⟨k, hk, rfl⟩ := List.getElem_of_mem hn
    have := h k hk
    rw [getD_of hk] at this; exact this

theorem RRight_E (l : List Int) (room : Int) (hl : l.length ≤ 1000) : EC Try.prog G33 [] [.r (ints l), .i room] fun x rs vs => x = 0 ∧ rs = [] ∧ vs = [.b (decide (RightP l room))] := by
  refine E33 fun EV V => ?_
  have no : ¬ RightP l room → ((0 : Nat) = 0 ∧ ([] : Rs) = [] ∧ [Lf.b false] = [Lf.b (decide (RightP l room))]) := fun h => ⟨rfl, rfl, by rw [decide_eq_false h]⟩
  have p7 : ∀ (d m : Nat), l.length - m < d → m ≤ l.length → (∀ k < m, 1 ≤ l.getD k 0 ∧ l.getD k 0 ≤ room) → EV 7 [] [.r (ints l), .i room, .r (ints l), .i l.length, .i m] := by
    intro d
    induction d with
    | zero => intro m hd; omega
    | succ d ih =>
      intro m hd hm hg
      refine V.p7 ⟨fun hlt => ?_, fun hge => ?_⟩
      · have hmL : m < l.length := by omega
        rw [Int.toNat_natCast]
        refine ⟨by omega, ints_get hmL, ?_⟩
        rw [ints_cI, w1 m (by omega)]
        refine ⟨fun h1 => ⟨fun h2 => no fun hr => ?_, fun h2 => ih (m + 1) (by omega) (by omega) fun k hk => ?_⟩, fun h1 => no fun hr => ?_⟩
        · have := (AllP_iff l room).1 hr.1 m hmL; omega
        · rcases Nat.lt_succ_iff_lt_or_eq.1 hk with h | rfl
          · exact hg k h
          · exact ⟨h1, h2⟩
        · have := (AllP_iff l room).1 hr.1 m hmL; omega
      · have e : m = l.length := by omega
        subst e
        have ha : AllP l room := (AllP_iff l room).2 hg
        rw [ints_length]
        refine ⟨fun h1 => ⟨fun h2 => ⟨rfl, rfl, ?_⟩, fun h2 => no fun hr => ?_⟩, fun h1 => no fun hr => ?_⟩
        · congr 2
          exact decide_eq_decide.2 ⟨fun h => ⟨ha, by omega, by omega, h⟩, fun h => h.2.2.2⟩
        · have := hr.2.2.1; omega
        · have := hr.2.1; omega
  rw [ints_length]
  exact p7 _ 0 (Nat.lt_succ_self _) (by omega) (fun k hk => by omega)

theorem odd_E (n room : Int) : EC Try.prog G75 [] [.i n, .i room] fun x rs vs => x = 0 ∧ rs = [] ∧ vs = [.b (decide (n < 1 ∨ n > room)), .i room] := by
  refine E75 fun EV V => ⟨fun h => ⟨rfl, rfl, ?_⟩, fun h => ⟨rfl, rfl, ?_⟩⟩
  · congr 2
    exact decide_eq_decide.2 ⟨fun h => .inr h, fun h => by omega⟩
  · rw [decide_eq_true (.inl h)]

theorem IndexOdd_E (l : List Int) (room : Int) (hl : l.length ≤ 4096) : EC Try.prog G68 [] [.r (ints l), .i room] fun x rs vs => x = 0 ∧ rs = [] ∧ ∃ r, vs = [.i r, .i room] ∧ (r ≥ 0 ↔ ¬ AllP l room) := by
  refine E68 fun EV V => ?_
  have p7 : ∀ (d m : Nat), l.length - m < d → m ≤ l.length → (∀ k < m, 1 ≤ l.getD k 0 ∧ l.getD k 0 ≤ room) → EV 7 [] [.r (ints l), .i l.length, .i m, .i room] := by
    intro d
    induction d with
    | zero => intro m hd; omega
    | succ d ih =>
      intro m hd hm hg
      refine V.p7 ⟨fun hlt => ?_, fun hge => ?_⟩
      · have hmL : m < l.length := by omega
        rw [Int.toNat_natCast]
        refine ⟨by omega, ints_get hmL, ?_⟩
        rw [ints_cI, w1 m (by omega)]
        refine (odd_E _ _).mono ?_
        rintro _ _ _ ⟨rfl, rfl, rfl⟩
        refine ⟨rfl, _, _, rfl, rfl, fun h => ⟨rfl, rfl, _, rfl, ⟨fun _ hr => ?_, fun _ => by omega⟩⟩, fun h => ih (m + 1) (by omega) (by omega) fun k hk => ?_⟩
        · have := (AllP_iff l room).1 hr m hmL
          have := of_decide_eq_true h
          omega
        · rcases Nat.lt_succ_iff_lt_or_eq.1 hk with h' | rfl
          · exact hg k h'
          · have := of_decide_eq_false h
            omega
      · have e : m = l.length := by omega
        subst e
        exact ⟨rfl, rfl, _, rfl, ⟨fun h => by omega, fun h => absurd ((AllP_iff l room).2 hg) h⟩⟩
  rw [ints_length]
  exact p7 _ 0 (Nat.lt_succ_self _) (by omega) (fun k hk => by omega)

theorem HasOdd_E (l : List Int) (room : Int) (hl : l.length ≤ 4096) : EC Try.prog G49 [] [.r (ints l), .i room] fun x rs vs => x = 0 ∧ rs = [] ∧ vs = [.b (decide (¬ AllP l room)), .i room] := by
  refine E49 fun EV V => (IndexOdd_E l room hl).mono ?_
  rintro _ _ _ ⟨rfl, rfl, r, rfl, hr⟩
  refine ⟨rfl, _, _, rfl, rfl, rfl, rfl, ?_⟩
  congr 2
  exact decide_eq_decide.2 hr

theorem Right_E (l : List Int) (room : Int) : EC Try.prog G58 [] [.r (ints l), .i room] fun x rs vs => x = 0 ∧ rs = [] ∧ vs = [.b (decide (RightP l room))] := by
  have no : ¬ RightP l room → ((0 : Nat) = 0 ∧ ([] : Rs) = [] ∧ [Lf.b false] = [Lf.b (decide (RightP l room))]) := fun h => ⟨rfl, rfl, by rw [decide_eq_false h]⟩
  refine E58 fun EV V => ?_
  rw [ints_length]
  refine ⟨fun h1 => ⟨fun h2 => ⟨fun h3 => (HasOdd_E l room (by omega)).mono ?_, fun h3 => no fun hr => ?_⟩, fun h2 => no fun hr => ?_⟩, fun h1 => no fun hr => ?_⟩
  · rintro _ _ _ ⟨rfl, rfl, rfl⟩
    refine ⟨rfl, _, _, rfl, rfl, rfl, rfl, ?_⟩
    congr 2
    by_cases ha : AllP l room
    · rw [decide_eq_false (by simpa using ha)]
      exact (decide_eq_true (p := RightP l room) ⟨ha, by omega, by omega, by omega⟩).symm
    · rw [decide_eq_true ha]
      exact (decide_eq_false (p := RightP l room) fun h => ha h.1).symm
  · have := hr.2.2.2; omega
  · have := hr.2.2.1; omega
  · have := hr.2.1; omega

theorem exC : ∀ {rows : List (List AV)}, (∀ r ∈ rows, GdL [.int .i64] r) → ∃ l : List Int, rows = ints l
  | [], _ => ⟨[], rfl⟩
  | r :: rs, h => by
    obtain ⟨l, hl⟩ := exC fun x hx => h x (List.mem_cons_of_mem _ hx)
    obtain ⟨x, xs, h1, ⟨n, rfl, _⟩, h2⟩ := h r List.mem_cons_self
    simp only [GdL] at h2
    subst h1 h2
    exact ⟨n :: l, by rw [hl]; rfl⟩
end Go.Ab
