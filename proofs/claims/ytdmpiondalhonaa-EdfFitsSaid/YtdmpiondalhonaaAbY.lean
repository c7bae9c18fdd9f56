/- From the abstract machine to a row's step. -/
import Derived.Test.YtdmpiondalhonaaAbX
import Derived.Below
namespace Go.Ab
set_option linter.unusedVariables false
set_option linter.unusedSimpArgs false
open Go Go.RowKit

/-- The state a law starts from: all that there is stays, and is read as it is. -/
def RS.start (w : World) : RS := { W0 := w, D := fun k => k < w.heap.size, ρ := fun _ => none, φ := fun B o => w.cell? ⟨B, o, none⟩ }

theorem shape_nil : shape [] = noSh := by funext id; simp [shape, noSh]

theorem start_rel (w : World) : WRel (RS.start w) [] w :=
  ⟨rfl, rfl, rfl, Nat.le_refl _, fun k hk => ⟨hk, rfl⟩, fun _ _ _ h => h, fun id b h => by simp at h, fun i j b b' B c c' hi => by simp at hi⟩

theorem CallsA.law {P : Program} {f : FuncId} {args : List AV} {w : World} {vs : List Value} {b : Bool} (h : CallsA P f args [] (fun r _ => r = .bool b)) (hr : rels (RS.start w) args noSh vs) :
    Calls P f vs.toArray w fun e w' => e = .returned (.bool b) ∧ Below w.heap.size w w' :=
  (h.2 (RS.start w) w vs (start_rel w) (by rw [shape_nil]; exact hr)).mono fun e w' ⟨u, he, S', v, H', h1, h2, h3, h4⟩ => by
    subst h4
    simp only [rel] at h3
    subst h3
    have hW : S'.W0 = w := h1.W0
    have hD : S'.D = fun k => k < w.heap.size := h1.D
    refine ⟨he, ?_, ?_, ?_, ?_, fun k hk => ?_⟩
    · rw [h2.os, hW]
    · rw [h2.tape, hW]
    · rw [h2.output, hW]
    · have := h2.size; rw [hW] at this; exact this
    · have := (h2.prot k (by rw [hD]; exact hk)).2
      rw [hW] at this
      exact this

/-- A row of integers that came in. -/
theorem ints_rel {k : IntKind} {w : World} {T : Sh} {a : Option Addr} {len cap : Nat} {zs : List Int}
    (h : (a = none ∧ len = 0 ∧ cap = 0 ∧ zs = []) ∨ ∃ x, a = some x ∧ len ≤ cap ∧ cap ≤ maxLen ∧ zs.length = cap ∧ (∀ i, i < zs.length → w.cell? (x.add i) = some (.int k (zs.getD i 0))) ∧ ∀ n ∈ zs, (Lit.int k n).wf = true) :
    rel (RS.start w) (.inl 1 ((zs.take len).map fun c => [AV.int k c])) T (.slice a len cap) := by
  simp only [rel]
  rcases h with ⟨rfl, rfl, rfl, rfl⟩ | ⟨x, rfl, hl, hm, hz, hc, _⟩
  · exact ⟨none, 0, rfl, Nat.le_refl _, .inl rfl⟩
  · have hlen : ((zs.take len).map fun c => [AV.int k c]).length = len := by simp; omega
    refine ⟨some x, cap, by rw [hlen], by rw [hlen]; exact hl, ?_⟩
    rcases Nat.eq_zero_or_pos len with h0 | h0
    · exact .inl (List.eq_nil_of_length_eq_zero (by rw [hlen]; exact h0))
    · refine .inr ?_
      obtain ⟨B, o, spot⟩ := x
      have h1 := hc 0 (by omega)
      have hspot : spot = none := by simpa [Addr.add] using World.cell?_spot h1
      subst hspot
      refine ⟨B, o, rfl, fzs_of_get fun i r hi => ?_⟩
      rw [List.getElem?_map] at hi
      obtain ⟨c, hci, rfl⟩ := Option.map_eq_some_iff.1 hi
      rw [List.getElem?_take] at hci
      split at hci
      · rename_i hil
        refine ⟨rfl, fz_of_get fun j c' hj => ?_⟩
        cases j with
        | zero =>
          simp at hj
          subst hj
          have h2 := hc i (by omega)
          refine ⟨.int k c, ?_, by simp only [rel], rfl⟩
          have : zs.getD i 0 = c := by rw [List.getD_eq_getElem?_getD, hci]; rfl
          rw [this] at h2
          rw [Addr.add_lit] at h2
          show w.cell? ⟨B, o + i * 1 + 0, none⟩ = _
          rw [Nat.mul_one, Nat.add_zero]
          exact h2
        | succ j => simp at hj
      · cases hci
end Go.Ab
