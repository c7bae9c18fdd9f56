/- A slice that comes in is no larger than a process's addresses. -/
import Derived.Test.YtdmpiondalhonaaAbLaw
import Derived.SizedLaws
namespace Go.Ab
open Go
section
variable {H : Type} {enc : TypeId × Value → H} {P : Program} {w : World} {spare : Nat → Bool} {held : Bool}
theorem arg_sized {t e : TypeId} {z : Option Addr} {y c k : Nat} {d : DataW H} {ps : List MemPlace} {rows : List (List AV)} {T : Sh} (hu : P.underlying t = some (.slice e)) (e0 : rel (RS.start w) (.inl k rows) T (.slice z y c)) (hd : DataW.Trod enc P w 0 spare held t (.slice z y c) d ps)
    {ts : List TypeId} {ds : List (DataW H)} {j : Nat} (ht : ts[j]? = some t) (hj : ds[j]? = some d) (h : (DataW.weightsEach P ts ds).all (· ≤ reachBytes) = true) : rows.length * P.bytesOf e ≤ 140737488351232 := by
  simp only [rel] at e0
  obtain ⟨a', cap', e1, _⟩ := e0
  simp only [Value.slice.injEq] at e1
  obtain ⟨_, hy, _⟩ := e1
  obtain ⟨fuel, hf⟩ := hd
  have hc : (Value.slice z y c).cells.toList = [.slice z y c] := by simp [Value.cells]
  rcases DataW.trod_slice hu hf with ⟨h1, h2⟩ | ⟨a, len, cap, elems, rest, n, _, h1, h2, _, _, _, hl, _⟩
  · simp only [Value.cells, List.cons.injEq, Value.slice.injEq, and_true] at h1
    rw [← hy, h1.2.1]; omega
  · simp only [Value.cells, List.cons.injEq, Value.slice.injEq, and_true] at h1
    simp only [Prod.mk.injEq] at h2
    have := sized_slice h ht (hj.trans (by rw [h2.1])) hu
    rw [List.length_map, List.length_map] at this
    have hr : reachBytes = 140737488351232 := rfl
    have : elems.length * P.bytesOf e ≤ (elems.length + rest.length) * P.bytesOf e := Nat.mul_le_mul_right _ (by omega)
    rw [← hy, h1.2.1, ← hl]
    omega
end
end Go.Ab
