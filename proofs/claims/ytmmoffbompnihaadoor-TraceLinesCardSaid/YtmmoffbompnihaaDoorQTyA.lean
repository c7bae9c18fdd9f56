import Derived.Test.YtmmoffbompnihaaDoorLayS
import Derived.Shelf.Slices.Delete
namespace Go.Ab
open Go Go.Proofs Go.Sort
set_option linter.unusedVariables false
set_option linter.unusedSimpArgs false
theorem strR_len (L : List ByteArray) : (strR L).length = L.length := by simp [strR]
theorem strR_row {S : RS} {T : Sh} {L : List ByteArray} {arr : Array Value} (h : ∀ (j : Nat) x, L[j]? = some x → arr[j]? = some (.string x)) : RowRel S T 1 (strR L) arr := by
 intro i r hi
 unfold strR at hi
 rw [List.getElem?_map] at hi
 obtain ⟨x, hx, rfl⟩ := Option.map_eq_some_iff.1 hi
 refine ⟨rfl, fun j c hj => ?_⟩
 cases j with
 | succ j => simp at hj
 | zero =>
  simp only [List.getElem?_cons_zero, Option.some.injEq] at hj
  subst hj
  exact ⟨.string x, by rw [show i * 1 + 0 = i by omega]; exact h i x hx, by simp only [rel], rfl⟩
theorem split_O {P : Program} {f : FuncId} {g t : Nat} (hc : SplitC P f g t) (hg : gvOk g 0 = some fun v => ∃ m, v = .int .i64 m) (s sep : ByteArray) (h1 : s.size < 4294967281) (h2 : 1 ≤ sep.size) (h3 : (splitL s sep).length = Lib.countB s sep + 1) :
  CallsA P f [.str s, .str sep] [] fun r H => r = .sl 0 (splitL s sep).length 0 (splitL s sep).length ∧ H = [.arr t 1 (strR (splitL s sep))] := by
 refine ⟨hc.1, fun S w vs hw hr => ?_⟩
 simp only [rels, rel] at hr
 obtain ⟨v, _, rfl, rfl, v2, _, rfl, rfl, rfl⟩ := hr
 obtain ⟨v, hv, ⟨m, rfl⟩, _⟩ := hw.gl g 0 _ hg
 refine (hc.2 s sep m w h1 (hw.fro _ _ _ hv) h2).mono ?_
 rintro e w' ⟨rfl, rfl⟩
 have hl := strR_len (splitL s sep)
 obtain ⟨w1, w2⟩ := hw.arr_new (w' := w.alloc (.cells ((splitL s sep).map Value.string).toArray t)) t 1 (strR (splitL s sep)) (splitL s sep).length (by omega) (Chg.alloc w _ _) (arr' := ((splitL s sep).map Value.string).toArray) (by show (w.heap.push _)[w.heap.size]? = _; exact Array.getElem?_push_size) (by simp) (by omega)
  (strR_row fun j x hj => by rw [List.getElem?_toArray, List.getElem?_map, hj]; rfl)
 refine ⟨_, rfl, _, .sl 0 (splitL s sep).length 0 (splitL s sep).length, [.arr t 1 (strR (splitL s sep))], w2, w1, ?_, rfl, rfl⟩
 simp only [rel]
 refine ⟨(splitL s sep).length, 1, ?_, Nat.le_refl _, rfl, fun _ => ⟨by omega, ?_⟩⟩
 ·show shape ([] ++ [.arr t 1 (strR (splitL s sep))]) 0 = _
  simp [shape, ABlk.shp, hl]
 ·have hp : (S.put ([] : List ABlk).length (some (w.heap.size, (splitL s sep).length))).ρ 0 = some (w.heap.size, (splitL s sep).length) := by simp [RS.put]
  rw [hp]
  exact ⟨some ⟨w.heap.size, 0, none⟩, by rw [h3]; rfl, fun _ => by simp⟩
end Go.Ab
