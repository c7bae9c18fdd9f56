/- Words for proofs by shapes. -/
import Derived.Test.YtdmpiondalhonaaAbZ7
namespace Go.Ab
open Go
set_option linter.unusedVariables false
set_option linter.unusedSimpArgs false

/-- What a comparison tells. -/
def cmpR (op : BinOp) (b : Bool) (x y : Int) : Prop :=
  match op, b with
  | .lss, true => x < y
  | .lss, false => y ≤ x
  | .leq, true => x ≤ y
  | .leq, false => y < x
  | .gtr, true => y < x
  | .gtr, false => x ≤ y
  | .geq, true => y ≤ x
  | .geq, false => x < y
  | .eql, true => x = y
  | .eql, false => x ≠ y
  | .neq, true => x ≠ y
  | .neq, false => x = y
  | _, _ => True

section
variable {A : Ar}
theorem cmpE (hA : A = arS) {op : BinOp} {b : Bool} {x y : Int} (h : A.cmp op x y = b) : cmpR op b x y := by
  subst hA
  cases op <;> cases b <;> simp_all [arS, cmpS, cmpR]
theorem imC (hA : A = arS) {op : BinOp} {x y : Int} {c : Bool} {q : Prop} (h : cmpR op c x y → q) : A.im (A.cmp op x y) c q := imI hA fun hb => h (cmpE hA hb)
theorem imN (hA : A = arS) {b c : Bool} {q : Prop} (h : b = !c → q) : A.im (A.not b) c q := imI hA fun hb => h (by subst hA; simp [arS] at hb; cases c <;> simp_all)
end

theorem rappS_end (rows new : List (List AV)) : rappS rows rows.length new = rows ++ new := by simp [rappS]
theorem pursS_append (a b : List (List AV)) : pursS (a ++ b) = (pursS a && pursS b) := by
  induction a with
  | nil => simp [pursS]
  | cons r a ih => simp [pursS, ih, Bool.and_assoc]
theorem pursS_map {α : Type} (f : α → List AV) (hf : ∀ x, purs (f x) = true) (l : List α) : pursS (l.map f) = true := by
  induction l with
  | nil => rfl
  | cons x l ih => simp [pursS, hf, ih]

/-- Rows of whole numbers. -/
def ints (l : List Int) : List (List AV) := l.map fun n => [.int .i64 n]
@[simp] theorem ints_length (l : List Int) : (ints l).length = l.length := by simp [ints]
@[simp] theorem ints_pure (l : List Int) : pursS (ints l) = true := pursS_map _ (fun _ => rfl) l
theorem ints_append (l : List Int) (n : Int) : ints l ++ [[.int .i64 n]] = ints (l ++ [n]) := by simp [ints]
theorem ints_cI (l : List Int) (i : Nat) : cIS (ints l) i 0 = l.getD i 0 := by
  unfold cIS cellS ints
  rw [List.getElem?_map]
  rw [List.getD_eq_getElem?_getD]
  cases l[i]? <;> rfl
theorem ints_get {l : List Int} {i : Nat} (h : i < l.length) : (ints l)[i]? = some [.int .i64 (cIS (ints l) i 0)] := by
  rw [ints_cI, ints, List.getElem?_map, List.getElem?_eq_getElem h, List.getD_eq_getElem?_getD, List.getElem?_eq_getElem h]
  rfl
end Go.Ab
