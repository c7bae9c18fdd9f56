import Derived.Test.YtmmoffbompnihaaDoorQVA
import Derived.Test.YtmmoffbompnihaaDoorLayG
namespace Go.Ab
open Go Go.Proofs
set_option linter.unusedVariables false
set_option linter.unusedSimpArgs false
set_option maxRecDepth 100000
set_option maxHeartbeats 1000000
structure Op3 where
 k : Int
 a : Int
 b : Int
 deriving Inhabited
def encO (o : Op3) : List AV := [.int .i64 o.k, .int .i64 o.a, .int .i64 o.b]
structure Tk where
 p : Int
 th : Int
 pe : Int
 de : Int
 fr : Int
 fl : Int
 pg : List Op3
 deriving Inhabited
def tk (T : List Tk) (i : Nat) : Tk := T.getD i default
def op3 (P : List Op3) (i : Nat) : Op3 := P.getD i default
theorem op3_lt {T : List Op3} {i : Nat} (h : i < T.length) : op3 T i = T[i] := by
 unfold op3; rw [List.getD_eq_getElem?_getD, List.getElem?_eq_getElem h]; rfl
section
variable (T : List Tk) (i : Nat)
end
section
variable (P : List Op3) (i : Nat)
theorem op30 : cIS (P.map encO) i 0 = (op3 P i).k := by
 unfold cIS cellS op3; rw [List.getElem?_map, List.getD_eq_getElem?_getD]; cases P[i]? <;> rfl
theorem op31 : cIS (P.map encO) i 1 = (op3 P i).a := by
 unfold cIS cellS op3; rw [List.getElem?_map, List.getD_eq_getElem?_getD]; cases P[i]? <;> rfl
theorem op32 : cIS (P.map encO) i 2 = (op3 P i).b := by
 unfold cIS cellS op3; rw [List.getElem?_map, List.getD_eq_getElem?_getD]; cases P[i]? <;> rfl
end
theorem op3_get {P : List Op3} {i : Nat} (h : i < P.length) : (P.map encO)[i]? = some [.int .i64 (cIS (P.map encO) i 0), .int .i64 (cIS (P.map encO) i 1), .int .i64 (cIS (P.map encO) i 2)] := by
 rw [op30, op31, op32, op3_lt h, List.getElem?_map, List.getElem?_eq_getElem h]
 rfl
end Go.Ab
