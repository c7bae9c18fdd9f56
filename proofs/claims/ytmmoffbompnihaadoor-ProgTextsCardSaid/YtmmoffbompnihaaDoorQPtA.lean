import Derived.Test.YtmmoffbompnihaaDoorQVA
import Derived.Test.YtmmoffbompnihaaDoorLayG
namespace Go.Ab
open Go Go.Proofs
set_option linter.unusedVariables false
set_option linter.unusedSimpArgs false
set_option maxRecDepth 100000
set_option maxHeartbeats 1000000
structure Op3 where
 k : Int
 a : Int
 b : Int
 deriving Inhabited
def encO (o : Op3) : List AV := [.int .i64 o.k, .int .i64 o.a, .int .i64 o.b]
structure Tk where
 p : Int
 th : Int
 pe : Int
 de : Int
 fr : Int
 fl : Int
 pg : List Op3
 deriving Inhabited
def tk (T : List Tk) (i : Nat) : Tk := T.getD i default
section
variable (T : List Tk) (i : Nat)
end
section
variable (P : List Op3) (i : Nat)
end
end Go.Ab
