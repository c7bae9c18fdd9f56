/- Entering a function, by its printed text. -/
import Derived.Test.YtdmpiondalhonaaAbQ
namespace Go.Ab
open Go
set_option linter.unusedVariables false
set_option linter.unusedSimpArgs false

/-- What a function's text says of itself. -/
structure AFn.at (P : Program) (i : Nat) (fn : Func) (F : AFn) : Prop where
  func : P.funcs[i]? = some fn
  name : (fn.name == "runtime.NumGoroutine") = false
  res : fn.results.toList.mapM (rvOf P) = some F.res
  np : F.np = fn.params.size
  nt : F.nt = fn.ntmps
  tab : fn.body.map (flat P) = some F.tab

theorem CallsA.into {P : Program} {i : Nat} {fn : Func} {F : AFn} {args : List AV} {H : List ABlk} {R : AV → List ABlk → Prop} (hF : F.at P i fn) (σr : RowF) (n : Nat)
    (h : ∀ A C Rn RR, A = arS → C = CallsA P → Rn = Run P fn F.tab H R → RR = R → G A σr C Rn RR F.tab F.res n [.c 0] (symL args ++ List.replicate (F.nt - args.length) .junk) H) : CallsA P i args H R := by
  obtain ⟨body, hb⟩ : ∃ body, fn.body = some body := by
    have := hF.tab
    cases hb : fn.body with
    | none => rw [hb] at this; cases this
    | some b => exact ⟨b, rfl⟩
  exact CallsA.enter hF.func hF.name hb ⟨hF.np, hF.nt, hF.res, hF.tab⟩ (Run.go σr n hF.res h)
end Go.Ab
