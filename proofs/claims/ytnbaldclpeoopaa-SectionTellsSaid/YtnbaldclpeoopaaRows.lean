/-
  No cell of these rows narrows 'for every input' (looked for: loops, veiled, ifaces, maps, wideKeys, modest, calm, conditions, laid).
  DERIVED. THE GIVEN ROWS OF THIS SEAT. 3 by the template 'for every input the law returns true; each argument reads behind the call as it read before'; 0 by the template 'total and deterministic' (their statements: YtnbaldclpeoopaaTotals.lean).
  GIVEN WITH THE SEED: the statements are not yours to turn. If you find one false, say at which input.
  Laid BY PROGRAM, IN A SANDBOX (cutbox-rows.mjs): the forced cells as the released guide's own fill.sh prints them over the translation 45ca4d6276b3086a… (all of the seat's roots in one cut). By AI agents, Wed Nov 11 2026. No macro, syntax, notation, axiom, sorry.
-/
import Derived.Test.YtnbaldclpeoopaaChecked
import GoSem.Claim
import GoSem.ClaimJoined
import GoSem.ClaimMapViews
import Derived.JoinedTies
import Derived.KernelRfl
namespace Go.Proofs.Ytnbaldclpeoopaa
/- THE CELL 'sum', in the pinned program and in every row, IS THE sha256 OF THE DUMP (.gsa) THAT YtnbaldclpeoopaaProg.lean LOADS. Nothing in Lean hashes anything: it is a label: what it is worth is what the hold of that sum in a sandbox is worth. -/
noncomputable def Try.pinned : Pinned := { name := "ytnbaldclpeoopaa", sum := "45ca4d6276b3086a2ca47a0d4a0fd4939557f49fcf36af3c6eeae64998d08034", checked := Try.checked }
namespace Rows
def none {H : Type} : Left H := { results := [], args := [] }

/-- 'signalboxlaw23.ReloadBounds': WHATEVER THE INPUT: true; the input reads as it did. -/
def reloadBoundsSpec : ChangeSpec := { name := "reloadBounds", fn := fun _ => fun
  | [d1, d2, d3, d4, d5] => { results := [.lit (.bool true)], args := [d1, d2, d3, d4, d5] }
  | _ => none }
def reloadBoundsRow : OpenClaim := { program := "ytnbaldclpeoopaa", sum := "45ca4d6276b3086a2ca47a0d4a0fd4939557f49fcf36af3c6eeae64998d08034", func := "signalbox/signalboxlaw23.ReloadBounds", spec := "reloadBounds", unfollowed := true, recurses := true, apart := false }
def ReloadBoundsSaid : Prop := reloadBoundsRow.holds Try.pinned (OpenSpec.ofChange reloadBoundsSpec)

/-- ITS FALSE NEIGHBOUR: 'it returns false'. Refute it at one input. -/
def reloadBoundsWrong : ChangeSpec := { name := "reloadBounds", fn := fun _ => fun
  | [d1, d2, d3, d4, d5] => { results := [.lit (.bool false)], args := [d1, d2, d3, d4, d5] }
  | _ => none }
def ReloadBoundsWrongFalsely : Prop := reloadBoundsRow.holds Try.pinned (OpenSpec.ofChange reloadBoundsWrong)

/-- 'signalboxlaw24.SectionTells': WHATEVER THE INPUT: true; the input reads as it did. -/
def sectionTellsSpec : ChangeSpec := { name := "sectionTells", fn := fun _ => fun
  | [d1, d2, d3] => { results := [.lit (.bool true)], args := [d1, d2, d3] }
  | _ => none }
def sectionTellsRow : OpenClaim := { program := "ytnbaldclpeoopaa", sum := "45ca4d6276b3086a2ca47a0d4a0fd4939557f49fcf36af3c6eeae64998d08034", func := "signalbox/signalboxlaw24.SectionTells", spec := "sectionTells", recurses := true, apart := false }
def SectionTellsSaid : Prop := sectionTellsRow.holds Try.pinned (OpenSpec.ofChange sectionTellsSpec)

/-- ITS FALSE NEIGHBOUR: 'it returns false'. Refute it at one input. -/
def sectionTellsWrong : ChangeSpec := { name := "sectionTells", fn := fun _ => fun
  | [d1, d2, d3] => { results := [.lit (.bool false)], args := [d1, d2, d3] }
  | _ => none }
def SectionTellsWrongFalsely : Prop := sectionTellsRow.holds Try.pinned (OpenSpec.ofChange sectionTellsWrong)

/-- 'signalboxlaw24.SectionFalls': WHATEVER THE INPUT: true; the input reads as it did. -/
def sectionFallsSpec : ChangeSpec := { name := "sectionFalls", fn := fun _ => fun
  | [d1, d2, d3, d4] => { results := [.lit (.bool true)], args := [d1, d2, d3, d4] }
  | _ => none }
def sectionFallsRow : OpenClaim := { program := "ytnbaldclpeoopaa", sum := "45ca4d6276b3086a2ca47a0d4a0fd4939557f49fcf36af3c6eeae64998d08034", func := "signalbox/signalboxlaw24.SectionFalls", spec := "sectionFalls", recurses := true, apart := false }
def SectionFallsSaid : Prop := sectionFallsRow.holds Try.pinned (OpenSpec.ofChange sectionFallsSpec)

/-- ITS FALSE NEIGHBOUR: 'it returns false'. Refute it at one input. -/
def sectionFallsWrong : ChangeSpec := { name := "sectionFalls", fn := fun _ => fun
  | [d1, d2, d3, d4] => { results := [.lit (.bool false)], args := [d1, d2, d3, d4] }
  | _ => none }
def SectionFallsWrongFalsely : Prop := sectionFallsRow.holds Try.pinned (OpenSpec.ofChange sectionFallsWrong)

/- THE SECOND FORM. 'bulk': how many values and letters a reading holds, each counted each time it is reached (what is shared counts as often as it is met; a slice's spare places count too). A statement '..UptoSaid' is the law's where the arguments, and the package variables that the reading takes, are together of bulk at most 1048576: NARROWER than '..Said'. Prove '..Said' where nothing that the law and all that it calls make is longer than what came in: it says more and counts as full. Else prove '..UptoSaid'. A law counts once. -/
mutual
def uptoBulk {H : Type} : DataW H → Nat
  | .lit (.string bytes) => bytes.length + 1
  | .lit _ => 1
  | .nil => 1
  | .ptr d => uptoBulk d + 1
  | .slice elems spare => uptoBulkAll elems + uptoBulkAll spare + 1
  | .agg parts => uptoBulkAll parts + 1
  | .iface _ d => uptoBulk d + 1
  | .map entries => uptoBulkEntries entries + 1
  | .held _ => 1
def uptoBulkAll {H : Type} : List (DataW H) → Nat
  | [] => 0
  | d :: r => uptoBulk d + uptoBulkAll r
def uptoBulkEntries {H : Type} : List (Lit × DataW H) → Nat
  | [] => 0
  | x :: r => uptoBulkEntry x + uptoBulkEntries r
def uptoBulkEntry {H : Type} : Lit × DataW H → Nat
  | (.string bytes, d) => bytes.length + uptoBulk d + 1
  | (_, d) => uptoBulk d + 1
 end
def uptoSmall : (H : Type) → List (DataW H) → Bool := fun _ ds => decide (uptoBulkAll ds ≤ 1048576)
def OpenSpec.upto (s : _root_.Go.ChangeSpec) : _root_.Go.OpenSpec := { _root_.Go.OpenSpec.ofChange s with cond := some uptoSmall }

/-- 'signalboxlaw23.ReloadBounds', WHERE WHAT IT READS IS OF BULK AT MOST 1048576: true; the input reads as it did. -/
def reloadBoundsUptoRow : OpenClaim := { program := "ytnbaldclpeoopaa", sum := "45ca4d6276b3086a2ca47a0d4a0fd4939557f49fcf36af3c6eeae64998d08034", func := "signalbox/signalboxlaw23.ReloadBounds", spec := "reloadBounds", unfollowed := true, recurses := true, apart := false, narrowed := true }
def ReloadBoundsUptoSaid : Prop := reloadBoundsUptoRow.holds Try.pinned (OpenSpec.upto reloadBoundsSpec)

/-- 'signalboxlaw24.SectionTells', WHERE WHAT IT READS IS OF BULK AT MOST 1048576: true; the input reads as it did. -/
def sectionTellsUptoRow : OpenClaim := { program := "ytnbaldclpeoopaa", sum := "45ca4d6276b3086a2ca47a0d4a0fd4939557f49fcf36af3c6eeae64998d08034", func := "signalbox/signalboxlaw24.SectionTells", spec := "sectionTells", recurses := true, apart := false, narrowed := true }
def SectionTellsUptoSaid : Prop := sectionTellsUptoRow.holds Try.pinned (OpenSpec.upto sectionTellsSpec)

/-- 'signalboxlaw24.SectionFalls', WHERE WHAT IT READS IS OF BULK AT MOST 1048576: true; the input reads as it did. -/
def sectionFallsUptoRow : OpenClaim := { program := "ytnbaldclpeoopaa", sum := "45ca4d6276b3086a2ca47a0d4a0fd4939557f49fcf36af3c6eeae64998d08034", func := "signalbox/signalboxlaw24.SectionFalls", spec := "sectionFalls", recurses := true, apart := false, narrowed := true }
def SectionFallsUptoSaid : Prop := sectionFallsUptoRow.holds Try.pinned (OpenSpec.upto sectionFallsSpec)

end Rows
end Go.Proofs.Ytnbaldclpeoopaa
