/-
  No cell of these rows narrows 'for every input' (looked for: loops, veiled, ifaces, maps, wideKeys, modest, calm, conditions, laid).
  DERIVED. THE GIVEN ROWS OF THIS SEAT. 8 by the template 'for every input the law returns true; each argument reads behind the call as it read before'; 0 by the template 'total and deterministic' (their statements: YtjkjcfpphhionaaTotals.lean).
  GIVEN WITH THE SEED: the statements are not yours to turn. If you find one false, say at which input.
  Laid BY PROGRAM, IN A SANDBOX (cutbox-rows.mjs): the forced cells as the released guide's own fill.sh prints them over the translation b8994ce6ce598f3e… (all of the seat's roots in one cut). By AI agents, Wed Nov 11 2026. No macro, syntax, notation, axiom, sorry.
-/
import Derived.Test.YtjkjcfpphhionaaChecked
import GoSem.Claim
import GoSem.ClaimJoined
import GoSem.ClaimMapViews
import Derived.JoinedTies
import Derived.KernelRfl
namespace Go.Proofs.Ytjkjcfpphhionaa
/- THE CELL 'sum', in the pinned program and in every row, IS THE sha256 OF THE DUMP (.gsa) THAT YtjkjcfpphhionaaProg.lean LOADS. Nothing in Lean hashes anything: it is a label: what it is worth is what the hold of that sum in a sandbox is worth. -/
noncomputable def Try.pinned : Pinned := { name := "ytjkjcfpphhionaa", sum := "b8994ce6ce598f3eabc1e80d713b0d650e463f4cd64f86d1ffd0f98b9d61ee5a", checked := Try.checked }
namespace Rows
def none {H : Type} : Left H := { results := [], args := [] }

/-- 'signalboxlaw43.CyclicSizes': WHATEVER THE INPUT: true; the input reads as it did. -/
def cyclicSizesSpec : ChangeSpec := { name := "cyclicSizes", fn := fun _ => fun
  | [d1, d2] => { results := [.lit (.bool true)], args := [d1, d2] }
  | _ => none }
def cyclicSizesRow : OpenClaim := { program := "ytjkjcfpphhionaa", sum := "b8994ce6ce598f3eabc1e80d713b0d650e463f4cd64f86d1ffd0f98b9d61ee5a", func := "signalbox/signalboxlaw43.CyclicSizes", spec := "cyclicSizes", unfollowed := true, recurses := true, plainKeys := false, apart := false }
def CyclicSizesSaid : Prop := cyclicSizesRow.holds Try.pinned (OpenSpec.ofChange cyclicSizesSpec)

/-- ITS FALSE NEIGHBOUR: 'it returns false'. Refute it at one input. -/
def cyclicSizesWrong : ChangeSpec := { name := "cyclicSizes", fn := fun _ => fun
  | [d1, d2] => { results := [.lit (.bool false)], args := [d1, d2] }
  | _ => none }
def CyclicSizesWrongFalsely : Prop := cyclicSizesRow.holds Try.pinned (OpenSpec.ofChange cyclicSizesWrong)

/-- 'signalboxlaw43.CyclicTables': WHATEVER THE INPUT: true; the input reads as it did. -/
def cyclicTablesSpec : ChangeSpec := { name := "cyclicTables", fn := fun _ => fun
  | [d1, d2] => { results := [.lit (.bool true)], args := [d1, d2] }
  | _ => none }
def cyclicTablesRow : OpenClaim := { program := "ytjkjcfpphhionaa", sum := "b8994ce6ce598f3eabc1e80d713b0d650e463f4cd64f86d1ffd0f98b9d61ee5a", func := "signalbox/signalboxlaw43.CyclicTables", spec := "cyclicTables", unfollowed := true, recurses := true, plainKeys := false, apart := false }
def CyclicTablesSaid : Prop := cyclicTablesRow.holds Try.pinned (OpenSpec.ofChange cyclicTablesSpec)

/-- ITS FALSE NEIGHBOUR: 'it returns false'. Refute it at one input. -/
def cyclicTablesWrong : ChangeSpec := { name := "cyclicTables", fn := fun _ => fun
  | [d1, d2] => { results := [.lit (.bool false)], args := [d1, d2] }
  | _ => none }
def CyclicTablesWrongFalsely : Prop := cyclicTablesRow.holds Try.pinned (OpenSpec.ofChange cyclicTablesWrong)

/-- 'signalboxlaw43.CyclicChecks': WHATEVER THE INPUT: true; the input reads as it did. -/
def cyclicChecksSpec : ChangeSpec := { name := "cyclicChecks", fn := fun _ => fun
  | [d1, d2, d3, d4] => { results := [.lit (.bool true)], args := [d1, d2, d3, d4] }
  | _ => none }
def cyclicChecksRow : OpenClaim := { program := "ytjkjcfpphhionaa", sum := "b8994ce6ce598f3eabc1e80d713b0d650e463f4cd64f86d1ffd0f98b9d61ee5a", func := "signalbox/signalboxlaw43.CyclicChecks", spec := "cyclicChecks", unfollowed := true, recurses := true, plainKeys := false, apart := false }
def CyclicChecksSaid : Prop := cyclicChecksRow.holds Try.pinned (OpenSpec.ofChange cyclicChecksSpec)

/-- ITS FALSE NEIGHBOUR: 'it returns false'. Refute it at one input. -/
def cyclicChecksWrong : ChangeSpec := { name := "cyclicChecks", fn := fun _ => fun
  | [d1, d2, d3, d4] => { results := [.lit (.bool false)], args := [d1, d2, d3, d4] }
  | _ => none }
def CyclicChecksWrongFalsely : Prop := cyclicChecksRow.holds Try.pinned (OpenSpec.ofChange cyclicChecksWrong)

/-- 'signalboxlaw35.StatsTell': WHATEVER THE INPUT: true; the input reads as it did. -/
def statsTellSpec : ChangeSpec := { name := "statsTell", fn := fun _ => fun
  | [d1, d2, d3, d4, d5] => { results := [.lit (.bool true)], args := [d1, d2, d3, d4, d5] }
  | _ => none }
def statsTellRow : OpenClaim := { program := "ytjkjcfpphhionaa", sum := "b8994ce6ce598f3eabc1e80d713b0d650e463f4cd64f86d1ffd0f98b9d61ee5a", func := "signalbox/signalboxlaw35.StatsTell", spec := "statsTell", unfollowed := true, recurses := true, plainKeys := false, apart := false }
def StatsTellSaid : Prop := statsTellRow.holds Try.pinned (OpenSpec.ofChange statsTellSpec)

/-- ITS FALSE NEIGHBOUR: 'it returns false'. Refute it at one input. -/
def statsTellWrong : ChangeSpec := { name := "statsTell", fn := fun _ => fun
  | [d1, d2, d3, d4, d5] => { results := [.lit (.bool false)], args := [d1, d2, d3, d4, d5] }
  | _ => none }
def StatsTellWrongFalsely : Prop := statsTellRow.holds Try.pinned (OpenSpec.ofChange statsTellWrong)

/-- 'signalboxlaw35.StatsRanks': WHATEVER THE INPUT: true; the input reads as it did. -/
def statsRanksSpec : ChangeSpec := { name := "statsRanks", fn := fun _ => fun
  | [d1, d2, d3, d4, d5] => { results := [.lit (.bool true)], args := [d1, d2, d3, d4, d5] }
  | _ => none }
def statsRanksRow : OpenClaim := { program := "ytjkjcfpphhionaa", sum := "b8994ce6ce598f3eabc1e80d713b0d650e463f4cd64f86d1ffd0f98b9d61ee5a", func := "signalbox/signalboxlaw35.StatsRanks", spec := "statsRanks", unfollowed := true, recurses := true, plainKeys := false, apart := false }
def StatsRanksSaid : Prop := statsRanksRow.holds Try.pinned (OpenSpec.ofChange statsRanksSpec)

/-- ITS FALSE NEIGHBOUR: 'it returns false'. Refute it at one input. -/
def statsRanksWrong : ChangeSpec := { name := "statsRanks", fn := fun _ => fun
  | [d1, d2, d3, d4, d5] => { results := [.lit (.bool false)], args := [d1, d2, d3, d4, d5] }
  | _ => none }
def StatsRanksWrongFalsely : Prop := statsRanksRow.holds Try.pinned (OpenSpec.ofChange statsRanksWrong)

/-- 'signalboxlaw50.SpansSets': WHATEVER THE INPUT: true; the input reads as it did. -/
def spansSetsSpec : ChangeSpec := { name := "spansSets", fn := fun _ => fun
  | [d1, d2, d3, d4] => { results := [.lit (.bool true)], args := [d1, d2, d3, d4] }
  | _ => none }
def spansSetsRow : OpenClaim := { program := "ytjkjcfpphhionaa", sum := "b8994ce6ce598f3eabc1e80d713b0d650e463f4cd64f86d1ffd0f98b9d61ee5a", func := "signalbox/signalboxlaw50.SpansSets", spec := "spansSets", unfollowed := true, recurses := true, plainKeys := false, apart := false }
def SpansSetsSaid : Prop := spansSetsRow.holds Try.pinned (OpenSpec.ofChange spansSetsSpec)

/-- ITS FALSE NEIGHBOUR: 'it returns false'. Refute it at one input. -/
def spansSetsWrong : ChangeSpec := { name := "spansSets", fn := fun _ => fun
  | [d1, d2, d3, d4] => { results := [.lit (.bool false)], args := [d1, d2, d3, d4] }
  | _ => none }
def SpansSetsWrongFalsely : Prop := spansSetsRow.holds Try.pinned (OpenSpec.ofChange spansSetsWrong)

/-- 'signalboxlaw50.SpansNumbers': WHATEVER THE INPUT: true; the input reads as it did. -/
def spansNumbersSpec : ChangeSpec := { name := "spansNumbers", fn := fun _ => fun
  | [d] => { results := [.lit (.bool true)], args := [d] }
  | _ => none }
def spansNumbersRow : OpenClaim := { program := "ytjkjcfpphhionaa", sum := "b8994ce6ce598f3eabc1e80d713b0d650e463f4cd64f86d1ffd0f98b9d61ee5a", func := "signalbox/signalboxlaw50.SpansNumbers", spec := "spansNumbers", unfollowed := true, recurses := true, plainKeys := false, apart := false }
def SpansNumbersSaid : Prop := spansNumbersRow.holds Try.pinned (OpenSpec.ofChange spansNumbersSpec)

/-- ITS FALSE NEIGHBOUR: 'it returns false'. Refute it at one input. -/
def spansNumbersWrong : ChangeSpec := { name := "spansNumbers", fn := fun _ => fun
  | [d] => { results := [.lit (.bool false)], args := [d] }
  | _ => none }
def SpansNumbersWrongFalsely : Prop := spansNumbersRow.holds Try.pinned (OpenSpec.ofChange spansNumbersWrong)

/-- 'signalboxlaw50.SpansLaws': WHATEVER THE INPUT: true; the input reads as it did. -/
def spansLawsSpec : ChangeSpec := { name := "spansLaws", fn := fun _ => fun
  | [d1, d2, d3, d4] => { results := [.lit (.bool true)], args := [d1, d2, d3, d4] }
  | _ => none }
def spansLawsRow : OpenClaim := { program := "ytjkjcfpphhionaa", sum := "b8994ce6ce598f3eabc1e80d713b0d650e463f4cd64f86d1ffd0f98b9d61ee5a", func := "signalbox/signalboxlaw50.SpansLaws", spec := "spansLaws", unfollowed := true, recurses := true, plainKeys := false, apart := false }
def SpansLawsSaid : Prop := spansLawsRow.holds Try.pinned (OpenSpec.ofChange spansLawsSpec)

/-- ITS FALSE NEIGHBOUR: 'it returns false'. Refute it at one input. -/
def spansLawsWrong : ChangeSpec := { name := "spansLaws", fn := fun _ => fun
  | [d1, d2, d3, d4] => { results := [.lit (.bool false)], args := [d1, d2, d3, d4] }
  | _ => none }
def SpansLawsWrongFalsely : Prop := spansLawsRow.holds Try.pinned (OpenSpec.ofChange spansLawsWrong)

/- THE SECOND FORM. 'bulk': how many values and letters a reading holds, each counted each time it is reached (what is shared counts as often as it is met; a slice's spare places count too). A statement '..UptoSaid' is the law's where the arguments, and the package variables that the reading takes, are together of bulk at most 1048576: NARROWER than '..Said'. Prove '..Said' where nothing that the law and all that it calls make is longer than what came in: it says more and counts as full. Else prove '..UptoSaid'. A law counts once. -/
mutual
def uptoBulk {H : Type} : DataW H → Nat
  | .lit (.string bytes) => bytes.length + 1
  | .lit _ => 1
  | .nil => 1
  | .ptr d => uptoBulk d + 1
  | .slice elems spare => uptoBulkAll elems + uptoBulkAll spare + 1
  | .agg parts => uptoBulkAll parts + 1
  | .iface _ d => uptoBulk d + 1
  | .map entries => uptoBulkEntries entries + 1
  | .held _ => 1
def uptoBulkAll {H : Type} : List (DataW H) → Nat
  | [] => 0
  | d :: r => uptoBulk d + uptoBulkAll r
def uptoBulkEntries {H : Type} : List (Lit × DataW H) → Nat
  | [] => 0
  | x :: r => uptoBulkEntry x + uptoBulkEntries r
def uptoBulkEntry {H : Type} : Lit × DataW H → Nat
  | (.string bytes, d) => bytes.length + uptoBulk d + 1
  | (_, d) => uptoBulk d + 1
 end
def uptoSmall : (H : Type) → List (DataW H) → Bool := fun _ ds => decide (uptoBulkAll ds ≤ 1048576)
def OpenSpec.upto (s : _root_.Go.ChangeSpec) : _root_.Go.OpenSpec := { _root_.Go.OpenSpec.ofChange s with cond := some uptoSmall }

/-- 'signalboxlaw43.CyclicSizes', WHERE WHAT IT READS IS OF BULK AT MOST 1048576: true; the input reads as it did. -/
def cyclicSizesUptoRow : OpenClaim := { program := "ytjkjcfpphhionaa", sum := "b8994ce6ce598f3eabc1e80d713b0d650e463f4cd64f86d1ffd0f98b9d61ee5a", func := "signalbox/signalboxlaw43.CyclicSizes", spec := "cyclicSizes", unfollowed := true, recurses := true, plainKeys := false, apart := false, narrowed := true }
def CyclicSizesUptoSaid : Prop := cyclicSizesUptoRow.holds Try.pinned (OpenSpec.upto cyclicSizesSpec)

/-- 'signalboxlaw43.CyclicTables', WHERE WHAT IT READS IS OF BULK AT MOST 1048576: true; the input reads as it did. -/
def cyclicTablesUptoRow : OpenClaim := { program := "ytjkjcfpphhionaa", sum := "b8994ce6ce598f3eabc1e80d713b0d650e463f4cd64f86d1ffd0f98b9d61ee5a", func := "signalbox/signalboxlaw43.CyclicTables", spec := "cyclicTables", unfollowed := true, recurses := true, plainKeys := false, apart := false, narrowed := true }
def CyclicTablesUptoSaid : Prop := cyclicTablesUptoRow.holds Try.pinned (OpenSpec.upto cyclicTablesSpec)

/-- 'signalboxlaw43.CyclicChecks', WHERE WHAT IT READS IS OF BULK AT MOST 1048576: true; the input reads as it did. -/
def cyclicChecksUptoRow : OpenClaim := { program := "ytjkjcfpphhionaa", sum := "b8994ce6ce598f3eabc1e80d713b0d650e463f4cd64f86d1ffd0f98b9d61ee5a", func := "signalbox/signalboxlaw43.CyclicChecks", spec := "cyclicChecks", unfollowed := true, recurses := true, plainKeys := false, apart := false, narrowed := true }
def CyclicChecksUptoSaid : Prop := cyclicChecksUptoRow.holds Try.pinned (OpenSpec.upto cyclicChecksSpec)

/-- 'signalboxlaw35.StatsTell', WHERE WHAT IT READS IS OF BULK AT MOST 1048576: true; the input reads as it did. -/
def statsTellUptoRow : OpenClaim := { program := "ytjkjcfpphhionaa", sum := "b8994ce6ce598f3eabc1e80d713b0d650e463f4cd64f86d1ffd0f98b9d61ee5a", func := "signalbox/signalboxlaw35.StatsTell", spec := "statsTell", unfollowed := true, recurses := true, plainKeys := false, apart := false, narrowed := true }
def StatsTellUptoSaid : Prop := statsTellUptoRow.holds Try.pinned (OpenSpec.upto statsTellSpec)

/-- 'signalboxlaw35.StatsRanks', WHERE WHAT IT READS IS OF BULK AT MOST 1048576: true; the input reads as it did. -/
def statsRanksUptoRow : OpenClaim := { program := "ytjkjcfpphhionaa", sum := "b8994ce6ce598f3eabc1e80d713b0d650e463f4cd64f86d1ffd0f98b9d61ee5a", func := "signalbox/signalboxlaw35.StatsRanks", spec := "statsRanks", unfollowed := true, recurses := true, plainKeys := false, apart := false, narrowed := true }
def StatsRanksUptoSaid : Prop := statsRanksUptoRow.holds Try.pinned (OpenSpec.upto statsRanksSpec)

/-- 'signalboxlaw50.SpansSets', WHERE WHAT IT READS IS OF BULK AT MOST 1048576: true; the input reads as it did. -/
def spansSetsUptoRow : OpenClaim := { program := "ytjkjcfpphhionaa", sum := "b8994ce6ce598f3eabc1e80d713b0d650e463f4cd64f86d1ffd0f98b9d61ee5a", func := "signalbox/signalboxlaw50.SpansSets", spec := "spansSets", unfollowed := true, recurses := true, plainKeys := false, apart := false, narrowed := true }
def SpansSetsUptoSaid : Prop := spansSetsUptoRow.holds Try.pinned (OpenSpec.upto spansSetsSpec)

/-- 'signalboxlaw50.SpansNumbers', WHERE WHAT IT READS IS OF BULK AT MOST 1048576: true; the input reads as it did. -/
def spansNumbersUptoRow : OpenClaim := { program := "ytjkjcfpphhionaa", sum := "b8994ce6ce598f3eabc1e80d713b0d650e463f4cd64f86d1ffd0f98b9d61ee5a", func := "signalbox/signalboxlaw50.SpansNumbers", spec := "spansNumbers", unfollowed := true, recurses := true, plainKeys := false, apart := false, narrowed := true }
def SpansNumbersUptoSaid : Prop := spansNumbersUptoRow.holds Try.pinned (OpenSpec.upto spansNumbersSpec)

/-- 'signalboxlaw50.SpansLaws', WHERE WHAT IT READS IS OF BULK AT MOST 1048576: true; the input reads as it did. -/
def spansLawsUptoRow : OpenClaim := { program := "ytjkjcfpphhionaa", sum := "b8994ce6ce598f3eabc1e80d713b0d650e463f4cd64f86d1ffd0f98b9d61ee5a", func := "signalbox/signalboxlaw50.SpansLaws", spec := "spansLaws", unfollowed := true, recurses := true, plainKeys := false, apart := false, narrowed := true }
def SpansLawsUptoSaid : Prop := spansLawsUptoRow.holds Try.pinned (OpenSpec.upto spansLawsSpec)

end Rows
end Go.Proofs.Ytjkjcfpphhionaa
