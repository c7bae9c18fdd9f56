/-
  No cell of these rows narrows 'for every input' (looked for: loops, veiled, ifaces, maps, wideKeys, modest, calm, conditions, laid).
  DERIVED. THE GIVEN ROWS OF THIS SEAT. 10 by the template 'for every input the law returns true; each argument reads behind the call as it read before'; 0 by the template 'total and deterministic' (their statements: YtdmpiondalhonaaTotals.lean).
  GIVEN WITH THE SEED: the statements are not yours to turn. If you find one false, say at which input.
  Laid BY PROGRAM, IN A SANDBOX (cutbox-rows.mjs): the forced cells as the released guide's own fill.sh prints them over the translation 0845fd111d690d35… (all of the seat's roots in one cut). By AI agents, Wed Nov 11 2026. No macro, syntax, notation, axiom, sorry.
-/
import Derived.Test.YtdmpiondalhonaaChecked
import GoSem.Claim
import GoSem.ClaimJoined
import GoSem.ClaimMapViews
import Derived.JoinedTies
import Derived.KernelRfl
namespace Go.Proofs.Ytdmpiondalhonaa
/- THE CELL 'sum', in the pinned program and in every row, IS THE sha256 OF THE DUMP (.gsa) THAT YtdmpiondalhonaaProg.lean LOADS. Nothing in Lean hashes anything: it is a label: what it is worth is what the hold of that sum in a sandbox is worth. -/
noncomputable def Try.pinned : Pinned := { name := "ytdmpiondalhonaa", sum := "0845fd111d690d35ef085554d321d92a7de9fbb9156a1d8c85a54c43e64ce110", checked := Try.checked }
namespace Rows
def none {H : Type} : Left H := { results := [], args := [] }

/-- 'signalboxlaw26.ChainTells': WHATEVER THE INPUT: true; the input reads as it did. -/
def chainTellsSpec : ChangeSpec := { name := "chainTells", fn := fun _ => fun
  | [d] => { results := [.lit (.bool true)], args := [d] }
  | _ => none }
def chainTellsRow : OpenClaim := { program := "ytdmpiondalhonaa", sum := "0845fd111d690d35ef085554d321d92a7de9fbb9156a1d8c85a54c43e64ce110", func := "signalbox/signalboxlaw26.ChainTells", spec := "chainTells", unfollowed := true, recurses := true, apart := false }
def ChainTellsSaid : Prop := chainTellsRow.holds Try.pinned (OpenSpec.ofChange chainTellsSpec)

/-- ITS FALSE NEIGHBOUR: 'it returns false'. Refute it at one input. -/
def chainTellsWrong : ChangeSpec := { name := "chainTells", fn := fun _ => fun
  | [d] => { results := [.lit (.bool false)], args := [d] }
  | _ => none }
def ChainTellsWrongFalsely : Prop := chainTellsRow.holds Try.pinned (OpenSpec.ofChange chainTellsWrong)

/-- 'signalboxlaw26.ChainGroups': WHATEVER THE INPUT: true; the input reads as it did. -/
def chainGroupsSpec : ChangeSpec := { name := "chainGroups", fn := fun _ => fun
  | [d] => { results := [.lit (.bool true)], args := [d] }
  | _ => none }
def chainGroupsRow : OpenClaim := { program := "ytdmpiondalhonaa", sum := "0845fd111d690d35ef085554d321d92a7de9fbb9156a1d8c85a54c43e64ce110", func := "signalbox/signalboxlaw26.ChainGroups", spec := "chainGroups", unfollowed := true, recurses := true, apart := false }
def ChainGroupsSaid : Prop := chainGroupsRow.holds Try.pinned (OpenSpec.ofChange chainGroupsSpec)

/-- ITS FALSE NEIGHBOUR: 'it returns false'. Refute it at one input. -/
def chainGroupsWrong : ChangeSpec := { name := "chainGroups", fn := fun _ => fun
  | [d] => { results := [.lit (.bool false)], args := [d] }
  | _ => none }
def ChainGroupsWrongFalsely : Prop := chainGroupsRow.holds Try.pinned (OpenSpec.ofChange chainGroupsWrong)

/-- 'signalboxlaw26.ChainCan': WHATEVER THE INPUT: true; the input reads as it did. -/
def chainCanSpec : ChangeSpec := { name := "chainCan", fn := fun _ => fun
  | [d1, d2, d3, d4] => { results := [.lit (.bool true)], args := [d1, d2, d3, d4] }
  | _ => none }
def chainCanRow : OpenClaim := { program := "ytdmpiondalhonaa", sum := "0845fd111d690d35ef085554d321d92a7de9fbb9156a1d8c85a54c43e64ce110", func := "signalbox/signalboxlaw26.ChainCan", spec := "chainCan", unfollowed := true, recurses := true, apart := false }
def ChainCanSaid : Prop := chainCanRow.holds Try.pinned (OpenSpec.ofChange chainCanSpec)

/-- ITS FALSE NEIGHBOUR: 'it returns false'. Refute it at one input. -/
def chainCanWrong : ChangeSpec := { name := "chainCan", fn := fun _ => fun
  | [d1, d2, d3, d4] => { results := [.lit (.bool false)], args := [d1, d2, d3, d4] }
  | _ => none }
def ChainCanWrongFalsely : Prop := chainCanRow.holds Try.pinned (OpenSpec.ofChange chainCanWrong)

/-- 'signalboxlaw33.EdfRuns': WHATEVER THE INPUT: true; the input reads as it did. -/
def edfRunsSpec : ChangeSpec := { name := "edfRuns", fn := fun _ => fun
  | [d1, d2] => { results := [.lit (.bool true)], args := [d1, d2] }
  | _ => none }
def edfRunsRow : OpenClaim := { program := "ytdmpiondalhonaa", sum := "0845fd111d690d35ef085554d321d92a7de9fbb9156a1d8c85a54c43e64ce110", func := "signalbox/signalboxlaw33.EdfRuns", spec := "edfRuns", inPlace := ["math/bits.Add64"], unfollowed := true, recurses := true, apart := false }
def EdfRunsSaid : Prop := edfRunsRow.holds Try.pinned (OpenSpec.ofChange edfRunsSpec)

/-- ITS FALSE NEIGHBOUR: 'it returns false'. Refute it at one input. -/
def edfRunsWrong : ChangeSpec := { name := "edfRuns", fn := fun _ => fun
  | [d1, d2] => { results := [.lit (.bool false)], args := [d1, d2] }
  | _ => none }
def EdfRunsWrongFalsely : Prop := edfRunsRow.holds Try.pinned (OpenSpec.ofChange edfRunsWrong)

/-- 'signalboxlaw33.EdfBest': WHATEVER THE INPUT: true; the input reads as it did. -/
def edfBestSpec : ChangeSpec := { name := "edfBest", fn := fun _ => fun
  | [d1, d2, d3] => { results := [.lit (.bool true)], args := [d1, d2, d3] }
  | _ => none }
def edfBestRow : OpenClaim := { program := "ytdmpiondalhonaa", sum := "0845fd111d690d35ef085554d321d92a7de9fbb9156a1d8c85a54c43e64ce110", func := "signalbox/signalboxlaw33.EdfBest", spec := "edfBest", inPlace := ["math/bits.Add64"], unfollowed := true, recurses := true, apart := false }
def EdfBestSaid : Prop := edfBestRow.holds Try.pinned (OpenSpec.ofChange edfBestSpec)

/-- ITS FALSE NEIGHBOUR: 'it returns false'. Refute it at one input. -/
def edfBestWrong : ChangeSpec := { name := "edfBest", fn := fun _ => fun
  | [d1, d2, d3] => { results := [.lit (.bool false)], args := [d1, d2, d3] }
  | _ => none }
def EdfBestWrongFalsely : Prop := edfBestRow.holds Try.pinned (OpenSpec.ofChange edfBestWrong)

/-- 'signalboxlaw33.EdfDemand': WHATEVER THE INPUT: true; the input reads as it did. -/
def edfDemandSpec : ChangeSpec := { name := "edfDemand", fn := fun _ => fun
  | [d1, d2, d3] => { results := [.lit (.bool true)], args := [d1, d2, d3] }
  | _ => none }
def edfDemandRow : OpenClaim := { program := "ytdmpiondalhonaa", sum := "0845fd111d690d35ef085554d321d92a7de9fbb9156a1d8c85a54c43e64ce110", func := "signalbox/signalboxlaw33.EdfDemand", spec := "edfDemand", inPlace := ["math/bits.Add64"], unfollowed := true, recurses := true, apart := false }
def EdfDemandSaid : Prop := edfDemandRow.holds Try.pinned (OpenSpec.ofChange edfDemandSpec)

/-- ITS FALSE NEIGHBOUR: 'it returns false'. Refute it at one input. -/
def edfDemandWrong : ChangeSpec := { name := "edfDemand", fn := fun _ => fun
  | [d1, d2, d3] => { results := [.lit (.bool false)], args := [d1, d2, d3] }
  | _ => none }
def EdfDemandWrongFalsely : Prop := edfDemandRow.holds Try.pinned (OpenSpec.ofChange edfDemandWrong)

/-- 'signalboxlaw33.EdfFits': WHATEVER THE INPUT: true; the input reads as it did. -/
def edfFitsSpec : ChangeSpec := { name := "edfFits", fn := fun _ => fun
  | [d1, d2] => { results := [.lit (.bool true)], args := [d1, d2] }
  | _ => none }
def edfFitsRow : OpenClaim := { program := "ytdmpiondalhonaa", sum := "0845fd111d690d35ef085554d321d92a7de9fbb9156a1d8c85a54c43e64ce110", func := "signalbox/signalboxlaw33.EdfFits", spec := "edfFits", inPlace := ["math/bits.Add64"], unfollowed := true, recurses := true, apart := false }
def EdfFitsSaid : Prop := edfFitsRow.holds Try.pinned (OpenSpec.ofChange edfFitsSpec)

/-- ITS FALSE NEIGHBOUR: 'it returns false'. Refute it at one input. -/
def edfFitsWrong : ChangeSpec := { name := "edfFits", fn := fun _ => fun
  | [d1, d2] => { results := [.lit (.bool false)], args := [d1, d2] }
  | _ => none }
def EdfFitsWrongFalsely : Prop := edfFitsRow.holds Try.pinned (OpenSpec.ofChange edfFitsWrong)

/-- 'signalboxlaw44.PackChecks': WHATEVER THE INPUT: true; the input reads as it did. -/
def packChecksSpec : ChangeSpec := { name := "packChecks", fn := fun _ => fun
  | [d1, d2, d3] => { results := [.lit (.bool true)], args := [d1, d2, d3] }
  | _ => none }
def packChecksRow : OpenClaim := { program := "ytdmpiondalhonaa", sum := "0845fd111d690d35ef085554d321d92a7de9fbb9156a1d8c85a54c43e64ce110", func := "signalbox/signalboxlaw44.PackChecks", spec := "packChecks", unfollowed := true, recurses := true, apart := false }
def PackChecksSaid : Prop := packChecksRow.holds Try.pinned (OpenSpec.ofChange packChecksSpec)

/-- ITS FALSE NEIGHBOUR: 'it returns false'. Refute it at one input. -/
def packChecksWrong : ChangeSpec := { name := "packChecks", fn := fun _ => fun
  | [d1, d2, d3] => { results := [.lit (.bool false)], args := [d1, d2, d3] }
  | _ => none }
def PackChecksWrongFalsely : Prop := packChecksRow.holds Try.pinned (OpenSpec.ofChange packChecksWrong)

/-- 'signalboxlaw44.PackTells': WHATEVER THE INPUT: true; the input reads as it did. -/
def packTellsSpec : ChangeSpec := { name := "packTells", fn := fun _ => fun
  | [d1, d2] => { results := [.lit (.bool true)], args := [d1, d2] }
  | _ => none }
def packTellsRow : OpenClaim := { program := "ytdmpiondalhonaa", sum := "0845fd111d690d35ef085554d321d92a7de9fbb9156a1d8c85a54c43e64ce110", func := "signalbox/signalboxlaw44.PackTells", spec := "packTells", unfollowed := true, recurses := true, apart := false }
def PackTellsSaid : Prop := packTellsRow.holds Try.pinned (OpenSpec.ofChange packTellsSpec)

/-- ITS FALSE NEIGHBOUR: 'it returns false'. Refute it at one input. -/
def packTellsWrong : ChangeSpec := { name := "packTells", fn := fun _ => fun
  | [d1, d2] => { results := [.lit (.bool false)], args := [d1, d2] }
  | _ => none }
def PackTellsWrongFalsely : Prop := packTellsRow.holds Try.pinned (OpenSpec.ofChange packTellsWrong)

/-- 'signalboxlaw44.PackBounds': WHATEVER THE INPUT: true; the input reads as it did. -/
def packBoundsSpec : ChangeSpec := { name := "packBounds", fn := fun _ => fun
  | [d1, d2] => { results := [.lit (.bool true)], args := [d1, d2] }
  | _ => none }
def packBoundsRow : OpenClaim := { program := "ytdmpiondalhonaa", sum := "0845fd111d690d35ef085554d321d92a7de9fbb9156a1d8c85a54c43e64ce110", func := "signalbox/signalboxlaw44.PackBounds", spec := "packBounds", unfollowed := true, recurses := true, apart := false }
def PackBoundsSaid : Prop := packBoundsRow.holds Try.pinned (OpenSpec.ofChange packBoundsSpec)

/-- ITS FALSE NEIGHBOUR: 'it returns false'. Refute it at one input. -/
def packBoundsWrong : ChangeSpec := { name := "packBounds", fn := fun _ => fun
  | [d1, d2] => { results := [.lit (.bool false)], args := [d1, d2] }
  | _ => none }
def PackBoundsWrongFalsely : Prop := packBoundsRow.holds Try.pinned (OpenSpec.ofChange packBoundsWrong)

/- THE SECOND FORM. 'bulk': how many values and letters a reading holds, each counted each time it is reached (what is shared counts as often as it is met; a slice's spare places count too). A statement '..UptoSaid' is the law's where the arguments, and the package variables that the reading takes, are together of bulk at most 1048576: NARROWER than '..Said'. Prove '..Said' where nothing that the law and all that it calls make is longer than what came in: it says more and counts as full. Else prove '..UptoSaid'. A law counts once. -/
mutual
def uptoBulk {H : Type} : DataW H → Nat
  | .lit (.string bytes) => bytes.length + 1
  | .lit _ => 1
  | .nil => 1
  | .ptr d => uptoBulk d + 1
  | .slice elems spare => uptoBulkAll elems + uptoBulkAll spare + 1
  | .agg parts => uptoBulkAll parts + 1
  | .iface _ d => uptoBulk d + 1
  | .map entries => uptoBulkEntries entries + 1
  | .held _ => 1
def uptoBulkAll {H : Type} : List (DataW H) → Nat
  | [] => 0
  | d :: r => uptoBulk d + uptoBulkAll r
def uptoBulkEntries {H : Type} : List (Lit × DataW H) → Nat
  | [] => 0
  | x :: r => uptoBulkEntry x + uptoBulkEntries r
def uptoBulkEntry {H : Type} : Lit × DataW H → Nat
  | (.string bytes, d) => bytes.length + uptoBulk d + 1
  | (_, d) => uptoBulk d + 1
 end
def uptoSmall : (H : Type) → List (DataW H) → Bool := fun _ ds => decide (uptoBulkAll ds ≤ 1048576)
def OpenSpec.upto (s : _root_.Go.ChangeSpec) : _root_.Go.OpenSpec := { _root_.Go.OpenSpec.ofChange s with cond := some uptoSmall }

/-- 'signalboxlaw26.ChainTells', WHERE WHAT IT READS IS OF BULK AT MOST 1048576: true; the input reads as it did. -/
def chainTellsUptoRow : OpenClaim := { program := "ytdmpiondalhonaa", sum := "0845fd111d690d35ef085554d321d92a7de9fbb9156a1d8c85a54c43e64ce110", func := "signalbox/signalboxlaw26.ChainTells", spec := "chainTells", unfollowed := true, recurses := true, apart := false, narrowed := true }
def ChainTellsUptoSaid : Prop := chainTellsUptoRow.holds Try.pinned (OpenSpec.upto chainTellsSpec)

/-- 'signalboxlaw26.ChainGroups', WHERE WHAT IT READS IS OF BULK AT MOST 1048576: true; the input reads as it did. -/
def chainGroupsUptoRow : OpenClaim := { program := "ytdmpiondalhonaa", sum := "0845fd111d690d35ef085554d321d92a7de9fbb9156a1d8c85a54c43e64ce110", func := "signalbox/signalboxlaw26.ChainGroups", spec := "chainGroups", unfollowed := true, recurses := true, apart := false, narrowed := true }
def ChainGroupsUptoSaid : Prop := chainGroupsUptoRow.holds Try.pinned (OpenSpec.upto chainGroupsSpec)

/-- 'signalboxlaw26.ChainCan', WHERE WHAT IT READS IS OF BULK AT MOST 1048576: true; the input reads as it did. -/
def chainCanUptoRow : OpenClaim := { program := "ytdmpiondalhonaa", sum := "0845fd111d690d35ef085554d321d92a7de9fbb9156a1d8c85a54c43e64ce110", func := "signalbox/signalboxlaw26.ChainCan", spec := "chainCan", unfollowed := true, recurses := true, apart := false, narrowed := true }
def ChainCanUptoSaid : Prop := chainCanUptoRow.holds Try.pinned (OpenSpec.upto chainCanSpec)

/-- 'signalboxlaw33.EdfRuns', WHERE WHAT IT READS IS OF BULK AT MOST 1048576: true; the input reads as it did. -/
def edfRunsUptoRow : OpenClaim := { program := "ytdmpiondalhonaa", sum := "0845fd111d690d35ef085554d321d92a7de9fbb9156a1d8c85a54c43e64ce110", func := "signalbox/signalboxlaw33.EdfRuns", spec := "edfRuns", inPlace := ["math/bits.Add64"], unfollowed := true, recurses := true, apart := false, narrowed := true }
def EdfRunsUptoSaid : Prop := edfRunsUptoRow.holds Try.pinned (OpenSpec.upto edfRunsSpec)

/-- 'signalboxlaw33.EdfBest', WHERE WHAT IT READS IS OF BULK AT MOST 1048576: true; the input reads as it did. -/
def edfBestUptoRow : OpenClaim := { program := "ytdmpiondalhonaa", sum := "0845fd111d690d35ef085554d321d92a7de9fbb9156a1d8c85a54c43e64ce110", func := "signalbox/signalboxlaw33.EdfBest", spec := "edfBest", inPlace := ["math/bits.Add64"], unfollowed := true, recurses := true, apart := false, narrowed := true }
def EdfBestUptoSaid : Prop := edfBestUptoRow.holds Try.pinned (OpenSpec.upto edfBestSpec)

/-- 'signalboxlaw33.EdfDemand', WHERE WHAT IT READS IS OF BULK AT MOST 1048576: true; the input reads as it did. -/
def edfDemandUptoRow : OpenClaim := { program := "ytdmpiondalhonaa", sum := "0845fd111d690d35ef085554d321d92a7de9fbb9156a1d8c85a54c43e64ce110", func := "signalbox/signalboxlaw33.EdfDemand", spec := "edfDemand", inPlace := ["math/bits.Add64"], unfollowed := true, recurses := true, apart := false, narrowed := true }
def EdfDemandUptoSaid : Prop := edfDemandUptoRow.holds Try.pinned (OpenSpec.upto edfDemandSpec)

/-- 'signalboxlaw33.EdfFits', WHERE WHAT IT READS IS OF BULK AT MOST 1048576: true; the input reads as it did. -/
def edfFitsUptoRow : OpenClaim := { program := "ytdmpiondalhonaa", sum := "0845fd111d690d35ef085554d321d92a7de9fbb9156a1d8c85a54c43e64ce110", func := "signalbox/signalboxlaw33.EdfFits", spec := "edfFits", inPlace := ["math/bits.Add64"], unfollowed := true, recurses := true, apart := false, narrowed := true }
def EdfFitsUptoSaid : Prop := edfFitsUptoRow.holds Try.pinned (OpenSpec.upto edfFitsSpec)

/-- 'signalboxlaw44.PackChecks', WHERE WHAT IT READS IS OF BULK AT MOST 1048576: true; the input reads as it did. -/
def packChecksUptoRow : OpenClaim := { program := "ytdmpiondalhonaa", sum := "0845fd111d690d35ef085554d321d92a7de9fbb9156a1d8c85a54c43e64ce110", func := "signalbox/signalboxlaw44.PackChecks", spec := "packChecks", unfollowed := true, recurses := true, apart := false, narrowed := true }
def PackChecksUptoSaid : Prop := packChecksUptoRow.holds Try.pinned (OpenSpec.upto packChecksSpec)

/-- 'signalboxlaw44.PackTells', WHERE WHAT IT READS IS OF BULK AT MOST 1048576: true; the input reads as it did. -/
def packTellsUptoRow : OpenClaim := { program := "ytdmpiondalhonaa", sum := "0845fd111d690d35ef085554d321d92a7de9fbb9156a1d8c85a54c43e64ce110", func := "signalbox/signalboxlaw44.PackTells", spec := "packTells", unfollowed := true, recurses := true, apart := false, narrowed := true }
def PackTellsUptoSaid : Prop := packTellsUptoRow.holds Try.pinned (OpenSpec.upto packTellsSpec)

/-- 'signalboxlaw44.PackBounds', WHERE WHAT IT READS IS OF BULK AT MOST 1048576: true; the input reads as it did. -/
def packBoundsUptoRow : OpenClaim := { program := "ytdmpiondalhonaa", sum := "0845fd111d690d35ef085554d321d92a7de9fbb9156a1d8c85a54c43e64ce110", func := "signalbox/signalboxlaw44.PackBounds", spec := "packBounds", unfollowed := true, recurses := true, apart := false, narrowed := true }
def PackBoundsUptoSaid : Prop := packBoundsUptoRow.holds Try.pinned (OpenSpec.upto packBoundsSpec)

end Rows
end Go.Proofs.Ytdmpiondalhonaa
