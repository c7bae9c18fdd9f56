/-
  No cell of these rows narrows 'for every input' (looked for: loops, veiled, ifaces, maps, wideKeys, modest, calm, conditions, laid).
  DERIVED. THE GIVEN ROWS OF THIS SEAT. 6 by the template 'for every input the law returns true; each argument reads behind the call as it read before'; 0 by the template 'total and deterministic' (their statements: YtkcnlpelbcpmgaaTotals.lean).
  GIVEN WITH THE SEED: the statements are not yours to turn. If you find one false, say at which input.
  Laid BY PROGRAM, IN A SANDBOX (cutbox-rows.mjs): the forced cells as the released guide's own fill.sh prints them over the translation 8706da9989c817c0… (all of the seat's roots in one cut). By AI agents, Wed Nov 11 2026. No macro, syntax, notation, axiom, sorry.
-/
import Derived.Test.YtkcnlpelbcpmgaaChecked
import GoSem.Claim
import GoSem.ClaimJoined
import GoSem.ClaimMapViews
import Derived.JoinedTies
import Derived.KernelRfl
namespace Go.Proofs.Ytkcnlpelbcpmgaa
/- THE CELL 'sum', in the pinned program and in every row, IS THE sha256 OF THE DUMP (.gsa) THAT YtkcnlpelbcpmgaaProg.lean LOADS. Nothing in Lean hashes anything: it is a label: what it is worth is what the hold of that sum in a sandbox is worth. -/
noncomputable def Try.pinned : Pinned := { name := "ytkcnlpelbcpmgaa", sum := "8706da9989c817c039a70ea241a89d9d08d429d527ffbaf304babb08b34b925d", checked := Try.checked }
namespace Rows
def none {H : Type} : Left H := { results := [], args := [] }

/-- 'signalboxlaw13.CeilingPlays': WHATEVER THE INPUT: true; the input reads as it did. -/
def ceilingPlaysSpec : ChangeSpec := { name := "ceilingPlays", fn := fun _ => fun
  | [d1, d2, d3, d4] => { results := [.lit (.bool true)], args := [d1, d2, d3, d4] }
  | _ => none }
def ceilingPlaysRow : OpenClaim := { program := "ytkcnlpelbcpmgaa", sum := "8706da9989c817c039a70ea241a89d9d08d429d527ffbaf304babb08b34b925d", func := "signalbox/signalboxlaw13.CeilingPlays", spec := "ceilingPlays", apart := false }
def CeilingPlaysSaid : Prop := ceilingPlaysRow.holds Try.pinned (OpenSpec.ofChange ceilingPlaysSpec)

/-- ITS FALSE NEIGHBOUR: 'it returns false'. Refute it at one input. -/
def ceilingPlaysWrong : ChangeSpec := { name := "ceilingPlays", fn := fun _ => fun
  | [d1, d2, d3, d4] => { results := [.lit (.bool false)], args := [d1, d2, d3, d4] }
  | _ => none }
def CeilingPlaysWrongFalsely : Prop := ceilingPlaysRow.holds Try.pinned (OpenSpec.ofChange ceilingPlaysWrong)

/-- 'signalboxlaw13.CeilingRises': WHATEVER THE INPUT: true; the input reads as it did. -/
def ceilingRisesSpec : ChangeSpec := { name := "ceilingRises", fn := fun _ => fun
  | [d1, d2, d3] => { results := [.lit (.bool true)], args := [d1, d2, d3] }
  | _ => none }
def ceilingRisesRow : OpenClaim := { program := "ytkcnlpelbcpmgaa", sum := "8706da9989c817c039a70ea241a89d9d08d429d527ffbaf304babb08b34b925d", func := "signalbox/signalboxlaw13.CeilingRises", spec := "ceilingRises", apart := false }
def CeilingRisesSaid : Prop := ceilingRisesRow.holds Try.pinned (OpenSpec.ofChange ceilingRisesSpec)

/-- ITS FALSE NEIGHBOUR: 'it returns false'. Refute it at one input. -/
def ceilingRisesWrong : ChangeSpec := { name := "ceilingRises", fn := fun _ => fun
  | [d1, d2, d3] => { results := [.lit (.bool false)], args := [d1, d2, d3] }
  | _ => none }
def CeilingRisesWrongFalsely : Prop := ceilingRisesRow.holds Try.pinned (OpenSpec.ofChange ceilingRisesWrong)

/-- 'signalboxlaw05.AgendaPlays': WHATEVER THE INPUT: true; the input reads as it did. -/
def agendaPlaysSpec : ChangeSpec := { name := "agendaPlays", fn := fun _ => fun
  | [d1, d2, d3] => { results := [.lit (.bool true)], args := [d1, d2, d3] }
  | _ => none }
def agendaPlaysRow : OpenClaim := { program := "ytkcnlpelbcpmgaa", sum := "8706da9989c817c039a70ea241a89d9d08d429d527ffbaf304babb08b34b925d", func := "signalbox/signalboxlaw05.AgendaPlays", spec := "agendaPlays", unfollowed := true, recurses := true, apart := false }
def AgendaPlaysSaid : Prop := agendaPlaysRow.holds Try.pinned (OpenSpec.ofChange agendaPlaysSpec)

/-- ITS FALSE NEIGHBOUR: 'it returns false'. Refute it at one input. -/
def agendaPlaysWrong : ChangeSpec := { name := "agendaPlays", fn := fun _ => fun
  | [d1, d2, d3] => { results := [.lit (.bool false)], args := [d1, d2, d3] }
  | _ => none }
def AgendaPlaysWrongFalsely : Prop := agendaPlaysRow.holds Try.pinned (OpenSpec.ofChange agendaPlaysWrong)

/-- 'signalboxlaw05.AgendaNone': WHATEVER THE INPUT: true; the input reads as it did. -/
def agendaNoneSpec : ChangeSpec := { name := "agendaNone", fn := fun _ => fun
  | [d1, d2] => { results := [.lit (.bool true)], args := [d1, d2] }
  | _ => none }
def agendaNoneRow : OpenClaim := { program := "ytkcnlpelbcpmgaa", sum := "8706da9989c817c039a70ea241a89d9d08d429d527ffbaf304babb08b34b925d", func := "signalbox/signalboxlaw05.AgendaNone", spec := "agendaNone", unfollowed := true, recurses := true, apart := false }
def AgendaNoneSaid : Prop := agendaNoneRow.holds Try.pinned (OpenSpec.ofChange agendaNoneSpec)

/-- ITS FALSE NEIGHBOUR: 'it returns false'. Refute it at one input. -/
def agendaNoneWrong : ChangeSpec := { name := "agendaNone", fn := fun _ => fun
  | [d1, d2] => { results := [.lit (.bool false)], args := [d1, d2] }
  | _ => none }
def AgendaNoneWrongFalsely : Prop := agendaNoneRow.holds Try.pinned (OpenSpec.ofChange agendaNoneWrong)

/-- 'signalboxlaw27.PreemptTells': WHATEVER THE INPUT: true; the input reads as it did. -/
def preemptTellsSpec : ChangeSpec := { name := "preemptTells", fn := fun _ => fun
  | [d1, d2, d3, d4] => { results := [.lit (.bool true)], args := [d1, d2, d3, d4] }
  | _ => none }
def preemptTellsRow : OpenClaim := { program := "ytkcnlpelbcpmgaa", sum := "8706da9989c817c039a70ea241a89d9d08d429d527ffbaf304babb08b34b925d", func := "signalbox/signalboxlaw27.PreemptTells", spec := "preemptTells", inPlace := ["math/bits.Add64"], unfollowed := true, recurses := true, apart := false }
def PreemptTellsSaid : Prop := preemptTellsRow.holds Try.pinned (OpenSpec.ofChange preemptTellsSpec)

/-- ITS FALSE NEIGHBOUR: 'it returns false'. Refute it at one input. -/
def preemptTellsWrong : ChangeSpec := { name := "preemptTells", fn := fun _ => fun
  | [d1, d2, d3, d4] => { results := [.lit (.bool false)], args := [d1, d2, d3, d4] }
  | _ => none }
def PreemptTellsWrongFalsely : Prop := preemptTellsRow.holds Try.pinned (OpenSpec.ofChange preemptTellsWrong)

/-- 'signalboxlaw27.PreemptSides': WHATEVER THE INPUT: true; the input reads as it did. -/
def preemptSidesSpec : ChangeSpec := { name := "preemptSides", fn := fun _ => fun
  | [d1, d2] => { results := [.lit (.bool true)], args := [d1, d2] }
  | _ => none }
def preemptSidesRow : OpenClaim := { program := "ytkcnlpelbcpmgaa", sum := "8706da9989c817c039a70ea241a89d9d08d429d527ffbaf304babb08b34b925d", func := "signalbox/signalboxlaw27.PreemptSides", spec := "preemptSides", inPlace := ["math/bits.Add64"], unfollowed := true, recurses := true, apart := false }
def PreemptSidesSaid : Prop := preemptSidesRow.holds Try.pinned (OpenSpec.ofChange preemptSidesSpec)

/-- ITS FALSE NEIGHBOUR: 'it returns false'. Refute it at one input. -/
def preemptSidesWrong : ChangeSpec := { name := "preemptSides", fn := fun _ => fun
  | [d1, d2] => { results := [.lit (.bool false)], args := [d1, d2] }
  | _ => none }
def PreemptSidesWrongFalsely : Prop := preemptSidesRow.holds Try.pinned (OpenSpec.ofChange preemptSidesWrong)

/- THE SECOND FORM. 'bulk': how many values and letters a reading holds, each counted each time it is reached (what is shared counts as often as it is met; a slice's spare places count too). A statement '..UptoSaid' is the law's where the arguments, and the package variables that the reading takes, are together of bulk at most 1048576: NARROWER than '..Said'. Prove '..Said' where nothing that the law and all that it calls make is longer than what came in: it says more and counts as full. Else prove '..UptoSaid'. A law counts once. -/
mutual
def uptoBulk {H : Type} : DataW H → Nat
  | .lit (.string bytes) => bytes.length + 1
  | .lit _ => 1
  | .nil => 1
  | .ptr d => uptoBulk d + 1
  | .slice elems spare => uptoBulkAll elems + uptoBulkAll spare + 1
  | .agg parts => uptoBulkAll parts + 1
  | .iface _ d => uptoBulk d + 1
  | .map entries => uptoBulkEntries entries + 1
  | .held _ => 1
def uptoBulkAll {H : Type} : List (DataW H) → Nat
  | [] => 0
  | d :: r => uptoBulk d + uptoBulkAll r
def uptoBulkEntries {H : Type} : List (Lit × DataW H) → Nat
  | [] => 0
  | x :: r => uptoBulkEntry x + uptoBulkEntries r
def uptoBulkEntry {H : Type} : Lit × DataW H → Nat
  | (.string bytes, d) => bytes.length + uptoBulk d + 1
  | (_, d) => uptoBulk d + 1
 end
def uptoSmall : (H : Type) → List (DataW H) → Bool := fun _ ds => decide (uptoBulkAll ds ≤ 1048576)
def OpenSpec.upto (s : _root_.Go.ChangeSpec) : _root_.Go.OpenSpec := { _root_.Go.OpenSpec.ofChange s with cond := some uptoSmall }

/-- 'signalboxlaw13.CeilingPlays', WHERE WHAT IT READS IS OF BULK AT MOST 1048576: true; the input reads as it did. -/
def ceilingPlaysUptoRow : OpenClaim := { program := "ytkcnlpelbcpmgaa", sum := "8706da9989c817c039a70ea241a89d9d08d429d527ffbaf304babb08b34b925d", func := "signalbox/signalboxlaw13.CeilingPlays", spec := "ceilingPlays", apart := false, narrowed := true }
def CeilingPlaysUptoSaid : Prop := ceilingPlaysUptoRow.holds Try.pinned (OpenSpec.upto ceilingPlaysSpec)

/-- 'signalboxlaw13.CeilingRises', WHERE WHAT IT READS IS OF BULK AT MOST 1048576: true; the input reads as it did. -/
def ceilingRisesUptoRow : OpenClaim := { program := "ytkcnlpelbcpmgaa", sum := "8706da9989c817c039a70ea241a89d9d08d429d527ffbaf304babb08b34b925d", func := "signalbox/signalboxlaw13.CeilingRises", spec := "ceilingRises", apart := false, narrowed := true }
def CeilingRisesUptoSaid : Prop := ceilingRisesUptoRow.holds Try.pinned (OpenSpec.upto ceilingRisesSpec)

/-- 'signalboxlaw05.AgendaPlays', WHERE WHAT IT READS IS OF BULK AT MOST 1048576: true; the input reads as it did. -/
def agendaPlaysUptoRow : OpenClaim := { program := "ytkcnlpelbcpmgaa", sum := "8706da9989c817c039a70ea241a89d9d08d429d527ffbaf304babb08b34b925d", func := "signalbox/signalboxlaw05.AgendaPlays", spec := "agendaPlays", unfollowed := true, recurses := true, apart := false, narrowed := true }
def AgendaPlaysUptoSaid : Prop := agendaPlaysUptoRow.holds Try.pinned (OpenSpec.upto agendaPlaysSpec)

/-- 'signalboxlaw05.AgendaNone', WHERE WHAT IT READS IS OF BULK AT MOST 1048576: true; the input reads as it did. -/
def agendaNoneUptoRow : OpenClaim := { program := "ytkcnlpelbcpmgaa", sum := "8706da9989c817c039a70ea241a89d9d08d429d527ffbaf304babb08b34b925d", func := "signalbox/signalboxlaw05.AgendaNone", spec := "agendaNone", unfollowed := true, recurses := true, apart := false, narrowed := true }
def AgendaNoneUptoSaid : Prop := agendaNoneUptoRow.holds Try.pinned (OpenSpec.upto agendaNoneSpec)

/-- 'signalboxlaw27.PreemptTells', WHERE WHAT IT READS IS OF BULK AT MOST 1048576: true; the input reads as it did. -/
def preemptTellsUptoRow : OpenClaim := { program := "ytkcnlpelbcpmgaa", sum := "8706da9989c817c039a70ea241a89d9d08d429d527ffbaf304babb08b34b925d", func := "signalbox/signalboxlaw27.PreemptTells", spec := "preemptTells", inPlace := ["math/bits.Add64"], unfollowed := true, recurses := true, apart := false, narrowed := true }
def PreemptTellsUptoSaid : Prop := preemptTellsUptoRow.holds Try.pinned (OpenSpec.upto preemptTellsSpec)

/-- 'signalboxlaw27.PreemptSides', WHERE WHAT IT READS IS OF BULK AT MOST 1048576: true; the input reads as it did. -/
def preemptSidesUptoRow : OpenClaim := { program := "ytkcnlpelbcpmgaa", sum := "8706da9989c817c039a70ea241a89d9d08d429d527ffbaf304babb08b34b925d", func := "signalbox/signalboxlaw27.PreemptSides", spec := "preemptSides", inPlace := ["math/bits.Add64"], unfollowed := true, recurses := true, apart := false, narrowed := true }
def PreemptSidesUptoSaid : Prop := preemptSidesUptoRow.holds Try.pinned (OpenSpec.upto preemptSidesSpec)

end Rows
end Go.Proofs.Ytkcnlpelbcpmgaa
