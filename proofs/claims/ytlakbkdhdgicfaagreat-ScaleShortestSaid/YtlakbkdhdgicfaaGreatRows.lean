/-
  No cell of these rows narrows 'for every input' (looked for: loops, veiled, ifaces, maps, wideKeys, modest, calm, conditions, laid).
  DERIVED. THE GIVEN ROWS OF THIS SEAT. 11 by the template 'for every input the law returns true; each argument reads behind the call as it read before'; 0 by the template 'total and deterministic' (their statements: YtlakbkdhdgicfaaGreatTotals.lean).
  GIVEN WITH THE SEED: the statements are not yours to turn. If you find one false, say at which input.
  Laid BY PROGRAM, IN A SANDBOX (cutbox-rows.mjs): the forced cells as the released guide's own fill.sh prints them over the translation dde593e18f9cbaaa… (all of the seat's roots in one cut). By AI agents, Wed Nov 11 2026. No macro, syntax, notation, axiom, sorry.
-/
import Derived.Test.YtlakbkdhdgicfaaGreatChecked
import GoSem.Claim
import GoSem.ClaimJoined
import GoSem.ClaimMapViews
import Derived.JoinedTies
import Derived.KernelRfl
namespace Go.Proofs.YtlakbkdhdgicfaaGreat
/- THE CELL 'sum', in the pinned program and in every row, IS THE sha256 OF THE DUMP (.gsa) THAT YtlakbkdhdgicfaaGreatProg.lean LOADS. Nothing in Lean hashes anything: it is a label: what it is worth is what the hold of that sum in a sandbox is worth. -/
noncomputable def Tryz.pinned : Pinned := { name := "ytlakbkdhdgicfaagreat", sum := "dde593e18f9cbaaac06ed02b93be50ffd65206b0212b0980f6e9895151d74ad5", checked := Tryz.checked }
namespace Rows
def none {H : Type} : Left H := { results := [], args := [] }

/-- 'signalboxlaw28.AdmitTells': WHATEVER THE INPUT: true; the input reads as it did. -/
def admitTellsSpec : ChangeSpec := { name := "admitTells", fn := fun _ => fun
  | [d] => { results := [.lit (.bool true)], args := [d] }
  | _ => none }
def admitTellsRow : OpenClaim := { program := "ytlakbkdhdgicfaagreat", sum := "dde593e18f9cbaaac06ed02b93be50ffd65206b0212b0980f6e9895151d74ad5", func := "signalbox/signalboxlaw28.AdmitTells", spec := "admitTells", inPlace := ["math/bits.Add64"], unfollowed := true, recurses := true, apart := false }
def AdmitTellsSaid : Prop := admitTellsRow.holds Tryz.pinned (OpenSpec.ofChange admitTellsSpec)

/-- ITS FALSE NEIGHBOUR: 'it returns false'. Refute it at one input. -/
def admitTellsWrong : ChangeSpec := { name := "admitTells", fn := fun _ => fun
  | [d] => { results := [.lit (.bool false)], args := [d] }
  | _ => none }
def AdmitTellsWrongFalsely : Prop := admitTellsRow.holds Tryz.pinned (OpenSpec.ofChange admitTellsWrong)

/-- 'signalboxlaw28.AdmitUsed': WHATEVER THE INPUT: true; the input reads as it did. -/
def admitUsedSpec : ChangeSpec := { name := "admitUsed", fn := fun _ => fun
  | [d] => { results := [.lit (.bool true)], args := [d] }
  | _ => none }
def admitUsedRow : OpenClaim := { program := "ytlakbkdhdgicfaagreat", sum := "dde593e18f9cbaaac06ed02b93be50ffd65206b0212b0980f6e9895151d74ad5", func := "signalbox/signalboxlaw28.AdmitUsed", spec := "admitUsed", inPlace := ["math/bits.Add64"], unfollowed := true, recurses := true, apart := false }
def AdmitUsedSaid : Prop := admitUsedRow.holds Tryz.pinned (OpenSpec.ofChange admitUsedSpec)

/-- ITS FALSE NEIGHBOUR: 'it returns false'. Refute it at one input. -/
def admitUsedWrong : ChangeSpec := { name := "admitUsed", fn := fun _ => fun
  | [d] => { results := [.lit (.bool false)], args := [d] }
  | _ => none }
def AdmitUsedWrongFalsely : Prop := admitUsedRow.holds Tryz.pinned (OpenSpec.ofChange admitUsedWrong)

/-- 'signalboxlaw30.FloatingMost': WHATEVER THE INPUT: true; the input reads as it did. -/
def floatingMostSpec : ChangeSpec := { name := "floatingMost", fn := fun _ => fun
  | [d1, d2, d3] => { results := [.lit (.bool true)], args := [d1, d2, d3] }
  | _ => none }
def floatingMostRow : OpenClaim := { program := "ytlakbkdhdgicfaagreat", sum := "dde593e18f9cbaaac06ed02b93be50ffd65206b0212b0980f6e9895151d74ad5", func := "signalbox/signalboxlaw30.FloatingMost", spec := "floatingMost", inPlace := ["math/bits.Add64"], unfollowed := true, recurses := true, apart := false }
def FloatingMostSaid : Prop := floatingMostRow.holds Tryz.pinned (OpenSpec.ofChange floatingMostSpec)

/-- ITS FALSE NEIGHBOUR: 'it returns false'. Refute it at one input. -/
def floatingMostWrong : ChangeSpec := { name := "floatingMost", fn := fun _ => fun
  | [d1, d2, d3] => { results := [.lit (.bool false)], args := [d1, d2, d3] }
  | _ => none }
def FloatingMostWrongFalsely : Prop := floatingMostRow.holds Tryz.pinned (OpenSpec.ofChange floatingMostWrong)

/-- 'signalboxlaw30.FloatingAll': WHATEVER THE INPUT: true; the input reads as it did. -/
def floatingAllSpec : ChangeSpec := { name := "floatingAll", fn := fun _ => fun
  | [d1, d2, d3] => { results := [.lit (.bool true)], args := [d1, d2, d3] }
  | _ => none }
def floatingAllRow : OpenClaim := { program := "ytlakbkdhdgicfaagreat", sum := "dde593e18f9cbaaac06ed02b93be50ffd65206b0212b0980f6e9895151d74ad5", func := "signalbox/signalboxlaw30.FloatingAll", spec := "floatingAll", inPlace := ["math/bits.Add64"], unfollowed := true, recurses := true, apart := false }
def FloatingAllSaid : Prop := floatingAllRow.holds Tryz.pinned (OpenSpec.ofChange floatingAllSpec)

/-- ITS FALSE NEIGHBOUR: 'it returns false'. Refute it at one input. -/
def floatingAllWrong : ChangeSpec := { name := "floatingAll", fn := fun _ => fun
  | [d1, d2, d3] => { results := [.lit (.bool false)], args := [d1, d2, d3] }
  | _ => none }
def FloatingAllWrongFalsely : Prop := floatingAllRow.holds Tryz.pinned (OpenSpec.ofChange floatingAllWrong)

/-- 'signalboxlaw29.AssignPasses': WHATEVER THE INPUT: true; the input reads as it did. -/
def assignPassesSpec : ChangeSpec := { name := "assignPasses", fn := fun _ => fun
  | [d1, d2] => { results := [.lit (.bool true)], args := [d1, d2] }
  | _ => none }
def assignPassesRow : OpenClaim := { program := "ytlakbkdhdgicfaagreat", sum := "dde593e18f9cbaaac06ed02b93be50ffd65206b0212b0980f6e9895151d74ad5", func := "signalbox/signalboxlaw29.AssignPasses", spec := "assignPasses", inPlace := ["math/bits.Add64"], unfollowed := true, recurses := true, apart := false }
def AssignPassesSaid : Prop := assignPassesRow.holds Tryz.pinned (OpenSpec.ofChange assignPassesSpec)

/-- ITS FALSE NEIGHBOUR: 'it returns false'. Refute it at one input. -/
def assignPassesWrong : ChangeSpec := { name := "assignPasses", fn := fun _ => fun
  | [d1, d2] => { results := [.lit (.bool false)], args := [d1, d2] }
  | _ => none }
def AssignPassesWrongFalsely : Prop := assignPassesRow.holds Tryz.pinned (OpenSpec.ofChange assignPassesWrong)

/-- 'signalboxlaw29.AssignNone': WHATEVER THE INPUT: true; the input reads as it did. -/
def assignNoneSpec : ChangeSpec := { name := "assignNone", fn := fun _ => fun
  | [d1, d2] => { results := [.lit (.bool true)], args := [d1, d2] }
  | _ => none }
def assignNoneRow : OpenClaim := { program := "ytlakbkdhdgicfaagreat", sum := "dde593e18f9cbaaac06ed02b93be50ffd65206b0212b0980f6e9895151d74ad5", func := "signalbox/signalboxlaw29.AssignNone", spec := "assignNone", inPlace := ["math/bits.Add64"], unfollowed := true, recurses := true, apart := false }
def AssignNoneSaid : Prop := assignNoneRow.holds Tryz.pinned (OpenSpec.ofChange assignNoneSpec)

/-- ITS FALSE NEIGHBOUR: 'it returns false'. Refute it at one input. -/
def assignNoneWrong : ChangeSpec := { name := "assignNone", fn := fun _ => fun
  | [d1, d2] => { results := [.lit (.bool false)], args := [d1, d2] }
  | _ => none }
def AssignNoneWrongFalsely : Prop := assignNoneRow.holds Tryz.pinned (OpenSpec.ofChange assignNoneWrong)

/-- 'signalboxlaw29.AssignMost': WHATEVER THE INPUT: true; the input reads as it did. -/
def assignMostSpec : ChangeSpec := { name := "assignMost", fn := fun _ => fun
  | [d1, d2, d3] => { results := [.lit (.bool true)], args := [d1, d2, d3] }
  | _ => none }
def assignMostRow : OpenClaim := { program := "ytlakbkdhdgicfaagreat", sum := "dde593e18f9cbaaac06ed02b93be50ffd65206b0212b0980f6e9895151d74ad5", func := "signalbox/signalboxlaw29.AssignMost", spec := "assignMost", inPlace := ["math/bits.Add64"], unfollowed := true, recurses := true, apart := false }
def AssignMostSaid : Prop := assignMostRow.holds Tryz.pinned (OpenSpec.ofChange assignMostSpec)

/-- ITS FALSE NEIGHBOUR: 'it returns false'. Refute it at one input. -/
def assignMostWrong : ChangeSpec := { name := "assignMost", fn := fun _ => fun
  | [d1, d2, d3] => { results := [.lit (.bool false)], args := [d1, d2, d3] }
  | _ => none }
def AssignMostWrongFalsely : Prop := assignMostRow.holds Tryz.pinned (OpenSpec.ofChange assignMostWrong)

/-- 'signalboxlaw29.AssignLower': WHATEVER THE INPUT: true; the input reads as it did. -/
def assignLowerSpec : ChangeSpec := { name := "assignLower", fn := fun _ => fun
  | [d1, d2, d3] => { results := [.lit (.bool true)], args := [d1, d2, d3] }
  | _ => none }
def assignLowerRow : OpenClaim := { program := "ytlakbkdhdgicfaagreat", sum := "dde593e18f9cbaaac06ed02b93be50ffd65206b0212b0980f6e9895151d74ad5", func := "signalbox/signalboxlaw29.AssignLower", spec := "assignLower", inPlace := ["math/bits.Add64"], unfollowed := true, recurses := true, apart := false }
def AssignLowerSaid : Prop := assignLowerRow.holds Tryz.pinned (OpenSpec.ofChange assignLowerSpec)

/-- ITS FALSE NEIGHBOUR: 'it returns false'. Refute it at one input. -/
def assignLowerWrong : ChangeSpec := { name := "assignLower", fn := fun _ => fun
  | [d1, d2, d3] => { results := [.lit (.bool false)], args := [d1, d2, d3] }
  | _ => none }
def AssignLowerWrongFalsely : Prop := assignLowerRow.holds Tryz.pinned (OpenSpec.ofChange assignLowerWrong)

/-- 'signalboxlaw45.ScaleBy': WHATEVER THE INPUT: true; the input reads as it did. -/
def scaleBySpec : ChangeSpec := { name := "scaleBy", fn := fun _ => fun
  | [d1, d2] => { results := [.lit (.bool true)], args := [d1, d2] }
  | _ => none }
def scaleByRow : OpenClaim := { program := "ytlakbkdhdgicfaagreat", sum := "dde593e18f9cbaaac06ed02b93be50ffd65206b0212b0980f6e9895151d74ad5", func := "signalbox/signalboxlaw45.ScaleBy", spec := "scaleBy", inPlace := ["math/bits.Add64"], unfollowed := true, recurses := true, apart := false }
def ScaleBySaid : Prop := scaleByRow.holds Tryz.pinned (OpenSpec.ofChange scaleBySpec)

/-- ITS FALSE NEIGHBOUR: 'it returns false'. Refute it at one input. -/
def scaleByWrong : ChangeSpec := { name := "scaleBy", fn := fun _ => fun
  | [d1, d2] => { results := [.lit (.bool false)], args := [d1, d2] }
  | _ => none }
def ScaleByWrongFalsely : Prop := scaleByRow.holds Tryz.pinned (OpenSpec.ofChange scaleByWrong)

/-- 'signalboxlaw45.ScaleMost': WHATEVER THE INPUT: true; the input reads as it did. -/
def scaleMostSpec : ChangeSpec := { name := "scaleMost", fn := fun _ => fun
  | [d1, d2] => { results := [.lit (.bool true)], args := [d1, d2] }
  | _ => none }
def scaleMostRow : OpenClaim := { program := "ytlakbkdhdgicfaagreat", sum := "dde593e18f9cbaaac06ed02b93be50ffd65206b0212b0980f6e9895151d74ad5", func := "signalbox/signalboxlaw45.ScaleMost", spec := "scaleMost", inPlace := ["math/bits.Add64"], unfollowed := true, recurses := true, apart := false }
def ScaleMostSaid : Prop := scaleMostRow.holds Tryz.pinned (OpenSpec.ofChange scaleMostSpec)

/-- ITS FALSE NEIGHBOUR: 'it returns false'. Refute it at one input. -/
def scaleMostWrong : ChangeSpec := { name := "scaleMost", fn := fun _ => fun
  | [d1, d2] => { results := [.lit (.bool false)], args := [d1, d2] }
  | _ => none }
def ScaleMostWrongFalsely : Prop := scaleMostRow.holds Tryz.pinned (OpenSpec.ofChange scaleMostWrong)

/-- 'signalboxlaw45.ScaleShortest': WHATEVER THE INPUT: true; the input reads as it did. -/
def scaleShortestSpec : ChangeSpec := { name := "scaleShortest", fn := fun _ => fun
  | [d1, d2, d3] => { results := [.lit (.bool true)], args := [d1, d2, d3] }
  | _ => none }
def scaleShortestRow : OpenClaim := { program := "ytlakbkdhdgicfaagreat", sum := "dde593e18f9cbaaac06ed02b93be50ffd65206b0212b0980f6e9895151d74ad5", func := "signalbox/signalboxlaw45.ScaleShortest", spec := "scaleShortest", inPlace := ["math/bits.Add64"], unfollowed := true, recurses := true, apart := false }
def ScaleShortestSaid : Prop := scaleShortestRow.holds Tryz.pinned (OpenSpec.ofChange scaleShortestSpec)

/-- ITS FALSE NEIGHBOUR: 'it returns false'. Refute it at one input. -/
def scaleShortestWrong : ChangeSpec := { name := "scaleShortest", fn := fun _ => fun
  | [d1, d2, d3] => { results := [.lit (.bool false)], args := [d1, d2, d3] }
  | _ => none }
def ScaleShortestWrongFalsely : Prop := scaleShortestRow.holds Tryz.pinned (OpenSpec.ofChange scaleShortestWrong)

/- THE SECOND FORM. 'bulk': how many values and letters a reading holds, each counted each time it is reached (what is shared counts as often as it is met; a slice's spare places count too). A statement '..UptoSaid' is the law's where the arguments, and the package variables that the reading takes, are together of bulk at most 1048576: NARROWER than '..Said'. Prove '..Said' where nothing that the law and all that it calls make is longer than what came in: it says more and counts as full. Else prove '..UptoSaid'. A law counts once. -/
mutual
def uptoBulk {H : Type} : DataW H → Nat
  | .lit (.string bytes) => bytes.length + 1
  | .lit _ => 1
  | .nil => 1
  | .ptr d => uptoBulk d + 1
  | .slice elems spare => uptoBulkAll elems + uptoBulkAll spare + 1
  | .agg parts => uptoBulkAll parts + 1
  | .iface _ d => uptoBulk d + 1
  | .map entries => uptoBulkEntries entries + 1
  | .held _ => 1
def uptoBulkAll {H : Type} : List (DataW H) → Nat
  | [] => 0
  | d :: r => uptoBulk d + uptoBulkAll r
def uptoBulkEntries {H : Type} : List (Lit × DataW H) → Nat
  | [] => 0
  | x :: r => uptoBulkEntry x + uptoBulkEntries r
def uptoBulkEntry {H : Type} : Lit × DataW H → Nat
  | (.string bytes, d) => bytes.length + uptoBulk d + 1
  | (_, d) => uptoBulk d + 1
 end
def uptoSmall : (H : Type) → List (DataW H) → Bool := fun _ ds => decide (uptoBulkAll ds ≤ 1048576)
def OpenSpec.upto (s : _root_.Go.ChangeSpec) : _root_.Go.OpenSpec := { _root_.Go.OpenSpec.ofChange s with cond := some uptoSmall }

/-- 'signalboxlaw28.AdmitTells', WHERE WHAT IT READS IS OF BULK AT MOST 1048576: true; the input reads as it did. -/
def admitTellsUptoRow : OpenClaim := { program := "ytlakbkdhdgicfaagreat", sum := "dde593e18f9cbaaac06ed02b93be50ffd65206b0212b0980f6e9895151d74ad5", func := "signalbox/signalboxlaw28.AdmitTells", spec := "admitTells", inPlace := ["math/bits.Add64"], unfollowed := true, recurses := true, apart := false, narrowed := true }
def AdmitTellsUptoSaid : Prop := admitTellsUptoRow.holds Tryz.pinned (OpenSpec.upto admitTellsSpec)

/-- 'signalboxlaw28.AdmitUsed', WHERE WHAT IT READS IS OF BULK AT MOST 1048576: true; the input reads as it did. -/
def admitUsedUptoRow : OpenClaim := { program := "ytlakbkdhdgicfaagreat", sum := "dde593e18f9cbaaac06ed02b93be50ffd65206b0212b0980f6e9895151d74ad5", func := "signalbox/signalboxlaw28.AdmitUsed", spec := "admitUsed", inPlace := ["math/bits.Add64"], unfollowed := true, recurses := true, apart := false, narrowed := true }
def AdmitUsedUptoSaid : Prop := admitUsedUptoRow.holds Tryz.pinned (OpenSpec.upto admitUsedSpec)

/-- 'signalboxlaw30.FloatingMost', WHERE WHAT IT READS IS OF BULK AT MOST 1048576: true; the input reads as it did. -/
def floatingMostUptoRow : OpenClaim := { program := "ytlakbkdhdgicfaagreat", sum := "dde593e18f9cbaaac06ed02b93be50ffd65206b0212b0980f6e9895151d74ad5", func := "signalbox/signalboxlaw30.FloatingMost", spec := "floatingMost", inPlace := ["math/bits.Add64"], unfollowed := true, recurses := true, apart := false, narrowed := true }
def FloatingMostUptoSaid : Prop := floatingMostUptoRow.holds Tryz.pinned (OpenSpec.upto floatingMostSpec)

/-- 'signalboxlaw30.FloatingAll', WHERE WHAT IT READS IS OF BULK AT MOST 1048576: true; the input reads as it did. -/
def floatingAllUptoRow : OpenClaim := { program := "ytlakbkdhdgicfaagreat", sum := "dde593e18f9cbaaac06ed02b93be50ffd65206b0212b0980f6e9895151d74ad5", func := "signalbox/signalboxlaw30.FloatingAll", spec := "floatingAll", inPlace := ["math/bits.Add64"], unfollowed := true, recurses := true, apart := false, narrowed := true }
def FloatingAllUptoSaid : Prop := floatingAllUptoRow.holds Tryz.pinned (OpenSpec.upto floatingAllSpec)

/-- 'signalboxlaw29.AssignPasses', WHERE WHAT IT READS IS OF BULK AT MOST 1048576: true; the input reads as it did. -/
def assignPassesUptoRow : OpenClaim := { program := "ytlakbkdhdgicfaagreat", sum := "dde593e18f9cbaaac06ed02b93be50ffd65206b0212b0980f6e9895151d74ad5", func := "signalbox/signalboxlaw29.AssignPasses", spec := "assignPasses", inPlace := ["math/bits.Add64"], unfollowed := true, recurses := true, apart := false, narrowed := true }
def AssignPassesUptoSaid : Prop := assignPassesUptoRow.holds Tryz.pinned (OpenSpec.upto assignPassesSpec)

/-- 'signalboxlaw29.AssignNone', WHERE WHAT IT READS IS OF BULK AT MOST 1048576: true; the input reads as it did. -/
def assignNoneUptoRow : OpenClaim := { program := "ytlakbkdhdgicfaagreat", sum := "dde593e18f9cbaaac06ed02b93be50ffd65206b0212b0980f6e9895151d74ad5", func := "signalbox/signalboxlaw29.AssignNone", spec := "assignNone", inPlace := ["math/bits.Add64"], unfollowed := true, recurses := true, apart := false, narrowed := true }
def AssignNoneUptoSaid : Prop := assignNoneUptoRow.holds Tryz.pinned (OpenSpec.upto assignNoneSpec)

/-- 'signalboxlaw29.AssignMost', WHERE WHAT IT READS IS OF BULK AT MOST 1048576: true; the input reads as it did. -/
def assignMostUptoRow : OpenClaim := { program := "ytlakbkdhdgicfaagreat", sum := "dde593e18f9cbaaac06ed02b93be50ffd65206b0212b0980f6e9895151d74ad5", func := "signalbox/signalboxlaw29.AssignMost", spec := "assignMost", inPlace := ["math/bits.Add64"], unfollowed := true, recurses := true, apart := false, narrowed := true }
def AssignMostUptoSaid : Prop := assignMostUptoRow.holds Tryz.pinned (OpenSpec.upto assignMostSpec)

/-- 'signalboxlaw29.AssignLower', WHERE WHAT IT READS IS OF BULK AT MOST 1048576: true; the input reads as it did. -/
def assignLowerUptoRow : OpenClaim := { program := "ytlakbkdhdgicfaagreat", sum := "dde593e18f9cbaaac06ed02b93be50ffd65206b0212b0980f6e9895151d74ad5", func := "signalbox/signalboxlaw29.AssignLower", spec := "assignLower", inPlace := ["math/bits.Add64"], unfollowed := true, recurses := true, apart := false, narrowed := true }
def AssignLowerUptoSaid : Prop := assignLowerUptoRow.holds Tryz.pinned (OpenSpec.upto assignLowerSpec)

/-- 'signalboxlaw45.ScaleBy', WHERE WHAT IT READS IS OF BULK AT MOST 1048576: true; the input reads as it did. -/
def scaleByUptoRow : OpenClaim := { program := "ytlakbkdhdgicfaagreat", sum := "dde593e18f9cbaaac06ed02b93be50ffd65206b0212b0980f6e9895151d74ad5", func := "signalbox/signalboxlaw45.ScaleBy", spec := "scaleBy", inPlace := ["math/bits.Add64"], unfollowed := true, recurses := true, apart := false, narrowed := true }
def ScaleByUptoSaid : Prop := scaleByUptoRow.holds Tryz.pinned (OpenSpec.upto scaleBySpec)

/-- 'signalboxlaw45.ScaleMost', WHERE WHAT IT READS IS OF BULK AT MOST 1048576: true; the input reads as it did. -/
def scaleMostUptoRow : OpenClaim := { program := "ytlakbkdhdgicfaagreat", sum := "dde593e18f9cbaaac06ed02b93be50ffd65206b0212b0980f6e9895151d74ad5", func := "signalbox/signalboxlaw45.ScaleMost", spec := "scaleMost", inPlace := ["math/bits.Add64"], unfollowed := true, recurses := true, apart := false, narrowed := true }
def ScaleMostUptoSaid : Prop := scaleMostUptoRow.holds Tryz.pinned (OpenSpec.upto scaleMostSpec)

/-- 'signalboxlaw45.ScaleShortest', WHERE WHAT IT READS IS OF BULK AT MOST 1048576: true; the input reads as it did. -/
def scaleShortestUptoRow : OpenClaim := { program := "ytlakbkdhdgicfaagreat", sum := "dde593e18f9cbaaac06ed02b93be50ffd65206b0212b0980f6e9895151d74ad5", func := "signalbox/signalboxlaw45.ScaleShortest", spec := "scaleShortest", inPlace := ["math/bits.Add64"], unfollowed := true, recurses := true, apart := false, narrowed := true }
def ScaleShortestUptoSaid : Prop := scaleShortestUptoRow.holds Tryz.pinned (OpenSpec.upto scaleShortestSpec)

end Rows
end Go.Proofs.YtlakbkdhdgicfaaGreat
