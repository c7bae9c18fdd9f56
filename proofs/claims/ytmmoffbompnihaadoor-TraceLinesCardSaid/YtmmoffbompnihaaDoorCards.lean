/-
  DERIVED. GIVEN WITH THE SEED: THE CARDS: each row of YtmmoffbompnihaaDoorRows.lean that lists a variable, with what it lists TIED to the program's text (the seventh form; the later family's looks); each row that meets fmt, with fmt's text TOLD by the authors' own Lean function (tested against real Go, not proved from fmt's source: count such statements apart). THE CARD IS WHAT COUNTS. Prove the row's statement (the work); the ties are given (YtmmoffbompnihaaDoorTie.lean); close each card by the builder's one call (the guide's Derived/Test/ToyasCard.lean, 'card_holds'). Laid BY PROGRAM, IN A SANDBOX (cutbox-door.mjs). By AI agents, Wed Nov 11 2026. No macro, syntax, notation, axiom, sorry.
-/
import Derived.Test.YtmmoffbompnihaaDoorRows
import GoSem.ClaimSeven
namespace Go.Proofs.YtmmoffbompnihaaDoor
namespace Rows

/-- THE TIED CARD OF 'signalboxlaw20.TraceLines'. -/
def traceLinesCard : Claim7 := { stood := { row := traceLinesRow, standIns := [], harness := (true, "f95bd3bf727605d0865b944d5f750fe85c221c33f9cf826df39585fed3e0022f"), looks := true }, kinds := [], alts := [], laidByText := true, laidKinds := [.data, .data, .data, .data, .sentinel, .sentinel, .pinned], laidTests := true, laidLooks := .later }
def TraceLinesCardSaid : Prop := Claim7.holds Tryd.pinned (.plain (OpenSpec.ofChange traceLinesSpec)) traceLinesCard

/-- THE TIED CARD OF 'signalboxlaw20.TraceReads'. -/
def traceReadsCard : Claim7 := { stood := { row := traceReadsRow, standIns := [], harness := (true, "f95bd3bf727605d0865b944d5f750fe85c221c33f9cf826df39585fed3e0022f"), looks := true }, kinds := [], alts := [], laidByText := true, laidKinds := [.data, .data, .data, .data, .sentinel, .sentinel, .pinned], laidTests := true, laidLooks := .later }
def TraceReadsCardSaid : Prop := Claim7.holds Tryd.pinned (.plain (OpenSpec.ofChange traceReadsSpec)) traceReadsCard

/-- THE TIED CARD OF 'signalboxlaw20.TraceTexts'. -/
def traceTextsCard : Claim7 := { stood := { row := traceTextsRow, standIns := [], harness := (true, "f95bd3bf727605d0865b944d5f750fe85c221c33f9cf826df39585fed3e0022f"), looks := true }, kinds := [], alts := [], laidByText := true, laidKinds := [.data, .data, .data, .data, .sentinel, .sentinel, .pinned], laidTests := true, laidLooks := .later }
def TraceTextsCardSaid : Prop := Claim7.holds Tryd.pinned (.plain (OpenSpec.ofChange traceTextsSpec)) traceTextsCard

/-- THE TIED CARD OF 'signalboxlaw21.ScriptLines'. -/
def scriptLinesCard : Claim7 := { stood := { row := scriptLinesRow, standIns := [], harness := (true, "f95bd3bf727605d0865b944d5f750fe85c221c33f9cf826df39585fed3e0022f"), looks := true }, kinds := [], alts := [], laidByText := true, laidKinds := [.data, .data, .data, .data, .sentinel, .sentinel, .pinned], laidTests := true, laidLooks := .later }
def ScriptLinesCardSaid : Prop := Claim7.holds Tryd.pinned (.plain (OpenSpec.ofChange scriptLinesSpec)) scriptLinesCard

/-- THE TIED CARD OF 'signalboxlaw21.ScriptReads'. -/
def scriptReadsCard : Claim7 := { stood := { row := scriptReadsRow, standIns := [], harness := (true, "f95bd3bf727605d0865b944d5f750fe85c221c33f9cf826df39585fed3e0022f"), looks := true }, kinds := [], alts := [], laidByText := true, laidKinds := [.data, .data, .data, .data, .sentinel, .sentinel, .pinned], laidTests := true, laidLooks := .later }
def ScriptReadsCardSaid : Prop := Claim7.holds Tryd.pinned (.plain (OpenSpec.ofChange scriptReadsSpec)) scriptReadsCard

/-- THE TIED CARD OF 'signalboxlaw21.ScriptTexts'. -/
def scriptTextsCard : Claim7 := { stood := { row := scriptTextsRow, standIns := [], harness := (true, "f95bd3bf727605d0865b944d5f750fe85c221c33f9cf826df39585fed3e0022f"), looks := true }, kinds := [], alts := [], laidByText := true, laidKinds := [.data, .data, .data, .data, .sentinel, .sentinel, .pinned], laidTests := true, laidLooks := .later }
def ScriptTextsCardSaid : Prop := Claim7.holds Tryd.pinned (.plain (OpenSpec.ofChange scriptTextsSpec)) scriptTextsCard

/-- THE TIED CARD OF 'signalboxlaw06.ProgChecks'. -/
def progChecksCard : Claim7 := { stood := { row := progChecksRow, standIns := [], harness := (true, "f95bd3bf727605d0865b944d5f750fe85c221c33f9cf826df39585fed3e0022f"), looks := true }, kinds := [], alts := [], laidByText := true, laidKinds := [.data, .data, .data, .data, .sentinel, .sentinel, .pinned], laidTests := true, laidLooks := .later }
def ProgChecksCardSaid : Prop := Claim7.holds Tryd.pinned (.plain (OpenSpec.ofChange progChecksSpec)) progChecksCard

/-- THE TIED CARD OF 'signalboxlaw06.ProgTexts'. -/
def progTextsCard : Claim7 := { stood := { row := progTextsRow, standIns := [], harness := (true, "f95bd3bf727605d0865b944d5f750fe85c221c33f9cf826df39585fed3e0022f"), looks := true }, kinds := [], alts := [], laidByText := true, laidKinds := [.data, .data, .data, .data, .sentinel, .sentinel, .pinned], laidTests := true, laidLooks := .later }
def ProgTextsCardSaid : Prop := Claim7.holds Tryd.pinned (.plain (OpenSpec.ofChange progTextsSpec)) progTextsCard

/-- THE TIED CARD OF 'signalboxlaw34.GanttTexts'. -/
def ganttTextsCard : Claim7 := { stood := { row := ganttTextsRow, standIns := [], harness := (true, "f95bd3bf727605d0865b944d5f750fe85c221c33f9cf826df39585fed3e0022f"), looks := true }, kinds := [], alts := [], laidByText := true, laidKinds := [.data, .data, .data], laidTests := true, laidLooks := .later }
def GanttTextsCardSaid : Prop := Claim7.holds Tryd.pinned (.plain (OpenSpec.ofChange ganttTextsSpec)) ganttTextsCard

/-- THE SECOND FORM's CARD OF 'signalboxlaw20.TraceLines'. -/
def traceLinesUptoCard : Claim7 := { stood := { row := traceLinesUptoRow, standIns := [], harness := (true, "f95bd3bf727605d0865b944d5f750fe85c221c33f9cf826df39585fed3e0022f"), looks := true }, kinds := [], alts := [], laidByText := true, laidKinds := [.data, .data, .data, .data, .sentinel, .sentinel, .pinned], laidTests := true, laidLooks := .later }
def TraceLinesUptoCardSaid : Prop := Claim7.holds Tryd.pinned (.plain (OpenSpec.upto traceLinesSpec)) traceLinesUptoCard

/-- THE SECOND FORM's CARD OF 'signalboxlaw20.TraceReads'. -/
def traceReadsUptoCard : Claim7 := { stood := { row := traceReadsUptoRow, standIns := [], harness := (true, "f95bd3bf727605d0865b944d5f750fe85c221c33f9cf826df39585fed3e0022f"), looks := true }, kinds := [], alts := [], laidByText := true, laidKinds := [.data, .data, .data, .data, .sentinel, .sentinel, .pinned], laidTests := true, laidLooks := .later }
def TraceReadsUptoCardSaid : Prop := Claim7.holds Tryd.pinned (.plain (OpenSpec.upto traceReadsSpec)) traceReadsUptoCard

/-- THE SECOND FORM's CARD OF 'signalboxlaw20.TraceTexts'. -/
def traceTextsUptoCard : Claim7 := { stood := { row := traceTextsUptoRow, standIns := [], harness := (true, "f95bd3bf727605d0865b944d5f750fe85c221c33f9cf826df39585fed3e0022f"), looks := true }, kinds := [], alts := [], laidByText := true, laidKinds := [.data, .data, .data, .data, .sentinel, .sentinel, .pinned], laidTests := true, laidLooks := .later }
def TraceTextsUptoCardSaid : Prop := Claim7.holds Tryd.pinned (.plain (OpenSpec.upto traceTextsSpec)) traceTextsUptoCard

/-- THE SECOND FORM's CARD OF 'signalboxlaw21.ScriptLines'. -/
def scriptLinesUptoCard : Claim7 := { stood := { row := scriptLinesUptoRow, standIns := [], harness := (true, "f95bd3bf727605d0865b944d5f750fe85c221c33f9cf826df39585fed3e0022f"), looks := true }, kinds := [], alts := [], laidByText := true, laidKinds := [.data, .data, .data, .data, .sentinel, .sentinel, .pinned], laidTests := true, laidLooks := .later }
def ScriptLinesUptoCardSaid : Prop := Claim7.holds Tryd.pinned (.plain (OpenSpec.upto scriptLinesSpec)) scriptLinesUptoCard

/-- THE SECOND FORM's CARD OF 'signalboxlaw21.ScriptReads'. -/
def scriptReadsUptoCard : Claim7 := { stood := { row := scriptReadsUptoRow, standIns := [], harness := (true, "f95bd3bf727605d0865b944d5f750fe85c221c33f9cf826df39585fed3e0022f"), looks := true }, kinds := [], alts := [], laidByText := true, laidKinds := [.data, .data, .data, .data, .sentinel, .sentinel, .pinned], laidTests := true, laidLooks := .later }
def ScriptReadsUptoCardSaid : Prop := Claim7.holds Tryd.pinned (.plain (OpenSpec.upto scriptReadsSpec)) scriptReadsUptoCard

/-- THE SECOND FORM's CARD OF 'signalboxlaw21.ScriptTexts'. -/
def scriptTextsUptoCard : Claim7 := { stood := { row := scriptTextsUptoRow, standIns := [], harness := (true, "f95bd3bf727605d0865b944d5f750fe85c221c33f9cf826df39585fed3e0022f"), looks := true }, kinds := [], alts := [], laidByText := true, laidKinds := [.data, .data, .data, .data, .sentinel, .sentinel, .pinned], laidTests := true, laidLooks := .later }
def ScriptTextsUptoCardSaid : Prop := Claim7.holds Tryd.pinned (.plain (OpenSpec.upto scriptTextsSpec)) scriptTextsUptoCard

/-- THE SECOND FORM's CARD OF 'signalboxlaw06.ProgChecks'. -/
def progChecksUptoCard : Claim7 := { stood := { row := progChecksUptoRow, standIns := [], harness := (true, "f95bd3bf727605d0865b944d5f750fe85c221c33f9cf826df39585fed3e0022f"), looks := true }, kinds := [], alts := [], laidByText := true, laidKinds := [.data, .data, .data, .data, .sentinel, .sentinel, .pinned], laidTests := true, laidLooks := .later }
def ProgChecksUptoCardSaid : Prop := Claim7.holds Tryd.pinned (.plain (OpenSpec.upto progChecksSpec)) progChecksUptoCard

/-- THE SECOND FORM's CARD OF 'signalboxlaw06.ProgTexts'. -/
def progTextsUptoCard : Claim7 := { stood := { row := progTextsUptoRow, standIns := [], harness := (true, "f95bd3bf727605d0865b944d5f750fe85c221c33f9cf826df39585fed3e0022f"), looks := true }, kinds := [], alts := [], laidByText := true, laidKinds := [.data, .data, .data, .data, .sentinel, .sentinel, .pinned], laidTests := true, laidLooks := .later }
def ProgTextsUptoCardSaid : Prop := Claim7.holds Tryd.pinned (.plain (OpenSpec.upto progTextsSpec)) progTextsUptoCard

/-- THE SECOND FORM's CARD OF 'signalboxlaw34.GanttTexts'. -/
def ganttTextsUptoCard : Claim7 := { stood := { row := ganttTextsUptoRow, standIns := [], harness := (true, "f95bd3bf727605d0865b944d5f750fe85c221c33f9cf826df39585fed3e0022f"), looks := true }, kinds := [], alts := [], laidByText := true, laidKinds := [.data, .data, .data], laidTests := true, laidLooks := .later }
def GanttTextsUptoCardSaid : Prop := Claim7.holds Tryd.pinned (.plain (OpenSpec.upto ganttTextsSpec)) ganttTextsUptoCard
end Rows
end Go.Proofs.YtmmoffbompnihaaDoor
