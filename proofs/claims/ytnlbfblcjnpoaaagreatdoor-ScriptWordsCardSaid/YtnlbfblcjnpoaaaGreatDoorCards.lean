/-
  DERIVED. GIVEN WITH THE SEED: THE CARDS: each row of YtnlbfblcjnpoaaaGreatDoorRows.lean that lists a variable, with what it lists TIED to the program's text (the seventh form; the later family's looks); each row that meets fmt, with fmt's text TOLD by the authors' own Lean function (tested against real Go, not proved from fmt's source: count such statements apart). THE CARD IS WHAT COUNTS. Prove the row's statement (the work); the ties are given (YtnlbfblcjnpoaaaGreatDoorTie.lean); close each card by the builder's one call (the guide's Derived/Test/ToyasCard.lean, 'card_holds'). Laid BY PROGRAM, IN A SANDBOX (cutbox-door.mjs). By AI agents, Wed Nov 11 2026. No macro, syntax, notation, axiom, sorry.
-/
import Derived.Test.YtnlbfblcjnpoaaaGreatDoorRows
import GoSem.ClaimSeven
namespace Go.Proofs.YtnlbfblcjnpoaaaGreatDoor
namespace Rows

/-- THE TIED CARD OF 'warpbeamlaw14.BothOpaque'. -/
def bothOpaqueCard : Claim7 := { stood := { row := bothOpaqueRow, standIns := [], harness := (true, "7988eec4d4df6279d49f2974218da6453a8eb02fba195885369fa3b0d9839e44"), looks := true }, kinds := [], alts := [], laidByText := true, laidKinds := [.data], laidTests := true, laidLooks := .later }
def BothOpaqueCardSaid : Prop := Claim7.holds Tryz.pinned (.plain (OpenSpec.ofChange bothOpaqueSpec)) bothOpaqueCard

/-- THE TIED CARD OF 'warpbeamlaw20.SchedOpaque'. -/
def schedOpaqueCard : Claim7 := { stood := { row := schedOpaqueRow, standIns := [], harness := (true, "7988eec4d4df6279d49f2974218da6453a8eb02fba195885369fa3b0d9839e44"), looks := true }, kinds := [], alts := [], laidByText := true, laidKinds := [.data], laidTests := true, laidLooks := .later }
def SchedOpaqueCardSaid : Prop := Claim7.holds Tryz.pinned (.plain (OpenSpec.ofChange schedOpaqueSpec)) schedOpaqueCard

/-- THE TIED CARD OF 'warpbeamlaw21.ScriptWords'. -/
def scriptWordsCard : Claim7 := { stood := { row := scriptWordsRow, standIns := [], harness := (true, "7988eec4d4df6279d49f2974218da6453a8eb02fba195885369fa3b0d9839e44"), looks := true }, kinds := [], alts := [], laidByText := true, laidKinds := [.data, .data, .data, .data, .pinned], laidTests := true, laidLooks := .later }
def ScriptWordsCardSaid : Prop := Claim7.holds Tryz.pinned (.plain (OpenSpec.ofChange scriptWordsSpec)) scriptWordsCard

/-- THE TIED CARD OF 'warpbeamlaw21.ScriptLines'. -/
def scriptLinesCard : Claim7 := { stood := { row := scriptLinesRow, standIns := [], harness := (true, "7988eec4d4df6279d49f2974218da6453a8eb02fba195885369fa3b0d9839e44"), looks := true }, kinds := [], alts := [], laidByText := true, laidKinds := [.data, .data, .data, .data, .pinned], laidTests := true, laidLooks := .later }
def ScriptLinesCardSaid : Prop := Claim7.holds Tryz.pinned (.plain (OpenSpec.ofChange scriptLinesSpec)) scriptLinesCard

/-- THE TIED CARD OF 'warpbeamlaw21.ScriptParts'. -/
def scriptPartsCard : Claim7 := { stood := { row := scriptPartsRow, standIns := [], harness := (true, "7988eec4d4df6279d49f2974218da6453a8eb02fba195885369fa3b0d9839e44"), looks := true }, kinds := [], alts := [], laidByText := true, laidKinds := [.data, .data, .data, .data, .pinned], laidTests := true, laidLooks := .later }
def ScriptPartsCardSaid : Prop := Claim7.holds Tryz.pinned (.plain (OpenSpec.ofChange scriptPartsSpec)) scriptPartsCard

/-- THE TIED CARD OF 'warpbeamlaw21.ScriptBlanks'. -/
def scriptBlanksCard : Claim7 := { stood := { row := scriptBlanksRow, standIns := [], harness := (true, "7988eec4d4df6279d49f2974218da6453a8eb02fba195885369fa3b0d9839e44"), looks := true }, kinds := [], alts := [], laidByText := true, laidKinds := [.data, .data, .data, .data, .pinned], laidTests := true, laidLooks := .later }
def ScriptBlanksCardSaid : Prop := Claim7.holds Tryz.pinned (.plain (OpenSpec.ofChange scriptBlanksSpec)) scriptBlanksCard

/-- THE SECOND FORM's CARD OF 'warpbeamlaw14.BothOpaque'. -/
def bothOpaqueUptoCard : Claim7 := { stood := { row := bothOpaqueUptoRow, standIns := [], harness := (true, "7988eec4d4df6279d49f2974218da6453a8eb02fba195885369fa3b0d9839e44"), looks := true }, kinds := [], alts := [], laidByText := true, laidKinds := [.data], laidTests := true, laidLooks := .later }
def BothOpaqueUptoCardSaid : Prop := Claim7.holds Tryz.pinned (.plain (OpenSpec.upto bothOpaqueSpec)) bothOpaqueUptoCard

/-- THE SECOND FORM's CARD OF 'warpbeamlaw20.SchedOpaque'. -/
def schedOpaqueUptoCard : Claim7 := { stood := { row := schedOpaqueUptoRow, standIns := [], harness := (true, "7988eec4d4df6279d49f2974218da6453a8eb02fba195885369fa3b0d9839e44"), looks := true }, kinds := [], alts := [], laidByText := true, laidKinds := [.data], laidTests := true, laidLooks := .later }
def SchedOpaqueUptoCardSaid : Prop := Claim7.holds Tryz.pinned (.plain (OpenSpec.upto schedOpaqueSpec)) schedOpaqueUptoCard

/-- THE SECOND FORM's CARD OF 'warpbeamlaw21.ScriptWords'. -/
def scriptWordsUptoCard : Claim7 := { stood := { row := scriptWordsUptoRow, standIns := [], harness := (true, "7988eec4d4df6279d49f2974218da6453a8eb02fba195885369fa3b0d9839e44"), looks := true }, kinds := [], alts := [], laidByText := true, laidKinds := [.data, .data, .data, .data, .pinned], laidTests := true, laidLooks := .later }
def ScriptWordsUptoCardSaid : Prop := Claim7.holds Tryz.pinned (.plain (OpenSpec.upto scriptWordsSpec)) scriptWordsUptoCard

/-- THE SECOND FORM's CARD OF 'warpbeamlaw21.ScriptLines'. -/
def scriptLinesUptoCard : Claim7 := { stood := { row := scriptLinesUptoRow, standIns := [], harness := (true, "7988eec4d4df6279d49f2974218da6453a8eb02fba195885369fa3b0d9839e44"), looks := true }, kinds := [], alts := [], laidByText := true, laidKinds := [.data, .data, .data, .data, .pinned], laidTests := true, laidLooks := .later }
def ScriptLinesUptoCardSaid : Prop := Claim7.holds Tryz.pinned (.plain (OpenSpec.upto scriptLinesSpec)) scriptLinesUptoCard

/-- THE SECOND FORM's CARD OF 'warpbeamlaw21.ScriptParts'. -/
def scriptPartsUptoCard : Claim7 := { stood := { row := scriptPartsUptoRow, standIns := [], harness := (true, "7988eec4d4df6279d49f2974218da6453a8eb02fba195885369fa3b0d9839e44"), looks := true }, kinds := [], alts := [], laidByText := true, laidKinds := [.data, .data, .data, .data, .pinned], laidTests := true, laidLooks := .later }
def ScriptPartsUptoCardSaid : Prop := Claim7.holds Tryz.pinned (.plain (OpenSpec.upto scriptPartsSpec)) scriptPartsUptoCard

/-- THE SECOND FORM's CARD OF 'warpbeamlaw21.ScriptBlanks'. -/
def scriptBlanksUptoCard : Claim7 := { stood := { row := scriptBlanksUptoRow, standIns := [], harness := (true, "7988eec4d4df6279d49f2974218da6453a8eb02fba195885369fa3b0d9839e44"), looks := true }, kinds := [], alts := [], laidByText := true, laidKinds := [.data, .data, .data, .data, .pinned], laidTests := true, laidLooks := .later }
def ScriptBlanksUptoCardSaid : Prop := Claim7.holds Tryz.pinned (.plain (OpenSpec.upto scriptBlanksSpec)) scriptBlanksUptoCard
end Rows
end Go.Proofs.YtnlbfblcjnpoaaaGreatDoor
