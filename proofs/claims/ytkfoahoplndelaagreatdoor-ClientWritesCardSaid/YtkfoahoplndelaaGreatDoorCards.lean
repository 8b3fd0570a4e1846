/-
  DERIVED. GIVEN WITH THE SEED: THE CARDS: each row of YtkfoahoplndelaaGreatDoorRows.lean that lists a variable, with what it lists TIED to the program's text (the seventh form; the later family's looks); each row that meets fmt, with fmt's text TOLD by the authors' own Lean function (tested against real Go, not proved from fmt's source: count such statements apart). THE CARD IS WHAT COUNTS. Prove the row's statement (the work); the ties are given (YtkfoahoplndelaaGreatDoorTie.lean); close each card by the builder's one call (the guide's Derived/Test/ToyasCard.lean, 'card_holds'). Laid BY PROGRAM, IN A SANDBOX (cutbox-door.mjs). By AI agents, Wed Nov 11 2026. No macro, syntax, notation, axiom, sorry.
-/
import Derived.Test.YtkfoahoplndelaaGreatDoorRows
import GoSem.ClaimSeven
namespace Go.Proofs.YtkfoahoplndelaaGreatDoor
namespace Rows

/-- THE TIED CARD OF 'intarsialaw25.ScriptBack'. -/
def scriptBackCard : Claim7 := { stood := { row := scriptBackRow, standIns := [], harness := (true, "074d0c1b3884eaff85706dd76da89eec5e1c6105ce99f93a211aa8dad1a046b0"), looks := false }, kinds := [], alts := [], laidByText := true, laidKinds := [.data, .data, .data, .data, .pinned], laidTests := true, laidLooks := .later }
def ScriptBackCardSaid : Prop := Claim7.holds Tryz.pinned (.plain (OpenSpec.ofChange scriptBackSpec)) scriptBackCard

/-- THE TIED CARD OF 'intarsialaw25.ScriptLines'. -/
def scriptLinesCard : Claim7 := { stood := { row := scriptLinesRow, standIns := [], harness := (true, "074d0c1b3884eaff85706dd76da89eec5e1c6105ce99f93a211aa8dad1a046b0"), looks := false }, kinds := [], alts := [], laidByText := true, laidKinds := [.data, .data, .data, .data, .pinned], laidTests := true, laidLooks := .later }
def ScriptLinesCardSaid : Prop := Claim7.holds Tryz.pinned (.plain (OpenSpec.ofChange scriptLinesSpec)) scriptLinesCard

/-- THE TIED CARD OF 'intarsialaw25.ScriptReads'. -/
def scriptReadsCard : Claim7 := { stood := { row := scriptReadsRow, standIns := [], harness := (true, "074d0c1b3884eaff85706dd76da89eec5e1c6105ce99f93a211aa8dad1a046b0"), looks := false }, kinds := [], alts := [], laidByText := true, laidKinds := [.data, .data, .data, .data, .pinned], laidTests := true, laidLooks := .later }
def ScriptReadsCardSaid : Prop := Claim7.holds Tryz.pinned (.plain (OpenSpec.ofChange scriptReadsSpec)) scriptReadsCard

/-- THE TIED CARD OF 'intarsialaw25.ScriptPrints'. -/
def scriptPrintsCard : Claim7 := { stood := { row := scriptPrintsRow, standIns := [], harness := (true, "074d0c1b3884eaff85706dd76da89eec5e1c6105ce99f93a211aa8dad1a046b0"), looks := false }, kinds := [], alts := [], laidByText := true, laidKinds := [.data, .data, .data, .data, .pinned], laidTests := true, laidLooks := .later }
def ScriptPrintsCardSaid : Prop := Claim7.holds Tryz.pinned (.plain (OpenSpec.ofChange scriptPrintsSpec)) scriptPrintsCard

/-- THE TIED CARD OF 'intarsialaw10.WireCuts'. -/
def wireCutsCard : Claim7 := { stood := { row := wireCutsRow, standIns := [], harness := (true, "074d0c1b3884eaff85706dd76da89eec5e1c6105ce99f93a211aa8dad1a046b0"), looks := false }, kinds := [], alts := [], laidByText := true, laidKinds := [.data, .pinned], laidTests := true, laidLooks := .later }
def WireCutsCardSaid : Prop := Claim7.holds Tryz.pinned (.plain (OpenSpec.ofChange wireCutsSpec)) wireCutsCard

/-- THE TIED CARD OF 'intarsialaw10.WireReads'. -/
def wireReadsCard : Claim7 := { stood := { row := wireReadsRow, standIns := [], harness := (true, "074d0c1b3884eaff85706dd76da89eec5e1c6105ce99f93a211aa8dad1a046b0"), looks := false }, kinds := [], alts := [], laidByText := true, laidKinds := [.data, .pinned], laidTests := true, laidLooks := .later }
def WireReadsCardSaid : Prop := Claim7.holds Tryz.pinned (.plain (OpenSpec.ofChange wireReadsSpec)) wireReadsCard

/-- THE TIED CARD OF 'intarsialaw10.WireWild'. -/
def wireWildCard : Claim7 := { stood := { row := wireWildRow, standIns := [], harness := (true, "074d0c1b3884eaff85706dd76da89eec5e1c6105ce99f93a211aa8dad1a046b0"), looks := false }, kinds := [], alts := [], laidByText := true, laidKinds := [.data, .pinned], laidTests := true, laidLooks := .later }
def WireWildCardSaid : Prop := Claim7.holds Tryz.pinned (.plain (OpenSpec.ofChange wireWildSpec)) wireWildCard

/-- THE TIED CARD OF 'intarsialaw10.WireEnds'. -/
def wireEndsCard : Claim7 := { stood := { row := wireEndsRow, standIns := [], harness := (true, "074d0c1b3884eaff85706dd76da89eec5e1c6105ce99f93a211aa8dad1a046b0"), looks := false }, kinds := [], alts := [], laidByText := true, laidKinds := [.data, .pinned], laidTests := true, laidLooks := .later }
def WireEndsCardSaid : Prop := Claim7.holds Tryz.pinned (.plain (OpenSpec.ofChange wireEndsSpec)) wireEndsCard

/-- THE TIED CARD OF 'intarsialaw23.ClientFaults'. -/
def clientFaultsCard : Claim7 := { stood := { row := clientFaultsRow, standIns := [], harness := (true, "074d0c1b3884eaff85706dd76da89eec5e1c6105ce99f93a211aa8dad1a046b0"), looks := false }, kinds := [], alts := [], laidByText := true, laidKinds := [.data, .pinned], laidTests := true, laidLooks := .later }
def ClientFaultsCardSaid : Prop := Claim7.holds Tryz.pinned (.plain (OpenSpec.ofChange clientFaultsSpec)) clientFaultsCard

/-- THE TIED CARD OF 'intarsialaw23.ClientWrites'. -/
def clientWritesCard : Claim7 := { stood := { row := clientWritesRow, standIns := [], harness := (true, "074d0c1b3884eaff85706dd76da89eec5e1c6105ce99f93a211aa8dad1a046b0"), looks := false }, kinds := [], alts := [], laidByText := true, laidKinds := [.data, .pinned], laidTests := true, laidLooks := .later }
def ClientWritesCardSaid : Prop := Claim7.holds Tryz.pinned (.plain (OpenSpec.ofChange clientWritesSpec)) clientWritesCard

/-- THE SECOND FORM's CARD OF 'intarsialaw25.ScriptBack'. -/
def scriptBackUptoCard : Claim7 := { stood := { row := scriptBackUptoRow, standIns := [], harness := (true, "074d0c1b3884eaff85706dd76da89eec5e1c6105ce99f93a211aa8dad1a046b0"), looks := false }, kinds := [], alts := [], laidByText := true, laidKinds := [.data, .data, .data, .data, .pinned], laidTests := true, laidLooks := .later }
def ScriptBackUptoCardSaid : Prop := Claim7.holds Tryz.pinned (.plain (OpenSpec.upto scriptBackSpec)) scriptBackUptoCard

/-- THE SECOND FORM's CARD OF 'intarsialaw25.ScriptLines'. -/
def scriptLinesUptoCard : Claim7 := { stood := { row := scriptLinesUptoRow, standIns := [], harness := (true, "074d0c1b3884eaff85706dd76da89eec5e1c6105ce99f93a211aa8dad1a046b0"), looks := false }, kinds := [], alts := [], laidByText := true, laidKinds := [.data, .data, .data, .data, .pinned], laidTests := true, laidLooks := .later }
def ScriptLinesUptoCardSaid : Prop := Claim7.holds Tryz.pinned (.plain (OpenSpec.upto scriptLinesSpec)) scriptLinesUptoCard

/-- THE SECOND FORM's CARD OF 'intarsialaw25.ScriptReads'. -/
def scriptReadsUptoCard : Claim7 := { stood := { row := scriptReadsUptoRow, standIns := [], harness := (true, "074d0c1b3884eaff85706dd76da89eec5e1c6105ce99f93a211aa8dad1a046b0"), looks := false }, kinds := [], alts := [], laidByText := true, laidKinds := [.data, .data, .data, .data, .pinned], laidTests := true, laidLooks := .later }
def ScriptReadsUptoCardSaid : Prop := Claim7.holds Tryz.pinned (.plain (OpenSpec.upto scriptReadsSpec)) scriptReadsUptoCard

/-- THE SECOND FORM's CARD OF 'intarsialaw25.ScriptPrints'. -/
def scriptPrintsUptoCard : Claim7 := { stood := { row := scriptPrintsUptoRow, standIns := [], harness := (true, "074d0c1b3884eaff85706dd76da89eec5e1c6105ce99f93a211aa8dad1a046b0"), looks := false }, kinds := [], alts := [], laidByText := true, laidKinds := [.data, .data, .data, .data, .pinned], laidTests := true, laidLooks := .later }
def ScriptPrintsUptoCardSaid : Prop := Claim7.holds Tryz.pinned (.plain (OpenSpec.upto scriptPrintsSpec)) scriptPrintsUptoCard

/-- THE SECOND FORM's CARD OF 'intarsialaw10.WireCuts'. -/
def wireCutsUptoCard : Claim7 := { stood := { row := wireCutsUptoRow, standIns := [], harness := (true, "074d0c1b3884eaff85706dd76da89eec5e1c6105ce99f93a211aa8dad1a046b0"), looks := false }, kinds := [], alts := [], laidByText := true, laidKinds := [.data, .pinned], laidTests := true, laidLooks := .later }
def WireCutsUptoCardSaid : Prop := Claim7.holds Tryz.pinned (.plain (OpenSpec.upto wireCutsSpec)) wireCutsUptoCard

/-- THE SECOND FORM's CARD OF 'intarsialaw10.WireReads'. -/
def wireReadsUptoCard : Claim7 := { stood := { row := wireReadsUptoRow, standIns := [], harness := (true, "074d0c1b3884eaff85706dd76da89eec5e1c6105ce99f93a211aa8dad1a046b0"), looks := false }, kinds := [], alts := [], laidByText := true, laidKinds := [.data, .pinned], laidTests := true, laidLooks := .later }
def WireReadsUptoCardSaid : Prop := Claim7.holds Tryz.pinned (.plain (OpenSpec.upto wireReadsSpec)) wireReadsUptoCard

/-- THE SECOND FORM's CARD OF 'intarsialaw10.WireWild'. -/
def wireWildUptoCard : Claim7 := { stood := { row := wireWildUptoRow, standIns := [], harness := (true, "074d0c1b3884eaff85706dd76da89eec5e1c6105ce99f93a211aa8dad1a046b0"), looks := false }, kinds := [], alts := [], laidByText := true, laidKinds := [.data, .pinned], laidTests := true, laidLooks := .later }
def WireWildUptoCardSaid : Prop := Claim7.holds Tryz.pinned (.plain (OpenSpec.upto wireWildSpec)) wireWildUptoCard

/-- THE SECOND FORM's CARD OF 'intarsialaw10.WireEnds'. -/
def wireEndsUptoCard : Claim7 := { stood := { row := wireEndsUptoRow, standIns := [], harness := (true, "074d0c1b3884eaff85706dd76da89eec5e1c6105ce99f93a211aa8dad1a046b0"), looks := false }, kinds := [], alts := [], laidByText := true, laidKinds := [.data, .pinned], laidTests := true, laidLooks := .later }
def WireEndsUptoCardSaid : Prop := Claim7.holds Tryz.pinned (.plain (OpenSpec.upto wireEndsSpec)) wireEndsUptoCard

/-- THE SECOND FORM's CARD OF 'intarsialaw23.ClientFaults'. -/
def clientFaultsUptoCard : Claim7 := { stood := { row := clientFaultsUptoRow, standIns := [], harness := (true, "074d0c1b3884eaff85706dd76da89eec5e1c6105ce99f93a211aa8dad1a046b0"), looks := false }, kinds := [], alts := [], laidByText := true, laidKinds := [.data, .pinned], laidTests := true, laidLooks := .later }
def ClientFaultsUptoCardSaid : Prop := Claim7.holds Tryz.pinned (.plain (OpenSpec.upto clientFaultsSpec)) clientFaultsUptoCard

/-- THE SECOND FORM's CARD OF 'intarsialaw23.ClientWrites'. -/
def clientWritesUptoCard : Claim7 := { stood := { row := clientWritesUptoRow, standIns := [], harness := (true, "074d0c1b3884eaff85706dd76da89eec5e1c6105ce99f93a211aa8dad1a046b0"), looks := false }, kinds := [], alts := [], laidByText := true, laidKinds := [.data, .pinned], laidTests := true, laidLooks := .later }
def ClientWritesUptoCardSaid : Prop := Claim7.holds Tryz.pinned (.plain (OpenSpec.upto clientWritesSpec)) clientWritesUptoCard
end Rows
end Go.Proofs.YtkfoahoplndelaaGreatDoor
