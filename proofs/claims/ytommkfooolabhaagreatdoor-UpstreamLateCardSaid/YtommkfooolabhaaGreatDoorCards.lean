/-
  DERIVED. GIVEN WITH THE SEED: THE CARDS: each row of YtommkfooolabhaaGreatDoorRows.lean that lists a variable, with what it lists TIED to the program's text (the seventh form; the later family's looks); each row that meets fmt, with fmt's text TOLD by the authors' own Lean function (tested against real Go, not proved from fmt's source: count such statements apart). THE CARD IS WHAT COUNTS. Prove the row's statement (the work); the ties are given (YtommkfooolabhaaGreatDoorTie.lean); close each card by the builder's one call (the guide's Derived/Test/ToyasCard.lean, 'card_holds'). Laid BY PROGRAM, IN A SANDBOX (cutbox-door.mjs). By AI agents, Wed Nov 11 2026. No macro, syntax, notation, axiom, sorry.
-/
import Derived.Test.YtommkfooolabhaaGreatDoorRows
import GoSem.ClaimSeven
namespace Go.Proofs.YtommkfooolabhaaGreatDoor
namespace Rows

/-- THE TIED CARD OF 'intarsialaw22.UpstreamAgain'. -/
def upstreamAgainCard : Claim7 := { stood := { row := upstreamAgainRow, standIns := [], harness := (true, "7c02c52aac2937b33e24847e4d2c6f115a79df3074c36444642b754219f522c3"), looks := true }, kinds := [], alts := [], laidByText := true, laidKinds := [.data, .pinned], laidTests := true, laidLooks := .later }
def UpstreamAgainCardSaid : Prop := Claim7.holds Tryz.pinned (.plain (OpenSpec.ofChange upstreamAgainSpec)) upstreamAgainCard

/-- THE TIED CARD OF 'intarsialaw22.UpstreamDoes'. -/
def upstreamDoesCard : Claim7 := { stood := { row := upstreamDoesRow, standIns := [], harness := (true, "7c02c52aac2937b33e24847e4d2c6f115a79df3074c36444642b754219f522c3"), looks := true }, kinds := [], alts := [], laidByText := true, laidKinds := [.data, .pinned], laidTests := true, laidLooks := .later }
def UpstreamDoesCardSaid : Prop := Claim7.holds Tryz.pinned (.plain (OpenSpec.ofChange upstreamDoesSpec)) upstreamDoesCard

/-- THE TIED CARD OF 'intarsialaw22.UpstreamOnce'. -/
def upstreamOnceCard : Claim7 := { stood := { row := upstreamOnceRow, standIns := [], harness := (true, "7c02c52aac2937b33e24847e4d2c6f115a79df3074c36444642b754219f522c3"), looks := true }, kinds := [], alts := [], laidByText := true, laidKinds := [.data, .pinned], laidTests := true, laidLooks := .later }
def UpstreamOnceCardSaid : Prop := Claim7.holds Tryz.pinned (.plain (OpenSpec.ofChange upstreamOnceSpec)) upstreamOnceCard

/-- THE TIED CARD OF 'intarsialaw22.UpstreamCuts'. -/
def upstreamCutsCard : Claim7 := { stood := { row := upstreamCutsRow, standIns := [], harness := (true, "7c02c52aac2937b33e24847e4d2c6f115a79df3074c36444642b754219f522c3"), looks := true }, kinds := [], alts := [], laidByText := true, laidKinds := [.data, .pinned], laidTests := true, laidLooks := .later }
def UpstreamCutsCardSaid : Prop := Claim7.holds Tryz.pinned (.plain (OpenSpec.ofChange upstreamCutsSpec)) upstreamCutsCard

/-- THE TIED CARD OF 'intarsialaw22.UpstreamCaps'. -/
def upstreamCapsCard : Claim7 := { stood := { row := upstreamCapsRow, standIns := [], harness := (true, "7c02c52aac2937b33e24847e4d2c6f115a79df3074c36444642b754219f522c3"), looks := true }, kinds := [], alts := [], laidByText := true, laidKinds := [.data, .data, .data, .data, .pinned], laidTests := true, laidLooks := .later }
def UpstreamCapsCardSaid : Prop := Claim7.holds Tryz.pinned (.plain (OpenSpec.ofChange upstreamCapsSpec)) upstreamCapsCard

/-- THE TIED CARD OF 'intarsialaw22.UpstreamLate'. -/
def upstreamLateCard : Claim7 := { stood := { row := upstreamLateRow, standIns := [], harness := (true, "7c02c52aac2937b33e24847e4d2c6f115a79df3074c36444642b754219f522c3"), looks := true }, kinds := [], alts := [], laidByText := true, laidKinds := [.data, .data, .data, .data, .pinned], laidTests := true, laidLooks := .later }
def UpstreamLateCardSaid : Prop := Claim7.holds Tryz.pinned (.plain (OpenSpec.ofChange upstreamLateSpec)) upstreamLateCard

/-- THE SECOND FORM's CARD OF 'intarsialaw22.UpstreamAgain'. -/
def upstreamAgainUptoCard : Claim7 := { stood := { row := upstreamAgainUptoRow, standIns := [], harness := (true, "7c02c52aac2937b33e24847e4d2c6f115a79df3074c36444642b754219f522c3"), looks := true }, kinds := [], alts := [], laidByText := true, laidKinds := [.data, .pinned], laidTests := true, laidLooks := .later }
def UpstreamAgainUptoCardSaid : Prop := Claim7.holds Tryz.pinned (.plain (OpenSpec.upto upstreamAgainSpec)) upstreamAgainUptoCard

/-- THE SECOND FORM's CARD OF 'intarsialaw22.UpstreamDoes'. -/
def upstreamDoesUptoCard : Claim7 := { stood := { row := upstreamDoesUptoRow, standIns := [], harness := (true, "7c02c52aac2937b33e24847e4d2c6f115a79df3074c36444642b754219f522c3"), looks := true }, kinds := [], alts := [], laidByText := true, laidKinds := [.data, .pinned], laidTests := true, laidLooks := .later }
def UpstreamDoesUptoCardSaid : Prop := Claim7.holds Tryz.pinned (.plain (OpenSpec.upto upstreamDoesSpec)) upstreamDoesUptoCard

/-- THE SECOND FORM's CARD OF 'intarsialaw22.UpstreamOnce'. -/
def upstreamOnceUptoCard : Claim7 := { stood := { row := upstreamOnceUptoRow, standIns := [], harness := (true, "7c02c52aac2937b33e24847e4d2c6f115a79df3074c36444642b754219f522c3"), looks := true }, kinds := [], alts := [], laidByText := true, laidKinds := [.data, .pinned], laidTests := true, laidLooks := .later }
def UpstreamOnceUptoCardSaid : Prop := Claim7.holds Tryz.pinned (.plain (OpenSpec.upto upstreamOnceSpec)) upstreamOnceUptoCard

/-- THE SECOND FORM's CARD OF 'intarsialaw22.UpstreamCuts'. -/
def upstreamCutsUptoCard : Claim7 := { stood := { row := upstreamCutsUptoRow, standIns := [], harness := (true, "7c02c52aac2937b33e24847e4d2c6f115a79df3074c36444642b754219f522c3"), looks := true }, kinds := [], alts := [], laidByText := true, laidKinds := [.data, .pinned], laidTests := true, laidLooks := .later }
def UpstreamCutsUptoCardSaid : Prop := Claim7.holds Tryz.pinned (.plain (OpenSpec.upto upstreamCutsSpec)) upstreamCutsUptoCard

/-- THE SECOND FORM's CARD OF 'intarsialaw22.UpstreamCaps'. -/
def upstreamCapsUptoCard : Claim7 := { stood := { row := upstreamCapsUptoRow, standIns := [], harness := (true, "7c02c52aac2937b33e24847e4d2c6f115a79df3074c36444642b754219f522c3"), looks := true }, kinds := [], alts := [], laidByText := true, laidKinds := [.data, .data, .data, .data, .pinned], laidTests := true, laidLooks := .later }
def UpstreamCapsUptoCardSaid : Prop := Claim7.holds Tryz.pinned (.plain (OpenSpec.upto upstreamCapsSpec)) upstreamCapsUptoCard

/-- THE SECOND FORM's CARD OF 'intarsialaw22.UpstreamLate'. -/
def upstreamLateUptoCard : Claim7 := { stood := { row := upstreamLateUptoRow, standIns := [], harness := (true, "7c02c52aac2937b33e24847e4d2c6f115a79df3074c36444642b754219f522c3"), looks := true }, kinds := [], alts := [], laidByText := true, laidKinds := [.data, .data, .data, .data, .pinned], laidTests := true, laidLooks := .later }
def UpstreamLateUptoCardSaid : Prop := Claim7.holds Tryz.pinned (.plain (OpenSpec.upto upstreamLateSpec)) upstreamLateUptoCard
end Rows
end Go.Proofs.YtommkfooolabhaaGreatDoor
