/-
  DERIVED. GIVEN WITH THE SEED: THE CARDS: each row of YtpionnihpibglaaGreatDoorRows.lean that lists a variable, with what it lists TIED to the program's text (the seventh form; the later family's looks); each row that meets fmt, with fmt's text TOLD by the authors' own Lean function (tested against real Go, not proved from fmt's source: count such statements apart). THE CARD IS WHAT COUNTS. Prove the row's statement (the work); the ties are given (YtpionnihpibglaaGreatDoorTie.lean); close each card by the builder's one call (the guide's Derived/Test/ToyasCard.lean, 'card_holds'). Laid BY PROGRAM, IN A SANDBOX (cutbox-door.mjs). By AI agents, Wed Nov 11 2026. No macro, syntax, notation, axiom, sorry.
-/
import Derived.Test.YtpionnihpibglaaGreatDoorRows
import GoSem.ClaimSeven
namespace Go.Proofs.YtpionnihpibglaaGreatDoor
namespace Rows

/-- THE TIED CARD OF 'intarsialaw10.WireWrites'. -/
def wireWritesCard : Claim7 := { stood := { row := wireWritesRow, standIns := [], harness := (true, "a603b6b9b9401121a7b687d27458eabfe861105e2f95f3117fb00a0d67a9a931"), looks := false }, kinds := [], alts := [], laidByText := true, laidKinds := [.data, .data, .data, .data, .pinned], laidTests := true, laidLooks := .later }
def WireWritesCardSaid : Prop := Claim7.holds Tryz.pinned (.plain (OpenSpec.ofChange wireWritesSpec)) wireWritesCard

/-- THE TIED CARD OF 'intarsialaw10.WireBack'. -/
def wireBackCard : Claim7 := { stood := { row := wireBackRow, standIns := [], harness := (true, "a603b6b9b9401121a7b687d27458eabfe861105e2f95f3117fb00a0d67a9a931"), looks := false }, kinds := [], alts := [], laidByText := true, laidKinds := [.data, .data, .data, .data, .pinned], laidTests := true, laidLooks := .later }
def WireBackCardSaid : Prop := Claim7.holds Tryz.pinned (.plain (OpenSpec.ofChange wireBackSpec)) wireBackCard

/-- THE TIED CARD OF 'intarsialaw10.WireRow'. -/
def wireRowCard : Claim7 := { stood := { row := wireRowRow, standIns := [], harness := (true, "a603b6b9b9401121a7b687d27458eabfe861105e2f95f3117fb00a0d67a9a931"), looks := false }, kinds := [], alts := [], laidByText := true, laidKinds := [.data, .data, .data, .data, .pinned], laidTests := true, laidLooks := .later }
def WireRowCardSaid : Prop := Claim7.holds Tryz.pinned (.plain (OpenSpec.ofChange wireRowSpec)) wireRowCard

/-- THE TIED CARD OF 'intarsialaw10.WireStops'. -/
def wireStopsCard : Claim7 := { stood := { row := wireStopsRow, standIns := [], harness := (true, "a603b6b9b9401121a7b687d27458eabfe861105e2f95f3117fb00a0d67a9a931"), looks := false }, kinds := [], alts := [], laidByText := true, laidKinds := [.data, .data, .data, .data, .pinned], laidTests := true, laidLooks := .later }
def WireStopsCardSaid : Prop := Claim7.holds Tryz.pinned (.plain (OpenSpec.ofChange wireStopsSpec)) wireStopsCard

/-- THE SECOND FORM's CARD OF 'intarsialaw10.WireWrites'. -/
def wireWritesUptoCard : Claim7 := { stood := { row := wireWritesUptoRow, standIns := [], harness := (true, "a603b6b9b9401121a7b687d27458eabfe861105e2f95f3117fb00a0d67a9a931"), looks := false }, kinds := [], alts := [], laidByText := true, laidKinds := [.data, .data, .data, .data, .pinned], laidTests := true, laidLooks := .later }
def WireWritesUptoCardSaid : Prop := Claim7.holds Tryz.pinned (.plain (OpenSpec.upto wireWritesSpec)) wireWritesUptoCard

/-- THE SECOND FORM's CARD OF 'intarsialaw10.WireBack'. -/
def wireBackUptoCard : Claim7 := { stood := { row := wireBackUptoRow, standIns := [], harness := (true, "a603b6b9b9401121a7b687d27458eabfe861105e2f95f3117fb00a0d67a9a931"), looks := false }, kinds := [], alts := [], laidByText := true, laidKinds := [.data, .data, .data, .data, .pinned], laidTests := true, laidLooks := .later }
def WireBackUptoCardSaid : Prop := Claim7.holds Tryz.pinned (.plain (OpenSpec.upto wireBackSpec)) wireBackUptoCard

/-- THE SECOND FORM's CARD OF 'intarsialaw10.WireRow'. -/
def wireRowUptoCard : Claim7 := { stood := { row := wireRowUptoRow, standIns := [], harness := (true, "a603b6b9b9401121a7b687d27458eabfe861105e2f95f3117fb00a0d67a9a931"), looks := false }, kinds := [], alts := [], laidByText := true, laidKinds := [.data, .data, .data, .data, .pinned], laidTests := true, laidLooks := .later }
def WireRowUptoCardSaid : Prop := Claim7.holds Tryz.pinned (.plain (OpenSpec.upto wireRowSpec)) wireRowUptoCard

/-- THE SECOND FORM's CARD OF 'intarsialaw10.WireStops'. -/
def wireStopsUptoCard : Claim7 := { stood := { row := wireStopsUptoRow, standIns := [], harness := (true, "a603b6b9b9401121a7b687d27458eabfe861105e2f95f3117fb00a0d67a9a931"), looks := false }, kinds := [], alts := [], laidByText := true, laidKinds := [.data, .data, .data, .data, .pinned], laidTests := true, laidLooks := .later }
def WireStopsUptoCardSaid : Prop := Claim7.holds Tryz.pinned (.plain (OpenSpec.upto wireStopsSpec)) wireStopsUptoCard
end Rows
end Go.Proofs.YtpionnihpibglaaGreatDoor
