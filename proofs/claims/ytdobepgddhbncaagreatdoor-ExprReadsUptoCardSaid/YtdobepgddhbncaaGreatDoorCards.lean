/-
  DERIVED. GIVEN WITH THE SEED: THE CARDS: each row of YtdobepgddhbncaaGreatDoorRows.lean that lists a variable, with what it lists TIED to the program's text (the seventh form; the later family's looks); each row that meets fmt, with fmt's text TOLD by the authors' own Lean function (tested against real Go, not proved from fmt's source: count such statements apart). THE CARD IS WHAT COUNTS. Prove the row's statement (the work); the ties are given (YtdobepgddhbncaaGreatDoorTie.lean); close each card by the builder's one call (the guide's Derived/Test/ToyasCard.lean, 'card_holds'). Laid BY PROGRAM, IN A SANDBOX (cutbox-door.mjs). By AI agents, Wed Nov 11 2026. No macro, syntax, notation, axiom, sorry.
-/
import Derived.Test.YtdobepgddhbncaaGreatDoorRows
import GoSem.ClaimSeven
namespace Go.Proofs.YtdobepgddhbncaaGreatDoor
namespace Rows

/-- THE TIED CARD OF 'intarsialaw18.ExprHolds'. -/
def exprHoldsCard : Claim7 := { stood := { row := exprHoldsRow, standIns := [], harness := (true, "f18135c06155412c6566985eeb9a8fb16983324e422aeab6bf27a872fbbbeec0"), looks := false }, kinds := [], alts := [], laidByText := true, laidKinds := [.data, .data, .data, .data, .pinned], laidTests := true, laidLooks := .later }
def ExprHoldsCardSaid : Prop := Claim7.holds Tryz.pinned (.plain (OpenSpec.ofChange exprHoldsSpec)) exprHoldsCard

/-- THE TIED CARD OF 'intarsialaw18.ExprNots'. -/
def exprNotsCard : Claim7 := { stood := { row := exprNotsRow, standIns := [], harness := (true, "f18135c06155412c6566985eeb9a8fb16983324e422aeab6bf27a872fbbbeec0"), looks := false }, kinds := [], alts := [], laidByText := true, laidKinds := [.data, .data, .data, .data, .pinned], laidTests := true, laidLooks := .later }
def ExprNotsCardSaid : Prop := Claim7.holds Tryz.pinned (.plain (OpenSpec.ofChange exprNotsSpec)) exprNotsCard

/-- THE TIED CARD OF 'intarsialaw18.ExprOrder'. -/
def exprOrderCard : Claim7 := { stood := { row := exprOrderRow, standIns := [], harness := (true, "f18135c06155412c6566985eeb9a8fb16983324e422aeab6bf27a872fbbbeec0"), looks := false }, kinds := [], alts := [], laidByText := true, laidKinds := [.data, .data, .data, .data, .pinned], laidTests := true, laidLooks := .later }
def ExprOrderCardSaid : Prop := Claim7.holds Tryz.pinned (.plain (OpenSpec.ofChange exprOrderSpec)) exprOrderCard

/-- THE TIED CARD OF 'intarsialaw18.ExprSpaces'. -/
def exprSpacesCard : Claim7 := { stood := { row := exprSpacesRow, standIns := [], harness := (true, "f18135c06155412c6566985eeb9a8fb16983324e422aeab6bf27a872fbbbeec0"), looks := false }, kinds := [], alts := [], laidByText := true, laidKinds := [.data, .data, .data, .data, .pinned], laidTests := true, laidLooks := .later }
def ExprSpacesCardSaid : Prop := Claim7.holds Tryz.pinned (.plain (OpenSpec.ofChange exprSpacesSpec)) exprSpacesCard

/-- THE TIED CARD OF 'intarsialaw18.ExprTurned'. -/
def exprTurnedCard : Claim7 := { stood := { row := exprTurnedRow, standIns := [], harness := (true, "f18135c06155412c6566985eeb9a8fb16983324e422aeab6bf27a872fbbbeec0"), looks := false }, kinds := [], alts := [], laidByText := true, laidKinds := [.data, .data, .data, .data, .pinned], laidTests := true, laidLooks := .later }
def ExprTurnedCardSaid : Prop := Claim7.holds Tryz.pinned (.plain (OpenSpec.ofChange exprTurnedSpec)) exprTurnedCard

/-- THE TIED CARD OF 'intarsialaw18.ExprReads'. -/
def exprReadsCard : Claim7 := { stood := { row := exprReadsRow, standIns := [], harness := (true, "f18135c06155412c6566985eeb9a8fb16983324e422aeab6bf27a872fbbbeec0"), looks := false }, kinds := [], alts := [], laidByText := true, laidKinds := [.data, .data, .data, .data, .pinned], laidTests := true, laidLooks := .later }
def ExprReadsCardSaid : Prop := Claim7.holds Tryz.pinned (.plain (OpenSpec.ofChange exprReadsSpec)) exprReadsCard

/-- THE TIED CARD OF 'intarsialaw18.ExprBack'. -/
def exprBackCard : Claim7 := { stood := { row := exprBackRow, standIns := [], harness := (true, "f18135c06155412c6566985eeb9a8fb16983324e422aeab6bf27a872fbbbeec0"), looks := false }, kinds := [], alts := [], laidByText := true, laidKinds := [.data, .data, .data, .data, .pinned], laidTests := true, laidLooks := .later }
def ExprBackCardSaid : Prop := Claim7.holds Tryz.pinned (.plain (OpenSpec.ofChange exprBackSpec)) exprBackCard

/-- THE SECOND FORM's CARD OF 'intarsialaw18.ExprHolds'. -/
def exprHoldsUptoCard : Claim7 := { stood := { row := exprHoldsUptoRow, standIns := [], harness := (true, "f18135c06155412c6566985eeb9a8fb16983324e422aeab6bf27a872fbbbeec0"), looks := false }, kinds := [], alts := [], laidByText := true, laidKinds := [.data, .data, .data, .data, .pinned], laidTests := true, laidLooks := .later }
def ExprHoldsUptoCardSaid : Prop := Claim7.holds Tryz.pinned (.plain (OpenSpec.upto exprHoldsSpec)) exprHoldsUptoCard

/-- THE SECOND FORM's CARD OF 'intarsialaw18.ExprNots'. -/
def exprNotsUptoCard : Claim7 := { stood := { row := exprNotsUptoRow, standIns := [], harness := (true, "f18135c06155412c6566985eeb9a8fb16983324e422aeab6bf27a872fbbbeec0"), looks := false }, kinds := [], alts := [], laidByText := true, laidKinds := [.data, .data, .data, .data, .pinned], laidTests := true, laidLooks := .later }
def ExprNotsUptoCardSaid : Prop := Claim7.holds Tryz.pinned (.plain (OpenSpec.upto exprNotsSpec)) exprNotsUptoCard

/-- THE SECOND FORM's CARD OF 'intarsialaw18.ExprOrder'. -/
def exprOrderUptoCard : Claim7 := { stood := { row := exprOrderUptoRow, standIns := [], harness := (true, "f18135c06155412c6566985eeb9a8fb16983324e422aeab6bf27a872fbbbeec0"), looks := false }, kinds := [], alts := [], laidByText := true, laidKinds := [.data, .data, .data, .data, .pinned], laidTests := true, laidLooks := .later }
def ExprOrderUptoCardSaid : Prop := Claim7.holds Tryz.pinned (.plain (OpenSpec.upto exprOrderSpec)) exprOrderUptoCard

/-- THE SECOND FORM's CARD OF 'intarsialaw18.ExprSpaces'. -/
def exprSpacesUptoCard : Claim7 := { stood := { row := exprSpacesUptoRow, standIns := [], harness := (true, "f18135c06155412c6566985eeb9a8fb16983324e422aeab6bf27a872fbbbeec0"), looks := false }, kinds := [], alts := [], laidByText := true, laidKinds := [.data, .data, .data, .data, .pinned], laidTests := true, laidLooks := .later }
def ExprSpacesUptoCardSaid : Prop := Claim7.holds Tryz.pinned (.plain (OpenSpec.upto exprSpacesSpec)) exprSpacesUptoCard

/-- THE SECOND FORM's CARD OF 'intarsialaw18.ExprTurned'. -/
def exprTurnedUptoCard : Claim7 := { stood := { row := exprTurnedUptoRow, standIns := [], harness := (true, "f18135c06155412c6566985eeb9a8fb16983324e422aeab6bf27a872fbbbeec0"), looks := false }, kinds := [], alts := [], laidByText := true, laidKinds := [.data, .data, .data, .data, .pinned], laidTests := true, laidLooks := .later }
def ExprTurnedUptoCardSaid : Prop := Claim7.holds Tryz.pinned (.plain (OpenSpec.upto exprTurnedSpec)) exprTurnedUptoCard

/-- THE SECOND FORM's CARD OF 'intarsialaw18.ExprReads'. -/
def exprReadsUptoCard : Claim7 := { stood := { row := exprReadsUptoRow, standIns := [], harness := (true, "f18135c06155412c6566985eeb9a8fb16983324e422aeab6bf27a872fbbbeec0"), looks := false }, kinds := [], alts := [], laidByText := true, laidKinds := [.data, .data, .data, .data, .pinned], laidTests := true, laidLooks := .later }
def ExprReadsUptoCardSaid : Prop := Claim7.holds Tryz.pinned (.plain (OpenSpec.upto exprReadsSpec)) exprReadsUptoCard

/-- THE SECOND FORM's CARD OF 'intarsialaw18.ExprBack'. -/
def exprBackUptoCard : Claim7 := { stood := { row := exprBackUptoRow, standIns := [], harness := (true, "f18135c06155412c6566985eeb9a8fb16983324e422aeab6bf27a872fbbbeec0"), looks := false }, kinds := [], alts := [], laidByText := true, laidKinds := [.data, .data, .data, .data, .pinned], laidTests := true, laidLooks := .later }
def ExprBackUptoCardSaid : Prop := Claim7.holds Tryz.pinned (.plain (OpenSpec.upto exprBackSpec)) exprBackUptoCard
end Rows
end Go.Proofs.YtdobepgddhbncaaGreatDoor
