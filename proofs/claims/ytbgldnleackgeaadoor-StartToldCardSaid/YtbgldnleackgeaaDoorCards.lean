/-
  DERIVED. GIVEN WITH THE SEED: THE CARDS: each row of YtbgldnleackgeaaDoorRows.lean that lists a variable, with what it lists TIED to the program's text (the seventh form; the later family's looks); each row that meets fmt, with fmt's text TOLD by the authors' own Lean function (tested against real Go, not proved from fmt's source: count such statements apart). THE CARD IS WHAT COUNTS. Prove the row's statement (the work); the ties are given (YtbgldnleackgeaaDoorTie.lean); close each card by the builder's one call (the guide's Derived/Test/ToyasCard.lean, 'card_holds'). Laid BY PROGRAM, IN A SANDBOX (cutbox-door.mjs). By AI agents, Wed Nov 11 2026. No macro, syntax, notation, axiom, sorry.
-/
import Derived.Test.YtbgldnleackgeaaDoorRows
import GoSem.ClaimSeven
namespace Go.Proofs.YtbgldnleackgeaaDoor
namespace Rows

/-- THE TIED CARD OF 'intarsialaw09.FrameSays'. -/
def frameSaysCard : Claim7 := { stood := { row := frameSaysRow, standIns := [], harness := (true, "ab5fdecc53fd2662e23367bd8f65e7ba4d06582c081785035f647d5504eb2a0c"), looks := false }, kinds := [], alts := [], laidByText := true, laidKinds := [.data, .pinned], laidTests := true, laidLooks := .later }
def FrameSaysCardSaid : Prop := Claim7.holds Tryd.pinned (.plain (OpenSpec.ofChange frameSaysSpec)) frameSaysCard

/-- THE TIED CARD OF 'intarsialaw09.FrameNone'. -/
def frameNoneCard : Claim7 := { stood := { row := frameNoneRow, standIns := [], harness := (true, "ab5fdecc53fd2662e23367bd8f65e7ba4d06582c081785035f647d5504eb2a0c"), looks := false }, kinds := [], alts := [], laidByText := true, laidKinds := [.data, .pinned], laidTests := true, laidLooks := .later }
def FrameNoneCardSaid : Prop := Claim7.holds Tryd.pinned (.plain (OpenSpec.ofChange frameNoneSpec)) frameNoneCard

/-- THE TIED CARD OF 'intarsialaw09.FrameWith'. -/
def frameWithCard : Claim7 := { stood := { row := frameWithRow, standIns := [], harness := (true, "ab5fdecc53fd2662e23367bd8f65e7ba4d06582c081785035f647d5504eb2a0c"), looks := false }, kinds := [], alts := [], laidByText := true, laidKinds := [.data, .data, .data, .data, .pinned], laidTests := true, laidLooks := .later }
def FrameWithCardSaid : Prop := Claim7.holds Tryd.pinned (.plain (OpenSpec.ofChange frameWithSpec)) frameWithCard

/-- THE TIED CARD OF 'intarsialaw09.FrameBack'. -/
def frameBackCard : Claim7 := { stood := { row := frameBackRow, standIns := [], harness := (true, "ab5fdecc53fd2662e23367bd8f65e7ba4d06582c081785035f647d5504eb2a0c"), looks := false }, kinds := [], alts := [], laidByText := true, laidKinds := [.data, .data, .data, .data, .pinned], laidTests := true, laidLooks := .later }
def FrameBackCardSaid : Prop := Claim7.holds Tryd.pinned (.plain (OpenSpec.ofChange frameBackSpec)) frameBackCard

/-- THE TIED CARD OF 'intarsialaw06.StartBack'. -/
def startBackCard : Claim7 := { stood := { row := startBackRow, standIns := [], harness := (true, "ab5fdecc53fd2662e23367bd8f65e7ba4d06582c081785035f647d5504eb2a0c"), looks := false }, kinds := [], alts := [], laidByText := true, laidKinds := [.data, .data, .data, .data, .pinned], laidTests := true, laidLooks := .later }
def StartBackCardSaid : Prop := Claim7.holds Tryd.pinned (.plain (OpenSpec.ofChange startBackSpec)) startBackCard

/-- THE TIED CARD OF 'intarsialaw06.StartReads'. -/
def startReadsCard : Claim7 := { stood := { row := startReadsRow, standIns := [], harness := (true, "ab5fdecc53fd2662e23367bd8f65e7ba4d06582c081785035f647d5504eb2a0c"), looks := false }, kinds := [], alts := [], laidByText := true, laidKinds := [.data, .data, .data, .data, .pinned], laidTests := true, laidLooks := .later }
def StartReadsCardSaid : Prop := Claim7.holds Tryd.pinned (.plain (OpenSpec.ofChange startReadsSpec)) startReadsCard

/-- THE TIED CARD OF 'intarsialaw06.StartTold'. -/
def startToldCard : Claim7 := { stood := { row := startToldRow, standIns := [], harness := (true, "ab5fdecc53fd2662e23367bd8f65e7ba4d06582c081785035f647d5504eb2a0c"), looks := false }, kinds := [], alts := [], laidByText := true, laidKinds := [.data, .data, .data, .data, .pinned], laidTests := true, laidLooks := .later }
def StartToldCardSaid : Prop := Claim7.holds Tryd.pinned (.plain (OpenSpec.ofChange startToldSpec)) startToldCard

/-- THE SECOND FORM's CARD OF 'intarsialaw09.FrameSays'. -/
def frameSaysUptoCard : Claim7 := { stood := { row := frameSaysUptoRow, standIns := [], harness := (true, "ab5fdecc53fd2662e23367bd8f65e7ba4d06582c081785035f647d5504eb2a0c"), looks := false }, kinds := [], alts := [], laidByText := true, laidKinds := [.data, .pinned], laidTests := true, laidLooks := .later }
def FrameSaysUptoCardSaid : Prop := Claim7.holds Tryd.pinned (.plain (OpenSpec.upto frameSaysSpec)) frameSaysUptoCard

/-- THE SECOND FORM's CARD OF 'intarsialaw09.FrameNone'. -/
def frameNoneUptoCard : Claim7 := { stood := { row := frameNoneUptoRow, standIns := [], harness := (true, "ab5fdecc53fd2662e23367bd8f65e7ba4d06582c081785035f647d5504eb2a0c"), looks := false }, kinds := [], alts := [], laidByText := true, laidKinds := [.data, .pinned], laidTests := true, laidLooks := .later }
def FrameNoneUptoCardSaid : Prop := Claim7.holds Tryd.pinned (.plain (OpenSpec.upto frameNoneSpec)) frameNoneUptoCard

/-- THE SECOND FORM's CARD OF 'intarsialaw09.FrameWith'. -/
def frameWithUptoCard : Claim7 := { stood := { row := frameWithUptoRow, standIns := [], harness := (true, "ab5fdecc53fd2662e23367bd8f65e7ba4d06582c081785035f647d5504eb2a0c"), looks := false }, kinds := [], alts := [], laidByText := true, laidKinds := [.data, .data, .data, .data, .pinned], laidTests := true, laidLooks := .later }
def FrameWithUptoCardSaid : Prop := Claim7.holds Tryd.pinned (.plain (OpenSpec.upto frameWithSpec)) frameWithUptoCard

/-- THE SECOND FORM's CARD OF 'intarsialaw09.FrameBack'. -/
def frameBackUptoCard : Claim7 := { stood := { row := frameBackUptoRow, standIns := [], harness := (true, "ab5fdecc53fd2662e23367bd8f65e7ba4d06582c081785035f647d5504eb2a0c"), looks := false }, kinds := [], alts := [], laidByText := true, laidKinds := [.data, .data, .data, .data, .pinned], laidTests := true, laidLooks := .later }
def FrameBackUptoCardSaid : Prop := Claim7.holds Tryd.pinned (.plain (OpenSpec.upto frameBackSpec)) frameBackUptoCard

/-- THE SECOND FORM's CARD OF 'intarsialaw06.StartBack'. -/
def startBackUptoCard : Claim7 := { stood := { row := startBackUptoRow, standIns := [], harness := (true, "ab5fdecc53fd2662e23367bd8f65e7ba4d06582c081785035f647d5504eb2a0c"), looks := false }, kinds := [], alts := [], laidByText := true, laidKinds := [.data, .data, .data, .data, .pinned], laidTests := true, laidLooks := .later }
def StartBackUptoCardSaid : Prop := Claim7.holds Tryd.pinned (.plain (OpenSpec.upto startBackSpec)) startBackUptoCard

/-- THE SECOND FORM's CARD OF 'intarsialaw06.StartReads'. -/
def startReadsUptoCard : Claim7 := { stood := { row := startReadsUptoRow, standIns := [], harness := (true, "ab5fdecc53fd2662e23367bd8f65e7ba4d06582c081785035f647d5504eb2a0c"), looks := false }, kinds := [], alts := [], laidByText := true, laidKinds := [.data, .data, .data, .data, .pinned], laidTests := true, laidLooks := .later }
def StartReadsUptoCardSaid : Prop := Claim7.holds Tryd.pinned (.plain (OpenSpec.upto startReadsSpec)) startReadsUptoCard

/-- THE SECOND FORM's CARD OF 'intarsialaw06.StartTold'. -/
def startToldUptoCard : Claim7 := { stood := { row := startToldUptoRow, standIns := [], harness := (true, "ab5fdecc53fd2662e23367bd8f65e7ba4d06582c081785035f647d5504eb2a0c"), looks := false }, kinds := [], alts := [], laidByText := true, laidKinds := [.data, .data, .data, .data, .pinned], laidTests := true, laidLooks := .later }
def StartToldUptoCardSaid : Prop := Claim7.holds Tryd.pinned (.plain (OpenSpec.upto startToldSpec)) startToldUptoCard
end Rows
end Go.Proofs.YtbgldnleackgeaaDoor
