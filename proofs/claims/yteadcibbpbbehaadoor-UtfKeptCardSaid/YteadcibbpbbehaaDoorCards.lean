/-
  DERIVED. GIVEN WITH THE SEED: THE CARDS: each row of YteadcibbpbbehaaDoorRows.lean that lists a variable, with what it lists TIED to the program's text (the seventh form; the later family's looks); each row that meets fmt, with fmt's text TOLD by the authors' own Lean function (tested against real Go, not proved from fmt's source: count such statements apart). THE CARD IS WHAT COUNTS. Prove the row's statement (the work); the ties are given (YteadcibbpbbehaaDoorTie.lean); close each card by the builder's one call (the guide's Derived/Test/ToyasCard.lean, 'card_holds'). Laid BY PROGRAM, IN A SANDBOX (cutbox-door.mjs). By AI agents, Wed Nov 11 2026. No macro, syntax, notation, axiom, sorry.
-/
import Derived.Test.YteadcibbpbbehaaDoorRows
import GoSem.ClaimSeven
namespace Go.Proofs.YteadcibbpbbehaaDoor
namespace Rows

/-- THE TIED CARD OF 'tesseralaw2.UtfItems'. -/
def utfItemsCard : Claim7 := { stood := { row := utfItemsRow, standIns := [], harness := (true, "6b1076dbff421e9a8b5871dea1184521b41fe75907b1d42545fd94d79f316a5d"), looks := false }, kinds := [], alts := [], laidByText := true, laidKinds := [.data, .pinned], laidTests := true, laidLooks := .later }
def UtfItemsCardSaid : Prop := Claim7.holds Tryd.pinned (.plain (OpenSpec.ofChange utfItemsSpec)) utfItemsCard

/-- THE TIED CARD OF 'tesseralaw2.UtfRange'. -/
def utfRangeCard : Claim7 := { stood := { row := utfRangeRow, standIns := [], harness := (true, "6b1076dbff421e9a8b5871dea1184521b41fe75907b1d42545fd94d79f316a5d"), looks := false }, kinds := [], alts := [], laidByText := true, laidKinds := [.data, .pinned], laidTests := true, laidLooks := .later }
def UtfRangeCardSaid : Prop := Claim7.holds Tryd.pinned (.plain (OpenSpec.ofChange utfRangeSpec)) utfRangeCard

/-- THE TIED CARD OF 'tesseralaw2.UtfTails'. -/
def utfTailsCard : Claim7 := { stood := { row := utfTailsRow, standIns := [], harness := (true, "6b1076dbff421e9a8b5871dea1184521b41fe75907b1d42545fd94d79f316a5d"), looks := false }, kinds := [], alts := [], laidByText := true, laidKinds := [.data, .pinned], laidTests := true, laidLooks := .later }
def UtfTailsCardSaid : Prop := Claim7.holds Tryd.pinned (.plain (OpenSpec.ofChange utfTailsSpec)) utfTailsCard

/-- THE TIED CARD OF 'tesseralaw2.UtfValid'. -/
def utfValidCard : Claim7 := { stood := { row := utfValidRow, standIns := [], harness := (true, "6b1076dbff421e9a8b5871dea1184521b41fe75907b1d42545fd94d79f316a5d"), looks := false }, kinds := [], alts := [], laidByText := true, laidKinds := [.data, .pinned], laidTests := true, laidLooks := .later }
def UtfValidCardSaid : Prop := Claim7.holds Tryd.pinned (.plain (OpenSpec.ofChange utfValidSpec)) utfValidCard

/-- THE TIED CARD OF 'tesseralaw2.UtfHeld'. -/
def utfHeldCard : Claim7 := { stood := { row := utfHeldRow, standIns := [], harness := (true, "6b1076dbff421e9a8b5871dea1184521b41fe75907b1d42545fd94d79f316a5d"), looks := false }, kinds := [], alts := [], laidByText := true, laidKinds := [.data, .pinned], laidTests := true, laidLooks := .later }
def UtfHeldCardSaid : Prop := Claim7.holds Tryd.pinned (.plain (OpenSpec.ofChange utfHeldSpec)) utfHeldCard

/-- THE TIED CARD OF 'tesseralaw2.UtfKept'. -/
def utfKeptCard : Claim7 := { stood := { row := utfKeptRow, standIns := [], harness := (true, "6b1076dbff421e9a8b5871dea1184521b41fe75907b1d42545fd94d79f316a5d"), looks := false }, kinds := [], alts := [], laidByText := true, laidKinds := [.data, .pinned], laidTests := true, laidLooks := .later }
def UtfKeptCardSaid : Prop := Claim7.holds Tryd.pinned (.plain (OpenSpec.ofChange utfKeptSpec)) utfKeptCard

/-- THE TIED CARD OF 'tesseralaw2.UtfNumbers'. -/
def utfNumbersCard : Claim7 := { stood := { row := utfNumbersRow, standIns := [], harness := (true, "6b1076dbff421e9a8b5871dea1184521b41fe75907b1d42545fd94d79f316a5d"), looks := false }, kinds := [], alts := [], laidByText := true, laidKinds := [.data, .pinned], laidTests := true, laidLooks := .later }
def UtfNumbersCardSaid : Prop := Claim7.holds Tryd.pinned (.plain (OpenSpec.ofChange utfNumbersSpec)) utfNumbersCard

/-- THE TIED CARD OF 'tesseralaw2.UtfScans'. -/
def utfScansCard : Claim7 := { stood := { row := utfScansRow, standIns := [], harness := (true, "6b1076dbff421e9a8b5871dea1184521b41fe75907b1d42545fd94d79f316a5d"), looks := false }, kinds := [], alts := [], laidByText := true, laidKinds := [.data, .pinned], laidTests := true, laidLooks := .later }
def UtfScansCardSaid : Prop := Claim7.holds Tryd.pinned (.plain (OpenSpec.ofChange utfScansSpec)) utfScansCard

/-- THE SECOND FORM's CARD OF 'tesseralaw2.UtfItems'. -/
def utfItemsUptoCard : Claim7 := { stood := { row := utfItemsUptoRow, standIns := [], harness := (true, "6b1076dbff421e9a8b5871dea1184521b41fe75907b1d42545fd94d79f316a5d"), looks := false }, kinds := [], alts := [], laidByText := true, laidKinds := [.data, .pinned], laidTests := true, laidLooks := .later }
def UtfItemsUptoCardSaid : Prop := Claim7.holds Tryd.pinned (.plain (OpenSpec.upto utfItemsSpec)) utfItemsUptoCard

/-- THE SECOND FORM's CARD OF 'tesseralaw2.UtfRange'. -/
def utfRangeUptoCard : Claim7 := { stood := { row := utfRangeUptoRow, standIns := [], harness := (true, "6b1076dbff421e9a8b5871dea1184521b41fe75907b1d42545fd94d79f316a5d"), looks := false }, kinds := [], alts := [], laidByText := true, laidKinds := [.data, .pinned], laidTests := true, laidLooks := .later }
def UtfRangeUptoCardSaid : Prop := Claim7.holds Tryd.pinned (.plain (OpenSpec.upto utfRangeSpec)) utfRangeUptoCard

/-- THE SECOND FORM's CARD OF 'tesseralaw2.UtfTails'. -/
def utfTailsUptoCard : Claim7 := { stood := { row := utfTailsUptoRow, standIns := [], harness := (true, "6b1076dbff421e9a8b5871dea1184521b41fe75907b1d42545fd94d79f316a5d"), looks := false }, kinds := [], alts := [], laidByText := true, laidKinds := [.data, .pinned], laidTests := true, laidLooks := .later }
def UtfTailsUptoCardSaid : Prop := Claim7.holds Tryd.pinned (.plain (OpenSpec.upto utfTailsSpec)) utfTailsUptoCard

/-- THE SECOND FORM's CARD OF 'tesseralaw2.UtfValid'. -/
def utfValidUptoCard : Claim7 := { stood := { row := utfValidUptoRow, standIns := [], harness := (true, "6b1076dbff421e9a8b5871dea1184521b41fe75907b1d42545fd94d79f316a5d"), looks := false }, kinds := [], alts := [], laidByText := true, laidKinds := [.data, .pinned], laidTests := true, laidLooks := .later }
def UtfValidUptoCardSaid : Prop := Claim7.holds Tryd.pinned (.plain (OpenSpec.upto utfValidSpec)) utfValidUptoCard

/-- THE SECOND FORM's CARD OF 'tesseralaw2.UtfHeld'. -/
def utfHeldUptoCard : Claim7 := { stood := { row := utfHeldUptoRow, standIns := [], harness := (true, "6b1076dbff421e9a8b5871dea1184521b41fe75907b1d42545fd94d79f316a5d"), looks := false }, kinds := [], alts := [], laidByText := true, laidKinds := [.data, .pinned], laidTests := true, laidLooks := .later }
def UtfHeldUptoCardSaid : Prop := Claim7.holds Tryd.pinned (.plain (OpenSpec.upto utfHeldSpec)) utfHeldUptoCard

/-- THE SECOND FORM's CARD OF 'tesseralaw2.UtfKept'. -/
def utfKeptUptoCard : Claim7 := { stood := { row := utfKeptUptoRow, standIns := [], harness := (true, "6b1076dbff421e9a8b5871dea1184521b41fe75907b1d42545fd94d79f316a5d"), looks := false }, kinds := [], alts := [], laidByText := true, laidKinds := [.data, .pinned], laidTests := true, laidLooks := .later }
def UtfKeptUptoCardSaid : Prop := Claim7.holds Tryd.pinned (.plain (OpenSpec.upto utfKeptSpec)) utfKeptUptoCard

/-- THE SECOND FORM's CARD OF 'tesseralaw2.UtfNumbers'. -/
def utfNumbersUptoCard : Claim7 := { stood := { row := utfNumbersUptoRow, standIns := [], harness := (true, "6b1076dbff421e9a8b5871dea1184521b41fe75907b1d42545fd94d79f316a5d"), looks := false }, kinds := [], alts := [], laidByText := true, laidKinds := [.data, .pinned], laidTests := true, laidLooks := .later }
def UtfNumbersUptoCardSaid : Prop := Claim7.holds Tryd.pinned (.plain (OpenSpec.upto utfNumbersSpec)) utfNumbersUptoCard

/-- THE SECOND FORM's CARD OF 'tesseralaw2.UtfScans'. -/
def utfScansUptoCard : Claim7 := { stood := { row := utfScansUptoRow, standIns := [], harness := (true, "6b1076dbff421e9a8b5871dea1184521b41fe75907b1d42545fd94d79f316a5d"), looks := false }, kinds := [], alts := [], laidByText := true, laidKinds := [.data, .pinned], laidTests := true, laidLooks := .later }
def UtfScansUptoCardSaid : Prop := Claim7.holds Tryd.pinned (.plain (OpenSpec.upto utfScansSpec)) utfScansUptoCard
end Rows
end Go.Proofs.YteadcibbpbbehaaDoor
