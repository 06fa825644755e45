/-
  DERIVED. GIVEN WITH THE SEED: THE CARDS: each row of YtgohinklnglgeaaDoorRows.lean that lists a variable, with what it lists TIED to the program's text (the seventh form; the later family's looks); each row that meets fmt, with fmt's text TOLD by the authors' own Lean function (tested against real Go, not proved from fmt's source: count such statements apart). THE CARD IS WHAT COUNTS. Prove the row's statement (the work); the ties are given (YtgohinklnglgeaaDoorTie.lean); close each card by the builder's one call (the guide's Derived/Test/ToyasCard.lean, 'card_holds'). Laid BY PROGRAM, IN A SANDBOX (cutbox-door.mjs). By AI agents, Wed Nov 11 2026. No macro, syntax, notation, axiom, sorry.
-/
import Derived.Test.YtgohinklnglgeaaDoorRows
import GoSem.ClaimSeven
namespace Go.Proofs.YtgohinklnglgeaaDoor
namespace Rows

/-- THE TIED CARD OF 'tesseralaw6.FileNumbers'. -/
def fileNumbersCard : Claim7 := { stood := { row := fileNumbersRow, standIns := [], harness := (true, "5dbdae9c02b01be0f2c5e63a72d613e33bd4939136159a312ae29336615312ed"), looks := true }, kinds := [], alts := [], laidByText := true, laidKinds := [.data, .data, .data], laidTests := true, laidLooks := .later }
def FileNumbersCardSaid : Prop := Claim7.holds Tryd.pinned (.plain (OpenSpec.ofChange fileNumbersSpec)) fileNumbersCard

/-- THE TIED CARD OF 'tesseralaw6.FileSaves'. -/
def fileSavesCard : Claim7 := { stood := { row := fileSavesRow, standIns := [], harness := (true, "5dbdae9c02b01be0f2c5e63a72d613e33bd4939136159a312ae29336615312ed"), looks := true }, kinds := [], alts := [], laidByText := true, laidKinds := [.data, .data, .data], laidTests := true, laidLooks := .later }
def FileSavesCardSaid : Prop := Claim7.holds Tryd.pinned (.plain (OpenSpec.ofChange fileSavesSpec)) fileSavesCard

/-- THE TIED CARD OF 'tesseralaw6.FileLoads'. -/
def fileLoadsCard : Claim7 := { stood := { row := fileLoadsRow, standIns := [], harness := (true, "5dbdae9c02b01be0f2c5e63a72d613e33bd4939136159a312ae29336615312ed"), looks := true }, kinds := [], alts := [], laidByText := true, laidKinds := [.data, .data, .data], laidTests := true, laidLooks := .later }
def FileLoadsCardSaid : Prop := Claim7.holds Tryd.pinned (.plain (OpenSpec.ofChange fileLoadsSpec)) fileLoadsCard

/-- THE TIED CARD OF 'tesseralaw6.FileTurned'. -/
def fileTurnedCard : Claim7 := { stood := { row := fileTurnedRow, standIns := [], harness := (true, "5dbdae9c02b01be0f2c5e63a72d613e33bd4939136159a312ae29336615312ed"), looks := true }, kinds := [], alts := [], laidByText := true, laidKinds := [.data, .data, .data], laidTests := true, laidLooks := .later }
def FileTurnedCardSaid : Prop := Claim7.holds Tryd.pinned (.plain (OpenSpec.ofChange fileTurnedSpec)) fileTurnedCard

/-- THE TIED CARD OF 'tesseralaw6.FileKept'. -/
def fileKeptCard : Claim7 := { stood := { row := fileKeptRow, standIns := [], harness := (true, "5dbdae9c02b01be0f2c5e63a72d613e33bd4939136159a312ae29336615312ed"), looks := true }, kinds := [], alts := [], laidByText := true, laidKinds := [.data, .data, .data], laidTests := true, laidLooks := .later }
def FileKeptCardSaid : Prop := Claim7.holds Tryd.pinned (.plain (OpenSpec.ofChange fileKeptSpec)) fileKeptCard

/-- THE TIED CARD OF 'tesseralaw6.FileBack'. -/
def fileBackCard : Claim7 := { stood := { row := fileBackRow, standIns := [], harness := (true, "5dbdae9c02b01be0f2c5e63a72d613e33bd4939136159a312ae29336615312ed"), looks := true }, kinds := [], alts := [], laidByText := true, laidKinds := [.data, .data, .data], laidTests := true, laidLooks := .later }
def FileBackCardSaid : Prop := Claim7.holds Tryd.pinned (.plain (OpenSpec.ofChange fileBackSpec)) fileBackCard

/-- THE SECOND FORM's CARD OF 'tesseralaw6.FileNumbers'. -/
def fileNumbersUptoCard : Claim7 := { stood := { row := fileNumbersUptoRow, standIns := [], harness := (true, "5dbdae9c02b01be0f2c5e63a72d613e33bd4939136159a312ae29336615312ed"), looks := true }, kinds := [], alts := [], laidByText := true, laidKinds := [.data, .data, .data], laidTests := true, laidLooks := .later }
def FileNumbersUptoCardSaid : Prop := Claim7.holds Tryd.pinned (.plain (OpenSpec.upto fileNumbersSpec)) fileNumbersUptoCard

/-- THE SECOND FORM's CARD OF 'tesseralaw6.FileSaves'. -/
def fileSavesUptoCard : Claim7 := { stood := { row := fileSavesUptoRow, standIns := [], harness := (true, "5dbdae9c02b01be0f2c5e63a72d613e33bd4939136159a312ae29336615312ed"), looks := true }, kinds := [], alts := [], laidByText := true, laidKinds := [.data, .data, .data], laidTests := true, laidLooks := .later }
def FileSavesUptoCardSaid : Prop := Claim7.holds Tryd.pinned (.plain (OpenSpec.upto fileSavesSpec)) fileSavesUptoCard

/-- THE SECOND FORM's CARD OF 'tesseralaw6.FileLoads'. -/
def fileLoadsUptoCard : Claim7 := { stood := { row := fileLoadsUptoRow, standIns := [], harness := (true, "5dbdae9c02b01be0f2c5e63a72d613e33bd4939136159a312ae29336615312ed"), looks := true }, kinds := [], alts := [], laidByText := true, laidKinds := [.data, .data, .data], laidTests := true, laidLooks := .later }
def FileLoadsUptoCardSaid : Prop := Claim7.holds Tryd.pinned (.plain (OpenSpec.upto fileLoadsSpec)) fileLoadsUptoCard

/-- THE SECOND FORM's CARD OF 'tesseralaw6.FileTurned'. -/
def fileTurnedUptoCard : Claim7 := { stood := { row := fileTurnedUptoRow, standIns := [], harness := (true, "5dbdae9c02b01be0f2c5e63a72d613e33bd4939136159a312ae29336615312ed"), looks := true }, kinds := [], alts := [], laidByText := true, laidKinds := [.data, .data, .data], laidTests := true, laidLooks := .later }
def FileTurnedUptoCardSaid : Prop := Claim7.holds Tryd.pinned (.plain (OpenSpec.upto fileTurnedSpec)) fileTurnedUptoCard

/-- THE SECOND FORM's CARD OF 'tesseralaw6.FileKept'. -/
def fileKeptUptoCard : Claim7 := { stood := { row := fileKeptUptoRow, standIns := [], harness := (true, "5dbdae9c02b01be0f2c5e63a72d613e33bd4939136159a312ae29336615312ed"), looks := true }, kinds := [], alts := [], laidByText := true, laidKinds := [.data, .data, .data], laidTests := true, laidLooks := .later }
def FileKeptUptoCardSaid : Prop := Claim7.holds Tryd.pinned (.plain (OpenSpec.upto fileKeptSpec)) fileKeptUptoCard

/-- THE SECOND FORM's CARD OF 'tesseralaw6.FileBack'. -/
def fileBackUptoCard : Claim7 := { stood := { row := fileBackUptoRow, standIns := [], harness := (true, "5dbdae9c02b01be0f2c5e63a72d613e33bd4939136159a312ae29336615312ed"), looks := true }, kinds := [], alts := [], laidByText := true, laidKinds := [.data, .data, .data], laidTests := true, laidLooks := .later }
def FileBackUptoCardSaid : Prop := Claim7.holds Tryd.pinned (.plain (OpenSpec.upto fileBackSpec)) fileBackUptoCard
end Rows
end Go.Proofs.YtgohinklnglgeaaDoor
