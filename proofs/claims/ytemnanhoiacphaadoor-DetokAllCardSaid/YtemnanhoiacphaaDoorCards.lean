/-
  DERIVED. GIVEN WITH THE SEED: THE CARDS: each row of YtemnanhoiacphaaDoorRows.lean that lists a variable, with what it lists TIED to the program's text (the seventh form; the later family's looks); each row that meets fmt, with fmt's text TOLD by the authors' own Lean function (tested against real Go, not proved from fmt's source: count such statements apart). THE CARD IS WHAT COUNTS. Prove the row's statement (the work); the ties are given (YtemnanhoiacphaaDoorTie.lean); close each card by the builder's one call (the guide's Derived/Test/ToyasCard.lean, 'card_holds'). Laid BY PROGRAM, IN A SANDBOX (cutbox-door.mjs). By AI agents, Wed Nov 11 2026. No macro, syntax, notation, axiom, sorry.
-/
import Derived.Test.YtemnanhoiacphaaDoorRows
import GoSem.ClaimSeven
namespace Go.Proofs.YtemnanhoiacphaaDoor
namespace Rows

/-- THE TIED CARD OF 'tesseralaw17.DetokKept'. -/
def detokKeptCard : Claim7 := { stood := { row := detokKeptRow, standIns := [], harness := (true, "755c8336c99a06e2b14ac7ed85f14af5a258d14d50a1e1373d0ba556416aeec3"), looks := false }, kinds := [], alts := [], laidByText := true, laidKinds := [.data, .pinned], laidTests := true, laidLooks := .later }
def DetokKeptCardSaid : Prop := Claim7.holds Tryd.pinned (.plain (OpenSpec.ofChange detokKeptSpec)) detokKeptCard

/-- THE TIED CARD OF 'tesseralaw17.DetokTwo'. -/
def detokTwoCard : Claim7 := { stood := { row := detokTwoRow, standIns := [], harness := (true, "755c8336c99a06e2b14ac7ed85f14af5a258d14d50a1e1373d0ba556416aeec3"), looks := false }, kinds := [], alts := [], laidByText := true, laidKinds := [.data, .pinned], laidTests := true, laidLooks := .later }
def DetokTwoCardSaid : Prop := Claim7.holds Tryd.pinned (.plain (OpenSpec.ofChange detokTwoSpec)) detokTwoCard

/-- THE TIED CARD OF 'tesseralaw17.DetokBad'. -/
def detokBadCard : Claim7 := { stood := { row := detokBadRow, standIns := [], harness := (true, "755c8336c99a06e2b14ac7ed85f14af5a258d14d50a1e1373d0ba556416aeec3"), looks := false }, kinds := [], alts := [], laidByText := true, laidKinds := [.data, .pinned], laidTests := true, laidLooks := .later }
def DetokBadCardSaid : Prop := Claim7.holds Tryd.pinned (.plain (OpenSpec.ofChange detokBadSpec)) detokBadCard

/-- THE TIED CARD OF 'tesseralaw17.DetokNumbers'. -/
def detokNumbersCard : Claim7 := { stood := { row := detokNumbersRow, standIns := [], harness := (true, "755c8336c99a06e2b14ac7ed85f14af5a258d14d50a1e1373d0ba556416aeec3"), looks := false }, kinds := [], alts := [], laidByText := true, laidKinds := [.data, .pinned], laidTests := true, laidLooks := .later }
def DetokNumbersCardSaid : Prop := Claim7.holds Tryd.pinned (.plain (OpenSpec.ofChange detokNumbersSpec)) detokNumbersCard

/-- THE TIED CARD OF 'tesseralaw17.DetokPlays'. -/
def detokPlaysCard : Claim7 := { stood := { row := detokPlaysRow, standIns := [], harness := (true, "755c8336c99a06e2b14ac7ed85f14af5a258d14d50a1e1373d0ba556416aeec3"), looks := false }, kinds := [], alts := [], laidByText := true, laidKinds := [.data, .pinned], laidTests := true, laidLooks := .later }
def DetokPlaysCardSaid : Prop := Claim7.holds Tryd.pinned (.plain (OpenSpec.ofChange detokPlaysSpec)) detokPlaysCard

/-- THE TIED CARD OF 'tesseralaw17.DetokAll'. -/
def detokAllCard : Claim7 := { stood := { row := detokAllRow, standIns := [], harness := (true, "755c8336c99a06e2b14ac7ed85f14af5a258d14d50a1e1373d0ba556416aeec3"), looks := false }, kinds := [], alts := [], laidByText := true, laidKinds := [.data, .pinned], laidTests := true, laidLooks := .later }
def DetokAllCardSaid : Prop := Claim7.holds Tryd.pinned (.plain (OpenSpec.ofChange detokAllSpec)) detokAllCard

/-- THE SECOND FORM's CARD OF 'tesseralaw17.DetokKept'. -/
def detokKeptUptoCard : Claim7 := { stood := { row := detokKeptUptoRow, standIns := [], harness := (true, "755c8336c99a06e2b14ac7ed85f14af5a258d14d50a1e1373d0ba556416aeec3"), looks := false }, kinds := [], alts := [], laidByText := true, laidKinds := [.data, .pinned], laidTests := true, laidLooks := .later }
def DetokKeptUptoCardSaid : Prop := Claim7.holds Tryd.pinned (.plain (OpenSpec.upto detokKeptSpec)) detokKeptUptoCard

/-- THE SECOND FORM's CARD OF 'tesseralaw17.DetokTwo'. -/
def detokTwoUptoCard : Claim7 := { stood := { row := detokTwoUptoRow, standIns := [], harness := (true, "755c8336c99a06e2b14ac7ed85f14af5a258d14d50a1e1373d0ba556416aeec3"), looks := false }, kinds := [], alts := [], laidByText := true, laidKinds := [.data, .pinned], laidTests := true, laidLooks := .later }
def DetokTwoUptoCardSaid : Prop := Claim7.holds Tryd.pinned (.plain (OpenSpec.upto detokTwoSpec)) detokTwoUptoCard

/-- THE SECOND FORM's CARD OF 'tesseralaw17.DetokBad'. -/
def detokBadUptoCard : Claim7 := { stood := { row := detokBadUptoRow, standIns := [], harness := (true, "755c8336c99a06e2b14ac7ed85f14af5a258d14d50a1e1373d0ba556416aeec3"), looks := false }, kinds := [], alts := [], laidByText := true, laidKinds := [.data, .pinned], laidTests := true, laidLooks := .later }
def DetokBadUptoCardSaid : Prop := Claim7.holds Tryd.pinned (.plain (OpenSpec.upto detokBadSpec)) detokBadUptoCard

/-- THE SECOND FORM's CARD OF 'tesseralaw17.DetokNumbers'. -/
def detokNumbersUptoCard : Claim7 := { stood := { row := detokNumbersUptoRow, standIns := [], harness := (true, "755c8336c99a06e2b14ac7ed85f14af5a258d14d50a1e1373d0ba556416aeec3"), looks := false }, kinds := [], alts := [], laidByText := true, laidKinds := [.data, .pinned], laidTests := true, laidLooks := .later }
def DetokNumbersUptoCardSaid : Prop := Claim7.holds Tryd.pinned (.plain (OpenSpec.upto detokNumbersSpec)) detokNumbersUptoCard

/-- THE SECOND FORM's CARD OF 'tesseralaw17.DetokPlays'. -/
def detokPlaysUptoCard : Claim7 := { stood := { row := detokPlaysUptoRow, standIns := [], harness := (true, "755c8336c99a06e2b14ac7ed85f14af5a258d14d50a1e1373d0ba556416aeec3"), looks := false }, kinds := [], alts := [], laidByText := true, laidKinds := [.data, .pinned], laidTests := true, laidLooks := .later }
def DetokPlaysUptoCardSaid : Prop := Claim7.holds Tryd.pinned (.plain (OpenSpec.upto detokPlaysSpec)) detokPlaysUptoCard

/-- THE SECOND FORM's CARD OF 'tesseralaw17.DetokAll'. -/
def detokAllUptoCard : Claim7 := { stood := { row := detokAllUptoRow, standIns := [], harness := (true, "755c8336c99a06e2b14ac7ed85f14af5a258d14d50a1e1373d0ba556416aeec3"), looks := false }, kinds := [], alts := [], laidByText := true, laidKinds := [.data, .pinned], laidTests := true, laidLooks := .later }
def DetokAllUptoCardSaid : Prop := Claim7.holds Tryd.pinned (.plain (OpenSpec.upto detokAllSpec)) detokAllUptoCard
end Rows
end Go.Proofs.YtemnanhoiacphaaDoor
