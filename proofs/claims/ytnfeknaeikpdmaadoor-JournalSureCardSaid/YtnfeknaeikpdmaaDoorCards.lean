/-
  DERIVED. GIVEN WITH THE SEED: THE CARDS: each row of YtnfeknaeikpdmaaDoorRows.lean that lists a variable, with what it lists TIED to the program's text (the seventh form; the later family's looks); each row that meets fmt, with fmt's text TOLD by the authors' own Lean function (tested against real Go, not proved from fmt's source: count such statements apart). THE CARD IS WHAT COUNTS. Prove the row's statement (the work); the ties are given (YtnfeknaeikpdmaaDoorTie.lean); close each card by the builder's one call (the guide's Derived/Test/ToyasCard.lean, 'card_holds'). Laid BY PROGRAM, IN A SANDBOX (cutbox-door.mjs). By AI agents, Wed Nov 11 2026. No macro, syntax, notation, axiom, sorry.
-/
import Derived.Test.YtnfeknaeikpdmaaDoorRows
import GoSem.ClaimSeven
namespace Go.Proofs.YtnfeknaeikpdmaaDoor
namespace Rows

/-- THE TIED CARD OF 'quitrentlaw06.RecordTells'. -/
def recordTellsCard : Claim7 := { stood := { row := recordTellsRow, standIns := [], harness := (true, "3e6a3ad829bf78ebc9fafdcdfe71c135dd2f8480ec2e0d033414e43c6df787e2"), looks := false }, kinds := [], alts := [], laidByText := true, laidKinds := [.data, .pinned], laidTests := true, laidLooks := .later }
def RecordTellsCardSaid : Prop := Claim7.holds Tryd.pinned (.plain (OpenSpec.ofChange recordTellsSpec)) recordTellsCard

/-- THE TIED CARD OF 'quitrentlaw06.RecordBack'. -/
def recordBackCard : Claim7 := { stood := { row := recordBackRow, standIns := [], harness := (true, "3e6a3ad829bf78ebc9fafdcdfe71c135dd2f8480ec2e0d033414e43c6df787e2"), looks := false }, kinds := [], alts := [], laidByText := true, laidKinds := [.data, .pinned], laidTests := true, laidLooks := .later }
def RecordBackCardSaid : Prop := Claim7.holds Tryd.pinned (.plain (OpenSpec.ofChange recordBackSpec)) recordBackCard

/-- THE TIED CARD OF 'quitrentlaw06.RecordTurned'. -/
def recordTurnedCard : Claim7 := { stood := { row := recordTurnedRow, standIns := [], harness := (true, "3e6a3ad829bf78ebc9fafdcdfe71c135dd2f8480ec2e0d033414e43c6df787e2"), looks := false }, kinds := [], alts := [], laidByText := true, laidKinds := [.data, .pinned], laidTests := true, laidLooks := .later }
def RecordTurnedCardSaid : Prop := Claim7.holds Tryd.pinned (.plain (OpenSpec.ofChange recordTurnedSpec)) recordTurnedCard

/-- THE TIED CARD OF 'quitrentlaw07.JournalGoes'. -/
def journalGoesCard : Claim7 := { stood := { row := journalGoesRow, standIns := [], harness := (true, "3e6a3ad829bf78ebc9fafdcdfe71c135dd2f8480ec2e0d033414e43c6df787e2"), looks := false }, kinds := [], alts := [], laidByText := true, laidKinds := [.data, .pinned], laidTests := true, laidLooks := .later }
def JournalGoesCardSaid : Prop := Claim7.holds Tryd.pinned (.plain (OpenSpec.ofChange journalGoesSpec)) journalGoesCard

/-- THE TIED CARD OF 'quitrentlaw07.JournalDoes'. -/
def journalDoesCard : Claim7 := { stood := { row := journalDoesRow, standIns := [], harness := (true, "3e6a3ad829bf78ebc9fafdcdfe71c135dd2f8480ec2e0d033414e43c6df787e2"), looks := false }, kinds := [], alts := [], laidByText := true, laidKinds := [.data, .pinned], laidTests := true, laidLooks := .later }
def JournalDoesCardSaid : Prop := Claim7.holds Tryd.pinned (.plain (OpenSpec.ofChange journalDoesSpec)) journalDoesCard

/-- THE TIED CARD OF 'quitrentlaw07.JournalSure'. -/
def journalSureCard : Claim7 := { stood := { row := journalSureRow, standIns := [], harness := (true, "3e6a3ad829bf78ebc9fafdcdfe71c135dd2f8480ec2e0d033414e43c6df787e2"), looks := false }, kinds := [], alts := [], laidByText := true, laidKinds := [.data, .pinned], laidTests := true, laidLooks := .later }
def JournalSureCardSaid : Prop := Claim7.holds Tryd.pinned (.plain (OpenSpec.ofChange journalSureSpec)) journalSureCard

/-- THE SECOND FORM's CARD OF 'quitrentlaw06.RecordTells'. -/
def recordTellsUptoCard : Claim7 := { stood := { row := recordTellsUptoRow, standIns := [], harness := (true, "3e6a3ad829bf78ebc9fafdcdfe71c135dd2f8480ec2e0d033414e43c6df787e2"), looks := false }, kinds := [], alts := [], laidByText := true, laidKinds := [.data, .pinned], laidTests := true, laidLooks := .later }
def RecordTellsUptoCardSaid : Prop := Claim7.holds Tryd.pinned (.plain (OpenSpec.upto recordTellsSpec)) recordTellsUptoCard

/-- THE SECOND FORM's CARD OF 'quitrentlaw06.RecordBack'. -/
def recordBackUptoCard : Claim7 := { stood := { row := recordBackUptoRow, standIns := [], harness := (true, "3e6a3ad829bf78ebc9fafdcdfe71c135dd2f8480ec2e0d033414e43c6df787e2"), looks := false }, kinds := [], alts := [], laidByText := true, laidKinds := [.data, .pinned], laidTests := true, laidLooks := .later }
def RecordBackUptoCardSaid : Prop := Claim7.holds Tryd.pinned (.plain (OpenSpec.upto recordBackSpec)) recordBackUptoCard

/-- THE SECOND FORM's CARD OF 'quitrentlaw06.RecordTurned'. -/
def recordTurnedUptoCard : Claim7 := { stood := { row := recordTurnedUptoRow, standIns := [], harness := (true, "3e6a3ad829bf78ebc9fafdcdfe71c135dd2f8480ec2e0d033414e43c6df787e2"), looks := false }, kinds := [], alts := [], laidByText := true, laidKinds := [.data, .pinned], laidTests := true, laidLooks := .later }
def RecordTurnedUptoCardSaid : Prop := Claim7.holds Tryd.pinned (.plain (OpenSpec.upto recordTurnedSpec)) recordTurnedUptoCard

/-- THE SECOND FORM's CARD OF 'quitrentlaw07.JournalGoes'. -/
def journalGoesUptoCard : Claim7 := { stood := { row := journalGoesUptoRow, standIns := [], harness := (true, "3e6a3ad829bf78ebc9fafdcdfe71c135dd2f8480ec2e0d033414e43c6df787e2"), looks := false }, kinds := [], alts := [], laidByText := true, laidKinds := [.data, .pinned], laidTests := true, laidLooks := .later }
def JournalGoesUptoCardSaid : Prop := Claim7.holds Tryd.pinned (.plain (OpenSpec.upto journalGoesSpec)) journalGoesUptoCard

/-- THE SECOND FORM's CARD OF 'quitrentlaw07.JournalDoes'. -/
def journalDoesUptoCard : Claim7 := { stood := { row := journalDoesUptoRow, standIns := [], harness := (true, "3e6a3ad829bf78ebc9fafdcdfe71c135dd2f8480ec2e0d033414e43c6df787e2"), looks := false }, kinds := [], alts := [], laidByText := true, laidKinds := [.data, .pinned], laidTests := true, laidLooks := .later }
def JournalDoesUptoCardSaid : Prop := Claim7.holds Tryd.pinned (.plain (OpenSpec.upto journalDoesSpec)) journalDoesUptoCard

/-- THE SECOND FORM's CARD OF 'quitrentlaw07.JournalSure'. -/
def journalSureUptoCard : Claim7 := { stood := { row := journalSureUptoRow, standIns := [], harness := (true, "3e6a3ad829bf78ebc9fafdcdfe71c135dd2f8480ec2e0d033414e43c6df787e2"), looks := false }, kinds := [], alts := [], laidByText := true, laidKinds := [.data, .pinned], laidTests := true, laidLooks := .later }
def JournalSureUptoCardSaid : Prop := Claim7.holds Tryd.pinned (.plain (OpenSpec.upto journalSureSpec)) journalSureUptoCard
end Rows
end Go.Proofs.YtnfeknaeikpdmaaDoor
