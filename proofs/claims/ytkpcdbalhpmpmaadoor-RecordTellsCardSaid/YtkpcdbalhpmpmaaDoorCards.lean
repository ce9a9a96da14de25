/-
  DERIVED. GIVEN WITH THE SEED: THE CARDS: each row of YtkpcdbalhpmpmaaDoorRows.lean that lists a variable, with what it lists TIED to the program's text (the seventh form; the later family's looks); each row that meets fmt, with fmt's text TOLD by the authors' own Lean function (tested against real Go, not proved from fmt's source: count such statements apart). THE CARD IS WHAT COUNTS. Prove the row's statement (the work); the ties are given (YtkpcdbalhpmpmaaDoorTie.lean); close each card by the builder's one call (the guide's Derived/Test/ToyasCard.lean, 'card_holds'). Laid BY PROGRAM, IN A SANDBOX (cutbox-door.mjs). By AI agents, Wed Nov 11 2026. No macro, syntax, notation, axiom, sorry.
-/
import Derived.Test.YtkpcdbalhpmpmaaDoorRows
import GoSem.ClaimSeven
namespace Go.Proofs.YtkpcdbalhpmpmaaDoor
namespace Rows

/-- THE TIED CARD OF 'matriculalaw12.TicketUnlike'. -/
def ticketUnlikeCard : Claim7 := { stood := { row := ticketUnlikeRow, standIns := [], harness := (true, "c4576b1261b2e695bb569d09e8675e9616927bf61aadd451127cdfc6947a135d"), looks := false }, kinds := [], alts := [], laidByText := true, laidKinds := [.widerDeep], laidTests := true, laidLooks := .later }
def TicketUnlikeCardSaid : Prop := Claim7.holds Tryd.pinned (.plain (OpenSpec.ofChange ticketUnlikeSpec)) ticketUnlikeCard

/-- THE TIED CARD OF 'matriculalaw12.TicketFinds'. -/
def ticketFindsCard : Claim7 := { stood := { row := ticketFindsRow, standIns := [], harness := (true, "c4576b1261b2e695bb569d09e8675e9616927bf61aadd451127cdfc6947a135d"), looks := false }, kinds := [], alts := [], laidByText := true, laidKinds := [.widerDeep], laidTests := true, laidLooks := .later }
def TicketFindsCardSaid : Prop := Claim7.holds Tryd.pinned (.plain (OpenSpec.ofChange ticketFindsSpec)) ticketFindsCard

/-- THE TIED CARD OF 'matriculalaw12.TicketTells'. -/
def ticketTellsCard : Claim7 := { stood := { row := ticketTellsRow, standIns := [], harness := (true, "c4576b1261b2e695bb569d09e8675e9616927bf61aadd451127cdfc6947a135d"), looks := false }, kinds := [], alts := [], laidByText := true, laidKinds := [.widerDeep], laidTests := true, laidLooks := .later }
def TicketTellsCardSaid : Prop := Claim7.holds Tryd.pinned (.plain (OpenSpec.ofChange ticketTellsSpec)) ticketTellsCard

/-- THE TIED CARD OF 'matriculalaw12.TicketBack'. -/
def ticketBackCard : Claim7 := { stood := { row := ticketBackRow, standIns := [], harness := (true, "c4576b1261b2e695bb569d09e8675e9616927bf61aadd451127cdfc6947a135d"), looks := false }, kinds := [], alts := [], laidByText := true, laidKinds := [.widerDeep], laidTests := true, laidLooks := .later }
def TicketBackCardSaid : Prop := Claim7.holds Tryd.pinned (.plain (OpenSpec.ofChange ticketBackSpec)) ticketBackCard

/-- THE TIED CARD OF 'matriculalaw12.TicketMints'. -/
def ticketMintsCard : Claim7 := { stood := { row := ticketMintsRow, standIns := [], harness := (true, "c4576b1261b2e695bb569d09e8675e9616927bf61aadd451127cdfc6947a135d"), looks := false }, kinds := [], alts := [], laidByText := true, laidKinds := [.widerDeep], laidTests := true, laidLooks := .later }
def TicketMintsCardSaid : Prop := Claim7.holds Tryd.pinned (.plain (OpenSpec.ofChange ticketMintsSpec)) ticketMintsCard

/-- THE TIED CARD OF 'matriculalaw13.RecordTells'. -/
def recordTellsCard : Claim7 := { stood := { row := recordTellsRow, standIns := [], harness := (true, "c4576b1261b2e695bb569d09e8675e9616927bf61aadd451127cdfc6947a135d"), looks := false }, kinds := [], alts := [], laidByText := true, laidKinds := [.widerDeep], laidTests := true, laidLooks := .later }
def RecordTellsCardSaid : Prop := Claim7.holds Tryd.pinned (.plain (OpenSpec.ofChange recordTellsSpec)) recordTellsCard

/-- THE TIED CARD OF 'matriculalaw13.RecordBack'. -/
def recordBackCard : Claim7 := { stood := { row := recordBackRow, standIns := [], harness := (true, "c4576b1261b2e695bb569d09e8675e9616927bf61aadd451127cdfc6947a135d"), looks := false }, kinds := [], alts := [], laidByText := true, laidKinds := [.widerDeep], laidTests := true, laidLooks := .later }
def RecordBackCardSaid : Prop := Claim7.holds Tryd.pinned (.plain (OpenSpec.ofChange recordBackSpec)) recordBackCard

/-- THE TIED CARD OF 'matriculalaw13.RecordUnlike'. -/
def recordUnlikeCard : Claim7 := { stood := { row := recordUnlikeRow, standIns := [], harness := (true, "c4576b1261b2e695bb569d09e8675e9616927bf61aadd451127cdfc6947a135d"), looks := false }, kinds := [], alts := [], laidByText := true, laidKinds := [.widerDeep], laidTests := true, laidLooks := .later }
def RecordUnlikeCardSaid : Prop := Claim7.holds Tryd.pinned (.plain (OpenSpec.ofChange recordUnlikeSpec)) recordUnlikeCard

/-- THE TIED CARD OF 'matriculalaw13.RecordComes'. -/
def recordComesCard : Claim7 := { stood := { row := recordComesRow, standIns := [], harness := (true, "c4576b1261b2e695bb569d09e8675e9616927bf61aadd451127cdfc6947a135d"), looks := false }, kinds := [], alts := [], laidByText := true, laidKinds := [.widerDeep], laidTests := true, laidLooks := .later }
def RecordComesCardSaid : Prop := Claim7.holds Tryd.pinned (.plain (OpenSpec.ofChange recordComesSpec)) recordComesCard

/-- THE TIED CARD OF 'matriculalaw13.RecordSteps'. -/
def recordStepsCard : Claim7 := { stood := { row := recordStepsRow, standIns := [], harness := (true, "c4576b1261b2e695bb569d09e8675e9616927bf61aadd451127cdfc6947a135d"), looks := false }, kinds := [], alts := [], laidByText := true, laidKinds := [.widerDeep], laidTests := true, laidLooks := .later }
def RecordStepsCardSaid : Prop := Claim7.holds Tryd.pinned (.plain (OpenSpec.ofChange recordStepsSpec)) recordStepsCard

/-- THE SECOND FORM's CARD OF 'matriculalaw12.TicketUnlike'. -/
def ticketUnlikeUptoCard : Claim7 := { stood := { row := ticketUnlikeUptoRow, standIns := [], harness := (true, "c4576b1261b2e695bb569d09e8675e9616927bf61aadd451127cdfc6947a135d"), looks := false }, kinds := [], alts := [], laidByText := true, laidKinds := [.widerDeep], laidTests := true, laidLooks := .later }
def TicketUnlikeUptoCardSaid : Prop := Claim7.holds Tryd.pinned (.plain (OpenSpec.upto ticketUnlikeSpec)) ticketUnlikeUptoCard

/-- THE SECOND FORM's CARD OF 'matriculalaw12.TicketFinds'. -/
def ticketFindsUptoCard : Claim7 := { stood := { row := ticketFindsUptoRow, standIns := [], harness := (true, "c4576b1261b2e695bb569d09e8675e9616927bf61aadd451127cdfc6947a135d"), looks := false }, kinds := [], alts := [], laidByText := true, laidKinds := [.widerDeep], laidTests := true, laidLooks := .later }
def TicketFindsUptoCardSaid : Prop := Claim7.holds Tryd.pinned (.plain (OpenSpec.upto ticketFindsSpec)) ticketFindsUptoCard

/-- THE SECOND FORM's CARD OF 'matriculalaw12.TicketTells'. -/
def ticketTellsUptoCard : Claim7 := { stood := { row := ticketTellsUptoRow, standIns := [], harness := (true, "c4576b1261b2e695bb569d09e8675e9616927bf61aadd451127cdfc6947a135d"), looks := false }, kinds := [], alts := [], laidByText := true, laidKinds := [.widerDeep], laidTests := true, laidLooks := .later }
def TicketTellsUptoCardSaid : Prop := Claim7.holds Tryd.pinned (.plain (OpenSpec.upto ticketTellsSpec)) ticketTellsUptoCard

/-- THE SECOND FORM's CARD OF 'matriculalaw12.TicketBack'. -/
def ticketBackUptoCard : Claim7 := { stood := { row := ticketBackUptoRow, standIns := [], harness := (true, "c4576b1261b2e695bb569d09e8675e9616927bf61aadd451127cdfc6947a135d"), looks := false }, kinds := [], alts := [], laidByText := true, laidKinds := [.widerDeep], laidTests := true, laidLooks := .later }
def TicketBackUptoCardSaid : Prop := Claim7.holds Tryd.pinned (.plain (OpenSpec.upto ticketBackSpec)) ticketBackUptoCard

/-- THE SECOND FORM's CARD OF 'matriculalaw12.TicketMints'. -/
def ticketMintsUptoCard : Claim7 := { stood := { row := ticketMintsUptoRow, standIns := [], harness := (true, "c4576b1261b2e695bb569d09e8675e9616927bf61aadd451127cdfc6947a135d"), looks := false }, kinds := [], alts := [], laidByText := true, laidKinds := [.widerDeep], laidTests := true, laidLooks := .later }
def TicketMintsUptoCardSaid : Prop := Claim7.holds Tryd.pinned (.plain (OpenSpec.upto ticketMintsSpec)) ticketMintsUptoCard

/-- THE SECOND FORM's CARD OF 'matriculalaw13.RecordTells'. -/
def recordTellsUptoCard : Claim7 := { stood := { row := recordTellsUptoRow, standIns := [], harness := (true, "c4576b1261b2e695bb569d09e8675e9616927bf61aadd451127cdfc6947a135d"), looks := false }, kinds := [], alts := [], laidByText := true, laidKinds := [.widerDeep], laidTests := true, laidLooks := .later }
def RecordTellsUptoCardSaid : Prop := Claim7.holds Tryd.pinned (.plain (OpenSpec.upto recordTellsSpec)) recordTellsUptoCard

/-- THE SECOND FORM's CARD OF 'matriculalaw13.RecordBack'. -/
def recordBackUptoCard : Claim7 := { stood := { row := recordBackUptoRow, standIns := [], harness := (true, "c4576b1261b2e695bb569d09e8675e9616927bf61aadd451127cdfc6947a135d"), looks := false }, kinds := [], alts := [], laidByText := true, laidKinds := [.widerDeep], laidTests := true, laidLooks := .later }
def RecordBackUptoCardSaid : Prop := Claim7.holds Tryd.pinned (.plain (OpenSpec.upto recordBackSpec)) recordBackUptoCard

/-- THE SECOND FORM's CARD OF 'matriculalaw13.RecordUnlike'. -/
def recordUnlikeUptoCard : Claim7 := { stood := { row := recordUnlikeUptoRow, standIns := [], harness := (true, "c4576b1261b2e695bb569d09e8675e9616927bf61aadd451127cdfc6947a135d"), looks := false }, kinds := [], alts := [], laidByText := true, laidKinds := [.widerDeep], laidTests := true, laidLooks := .later }
def RecordUnlikeUptoCardSaid : Prop := Claim7.holds Tryd.pinned (.plain (OpenSpec.upto recordUnlikeSpec)) recordUnlikeUptoCard

/-- THE SECOND FORM's CARD OF 'matriculalaw13.RecordComes'. -/
def recordComesUptoCard : Claim7 := { stood := { row := recordComesUptoRow, standIns := [], harness := (true, "c4576b1261b2e695bb569d09e8675e9616927bf61aadd451127cdfc6947a135d"), looks := false }, kinds := [], alts := [], laidByText := true, laidKinds := [.widerDeep], laidTests := true, laidLooks := .later }
def RecordComesUptoCardSaid : Prop := Claim7.holds Tryd.pinned (.plain (OpenSpec.upto recordComesSpec)) recordComesUptoCard

/-- THE SECOND FORM's CARD OF 'matriculalaw13.RecordSteps'. -/
def recordStepsUptoCard : Claim7 := { stood := { row := recordStepsUptoRow, standIns := [], harness := (true, "c4576b1261b2e695bb569d09e8675e9616927bf61aadd451127cdfc6947a135d"), looks := false }, kinds := [], alts := [], laidByText := true, laidKinds := [.widerDeep], laidTests := true, laidLooks := .later }
def RecordStepsUptoCardSaid : Prop := Claim7.holds Tryd.pinned (.plain (OpenSpec.upto recordStepsSpec)) recordStepsUptoCard
end Rows
end Go.Proofs.YtkpcdbalhpmpmaaDoor
