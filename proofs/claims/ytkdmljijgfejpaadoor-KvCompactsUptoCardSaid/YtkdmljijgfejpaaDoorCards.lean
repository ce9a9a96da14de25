/-
  DERIVED. GIVEN WITH THE SEED: THE CARDS: each row of YtkdmljijgfejpaaDoorRows.lean that lists a variable, with what it lists TIED to the program's text (the seventh form; the later family's looks); each row that meets fmt, with fmt's text TOLD by the authors' own Lean function (tested against real Go, not proved from fmt's source: count such statements apart). THE CARD IS WHAT COUNTS. Prove the row's statement (the work); the ties are given (YtkdmljijgfejpaaDoorTie.lean); close each card by the builder's one call (the guide's Derived/Test/ToyasCard.lean, 'card_holds'). Laid BY PROGRAM, IN A SANDBOX (cutbox-door.mjs). By AI agents, Wed Nov 11 2026. No macro, syntax, notation, axiom, sorry.
-/
import Derived.Test.YtkdmljijgfejpaaDoorRows
import GoSem.ClaimSeven
namespace Go.Proofs.YtkdmljijgfejpaaDoor
namespace Rows

/-- THE TIED CARD OF 'matriculalaw11.KvCodes'. -/
def kvCodesCard : Claim7 := { stood := { row := kvCodesRow, standIns := [], harness := (true, "8769c890b1cc726f9ad7835e311036a160e89dbdda25bd2acb54fa65457dd791"), looks := false }, kinds := [], alts := [], laidByText := true, laidKinds := [.data], laidTests := true, laidLooks := .later }
def KvCodesCardSaid : Prop := Claim7.holds Tryd.pinned (.plain (OpenSpec.ofChange kvCodesSpec)) kvCodesCard

/-- THE TIED CARD OF 'matriculalaw11.KvJoins'. -/
def kvJoinsCard : Claim7 := { stood := { row := kvJoinsRow, standIns := [], harness := (true, "8769c890b1cc726f9ad7835e311036a160e89dbdda25bd2acb54fa65457dd791"), looks := false }, kinds := [], alts := [], laidByText := true, laidKinds := [.data], laidTests := true, laidLooks := .later }
def KvJoinsCardSaid : Prop := Claim7.holds Tryd.pinned (.plain (OpenSpec.ofChange kvJoinsSpec)) kvJoinsCard

/-- THE TIED CARD OF 'matriculalaw11.KvFails'. -/
def kvFailsCard : Claim7 := { stood := { row := kvFailsRow, standIns := [], harness := (true, "8769c890b1cc726f9ad7835e311036a160e89dbdda25bd2acb54fa65457dd791"), looks := false }, kinds := [], alts := [], laidByText := true, laidKinds := [.data], laidTests := true, laidLooks := .later }
def KvFailsCardSaid : Prop := Claim7.holds Tryd.pinned (.plain (OpenSpec.ofChange kvFailsSpec)) kvFailsCard

/-- THE TIED CARD OF 'matriculalaw11.KvCrashes'. -/
def kvCrashesCard : Claim7 := { stood := { row := kvCrashesRow, standIns := [], harness := (true, "8769c890b1cc726f9ad7835e311036a160e89dbdda25bd2acb54fa65457dd791"), looks := false }, kinds := [], alts := [], laidByText := true, laidKinds := [.data], laidTests := true, laidLooks := .later }
def KvCrashesCardSaid : Prop := Claim7.holds Tryd.pinned (.plain (OpenSpec.ofChange kvCrashesSpec)) kvCrashesCard

/-- THE TIED CARD OF 'matriculalaw11.KvCompacts'. -/
def kvCompactsCard : Claim7 := { stood := { row := kvCompactsRow, standIns := [], harness := (true, "8769c890b1cc726f9ad7835e311036a160e89dbdda25bd2acb54fa65457dd791"), looks := false }, kinds := [], alts := [], laidByText := true, laidKinds := [.data], laidTests := true, laidLooks := .later }
def KvCompactsCardSaid : Prop := Claim7.holds Tryd.pinned (.plain (OpenSpec.ofChange kvCompactsSpec)) kvCompactsCard

/-- THE SECOND FORM's CARD OF 'matriculalaw11.KvCodes'. -/
def kvCodesUptoCard : Claim7 := { stood := { row := kvCodesUptoRow, standIns := [], harness := (true, "8769c890b1cc726f9ad7835e311036a160e89dbdda25bd2acb54fa65457dd791"), looks := false }, kinds := [], alts := [], laidByText := true, laidKinds := [.data], laidTests := true, laidLooks := .later }
def KvCodesUptoCardSaid : Prop := Claim7.holds Tryd.pinned (.plain (OpenSpec.upto kvCodesSpec)) kvCodesUptoCard

/-- THE SECOND FORM's CARD OF 'matriculalaw11.KvJoins'. -/
def kvJoinsUptoCard : Claim7 := { stood := { row := kvJoinsUptoRow, standIns := [], harness := (true, "8769c890b1cc726f9ad7835e311036a160e89dbdda25bd2acb54fa65457dd791"), looks := false }, kinds := [], alts := [], laidByText := true, laidKinds := [.data], laidTests := true, laidLooks := .later }
def KvJoinsUptoCardSaid : Prop := Claim7.holds Tryd.pinned (.plain (OpenSpec.upto kvJoinsSpec)) kvJoinsUptoCard

/-- THE SECOND FORM's CARD OF 'matriculalaw11.KvFails'. -/
def kvFailsUptoCard : Claim7 := { stood := { row := kvFailsUptoRow, standIns := [], harness := (true, "8769c890b1cc726f9ad7835e311036a160e89dbdda25bd2acb54fa65457dd791"), looks := false }, kinds := [], alts := [], laidByText := true, laidKinds := [.data], laidTests := true, laidLooks := .later }
def KvFailsUptoCardSaid : Prop := Claim7.holds Tryd.pinned (.plain (OpenSpec.upto kvFailsSpec)) kvFailsUptoCard

/-- THE SECOND FORM's CARD OF 'matriculalaw11.KvCrashes'. -/
def kvCrashesUptoCard : Claim7 := { stood := { row := kvCrashesUptoRow, standIns := [], harness := (true, "8769c890b1cc726f9ad7835e311036a160e89dbdda25bd2acb54fa65457dd791"), looks := false }, kinds := [], alts := [], laidByText := true, laidKinds := [.data], laidTests := true, laidLooks := .later }
def KvCrashesUptoCardSaid : Prop := Claim7.holds Tryd.pinned (.plain (OpenSpec.upto kvCrashesSpec)) kvCrashesUptoCard

/-- THE SECOND FORM's CARD OF 'matriculalaw11.KvCompacts'. -/
def kvCompactsUptoCard : Claim7 := { stood := { row := kvCompactsUptoRow, standIns := [], harness := (true, "8769c890b1cc726f9ad7835e311036a160e89dbdda25bd2acb54fa65457dd791"), looks := false }, kinds := [], alts := [], laidByText := true, laidKinds := [.data], laidTests := true, laidLooks := .later }
def KvCompactsUptoCardSaid : Prop := Claim7.holds Tryd.pinned (.plain (OpenSpec.upto kvCompactsSpec)) kvCompactsUptoCard
end Rows
end Go.Proofs.YtkdmljijgfejpaaDoor
