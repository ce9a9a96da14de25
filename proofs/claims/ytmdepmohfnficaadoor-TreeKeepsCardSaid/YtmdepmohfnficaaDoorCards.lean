/-
  DERIVED. GIVEN WITH THE SEED: THE CARDS: each row of YtmdepmohfnficaaDoorRows.lean that lists a variable, with what it lists TIED to the program's text (the seventh form; the later family's looks); each row that meets fmt, with fmt's text TOLD by the authors' own Lean function (tested against real Go, not proved from fmt's source: count such statements apart). THE CARD IS WHAT COUNTS. Prove the row's statement (the work); the ties are given (YtmdepmohfnficaaDoorTie.lean); close each card by the builder's one call (the guide's Derived/Test/ToyasCard.lean, 'card_holds'). Laid BY PROGRAM, IN A SANDBOX (cutbox-door.mjs). By AI agents, Wed Nov 11 2026. No macro, syntax, notation, axiom, sorry.
-/
import Derived.Test.YtmdepmohfnficaaDoorRows
import GoSem.ClaimSeven
namespace Go.Proofs.YtmdepmohfnficaaDoor
namespace Rows

/-- THE TIED CARD OF 'matriculalaw15.ExpiryNever'. -/
def expiryNeverCard : Claim7 := { stood := { row := expiryNeverRow, standIns := [], harness := (true, "a52d2bc05aae4a562ecfa94f867ab53b87abc365cf96f95489b35905cc372133"), looks := false }, kinds := [], alts := [], laidByText := true, laidKinds := [.widerDeep], laidTests := true, laidLooks := .later }
def ExpiryNeverCardSaid : Prop := Claim7.holds Tryd.pinned (.plain (OpenSpec.ofChange expiryNeverSpec)) expiryNeverCard

/-- THE TIED CARD OF 'matriculalaw14.TreeCopies'. -/
def treeCopiesCard : Claim7 := { stood := { row := treeCopiesRow, standIns := [], harness := (true, "a52d2bc05aae4a562ecfa94f867ab53b87abc365cf96f95489b35905cc372133"), looks := false }, kinds := [], alts := [], laidByText := true, laidKinds := [.widerDeep], laidTests := true, laidLooks := .later }
def TreeCopiesCardSaid : Prop := Claim7.holds Tryd.pinned (.plain (OpenSpec.ofChange treeCopiesSpec)) treeCopiesCard

/-- THE TIED CARD OF 'matriculalaw15.ExpirySweeps'. -/
def expirySweepsCard : Claim7 := { stood := { row := expirySweepsRow, standIns := [], harness := (true, "a52d2bc05aae4a562ecfa94f867ab53b87abc365cf96f95489b35905cc372133"), looks := false }, kinds := [], alts := [], laidByText := true, laidKinds := [.widerDeep], laidTests := true, laidLooks := .later }
def ExpirySweepsCardSaid : Prop := Claim7.holds Tryd.pinned (.plain (OpenSpec.ofChange expirySweepsSpec)) expirySweepsCard

/-- THE TIED CARD OF 'matriculalaw15.ExpiryFree'. -/
def expiryFreeCard : Claim7 := { stood := { row := expiryFreeRow, standIns := [], harness := (true, "a52d2bc05aae4a562ecfa94f867ab53b87abc365cf96f95489b35905cc372133"), looks := false }, kinds := [], alts := [], laidByText := true, laidKinds := [.widerDeep], laidTests := true, laidLooks := .later }
def ExpiryFreeCardSaid : Prop := Claim7.holds Tryd.pinned (.plain (OpenSpec.ofChange expiryFreeSpec)) expiryFreeCard

/-- THE TIED CARD OF 'matriculalaw14.TreeDrops'. -/
def treeDropsCard : Claim7 := { stood := { row := treeDropsRow, standIns := [], harness := (true, "a52d2bc05aae4a562ecfa94f867ab53b87abc365cf96f95489b35905cc372133"), looks := false }, kinds := [], alts := [], laidByText := true, laidKinds := [.widerDeep], laidTests := true, laidLooks := .later }
def TreeDropsCardSaid : Prop := Claim7.holds Tryd.pinned (.plain (OpenSpec.ofChange treeDropsSpec)) treeDropsCard

/-- THE TIED CARD OF 'matriculalaw14.TreePlays'. -/
def treePlaysCard : Claim7 := { stood := { row := treePlaysRow, standIns := [], harness := (true, "a52d2bc05aae4a562ecfa94f867ab53b87abc365cf96f95489b35905cc372133"), looks := false }, kinds := [], alts := [], laidByText := true, laidKinds := [.widerDeep], laidTests := true, laidLooks := .later }
def TreePlaysCardSaid : Prop := Claim7.holds Tryd.pinned (.plain (OpenSpec.ofChange treePlaysSpec)) treePlaysCard

/-- THE TIED CARD OF 'matriculalaw14.TreeStands'. -/
def treeStandsCard : Claim7 := { stood := { row := treeStandsRow, standIns := [], harness := (true, "a52d2bc05aae4a562ecfa94f867ab53b87abc365cf96f95489b35905cc372133"), looks := false }, kinds := [], alts := [], laidByText := true, laidKinds := [.widerDeep], laidTests := true, laidLooks := .later }
def TreeStandsCardSaid : Prop := Claim7.holds Tryd.pinned (.plain (OpenSpec.ofChange treeStandsSpec)) treeStandsCard

/-- THE TIED CARD OF 'matriculalaw15.ExpiryClean'. -/
def expiryCleanCard : Claim7 := { stood := { row := expiryCleanRow, standIns := [], harness := (true, "a52d2bc05aae4a562ecfa94f867ab53b87abc365cf96f95489b35905cc372133"), looks := false }, kinds := [], alts := [], laidByText := true, laidKinds := [.widerDeep], laidTests := true, laidLooks := .later }
def ExpiryCleanCardSaid : Prop := Claim7.holds Tryd.pinned (.plain (OpenSpec.ofChange expiryCleanSpec)) expiryCleanCard

/-- THE TIED CARD OF 'matriculalaw14.TreeLoads'. -/
def treeLoadsCard : Claim7 := { stood := { row := treeLoadsRow, standIns := [], harness := (true, "a52d2bc05aae4a562ecfa94f867ab53b87abc365cf96f95489b35905cc372133"), looks := false }, kinds := [], alts := [], laidByText := true, laidKinds := [.widerDeep], laidTests := true, laidLooks := .later }
def TreeLoadsCardSaid : Prop := Claim7.holds Tryd.pinned (.plain (OpenSpec.ofChange treeLoadsSpec)) treeLoadsCard

/-- THE TIED CARD OF 'matriculalaw14.TreeKeeps'. -/
def treeKeepsCard : Claim7 := { stood := { row := treeKeepsRow, standIns := [], harness := (true, "a52d2bc05aae4a562ecfa94f867ab53b87abc365cf96f95489b35905cc372133"), looks := false }, kinds := [], alts := [], laidByText := true, laidKinds := [.widerDeep], laidTests := true, laidLooks := .later }
def TreeKeepsCardSaid : Prop := Claim7.holds Tryd.pinned (.plain (OpenSpec.ofChange treeKeepsSpec)) treeKeepsCard

/-- THE SECOND FORM's CARD OF 'matriculalaw15.ExpiryNever'. -/
def expiryNeverUptoCard : Claim7 := { stood := { row := expiryNeverUptoRow, standIns := [], harness := (true, "a52d2bc05aae4a562ecfa94f867ab53b87abc365cf96f95489b35905cc372133"), looks := false }, kinds := [], alts := [], laidByText := true, laidKinds := [.widerDeep], laidTests := true, laidLooks := .later }
def ExpiryNeverUptoCardSaid : Prop := Claim7.holds Tryd.pinned (.plain (OpenSpec.upto expiryNeverSpec)) expiryNeverUptoCard

/-- THE SECOND FORM's CARD OF 'matriculalaw14.TreeCopies'. -/
def treeCopiesUptoCard : Claim7 := { stood := { row := treeCopiesUptoRow, standIns := [], harness := (true, "a52d2bc05aae4a562ecfa94f867ab53b87abc365cf96f95489b35905cc372133"), looks := false }, kinds := [], alts := [], laidByText := true, laidKinds := [.widerDeep], laidTests := true, laidLooks := .later }
def TreeCopiesUptoCardSaid : Prop := Claim7.holds Tryd.pinned (.plain (OpenSpec.upto treeCopiesSpec)) treeCopiesUptoCard

/-- THE SECOND FORM's CARD OF 'matriculalaw15.ExpirySweeps'. -/
def expirySweepsUptoCard : Claim7 := { stood := { row := expirySweepsUptoRow, standIns := [], harness := (true, "a52d2bc05aae4a562ecfa94f867ab53b87abc365cf96f95489b35905cc372133"), looks := false }, kinds := [], alts := [], laidByText := true, laidKinds := [.widerDeep], laidTests := true, laidLooks := .later }
def ExpirySweepsUptoCardSaid : Prop := Claim7.holds Tryd.pinned (.plain (OpenSpec.upto expirySweepsSpec)) expirySweepsUptoCard

/-- THE SECOND FORM's CARD OF 'matriculalaw15.ExpiryFree'. -/
def expiryFreeUptoCard : Claim7 := { stood := { row := expiryFreeUptoRow, standIns := [], harness := (true, "a52d2bc05aae4a562ecfa94f867ab53b87abc365cf96f95489b35905cc372133"), looks := false }, kinds := [], alts := [], laidByText := true, laidKinds := [.widerDeep], laidTests := true, laidLooks := .later }
def ExpiryFreeUptoCardSaid : Prop := Claim7.holds Tryd.pinned (.plain (OpenSpec.upto expiryFreeSpec)) expiryFreeUptoCard

/-- THE SECOND FORM's CARD OF 'matriculalaw14.TreeDrops'. -/
def treeDropsUptoCard : Claim7 := { stood := { row := treeDropsUptoRow, standIns := [], harness := (true, "a52d2bc05aae4a562ecfa94f867ab53b87abc365cf96f95489b35905cc372133"), looks := false }, kinds := [], alts := [], laidByText := true, laidKinds := [.widerDeep], laidTests := true, laidLooks := .later }
def TreeDropsUptoCardSaid : Prop := Claim7.holds Tryd.pinned (.plain (OpenSpec.upto treeDropsSpec)) treeDropsUptoCard

/-- THE SECOND FORM's CARD OF 'matriculalaw14.TreePlays'. -/
def treePlaysUptoCard : Claim7 := { stood := { row := treePlaysUptoRow, standIns := [], harness := (true, "a52d2bc05aae4a562ecfa94f867ab53b87abc365cf96f95489b35905cc372133"), looks := false }, kinds := [], alts := [], laidByText := true, laidKinds := [.widerDeep], laidTests := true, laidLooks := .later }
def TreePlaysUptoCardSaid : Prop := Claim7.holds Tryd.pinned (.plain (OpenSpec.upto treePlaysSpec)) treePlaysUptoCard

/-- THE SECOND FORM's CARD OF 'matriculalaw14.TreeStands'. -/
def treeStandsUptoCard : Claim7 := { stood := { row := treeStandsUptoRow, standIns := [], harness := (true, "a52d2bc05aae4a562ecfa94f867ab53b87abc365cf96f95489b35905cc372133"), looks := false }, kinds := [], alts := [], laidByText := true, laidKinds := [.widerDeep], laidTests := true, laidLooks := .later }
def TreeStandsUptoCardSaid : Prop := Claim7.holds Tryd.pinned (.plain (OpenSpec.upto treeStandsSpec)) treeStandsUptoCard

/-- THE SECOND FORM's CARD OF 'matriculalaw15.ExpiryClean'. -/
def expiryCleanUptoCard : Claim7 := { stood := { row := expiryCleanUptoRow, standIns := [], harness := (true, "a52d2bc05aae4a562ecfa94f867ab53b87abc365cf96f95489b35905cc372133"), looks := false }, kinds := [], alts := [], laidByText := true, laidKinds := [.widerDeep], laidTests := true, laidLooks := .later }
def ExpiryCleanUptoCardSaid : Prop := Claim7.holds Tryd.pinned (.plain (OpenSpec.upto expiryCleanSpec)) expiryCleanUptoCard

/-- THE SECOND FORM's CARD OF 'matriculalaw14.TreeLoads'. -/
def treeLoadsUptoCard : Claim7 := { stood := { row := treeLoadsUptoRow, standIns := [], harness := (true, "a52d2bc05aae4a562ecfa94f867ab53b87abc365cf96f95489b35905cc372133"), looks := false }, kinds := [], alts := [], laidByText := true, laidKinds := [.widerDeep], laidTests := true, laidLooks := .later }
def TreeLoadsUptoCardSaid : Prop := Claim7.holds Tryd.pinned (.plain (OpenSpec.upto treeLoadsSpec)) treeLoadsUptoCard

/-- THE SECOND FORM's CARD OF 'matriculalaw14.TreeKeeps'. -/
def treeKeepsUptoCard : Claim7 := { stood := { row := treeKeepsUptoRow, standIns := [], harness := (true, "a52d2bc05aae4a562ecfa94f867ab53b87abc365cf96f95489b35905cc372133"), looks := false }, kinds := [], alts := [], laidByText := true, laidKinds := [.widerDeep], laidTests := true, laidLooks := .later }
def TreeKeepsUptoCardSaid : Prop := Claim7.holds Tryd.pinned (.plain (OpenSpec.upto treeKeepsSpec)) treeKeepsUptoCard
end Rows
end Go.Proofs.YtmdepmohfnficaaDoor
