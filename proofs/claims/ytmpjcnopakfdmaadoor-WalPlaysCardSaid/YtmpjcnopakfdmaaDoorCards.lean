/-
  DERIVED. GIVEN WITH THE SEED: THE CARDS: each row of YtmpjcnopakfdmaaDoorRows.lean that lists a variable, with what it lists TIED to the program's text (the seventh form; the later family's looks); each row that meets fmt, with fmt's text TOLD by the authors' own Lean function (tested against real Go, not proved from fmt's source: count such statements apart). THE CARD IS WHAT COUNTS. Prove the row's statement (the work); the ties are given (YtmpjcnopakfdmaaDoorTie.lean); close each card by the builder's one call (the guide's Derived/Test/ToyasCard.lean, 'card_holds'). Laid BY PROGRAM, IN A SANDBOX (cutbox-door.mjs). By AI agents, Wed Nov 11 2026. No macro, syntax, notation, axiom, sorry.
-/
import Derived.Test.YtmpjcnopakfdmaaDoorRows
import GoSem.ClaimSeven
namespace Go.Proofs.YtmpjcnopakfdmaaDoor
namespace Rows

/-- THE TIED CARD OF 'matriculalaw09.FrameTells'. -/
def frameTellsCard : Claim7 := { stood := { row := frameTellsRow, standIns := [], harness := (true, "efdc41cc7ef4ac95e832f9cd3cbea25af962c4c1cf9f0b558ccba1a188b79816"), looks := false }, kinds := [], alts := [], laidByText := true, laidKinds := [.data], laidTests := true, laidLooks := .later }
def FrameTellsCardSaid : Prop := Claim7.holds Tryd.pinned (.plain (OpenSpec.ofChange frameTellsSpec)) frameTellsCard

/-- THE TIED CARD OF 'matriculalaw09.FrameBack'. -/
def frameBackCard : Claim7 := { stood := { row := frameBackRow, standIns := [], harness := (true, "efdc41cc7ef4ac95e832f9cd3cbea25af962c4c1cf9f0b558ccba1a188b79816"), looks := false }, kinds := [], alts := [], laidByText := true, laidKinds := [.data], laidTests := true, laidLooks := .later }
def FrameBackCardSaid : Prop := Claim7.holds Tryd.pinned (.plain (OpenSpec.ofChange frameBackSpec)) frameBackCard

/-- THE TIED CARD OF 'matriculalaw09.FrameCuts'. -/
def frameCutsCard : Claim7 := { stood := { row := frameCutsRow, standIns := [], harness := (true, "efdc41cc7ef4ac95e832f9cd3cbea25af962c4c1cf9f0b558ccba1a188b79816"), looks := false }, kinds := [], alts := [], laidByText := true, laidKinds := [.data], laidTests := true, laidLooks := .later }
def FrameCutsCardSaid : Prop := Claim7.holds Tryd.pinned (.plain (OpenSpec.ofChange frameCutsSpec)) frameCutsCard

/-- THE TIED CARD OF 'matriculalaw09.FrameGoesOn'. -/
def frameGoesOnCard : Claim7 := { stood := { row := frameGoesOnRow, standIns := [], harness := (true, "efdc41cc7ef4ac95e832f9cd3cbea25af962c4c1cf9f0b558ccba1a188b79816"), looks := false }, kinds := [], alts := [], laidByText := true, laidKinds := [.data], laidTests := true, laidLooks := .later }
def FrameGoesOnCardSaid : Prop := Claim7.holds Tryd.pinned (.plain (OpenSpec.ofChange frameGoesOnSpec)) frameGoesOnCard

/-- THE TIED CARD OF 'matriculalaw10.WalOpens'. -/
def walOpensCard : Claim7 := { stood := { row := walOpensRow, standIns := [], harness := (true, "efdc41cc7ef4ac95e832f9cd3cbea25af962c4c1cf9f0b558ccba1a188b79816"), looks := false }, kinds := [], alts := [], laidByText := true, laidKinds := [.data], laidTests := true, laidLooks := .later }
def WalOpensCardSaid : Prop := Claim7.holds Tryd.pinned (.plain (OpenSpec.ofChange walOpensSpec)) walOpensCard

/-- THE TIED CARD OF 'matriculalaw10.WalCrashes'. -/
def walCrashesCard : Claim7 := { stood := { row := walCrashesRow, standIns := [], harness := (true, "efdc41cc7ef4ac95e832f9cd3cbea25af962c4c1cf9f0b558ccba1a188b79816"), looks := false }, kinds := [], alts := [], laidByText := true, laidKinds := [.data], laidTests := true, laidLooks := .later }
def WalCrashesCardSaid : Prop := Claim7.holds Tryd.pinned (.plain (OpenSpec.ofChange walCrashesSpec)) walCrashesCard

/-- THE TIED CARD OF 'matriculalaw10.WalKeeps'. -/
def walKeepsCard : Claim7 := { stood := { row := walKeepsRow, standIns := [], harness := (true, "efdc41cc7ef4ac95e832f9cd3cbea25af962c4c1cf9f0b558ccba1a188b79816"), looks := false }, kinds := [], alts := [], laidByText := true, laidKinds := [.data], laidTests := true, laidLooks := .later }
def WalKeepsCardSaid : Prop := Claim7.holds Tryd.pinned (.plain (OpenSpec.ofChange walKeepsSpec)) walKeepsCard

/-- THE TIED CARD OF 'matriculalaw10.WalFails'. -/
def walFailsCard : Claim7 := { stood := { row := walFailsRow, standIns := [], harness := (true, "efdc41cc7ef4ac95e832f9cd3cbea25af962c4c1cf9f0b558ccba1a188b79816"), looks := false }, kinds := [], alts := [], laidByText := true, laidKinds := [.data], laidTests := true, laidLooks := .later }
def WalFailsCardSaid : Prop := Claim7.holds Tryd.pinned (.plain (OpenSpec.ofChange walFailsSpec)) walFailsCard

/-- THE TIED CARD OF 'matriculalaw10.WalPlays'. -/
def walPlaysCard : Claim7 := { stood := { row := walPlaysRow, standIns := [], harness := (true, "efdc41cc7ef4ac95e832f9cd3cbea25af962c4c1cf9f0b558ccba1a188b79816"), looks := false }, kinds := [], alts := [], laidByText := true, laidKinds := [.data], laidTests := true, laidLooks := .later }
def WalPlaysCardSaid : Prop := Claim7.holds Tryd.pinned (.plain (OpenSpec.ofChange walPlaysSpec)) walPlaysCard

/-- THE SECOND FORM's CARD OF 'matriculalaw09.FrameTells'. -/
def frameTellsUptoCard : Claim7 := { stood := { row := frameTellsUptoRow, standIns := [], harness := (true, "efdc41cc7ef4ac95e832f9cd3cbea25af962c4c1cf9f0b558ccba1a188b79816"), looks := false }, kinds := [], alts := [], laidByText := true, laidKinds := [.data], laidTests := true, laidLooks := .later }
def FrameTellsUptoCardSaid : Prop := Claim7.holds Tryd.pinned (.plain (OpenSpec.upto frameTellsSpec)) frameTellsUptoCard

/-- THE SECOND FORM's CARD OF 'matriculalaw09.FrameBack'. -/
def frameBackUptoCard : Claim7 := { stood := { row := frameBackUptoRow, standIns := [], harness := (true, "efdc41cc7ef4ac95e832f9cd3cbea25af962c4c1cf9f0b558ccba1a188b79816"), looks := false }, kinds := [], alts := [], laidByText := true, laidKinds := [.data], laidTests := true, laidLooks := .later }
def FrameBackUptoCardSaid : Prop := Claim7.holds Tryd.pinned (.plain (OpenSpec.upto frameBackSpec)) frameBackUptoCard

/-- THE SECOND FORM's CARD OF 'matriculalaw09.FrameCuts'. -/
def frameCutsUptoCard : Claim7 := { stood := { row := frameCutsUptoRow, standIns := [], harness := (true, "efdc41cc7ef4ac95e832f9cd3cbea25af962c4c1cf9f0b558ccba1a188b79816"), looks := false }, kinds := [], alts := [], laidByText := true, laidKinds := [.data], laidTests := true, laidLooks := .later }
def FrameCutsUptoCardSaid : Prop := Claim7.holds Tryd.pinned (.plain (OpenSpec.upto frameCutsSpec)) frameCutsUptoCard

/-- THE SECOND FORM's CARD OF 'matriculalaw09.FrameGoesOn'. -/
def frameGoesOnUptoCard : Claim7 := { stood := { row := frameGoesOnUptoRow, standIns := [], harness := (true, "efdc41cc7ef4ac95e832f9cd3cbea25af962c4c1cf9f0b558ccba1a188b79816"), looks := false }, kinds := [], alts := [], laidByText := true, laidKinds := [.data], laidTests := true, laidLooks := .later }
def FrameGoesOnUptoCardSaid : Prop := Claim7.holds Tryd.pinned (.plain (OpenSpec.upto frameGoesOnSpec)) frameGoesOnUptoCard

/-- THE SECOND FORM's CARD OF 'matriculalaw10.WalOpens'. -/
def walOpensUptoCard : Claim7 := { stood := { row := walOpensUptoRow, standIns := [], harness := (true, "efdc41cc7ef4ac95e832f9cd3cbea25af962c4c1cf9f0b558ccba1a188b79816"), looks := false }, kinds := [], alts := [], laidByText := true, laidKinds := [.data], laidTests := true, laidLooks := .later }
def WalOpensUptoCardSaid : Prop := Claim7.holds Tryd.pinned (.plain (OpenSpec.upto walOpensSpec)) walOpensUptoCard

/-- THE SECOND FORM's CARD OF 'matriculalaw10.WalCrashes'. -/
def walCrashesUptoCard : Claim7 := { stood := { row := walCrashesUptoRow, standIns := [], harness := (true, "efdc41cc7ef4ac95e832f9cd3cbea25af962c4c1cf9f0b558ccba1a188b79816"), looks := false }, kinds := [], alts := [], laidByText := true, laidKinds := [.data], laidTests := true, laidLooks := .later }
def WalCrashesUptoCardSaid : Prop := Claim7.holds Tryd.pinned (.plain (OpenSpec.upto walCrashesSpec)) walCrashesUptoCard

/-- THE SECOND FORM's CARD OF 'matriculalaw10.WalKeeps'. -/
def walKeepsUptoCard : Claim7 := { stood := { row := walKeepsUptoRow, standIns := [], harness := (true, "efdc41cc7ef4ac95e832f9cd3cbea25af962c4c1cf9f0b558ccba1a188b79816"), looks := false }, kinds := [], alts := [], laidByText := true, laidKinds := [.data], laidTests := true, laidLooks := .later }
def WalKeepsUptoCardSaid : Prop := Claim7.holds Tryd.pinned (.plain (OpenSpec.upto walKeepsSpec)) walKeepsUptoCard

/-- THE SECOND FORM's CARD OF 'matriculalaw10.WalFails'. -/
def walFailsUptoCard : Claim7 := { stood := { row := walFailsUptoRow, standIns := [], harness := (true, "efdc41cc7ef4ac95e832f9cd3cbea25af962c4c1cf9f0b558ccba1a188b79816"), looks := false }, kinds := [], alts := [], laidByText := true, laidKinds := [.data], laidTests := true, laidLooks := .later }
def WalFailsUptoCardSaid : Prop := Claim7.holds Tryd.pinned (.plain (OpenSpec.upto walFailsSpec)) walFailsUptoCard

/-- THE SECOND FORM's CARD OF 'matriculalaw10.WalPlays'. -/
def walPlaysUptoCard : Claim7 := { stood := { row := walPlaysUptoRow, standIns := [], harness := (true, "efdc41cc7ef4ac95e832f9cd3cbea25af962c4c1cf9f0b558ccba1a188b79816"), looks := false }, kinds := [], alts := [], laidByText := true, laidKinds := [.data], laidTests := true, laidLooks := .later }
def WalPlaysUptoCardSaid : Prop := Claim7.holds Tryd.pinned (.plain (OpenSpec.upto walPlaysSpec)) walPlaysUptoCard
end Rows
end Go.Proofs.YtmpjcnopakfdmaaDoor
