/- FrameTells: the walk. -/
import Derived.Test.YtkdmljijgfejpaaDoorFrI
namespace Go.Proofs.YtkdmljijgfejpaaDoor
set_option linter.unusedVariables false
set_option linter.unusedSimpArgs false
open Go.RowKit Fr

/-- a law's end -/
abbrev LawEnd (w : World) (e : Ending) (w' : World) : Prop := e = .returned (.bool true) ∧ Ext w w'
end Go.Proofs.YtkdmljijgfejpaaDoor
