/- How further arguments are opened. -/
import Derived.Test.YtkdmljijgfejpaaDoorLift
namespace Go.Proofs.YtkdmljijgfejpaaDoor
set_option linter.unusedVariables false
set_option linter.unusedSimpArgs false
open Go.ChangeShapes Go.WideShapes Go.ChangeAt Go.RowKit
section
variable {H : Type} {enc : TypeId × Value → H} {W : World} {base : Nat} {v : Value} {d : DataW H} {p : List MemPlace}
set_option maxRecDepth 20000 in
theorem open_u8 (hval : Value.okWide Tryd.prog W .any base 5 v) (h : DataW.Trod enc Tryd.prog W 0 (fun _ => true) true 5 v d p) : ∃ c : UInt8, v = .int .u8 (c.toNat : Int) := by
  obtain ⟨n, rfl, _, _, hw⟩ := open_int Tryd.underlying5 hval h
  exact ⟨UInt8.ofNat n.toNat, by rw [u8_of hw]⟩
end
end Go.Proofs.YtkdmljijgfejpaaDoor
