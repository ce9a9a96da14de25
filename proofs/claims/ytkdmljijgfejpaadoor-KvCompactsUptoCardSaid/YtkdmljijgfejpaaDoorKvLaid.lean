/- The table of package crc, as the rows list it, lies in the heap. -/
import Derived.Test.YtkdmljijgfejpaaDoorLift
import Derived.Test.YtkdmljijgfejpaaDoorCrc
namespace Go.Proofs.YtkdmljijgfejpaaDoor
set_option linter.unusedVariables false
set_option linter.unusedSimpArgs false
open Go.ChangeShapes Go.WideShapes Go.ChangeAt Go.RowKit

/-- the one variable that the rows list, and its name -/
def laid1 : List (String × DataW Unit) := Rows.kvCodesRow.laid
def nameHalves : String := (laid1.map (·.1)).headD ""
theorem laid1_eq : laid1 = [(nameHalves, Rows.laid_matricula_crc_halves)] := rfl
theorem gHalves : Tryd.prog.globalNamed nameHalves = some 1 := by kernel_rfl
theorem tHalves : (Tryd.prog.globals[1]?).map (·.type) = some 146 := by kernel_rfl
def zs16 : List Int := [0, 274646895, 549293790, 820201905, 1098587580, 1361435347, 1640403810, 1905808397, 2197175160, 2460548119, 2722870694, 2987750089, 3280807620, 3553878443, 3811616794, 4084100981]
theorem zs16_at : ∀ i, i < 16 → zs16.getD i 0 = U (Crc.step4 (BitVec.ofNat 32 i)) := by decide +kernel

theorem door_met (os : Os) (args : Array Value) : laidMetH Tryd.prog laid1 ((World.doorLaid Tryd.prog 400 os).forCall (fun _ _ => 0) ⟨#[], args, []⟩).memory :=
  laidMetH_of_parts3 (fuel := 8) (laidMet_of_run' 8 (by kernel_rfl) (by kernel_rfl)) (by kernel_rfl) (by kernel_rfl)

theorem halves_of_laid {W : World} (h : laidMetH Tryd.prog laid1 W) : Halves W := by
  rw [MakeChecks.laidMetH_plain _ _ _ (by kernel_rfl)] at h
  rw [laid1_eq] at h
  have ht : Lib.TabIs Tryd.prog W nameHalves .u32 zs16 :=
    Lib.tabIs_of_head (n := 16) (rest := []) gHalves tHalves Tryd.underlying146 Tryd.underlying120 (by kernel_rfl) (by kernel_rfl) h
  intro x
  have hx : (x &&& 15#32).toNat < 16 := by have := U_and15 x; unfold U at this; omega
  have hc := ht.cell gHalves (x &&& 15#32).toNat (by simpa [zs16] using hx)
  rw [zs16_at _ hx] at hc
  have e : BitVec.ofNat 32 (x &&& 15#32).toNat = x &&& 15#32 := by simp
  rw [e] at hc
  exact hc
end Go.Proofs.YtkdmljijgfejpaaDoor
