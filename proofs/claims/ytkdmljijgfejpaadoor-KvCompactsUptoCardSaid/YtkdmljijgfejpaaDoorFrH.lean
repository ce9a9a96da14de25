/- The document's Scan. -/
import Derived.Test.YtkdmljijgfejpaaDoorFrG
import Derived.Test.YtkdmljijgfejpaaDoorFrE
import Derived.Deep.QuietTactic
import Derived.BigQuiet
namespace Go.Proofs.YtkdmljijgfejpaaDoor
set_option linter.unusedVariables false
set_option linter.unusedSimpArgs false
open Go.RowKit Fr

theorem scan_stop {s rest : List UInt8} {pre : List (List UInt8)} (h : s = all pre ++ rest) (ho : Fr.oks pre = true) (hf : fits rest = false) : scan s = pre := by
  rw [h, scan_all _ _ ho, scan_no hf, List.append_nil]
theorem getD_app (a b : List UInt8) (i : Nat) (p : Nat) (hp : a.length = p) : (a ++ b).getD (p + i) 0 = b.getD i 0 := by
  subst hp
  rw [List.getD_eq_getElem?_getD, List.getD_eq_getElem?_getD, List.getElem?_append_right (by omega)]
  congr 2
  omega
theorem Ext.drewM (w : World) : ∀ n, Ext w (w.drewN n)
  | 0 => Ext.refl w
  | n + 1 => (Ext.drewM w n).drew
theorem wrap_le {z : Int} (h0 : 0 ≤ z) (h : z ≤ 4611686018427387904) : IntKind.i64.wrap z = z := by rw [IntKind.wrap_i64]; omega
theorem wrap_sm {n : Nat} (h : n < 65536) : IntKind.i64.wrap (n : Int) = (n : Int) := by rw [IntKind.wrap_i64]; omega
theorem wrap64_sm {n : Nat} (h : n < 65536) : wrap64 (n : Int) = (n : Int) := by unfold wrap64; omega
end Go.Proofs.YtkdmljijgfejpaaDoor
