/- The document's Put and All: contracts. -/
import Derived.Test.YtkdmljijgfejpaaDoorFrF
import Derived.Test.YtkdmljijgfejpaaDoorCrcRef
import Derived.Deep.DeepCutAuto
import Derived.Deep.CutBlock
namespace Go.Proofs.YtkdmljijgfejpaaDoor
set_option linter.unusedVariables false
set_option linter.unusedSimpArgs false
open Go.RowKit Fr

/-! ### a sum by its quotients -/
theorem quo_U (x : BitVec 32) (n k : Nat) (h0 : 0 < n) (hn : n = 2 ^ k) : Op.intDiv .quo .u32 (U x) (n : Int) = pure (.int .u32 (U (x >>> k))) := by
  have h := U_lo x
  have h2 := U_hi x
  unfold Op.intDiv
  rw [if_neg (by omega)]
  show pure (Value.int .u32 (IntKind.u32.wrap ((U x).tdiv (n : Int)))) = _
  have e : (U x).tdiv (n : Int) = U (x >>> k) := by
    rw [Int.tdiv_eq_ediv_of_nonneg h]
    unfold U
    rw [BitVec.toNat_ushiftRight, Nat.shiftRight_eq_div_pow, hn]
    omega
  rw [e, U_wrapU]
@[go_sem ↓] theorem quo_a (x : BitVec 32) : Op.intDiv .quo .u32 (U x) 16777216 = pure (.int .u32 (U (x >>> 24))) := quo_U x 16777216 24 (by decide) (by decide)
@[go_sem ↓] theorem quo_b (x : BitVec 32) : Op.intDiv .quo .u32 (U x) 65536 = pure (.int .u32 (U (x >>> 16))) := quo_U x 65536 16 (by decide) (by decide)
@[go_sem ↓] theorem quo_c (x : BitVec 32) : Op.intDiv .quo .u32 (U x) 256 = pure (.int .u32 (U (x >>> 8))) := quo_U x 256 8 (by decide) (by decide)
@[go_sem ↓] theorem quo_d (x : BitVec 32) : Op.intDiv .quo .u32 (U x) 1 = pure (.int .u32 (U x)) := by
  have := quo_U x 1 0 (by decide) (by decide)
  simpa using this
@[go_sem ↓] theorem rem_256 (x : BitVec 32) : Op.intDiv .rem .u32 (U x) 256 = pure (.int .u32 ((b8 x.toNat).toNat : Int)) := by
  have h := U_lo x
  unfold Op.intDiv
  rw [if_neg (by decide)]
  show pure (Value.int .u32 ((U x).tmod 256)) = _
  rw [Int.tmod_eq_emod_of_nonneg h, b8_toNat]
  unfold U
  rw [show ((x.toNat % 256 : Nat) : Int) = (x.toNat : Int) % 256 by omega]
theorem lit_b8 {n m : Nat} (h : n = m) : (#[Value.int .u8 (((b8 n).toNat : Int) % 256)] : Array Value).toList = [b8 m].map u8v := by
  subst h
  have := (b8 n).toNat_lt
  show [Value.int .u8 (((b8 n).toNat : Int) % 256)] = [Value.int .u8 ((b8 n).toNat : Int)]
  rw [show ((b8 n).toNat : Int) % 256 = ((b8 n).toNat : Int) by omega]
/-- the scales -/
def scl : Nat → Int
  | 0 => 16777216
  | 1 => 65536
  | 2 => 256
  | 3 => 1
  | _ => 0
end Go.Proofs.YtkdmljijgfejpaaDoor
