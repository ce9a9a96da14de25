/- The document's sum, bit by bit: its contracts. -/
import Derived.Test.YtkdmljijgfejpaaDoorMem
import Derived.Test.YtkdmljijgfejpaaDoorCrc
namespace Go.Proofs.YtkdmljijgfejpaaDoor
set_option linter.unusedVariables false
set_option linter.unusedSimpArgs false
open Go.RowKit

/-- a bit as a number, behind a name that simp does not open -/
def bi (b : Bool) : Int := if b then 1 else 0
theorem bi_lo (b : Bool) : 0 ≤ bi b := by cases b <;> decide
theorem bi_hi (b : Bool) : bi b ≤ 1 := by cases b <;> decide
@[go_sem] theorem bi_add (x y : Bool) : (bi x + bi y) % 2 = bi (x ^^ y) := by cases x <;> cases y <;> rfl
@[go_sem] theorem bi_one (x : Bool) : (bi x == 1) = x := by cases x <;> rfl
@[go_sem] theorem bi_not (x : Bool) : 1 - bi x = bi (!x) := by cases x <;> rfl
@[go_sem] theorem bi_wrap (b : Bool) : IntKind.i64.wrap (bi b) = bi b := IntWalk.i64_in _ (by have := bi_lo b; have := bi_hi b; omega)
@[go_sem] theorem bi_wrap64 (b : Bool) : wrap64 (bi b) = bi b := IntWalk.wrap64_in _ (by have := bi_lo b; have := bi_hi b; omega)
@[go_sem] theorem bi_wrapU (b : Bool) : IntKind.u32.wrap (bi b) = bi b := IntWalk.u32_in _ (by have := bi_lo b; have := bi_hi b; omega)
@[go_sem] theorem U_wrap (x : BitVec 32) : IntKind.i64.wrap (U x) = U x := IntWalk.i64_in _ (by have := U_lo x; have := U_hi x; omega)
@[go_sem] theorem U_wrap64 (x : BitVec 32) : wrap64 (U x) = U x := IntWalk.wrap64_in _ (by have := U_lo x; have := U_hi x; omega)
@[go_sem] theorem U_wrapU (x : BitVec 32) : IntKind.u32.wrap (U x) = U x := wrapU x
theorem U_mod2' (x : BitVec 32) : U x % 2 = bi (bit x 0) := by
  have h := and1 x
  have e : U (x &&& 1#32) = U x % 2 := by unfold U; rw [BitVec.toNat_and, show (1#32).toNat = 1 from rfl, Nat.and_one_is_mod]; omega
  rw [← e, h]; rfl
@[go_sem] theorem U_mod2 (x : BitVec 32) : U x % 2 = bi (bit x 0) := U_mod2' x
@[go_sem high] theorem U_mod2s (x : BitVec 32) (k : Nat) : U (x >>> k) % 2 = bi (bit x k) := by rw [U_mod2']; unfold bit; simp
@[go_sem] theorem U_div2 (x : BitVec 32) : U x / (2 : Int) = U (x >>> 1) := by have := U_shr x 1; simpa using this

theorem rem2 (k : IntKind) (x : BitVec 32) : Op.intDiv .rem k (U x) 2 = pure (.int k (bi (bit x 0))) := by
  have h := U_lo x
  unfold Op.intDiv
  rw [if_neg (by decide)]
  show pure (Value.int k ((U x).tmod 2)) = _
  rw [Int.tmod_eq_emod_of_nonneg h, U_mod2']
@[go_sem ↓] theorem rem2_u32 (x : BitVec 32) : Op.intDiv .rem .u32 (U x) 2 = pure (.int .u32 (bi (bit x 0))) := rem2 .u32 x
@[go_sem ↓] theorem rem2_i64 (x : BitVec 32) : Op.intDiv .rem .i64 (U x) 2 = pure (.int .i64 (bi (bit x 0))) := rem2 .i64 x
@[go_sem ↓] theorem quo2_u32 (x : BitVec 32) : Op.intDiv .quo .u32 (U x) 2 = pure (.int .u32 (U (x >>> 1))) := by
  have h := U_lo x
  have h2 := U_hi x
  unfold Op.intDiv
  rw [if_neg (by decide)]
  show pure (Value.int .u32 (IntKind.u32.wrap ((U x).tdiv 2))) = _
  rw [IntWalk.u32_quo _ _ (by omega), U_div2]
@[go_sem ↓] theorem quo2_i64 (x : BitVec 32) : Op.intDiv .quo .i64 (U x) 2 = pure (.int .i64 (U (x >>> 1))) := by
  have h := U_lo x
  have h2 := U_hi x
  unfold Op.intDiv
  rw [if_neg (by decide)]
  show pure (Value.int .i64 (IntKind.i64.wrap ((U x).tdiv 2))) = _
  rw [IntWalk.i64_quo _ _ (by omega), U_div2]
@[go_sem] theorem bit_shr (x : BitVec 32) (k : Nat) : bit (x >>> k) 0 = bit x k := by unfold bit; simp

/-- the register's bits lie in block g -/
def Reg (w : World) (g : Nat) (R : BitVec 32) : Prop := IRow w g 32 fun i => bi (bit R i)

/-- a bit goes in: behind a name -/
def bstep (R : BitVec 32) (b : Bool) : BitVec 32 := Crc.step (R ^^^ if b then 1#32 else 0#32)
/-- the register, moved by one -/
def moved (R : BitVec 32) (i : Nat) : Bool := if i < 31 then bit R (i + 1) else false
theorem step_bit (R : BitVec 32) (b : Bool) (i : Nat) (hi : i < 32) : bit (bstep R b) i = (moved R i ^^ ((bit R 0 ^^ b) && bit Crc.poly i)) := by
  have key : ∀ i, i < 32 → (1#32).getLsbD i = decide (i = 0) := by decide
  have h0 : (R ^^^ if b then 1#32 else 0#32).getLsbD 0 = (R.getLsbD 0 ^^ b) := by
    rw [BitVec.getLsbD_xor]; cases b <;> rfl
  have h1 : ((R ^^^ if b then 1#32 else 0#32) >>> 1).getLsbD i = if i < 31 then R.getLsbD (i + 1) else false := by
    rw [BitVec.getLsbD_ushiftRight, Nat.add_comm 1 i]
    by_cases h : i < 31
    · rw [if_pos h, BitVec.getLsbD_xor]
      cases b
      · simp only [Bool.false_eq_true, if_false]
        rw [show (0#32).getLsbD (i + 1) = false by simp]; simp
      · simp only [if_true]
        rw [key (i + 1) (by omega)]; simp
    · rw [if_neg h]; exact BitVec.getLsbD_of_ge _ _ (by omega)
  unfold bit bstep moved Crc.step
  rw [BitVec.getLsbD_xor, h0, h1]
  cases (R.getLsbD 0 ^^ b) <;> simp [bit]

/-- one place on -/
def shifting (R : BitVec 32) (k j : Nat) : Bool := if j < k then bit R (j + 1) else bit R j
theorem shifting_lt {R : BitVec 32} {k j : Nat} (h : j < k) : shifting R k j = bit R (j + 1) := if_pos h
theorem shifting_ge {R : BitVec 32} {k j : Nat} (h : ¬ j < k) : shifting R k j = bit R j := if_neg h
/-- so many places have been added to -/
def adding (R : BitVec 32) (k j : Nat) : Bool := moved R j ^^ (decide (j < k) && bit Crc.poly j)
theorem adding_self (R : BitVec 32) (k : Nat) : adding R k k = moved R k := by simp [adding]
theorem adding_next (R : BitVec 32) (k : Nat) : adding R (k + 1) k = (moved R k ^^ bit Crc.poly k) := by simp [adding]
theorem adding_other (R : BitVec 32) {k j : Nat} (h : j ≠ k) : adding R (k + 1) j = adding R k j := by
  unfold adding
  have : decide (j < k + 1) = decide (j < k) := by simp; omega
  rw [this]

/-- the register behind some bits of a byte -/
theorem bits_of_byte (R c : BitVec 32) (k : Nat) (hk : k < 32) : bstep (Crc.pw k (R ^^^ Crc.part c k)) (bit c k) = Crc.pw (k + 1) (R ^^^ Crc.part c (k + 1)) := by
  have e : (if bit c k then 1#32 else 0#32) = Crc.pw k (if c.getLsbD k then 1#32 <<< k else 0#32) := by
    unfold bit
    cases c.getLsbD k
    · simp [Crc.pw_zero]
    · simp [Crc.pw_bit k hk]
  unfold bstep
  rw [e, ← Crc.pw_xor, BitVec.xor_assoc]
  rfl
theorem part_byte (c : UInt8) : Crc.part (c.toBitVec.setWidth 32) 8 = c.toBitVec.setWidth 32 := by
  apply BitVec.eq_of_getLsbD_eq
  intro i hi
  rw [Crc.part_bit _ 8 (by omega) i hi]
  by_cases h : i < 8
  · simp [h]
  · have : (c.toBitVec.setWidth 32).getLsbD i = false := by
      simp only [BitVec.getLsbD_setWidth]
      rw [BitVec.getLsbD_of_ge c.toBitVec i (by omega)]; simp
    simp [this]
def ones32 : Array Value := (List.replicate 32 (.int .i64 0)).toArray
theorem ones32_at (i : Nat) (hi : i < 32) : ones32[i]? = some (.int .i64 0) := by
  show (List.replicate 32 (Value.int .i64 0)).toArray[i]? = _
  rw [List.getElem?_toArray, List.getElem?_replicate, if_pos hi]
theorem U_byte (c : UInt8) : ((c.toNat : Nat) : Int) = U (c.toBitVec.setWidth 32 >>> 0) := by
  unfold U; have := c.toNat_lt
  simp
theorem not_bit (s : BitVec 32) (i : Nat) (hi : i < 32) : bit (~~~ s) i = !bit s i := by unfold bit; simp [hi]
/-- the top bits so far -/
theorem top_next (x : BitVec 32) (i : Nat) (_hi : i < 32) : 2 * U (x >>> (i + 1)) + bi (bit x i) = U (x >>> i) := by
  have h1 : x >>> (i + 1) = (x >>> i) >>> 1 := BitVec.shiftRight_add _ _ _
  have h2 := U_div2 (x >>> i)
  have h3 := U_mod2s x i
  rw [h1, ← h2, ← h3]
  omega
theorem top_none (x : BitVec 32) : U (x >>> 32) = 0 := by
  unfold U; rw [BitVec.toNat_ushiftRight, Nat.shiftRight_eq_div_pow]; have := x.isLt; omega

end Go.Proofs.YtkdmljijgfejpaaDoor
