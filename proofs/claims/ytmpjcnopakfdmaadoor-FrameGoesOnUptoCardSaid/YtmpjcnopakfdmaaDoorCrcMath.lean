/- Plain mathematics of the 32-bit sum: one bit's step, four bits' table, bytes. No program in sight. -/
namespace Go.Proofs.YtmpjcnopakfdmaaDoor
set_option linter.unusedVariables false
set_option linter.unusedSimpArgs false
namespace Crc

def poly : BitVec 32 := 0x82f63b78#32
/-- one bit of the register goes out -/
def step (r : BitVec 32) : BitVec 32 := (r >>> 1) ^^^ (if r.getLsbD 0 then poly else 0#32)
def step4 (r : BitVec 32) : BitVec 32 := step (step (step (step r)))
def step8 (r : BitVec 32) : BitVec 32 := step4 (step4 r)
/-- what the program's half does -/
def half (r c : BitVec 32) : BitVec 32 := (r >>> 4) ^^^ step4 ((r ^^^ c) &&& 15#32)

theorem step_zero : step 0#32 = 0#32 := by decide
theorem step_xor (a b : BitVec 32) : step (a ^^^ b) = step a ^^^ step b := by
  unfold step
  rw [BitVec.ushiftRight_xor_distrib, BitVec.getLsbD_xor]
  have k : ∀ x y p : BitVec 32, (x ^^^ y) ^^^ p = (x ^^^ p) ^^^ y := fun x y p => by rw [BitVec.xor_assoc, BitVec.xor_comm y, BitVec.xor_assoc]
  have k2 : ∀ x y p : BitVec 32, (x ^^^ p) ^^^ (y ^^^ p) = x ^^^ y := fun x y p => by rw [BitVec.xor_assoc, BitVec.xor_comm y, ← BitVec.xor_assoc p, BitVec.xor_self, BitVec.zero_xor]
  cases a.getLsbD 0 <;> cases b.getLsbD 0
  · simp
  · simp [BitVec.xor_assoc]
  · simp [k]
  · simp [k2]
theorem step4_xor (a b : BitVec 32) : step4 (a ^^^ b) = step4 a ^^^ step4 b := by simp only [step4, step_xor]
theorem step8_xor (a b : BitVec 32) : step8 (a ^^^ b) = step8 a ^^^ step8 b := by simp only [step8, step4_xor]

theorem step_even {r : BitVec 32} (h : r.getLsbD 0 = false) : step r = r >>> 1 := by simp only [step, h]; simp

theorem step4_high (r : BitVec 32) : step4 (r &&& 0xfffffff0#32) = r >>> 4 := by
  have e : ∀ x : BitVec 32, ∀ i, (x >>> i).getLsbD 0 = x.getLsbD i := fun x i => by simp
  have h0 : ∀ i, i < 4 → (r &&& 0xfffffff0#32).getLsbD i = false := by
    intro i hi
    rw [BitVec.getLsbD_and]
    have : i = 0 ∨ i = 1 ∨ i = 2 ∨ i = 3 := by omega
    rcases this with rfl | rfl | rfl | rfl <;> simp
  have s1 : step (r &&& 0xfffffff0#32) = (r &&& 0xfffffff0#32) >>> 1 := step_even (h0 0 (by omega))
  have s2 : step ((r &&& 0xfffffff0#32) >>> 1) = (r &&& 0xfffffff0#32) >>> 2 := by rw [step_even (by rw [e]; exact h0 1 (by omega)), ← BitVec.shiftRight_add]
  have s3 : step ((r &&& 0xfffffff0#32) >>> 2) = (r &&& 0xfffffff0#32) >>> 3 := by rw [step_even (by rw [e]; exact h0 2 (by omega)), ← BitVec.shiftRight_add]
  have s4 : step ((r &&& 0xfffffff0#32) >>> 3) = (r &&& 0xfffffff0#32) >>> 4 := by rw [step_even (by rw [e]; exact h0 3 (by omega)), ← BitVec.shiftRight_add]
  unfold step4
  rw [s1, s2, s3, s4]
  apply BitVec.eq_of_getLsbD_eq
  intro i hi
  simp only [BitVec.getLsbD_ushiftRight, BitVec.getLsbD_and]
  by_cases h : 4 + i < 32
  · have : (0xfffffff0#32).getLsbD (4 + i) = true := by
      have : ∀ j, j < 28 → (0xfffffff0#32).getLsbD (4 + j) = true := by decide
      exact this i (by omega)
    simp [this]
  · have : r.getLsbD (4 + i) = false := BitVec.getLsbD_of_ge _ _ (by omega)
    simp [this]

theorem split15 (x : BitVec 32) : x = (x &&& 0xfffffff0#32) ^^^ (x &&& 15#32) := by
  apply BitVec.eq_of_getLsbD_eq
  intro i hi
  simp only [BitVec.getLsbD_xor, BitVec.getLsbD_and]
  have : ∀ j, j < 32 → ((0xfffffff0#32).getLsbD j = !(15#32).getLsbD j) := by decide
  rw [this i hi]
  cases x.getLsbD i <;> cases (15#32).getLsbD i <;> rfl

theorem and_xor (a b c : BitVec 32) : (a ^^^ b) &&& c = (a &&& c) ^^^ (b &&& c) := by
  apply BitVec.eq_of_getLsbD_eq
  intro i hi
  simp only [BitVec.getLsbD_xor, BitVec.getLsbD_and]
  cases a.getLsbD i <;> cases b.getLsbD i <;> cases c.getLsbD i <;> rfl

theorem half_eq (r c : BitVec 32) : half r c = step4 (r ^^^ (c &&& 15#32)) := by
  unfold half
  conv => rhs; rw [split15 r]
  rw [← step4_high, and_xor, BitVec.xor_assoc, step4_xor (r &&& 0xfffffff0#32)]

/-- a byte goes in -/
def byte (r c : BitVec 32) : BitVec 32 := half (half r c) (c >>> 4)

theorem byte_eq (r c : BitVec 32) (hc : c &&& 0xffffff00#32 = 0#32) : byte r c = step8 (r ^^^ c) := by
  unfold byte step8
  rw [half_eq, half_eq]
  have e1 : (c >>> 4) &&& 15#32 = c >>> 4 := by
    apply BitVec.eq_of_getLsbD_eq
    intro i hi
    simp only [BitVec.getLsbD_ushiftRight, BitVec.getLsbD_and]
    by_cases h : i < 4
    · have : ∀ j, j < 4 → (15#32).getLsbD j = true := by decide
      simp [this i h]
    · by_cases h2 : 4 + i < 32
      · have h3 : (c &&& 0xffffff00#32).getLsbD (4 + i) = false := by rw [hc]; simp
        rw [BitVec.getLsbD_and] at h3
        have : ∀ j, j < 28 → 4 ≤ j → (0xffffff00#32).getLsbD (4 + j) = true := by decide
        rw [this i (by omega) (by omega)] at h3
        simp at h3
        simp [h3]
      · have : c.getLsbD (4 + i) = false := BitVec.getLsbD_of_ge _ _ (by omega)
        simp [this]
  rw [e1, ← step4_high c, ← step4_xor, BitVec.xor_assoc, BitVec.xor_comm (c &&& 15#32), ← split15 c]

/-- the register behind bytes -/
def run (r : BitVec 32) (l : List UInt8) : BitVec 32 := l.foldl (fun r c => step8 (r ^^^ c.toBitVec.setWidth 32)) r
/-- the sum of more bytes -/
def more (s : BitVec 32) (l : List UInt8) : BitVec 32 := ~~~ run (~~~ s) l
def sum (l : List UInt8) : BitVec 32 := more 0#32 l

theorem run_nil (r : BitVec 32) : run r [] = r := rfl
theorem run_append (r : BitVec 32) (a b : List UInt8) : run r (a ++ b) = run (run r a) b := by simp [run, List.foldl_append]
theorem run_snoc (r : BitVec 32) (a : List UInt8) (c : UInt8) : run r (a ++ [c]) = step8 (run r a ^^^ c.toBitVec.setWidth 32) := by simp [run, List.foldl_append]
theorem run_cons (r : BitVec 32) (c : UInt8) (b : List UInt8) : run r (c :: b) = run (step8 (r ^^^ c.toBitVec.setWidth 32)) b := rfl

theorem wide_low (c : UInt8) : (c.toBitVec.setWidth 32) &&& 0xffffff00#32 = 0#32 := by
  apply BitVec.eq_of_getLsbD_eq
  intro i hi
  simp only [BitVec.getLsbD_and, BitVec.getLsbD_setWidth]
  by_cases h : i < 8
  · have : ∀ j, j < 8 → (0xffffff00#32).getLsbD j = false := by decide
    simp [this i h]
  · have : c.toBitVec.getLsbD i = false := BitVec.getLsbD_of_ge _ _ (by omega)
    simp [this]

theorem byte_run (r : BitVec 32) (c : UInt8) : byte r (c.toBitVec.setWidth 32) = step8 (r ^^^ c.toBitVec.setWidth 32) := byte_eq _ _ (wide_low c)

theorem more_append (s : BitVec 32) (a b : List UInt8) : more s (a ++ b) = more (more s a) b := by simp [more, run_append]
end Crc
end Go.Proofs.YtmpjcnopakfdmaaDoor
