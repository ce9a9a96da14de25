/- Plain mathematics of the 32-bit sum: four bytes with which a sum comes out, and bursts. No program in sight. -/
import Derived.Test.YtmpjcnopakfdmaaDoorCrcMath2
namespace Go.Proofs.YtmpjcnopakfdmaaDoor
set_option linter.unusedVariables false
set_option linter.unusedSimpArgs false
namespace Crc

/-! ### steps back -/
def unstep (r : BitVec 32) : BitVec 32 := if r.getLsbD 31 then ((r ^^^ poly) <<< 1) ||| 1#32 else r <<< 1
theorem step_unstep (r : BitVec 32) : step (unstep r) = r := by
  have key : ∀ i, i < 32 → (1#32).getLsbD i = decide (i = 0) := by decide
  unfold unstep
  cases hb : r.getLsbD 31
  · simp only [Bool.false_eq_true, if_false]
    rw [step_even (by simp)]
    apply BitVec.eq_of_getLsbD_eq
    intro i hi
    simp only [BitVec.getLsbD_ushiftRight, BitVec.getLsbD_shiftLeft]
    by_cases h : 1 + i < 32
    · simp [h]
    · have : i = 31 := by omega
      subst this; rw [hb]; simp
  · simp only [if_true]
    have l0 : (((r ^^^ poly) <<< 1) ||| 1#32).getLsbD 0 = true := by simp
    unfold step
    rw [l0, if_pos rfl]
    have : (((r ^^^ poly) <<< 1) ||| 1#32) >>> 1 = r ^^^ poly := by
      apply BitVec.eq_of_getLsbD_eq
      intro i hi
      simp only [BitVec.getLsbD_ushiftRight, BitVec.getLsbD_or, BitVec.getLsbD_shiftLeft]
      by_cases h : 1 + i < 32
      · rw [key (1 + i) h]; simp [h]
      · have : i = 31 := by omega
        subst this
        rw [BitVec.getLsbD_xor, hb]; decide
    rw [this, BitVec.xor_assoc, BitVec.xor_self, BitVec.xor_zero]
def unpw : Nat → BitVec 32 → BitVec 32
  | 0, r => r
  | k + 1, r => unpw k (unstep r)
theorem pw_unpw (k : Nat) : ∀ r, pw k (unpw k r) = r := by
  induction k with
  | zero => intro r; rfl
  | succ k ih => intro r; simp only [pw, unpw]; rw [ih, step_unstep]
theorem unpw_succ (k : Nat) : ∀ r, unpw (k + 1) r = unstep (unpw k r) := by
  induction k with
  | zero => intro r; rfl
  | succ k ih => intro r; rw [unpw, ih]; rfl
theorem unpw_add (a b : Nat) : ∀ r, unpw (a + b) r = unpw b (unpw a r) := by
  induction a with
  | zero => intro r; simp [unpw]
  | succ a ih => intro r; rw [Nat.succ_add]; simp only [unpw]; exact ih _

/-! ### four bytes -/
def byteOf (r : BitVec 32) : UInt8 := ⟨r.setWidth 8⟩
def four (r : BitVec 32) : List UInt8 := [byteOf r, byteOf (r >>> 8), byteOf (r >>> 16), byteOf (r >>> 24)]
theorem byteOf_wide (r : BitVec 32) : (byteOf r).toBitVec.setWidth 32 = r &&& 255#32 := by
  apply BitVec.eq_of_getLsbD_eq
  intro i hi
  have key : ∀ i, i < 32 → (255#32).getLsbD i = decide (i < 8) := by decide
  simp only [byteOf, BitVec.getLsbD_setWidth, BitVec.getLsbD_and, key i hi, hi, decide_true, Bool.true_and]
  rw [Bool.and_comm]
theorem byteOf_xor (a b : BitVec 32) : byteOf a ^^^ byteOf b = byteOf (a ^^^ b) := by
  apply UInt8.eq_of_toBitVec_eq
  rw [UInt8.toBitVec_xor]
  simp only [byteOf]
  rw [BitVec.setWidth_xor]
theorem pw_up (k : Nat) (hk : k ≤ 24) (c : BitVec 32) (hc : ∀ i, 8 ≤ i → c.getLsbD i = false) : pw k (c <<< k) = c := by
  rw [pw_shift k _ (by intro i hi; simp only [BitVec.getLsbD_shiftLeft]; simp [hi])]
  apply BitVec.eq_of_getLsbD_eq
  intro i hi
  simp only [BitVec.getLsbD_ushiftRight, BitVec.getLsbD_shiftLeft]
  by_cases h : i < 8
  · have h1 : k + i < 32 := by omega
    simp [h1]
  · rw [hc i (by omega)]
    rw [show k + i - k = i by omega, hc i (by omega)]; simp
theorem low_byte (r : BitVec 32) : ∀ i, 8 ≤ i → (r &&& 255#32).getLsbD i = false := by
  intro i hi
  rw [BitVec.getLsbD_and]
  by_cases h : i < 32
  · have key : ∀ i, i < 32 → (255#32).getLsbD i = decide (i < 8) := by decide
    rw [key i h]; simp; omega
  · rw [BitVec.getLsbD_of_ge r i (by omega)]; simp
theorem parts (r : BitVec 32) : r = (r &&& 255#32) ^^^ (((r >>> 8) &&& 255#32) <<< 8) ^^^ (((r >>> 16) &&& 255#32) <<< 16) ^^^ (((r >>> 24) &&& 255#32) <<< 24) := by
  have key : ∀ i, i < 32 → (255#32).getLsbD i = decide (i < 8) := by decide
  apply BitVec.eq_of_getLsbD_eq
  intro i hi
  simp only [BitVec.getLsbD_xor, BitVec.getLsbD_and, BitVec.getLsbD_shiftLeft, BitVec.getLsbD_ushiftRight]
  rw [key i hi, key (i - 8) (by omega), key (i - 16) (by omega), key (i - 24) (by omega)]
  by_cases h1 : i < 8
  · have a1 : i < 16 := by omega
    have a2 : i < 24 := by omega
    simp [h1, a1, a2]
  · by_cases h2 : i < 16
    · have a0 : i < 24 := by omega
      have a1 : i - 8 < 8 := by omega
      have a2 : 8 + (i - 8) = i := by omega
      simp [hi, h1, h2, a0, a1, a2]
    · by_cases h3 : i < 24
      · have a1 : ¬ i - 8 < 8 := by omega
        have a2 : i - 16 < 8 := by omega
        have a3 : 16 + (i - 16) = i := by omega
        simp [hi, h1, h2, h3, a1, a2, a3]
      · have a1 : ¬ i - 8 < 8 := by omega
        have a2 : ¬ i - 16 < 8 := by omega
        have a3 : i - 24 < 8 := by omega
        have a4 : 24 + (i - 24) = i := by omega
        simp [hi, h1, h2, h3, a1, a2, a3, a4]
theorem run_four (R r : BitVec 32) : run R (four r) = pw 32 (R ^^^ r) := by
  have e1 := pw_up 8 (by omega) _ (low_byte (r >>> 8))
  have e2 := pw_up 16 (by omega) _ (low_byte (r >>> 16))
  have e3 := pw_up 24 (by omega) _ (low_byte (r >>> 24))
  conv => rhs; rw [parts r]
  simp only [four, run_cons, run_nil, byteOf_wide, step8_pw]
  generalize r &&& 255#32 = c0 at *
  generalize (r >>> 8) &&& 255#32 = c1 at *
  generalize (r >>> 16) &&& 255#32 = c2 at *
  generalize (r >>> 24) &&& 255#32 = c3 at *
  have e : R ^^^ (c0 ^^^ c1 <<< 8 ^^^ c2 <<< 16 ^^^ c3 <<< 24) = ((R ^^^ c0) ^^^ c1 <<< 8 ^^^ c2 <<< 16) ^^^ c3 <<< 24 := by simp only [BitVec.xor_assoc]
  rw [e, pw_add 8 24, pw_xor 24 _ (c3 <<< 24), e3]
  congr 2
  rw [pw_add 8 16, pw_xor 16 _ (c2 <<< 16), e2]
  congr 2
  rw [pw_add 8 8, pw_xor 8 _ (c1 <<< 8), e1]
/-- the word of which Last makes four bytes -/
def lastWord (b : List UInt8) (want : BitVec 32) : BitVec 32 := unpw 32 (~~~ want) ^^^ ~~~ sum b
theorem sum_last (b : List UInt8) (want x : BitVec 32) : sum (b ++ four (lastWord b want ^^^ x)) = want ^^^ pw 32 x := by
  rw [← more_sum]
  show ~~~ run (~~~ sum b) _ = _
  have e : ~~~ sum b ^^^ (lastWord b want ^^^ x) = unpw 32 (~~~ want) ^^^ x := by
    unfold lastWord
    rw [← BitVec.xor_assoc, BitVec.xor_comm (~~~ sum b), BitVec.xor_assoc (unpw _ _), BitVec.xor_self, BitVec.xor_zero]
  rw [run_four, e, pw_xor, pw_unpw, not_xor, BitVec.not_not]
theorem sum_last0 (b : List UInt8) (want : BitVec 32) : sum (b ++ four (lastWord b want)) = want := by
  have := sum_last b want 0#32
  rw [BitVec.xor_zero, pw_zero, BitVec.xor_zero] at this
  exact this
theorem sum_last_iff (b : List UInt8) (want x : BitVec 32) : (sum (b ++ four (lastWord b want ^^^ x)) = want) ↔ x = 0#32 := by
  rw [sum_last]
  constructor
  · intro h
    refine pw_inj0 32 ?_
    calc pw 32 x = want ^^^ (want ^^^ pw 32 x) := by rw [← BitVec.xor_assoc, BitVec.xor_self, BitVec.zero_xor]
      _ = 0#32 := by rw [h, BitVec.xor_self]
  · rintro rfl; rw [pw_zero, BitVec.xor_zero]

/-! ### bursts -/
theorem run_flip (v : UInt8) : ∀ (l : List UInt8) (j : Nat) (hj : j < l.length) (r : BitVec 32), run r (l.set j (l[j] ^^^ v)) = run r l ^^^ pw (8 * (l.length - j)) (v.toBitVec.setWidth 32) := by
  intro l
  induction l with
  | nil => intro j hj; simp at hj
  | cons c l ih =>
    intro j hj r
    cases j with
    | zero =>
      simp only [List.set_cons_zero, List.getElem_cons_zero, run_cons, wide_xor]
      rw [← BitVec.xor_assoc, step8_xor, run_xor, step8_pw (v.toBitVec.setWidth 32), ← pw_add]
      congr 2
    | succ j =>
      simp only [List.set_cons_succ, List.getElem_cons_succ, run_cons]
      rw [ih j (by simpa using hj)]
      simp
def part (change : BitVec 32) : Nat → BitVec 32
  | 0 => 0#32
  | k + 1 => part change k ^^^ (if change.getLsbD k then 1#32 <<< k else 0#32)
theorem part_bit (change : BitVec 32) (k : Nat) (hk : k ≤ 32) : ∀ i, i < 32 → (part change k).getLsbD i = (change.getLsbD i && decide (i < k)) := by
  induction k with
  | zero => intro i hi; simp [part]
  | succ k ih =>
    intro i hi
    rw [part, BitVec.getLsbD_xor, ih (by omega) i hi]
    have e1 : (if change.getLsbD k then 1#32 <<< k else 0#32).getLsbD i = (change.getLsbD k && decide (i = k)) := by
      cases change.getLsbD k
      · simp
      · rw [if_pos rfl]
        simp only [BitVec.getLsbD_shiftLeft, Bool.true_and, BitVec.getLsbD_one]
        by_cases h : i = k
        · subst h; simp; omega
        · simp [h]; omega
    rw [e1]
    by_cases h : i = k
    · subst h; simp
    · have : decide (i < k + 1) = decide (i < k) := by simp; omega
      simp [h, this]
theorem part_all (change : BitVec 32) : part change 32 = change := by
  apply BitVec.eq_of_getLsbD_eq
  intro i hi
  rw [part_bit change 32 (by omega) i hi]; simp [hi]
theorem pw_bit (k : Nat) (hk : k < 32) : pw k (1#32 <<< k) = 1#32 := by
  have : ∀ k, k < 32 → pw k (1#32 <<< k) = 1#32 := by decide
  exact this k hk
/-- one bit of a byte more -/
theorem wide_bit : ∀ i, i < 8 → ((1 : UInt8) <<< UInt8.ofNat i).toBitVec.setWidth 32 = 1#32 <<< i := by decide
theorem run_bit (l : List UInt8) (at_ k : Nat) (hk : k < 32) (h : at_ + 32 ≤ 8 * l.length) (r : BitVec 32) (hj : (at_ + k) / 8 < l.length) :
    run r (l.set ((at_ + k) / 8) (l[(at_ + k) / 8] ^^^ ((1 : UInt8) <<< UInt8.ofNat ((at_ + k) % 8)))) = run r l ^^^ pw (8 * l.length - at_) (1#32 <<< k) := by
  rw [run_flip _ l _ hj r, wide_bit _ (by omega)]
  congr 1
  have hi : (at_ + k) % 8 < 32 := by omega
  rw [show 8 * (l.length - (at_ + k) / 8) = (8 * l.length - at_ - k) + (at_ + k) % 8 by omega, pw_add _ ((at_ + k) % 8), pw_bit _ hi]
  conv => rhs; rw [show 8 * l.length - at_ = (8 * l.length - at_ - k) + k by omega, pw_add _ k, pw_bit k hk]
/-- what the program makes of bytes, change by change -/
def burst (b : List UInt8) (at_ : Nat) (change : BitVec 32) : Nat → List UInt8
  | 0 => b
  | k + 1 => if change.getLsbD k then (burst b at_ change k).set ((at_ + k) / 8) ((burst b at_ change k).getD ((at_ + k) / 8) 0 ^^^ ((1 : UInt8) <<< UInt8.ofNat ((at_ + k) % 8))) else burst b at_ change k
theorem burst_length (b : List UInt8) (at_ : Nat) (change : BitVec 32) (k : Nat) : (burst b at_ change k).length = b.length := by
  induction k with
  | zero => rfl
  | succ k ih => rw [burst]; split <;> simp [ih]
theorem run_burst (b : List UInt8) (at_ : Nat) (change : BitVec 32) (h : at_ + 32 ≤ 8 * b.length) (r : BitVec 32) (k : Nat) (hk : k ≤ 32) :
    run r (burst b at_ change k) = run r b ^^^ pw (8 * b.length - at_) (part change k) := by
  induction k with
  | zero => simp [burst, part, pw_zero]
  | succ k ih =>
    have hl := burst_length b at_ change k
    rw [burst, part, pw_xor, ← BitVec.xor_assoc, ← ih (by omega)]
    split
    · rename_i hc
      have hj : (at_ + k) / 8 < (burst b at_ change k).length := by omega
      have := run_bit (burst b at_ change k) at_ k (by omega) (by omega) r hj
      rw [hl] at this
      rw [← this]
      congr 3
      simp [List.getD, hj]
    · rw [pw_zero, BitVec.xor_zero]
theorem sum_burst (b : List UInt8) (at_ : Nat) (change : BitVec 32) (h : at_ + 32 ≤ 8 * b.length) (hc : change ≠ 0#32) : sum (burst b at_ change 32) ≠ sum b := by
  intro e
  have e2 : run (~~~ 0#32) (burst b at_ change 32) = run (~~~ 0#32) b := by
    have : ~~~ (sum (burst b at_ change 32)) = ~~~ (sum b) := by rw [e]
    simpa [sum, more, BitVec.not_not] using this
  rw [run_burst b at_ change h _ 32 (by omega), part_all] at e2
  refine hc (pw_inj0 (8 * b.length - at_) ?_)
  generalize run (~~~ 0#32) b = R at e2
  generalize pw _ change = D at e2
  calc D = R ^^^ (R ^^^ D) := by rw [← BitVec.xor_assoc, BitVec.xor_self, BitVec.zero_xor]
    _ = 0#32 := by rw [e2, BitVec.xor_self]
end Crc
end Go.Proofs.YtmpjcnopakfdmaaDoor
