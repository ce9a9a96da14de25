/- Plain mathematics of the 32-bit sum: one bit's step, four bits' table, bytes. No program in sight. -/

namespace Go.Proofs.YtkdmljijgfejpaaDoor
set_option linter.unusedVariables false
set_option linter.unusedSimpArgs false
namespace Crc

def poly : BitVec 32 := 0x82f63b78#32
/-- one bit of the register goes out -/
def step (r : BitVec 32) : BitVec 32 := (r >>> 1) ^^^ (if r.getLsbD 0 then poly else 0#32)
def step4 (r : BitVec 32) : BitVec 32 := step (step (step (step r)))
def step8 (r : BitVec 32) : BitVec 32 := step4 (step4 r)
/-- what the program's half does -/
def half (r c : BitVec 32) : BitVec 32 := (r >>> 4) ^^^ step4 ((r ^^^ c) &&& 15#32)

theorem step_zero : step 0#32 = 0#32 := by decide
theorem step_xor (a b : BitVec 32) : step (a ^^^ b) = step a ^^^ step b := by
  unfold step
  rw [BitVec.ushiftRight_xor_distrib, BitVec.getLsbD_xor]
  have k : ∀ x y p : BitVec 32, (x ^^^ y) ^^^ p = (x ^^^ p) ^^^ y := fun x y p => by rw [BitVec.xor_assoc, BitVec.xor_comm y, BitVec.xor_assoc]
  have k2 : ∀ x y p : BitVec 32, (x ^^^ p) ^^^ (y ^^^ p) = x ^^^ y := fun x y p => by rw [BitVec.xor_assoc, BitVec.xor_comm y, ← BitVec.xor_assoc p, BitVec.xor_self, BitVec.zero_xor]
  cases a.getLsbD 0 <;> cases b.getLsbD 0
  · simp
  · simp [BitVec.xor_assoc]
  · simp [k]
  · simp [k2]
theorem step4_xor (a b : BitVec 32) : step4 (a ^^^ b) = step4 a ^^^ step4 b := by simp only [step4, step_xor]
theorem step8_xor (a b : BitVec 32) : step8 (a ^^^ b) = step8 a ^^^ step8 b := by simp only [step8, step4_xor]

theorem step_even {r : BitVec 32} (h : r.getLsbD 0 = false) : step r = r >>> 1 := by simp only [step, h]; simp

theorem step4_high (r : BitVec 32) : step4 (r &&& 0xfffffff0#32) = r >>> 4 := by
  have e : ∀ x : BitVec 32, ∀ i, (x >>> i).getLsbD 0 = x.getLsbD i := fun x i => by simp
  have h0 : ∀ i, i < 4 → (r &&& 0xfffffff0#32).getLsbD i = false := by
    intro i hi
    rw [BitVec.getLsbD_and]
    have : i = 0 ∨ i = 1 ∨ i = 2 ∨ i = 3 := by omega
    rcases this with rfl | rfl | rfl | rfl <;> simp
  have s1 : step (r &&& 0xfffffff0#32) = (r &&& 0xfffffff0#32) >>> 1 := step_even (h0 0 (by omega))
  have s2 : step ((r &&& 0xfffffff0#32) >>> 1) = (r &&& 0xfffffff0#32) >>> 2 := by rw [step_even (by rw [e]; exact h0 1 (by omega)), ← BitVec.shiftRight_add]
  have s3 : step ((r &&& 0xfffffff0#32) >>> 2) = (r &&& 0xfffffff0#32) >>> 3 := by rw [step_even (by rw [e]; exact h0 2 (by omega)), ← BitVec.shiftRight_add]
  have s4 : step ((r &&& 0xfffffff0#32) >>> 3) = (r &&& 0xfffffff0#32) >>> 4 := by rw [step_even (by rw [e]; exact h0 3 (by omega)), ← BitVec.shiftRight_add]
  unfold step4
  rw [s1, s2, s3, s4]
  apply BitVec.eq_of_getLsbD_eq
  intro i hi
  simp only [BitVec.getLsbD_ushiftRight, BitVec.getLsbD_and]
  by_cases h : 4 + i < 32
  · have : (0xfffffff0#32).getLsbD (4 + i) = true := by
      have : ∀ j, j < 28 → (0xfffffff0#32).getLsbD (4 + j) = true := by decide
      exact this i (by omega)
    simp [this]
  · have : r.getLsbD (4 + i) = false := BitVec.getLsbD_of_ge _ _ (by omega)
    simp [this]

theorem split15 (x : BitVec 32) : x = (x &&& 0xfffffff0#32) ^^^ (x &&& 15#32) := by
  apply BitVec.eq_of_getLsbD_eq
  intro i hi
  simp only [BitVec.getLsbD_xor, BitVec.getLsbD_and]
  have : ∀ j, j < 32 → ((0xfffffff0#32).getLsbD j = !(15#32).getLsbD j) := by decide
  rw [this i hi]
  cases x.getLsbD i <;> cases (15#32).getLsbD i <;> rfl

theorem and_xor (a b c : BitVec 32) : (a ^^^ b) &&& c = (a &&& c) ^^^ (b &&& c) := by
  apply BitVec.eq_of_getLsbD_eq
  intro i hi
  simp only [BitVec.getLsbD_xor, BitVec.getLsbD_and]
  cases a.getLsbD i <;> cases b.getLsbD i <;> cases c.getLsbD i <;> rfl

theorem half_eq (r c : BitVec 32) : half r c = step4 (r ^^^ (c &&& 15#32)) := by
  unfold half
  conv => rhs; rw [split15 r]
  rw [← step4_high, and_xor, BitVec.xor_assoc, step4_xor (r &&& 0xfffffff0#32)]

/-- a byte goes in -/
def byte (r c : BitVec 32) : BitVec 32 := half (half r c) (c >>> 4)

theorem byte_eq (r c : BitVec 32) (hc : c &&& 0xffffff00#32 = 0#32) : byte r c = step8 (r ^^^ c) := by
  unfold byte step8
  rw [half_eq, half_eq]
  have e1 : (c >>> 4) &&& 15#32 = c >>> 4 := by
    apply BitVec.eq_of_getLsbD_eq
    intro i hi
    simp only [BitVec.getLsbD_ushiftRight, BitVec.getLsbD_and]
    by_cases h : i < 4
    · have : ∀ j, j < 4 → (15#32).getLsbD j = true := by decide
      simp [this i h]
    · by_cases h2 : 4 + i < 32
      · have h3 : (c &&& 0xffffff00#32).getLsbD (4 + i) = false := by rw [hc]; simp
        rw [BitVec.getLsbD_and] at h3
        have : ∀ j, j < 28 → 4 ≤ j → (0xffffff00#32).getLsbD (4 + j) = true := by decide
        rw [this i (by omega) (by omega)] at h3
        simp at h3
        simp [h3]
      · have : c.getLsbD (4 + i) = false := BitVec.getLsbD_of_ge _ _ (by omega)
        simp [this]
  rw [e1, ← step4_high c, ← step4_xor, BitVec.xor_assoc, BitVec.xor_comm (c &&& 15#32), ← split15 c]

/-- the register behind bytes -/
def run (r : BitVec 32) (l : List UInt8) : BitVec 32 := l.foldl (fun r c => step8 (r ^^^ c.toBitVec.setWidth 32)) r
/-- the sum of more bytes -/
def more (s : BitVec 32) (l : List UInt8) : BitVec 32 := ~~~ run (~~~ s) l
def sum (l : List UInt8) : BitVec 32 := more 0#32 l

theorem run_nil (r : BitVec 32) : run r [] = r := rfl
theorem run_append (r : BitVec 32) (a b : List UInt8) : run r (a ++ b) = run (run r a) b := by simp [run, List.foldl_append]
theorem run_snoc (r : BitVec 32) (a : List UInt8) (c : UInt8) : run r (a ++ [c]) = step8 (run r a ^^^ c.toBitVec.setWidth 32) := by simp [run, List.foldl_append]
theorem run_cons (r : BitVec 32) (c : UInt8) (b : List UInt8) : run r (c :: b) = run (step8 (r ^^^ c.toBitVec.setWidth 32)) b := rfl

theorem wide_low (c : UInt8) : (c.toBitVec.setWidth 32) &&& 0xffffff00#32 = 0#32 := by
  apply BitVec.eq_of_getLsbD_eq
  intro i hi
  simp only [BitVec.getLsbD_and, BitVec.getLsbD_setWidth]
  by_cases h : i < 8
  · have : ∀ j, j < 8 → (0xffffff00#32).getLsbD j = false := by decide
    simp [this i h]
  · have : c.toBitVec.getLsbD i = false := BitVec.getLsbD_of_ge _ _ (by omega)
    simp [this]

theorem byte_run (r : BitVec 32) (c : UInt8) : byte r (c.toBitVec.setWidth 32) = step8 (r ^^^ c.toBitVec.setWidth 32) := byte_eq _ _ (wide_low c)

theorem more_append (s : BitVec 32) (a b : List UInt8) : more s (a ++ b) = more (more s a) b := by simp [more, run_append]
end Crc
end Go.Proofs.YtkdmljijgfejpaaDoor


namespace Go.Proofs.YtkdmljijgfejpaaDoor
set_option linter.unusedVariables false
set_option linter.unusedSimpArgs false
namespace Crc

/-- so many steps -/
def pw : Nat → BitVec 32 → BitVec 32
  | 0, r => r
  | k + 1, r => step (pw k r)
theorem pw_add (a b : Nat) (r : BitVec 32) : pw (a + b) r = pw a (pw b r) := by
  induction a with
  | zero => simp [pw]
  | succ a ih => rw [Nat.succ_add]; simp only [pw, ih]
theorem pw_succ' (k : Nat) (r : BitVec 32) : pw (k + 1) r = pw k (step r) := by rw [pw_add k 1 r]; rfl
theorem pw_xor (k : Nat) (a b : BitVec 32) : pw k (a ^^^ b) = pw k a ^^^ pw k b := by
  induction k with
  | zero => rfl
  | succ k ih => simp only [pw, ih, step_xor]
theorem pw_zero (k : Nat) : pw k 0#32 = 0#32 := by
  induction k with
  | zero => rfl
  | succ k ih => simp only [pw, ih, step_zero]
theorem step8_pw (r : BitVec 32) : step8 r = pw 8 r := rfl

theorem step_inj0 {r : BitVec 32} (h : step r = 0#32) : r = 0#32 := by
  unfold step at h
  cases hb : r.getLsbD 0
  · rw [hb] at h
    simp only [Bool.false_eq_true, if_false, BitVec.xor_zero] at h
    apply BitVec.eq_of_getLsbD_eq
    intro i hi
    cases i with
    | zero => simpa using hb
    | succ i =>
      have : (r >>> 1).getLsbD i = false := by rw [h]; simp
      simpa [Nat.add_comm] using this
  · rw [hb] at h
    simp only [if_true] at h
    have : ((r >>> 1) ^^^ poly).getLsbD 31 = false := by rw [h]; simp
    rw [BitVec.getLsbD_xor, BitVec.getLsbD_ushiftRight, BitVec.getLsbD_of_ge r (1 + 31) (by omega)] at this
    have hp : poly.getLsbD 31 = true := by decide
    rw [hp] at this
    simp at this
theorem pw_inj0 (k : Nat) {r : BitVec 32} (h : pw k r = 0#32) : r = 0#32 := by
  induction k with
  | zero => exact h
  | succ k ih => exact ih (step_inj0 h)
theorem pw_inj (k : Nat) {a b : BitVec 32} (h : pw k a = pw k b) : a = b := by
  have : pw k (a ^^^ b) = 0#32 := by rw [pw_xor, h, BitVec.xor_self]
  have := pw_inj0 k this
  calc a = (a ^^^ b) ^^^ b := by rw [BitVec.xor_assoc, BitVec.xor_self, BitVec.xor_zero]
    _ = b := by rw [this, BitVec.zero_xor]

/-- where the low bits are none, steps shift -/
theorem pw_shift (k : Nat) (r : BitVec 32) (h : ∀ i, i < k → r.getLsbD i = false) : pw k r = r >>> k := by
  induction k with
  | zero => simp [pw]
  | succ k ih =>
    have h0 : (r >>> k).getLsbD 0 = false := by have := h k (by omega); simpa using this
    rw [pw, ih (fun i hi => h i (by omega)), step_even h0, ← BitVec.shiftRight_add]

/-! ### products -/
def acc (a b : BitVec 32) : Nat → BitVec 32
  | 0 => 0#32
  | k + 1 => acc a b k ^^^ (if b.getLsbD (31 - k) then pw k a else 0#32)
/-- the product, as the program reckons it -/
def times (a b : BitVec 32) : BitVec 32 := acc a b 32

theorem acc_map (f : BitVec 32 → BitVec 32) (fx : ∀ a b, f (a ^^^ b) = f a ^^^ f b) (fs : ∀ a, f (step a) = step (f a)) (a b : BitVec 32) (k : Nat) : f (acc a b k) = acc (f a) b k := by
  have f0 : f 0#32 = 0#32 := by have := fx 0#32 0#32; simpa using this
  have fp : ∀ k, f (pw k a) = pw k (f a) := by
    intro k
    induction k with
    | zero => rfl
    | succ k ih => simp only [pw, fs, ih]
  induction k with
  | zero => exact f0
  | succ k ih =>
    simp only [acc, fx, ih]
    split
    · rw [fp]
    · rw [f0]
def one : BitVec 32 := 0x80000000#32
theorem pw_one : ∀ k, k < 32 → pw k one = 1#32 <<< (31 - k) := by decide
theorem acc_one (b : BitVec 32) (k : Nat) (hk : k ≤ 32) : ∀ i, i < 32 → (acc one b k).getLsbD i = (b.getLsbD i && decide (32 - k ≤ i)) := by
  induction k with
  | zero => intro i hi; simp [acc]; omega
  | succ k ih =>
    intro i hi
    rw [acc, BitVec.getLsbD_xor, ih (by omega) i hi]
    have e1 : (if b.getLsbD (31 - k) then pw k one else 0#32).getLsbD i = (b.getLsbD (31 - k) && decide (i = 31 - k)) := by
      cases b.getLsbD (31 - k)
      · simp
      · rw [if_pos rfl, pw_one k (by omega)]
        simp only [BitVec.getLsbD_shiftLeft, Bool.true_and]
        by_cases h : i = 31 - k
        · subst h; simp; omega
        · have : (1#32).getLsbD (i - (31 - k)) = (decide (i - (31 - k) = 0)) := by
            simp [BitVec.getLsbD_one]
          rw [this]
          simp [h]; omega
    rw [e1]
    by_cases h : i = 31 - k
    · subst h
      have h1 : ¬ (32 - k ≤ 31 - k) := by omega
      simp [h1]
    · by_cases h3 : 32 - k ≤ i
      · simp [h, h3]; intro _; omega
      · simp [h, h3]; intro _; omega
theorem times_one (b : BitVec 32) : times one b = b := by
  apply BitVec.eq_of_getLsbD_eq
  intro i hi
  unfold times
  rw [acc_one b 32 (by omega) i hi]
  simp
theorem map_times (f : BitVec 32 → BitVec 32) (fx : ∀ a b, f (a ^^^ b) = f a ^^^ f b) (fs : ∀ a, f (step a) = step (f a)) (b : BitVec 32) : f b = times (f one) b := by
  conv => lhs; rw [← times_one b]
  exact acc_map f fx fs one b 32
theorem acc_xor (a a' b : BitVec 32) (k : Nat) : acc (a ^^^ a') b k = acc a b k ^^^ acc a' b k := by
  induction k with
  | zero => simp [acc]
  | succ k ih =>
    simp only [acc, ih, pw_xor]
    have k1 : ∀ x y p q : BitVec 32, (x ^^^ y) ^^^ (p ^^^ q) = (x ^^^ p) ^^^ (y ^^^ q) := fun x y p q => by
      rw [BitVec.xor_assoc, ← BitVec.xor_assoc y, BitVec.xor_comm y p, BitVec.xor_assoc p, ← BitVec.xor_assoc]
    split
    · rw [k1]
    · simp
theorem times_xor (a a' b : BitVec 32) : times (a ^^^ a') b = times a b ^^^ times a' b := acc_xor a a' b 32
theorem times_step (a b : BitVec 32) : times (step a) b = step (times a b) := (acc_map step step_xor (fun _ => rfl) a b 32).symm
theorem times_comm (a b : BitVec 32) : times a b = times b a := by
  have := map_times (fun x => times x b) (fun x y => times_xor x y b) (fun x => times_step x b) a
  simp only [times_one] at this
  exact this
theorem times_assoc (a b c : BitVec 32) : times (times a b) c = times a (times b c) := by
  have := map_times (fun x => times (times x b) c) (fun x y => by rw [times_xor, times_xor]) (fun x => by rw [times_step, times_step]) a
  simp only [times_one] at this
  rw [this, times_comm]

/-- so many times a factor -/
def mul (s : BitVec 32) : Nat → BitVec 32 → BitVec 32
  | 0, a => a
  | n + 1, a => mul s n (times a s)
theorem mul_two (s : BitVec 32) (m : Nat) : ∀ a, mul s (2 * m) a = mul (times s s) m a := by
  induction m with
  | zero => intro a; rfl
  | succ m ih =>
    intro a
    rw [show 2 * (m + 1) = 2 * m + 1 + 1 by omega]
    simp only [mul]
    rw [ih, times_assoc]
theorem mul_odd (s : BitVec 32) (m : Nat) (a : BitVec 32) : mul s (2 * m + 1) a = mul (times s s) m (times a s) := by
  simp only [mul]; exact mul_two s m _
def x8 : BitVec 32 := 0x00800000#32
theorem times_x8 (a : BitVec 32) : times a x8 = pw 8 a := by
  have := map_times (pw 8) (pw_xor 8) (fun a => by rw [← pw_succ']; rfl) a
  rw [this, times_comm]
  rfl
theorem mul_x8 (n : Nat) : ∀ a, mul x8 n a = pw (8 * n) a := by
  induction n with
  | zero => intro a; rfl
  | succ n ih =>
    intro a
    simp only [mul]
    rw [ih, times_x8, ← pw_add]; congr 1
/-- what Join does -/
def join (a b : BitVec 32) (n : Nat) : BitVec 32 := mul x8 n a ^^^ b
theorem join_eq (a b : BitVec 32) (n : Nat) : join a b n = pw (8 * n) a ^^^ b := by unfold join; rw [mul_x8]

/-! ### what is linear -/
theorem run_xor (l : List UInt8) : ∀ r s, run (r ^^^ s) l = run r l ^^^ pw (8 * l.length) s := by
  induction l with
  | nil => intro r s; rfl
  | cons c l ih =>
    intro r s
    rw [run_cons, run_cons, show r ^^^ s ^^^ c.toBitVec.setWidth 32 = (r ^^^ c.toBitVec.setWidth 32) ^^^ s by rw [BitVec.xor_assoc, BitVec.xor_comm s, ← BitVec.xor_assoc], step8_xor, ih, step8_pw s, ← pw_add]
    congr 2
theorem not_xor (a b : BitVec 32) : ~~~ (a ^^^ b) = ~~~ a ^^^ b := by
  apply BitVec.eq_of_getLsbD_eq
  intro i hi
  simp [hi]
theorem not_xor' (a b : BitVec 32) : ~~~ (a ^^^ b) = a ^^^ ~~~ b := by rw [BitVec.xor_comm, not_xor, BitVec.xor_comm]
theorem more_sum (a b : List UInt8) : more (sum a) b = sum (a ++ b) := (more_append _ _ _).symm
theorem join_sum (a b : List UInt8) : join (sum a) (sum b) b.length = sum (a ++ b) := by
  rw [join_eq, ← more_sum]
  show pw _ (sum a) ^^^ (~~~ run (~~~ 0#32) b) = ~~~ run (~~~ (sum a)) b
  rw [← not_xor', BitVec.xor_comm, ← run_xor, ← not_xor, BitVec.zero_xor]
theorem join_join (a b c : BitVec 32) (n m : Nat) : join (join a b n) c m = join a (join b c m) (n + m) := by
  simp only [join_eq]
  rw [pw_xor, ← pw_add, BitVec.xor_assoc, show 8 * m + 8 * n = 8 * (n + m) by omega]
theorem join_none (a : BitVec 32) : join a 0#32 0 = a := by rw [join_eq]; simp [pw]
theorem join_first (b : BitVec 32) (n : Nat) : join 0#32 b n = b := by rw [join_eq, pw_zero]; simp
theorem join_zero (a b : BitVec 32) : join a b 0 = a ^^^ b := by rw [join_eq]; rfl

/-- three texts of one length, place by place -/
def xor3 : List UInt8 → List UInt8 → List UInt8 → List UInt8
  | a :: as, b :: bs, c :: cs => (a ^^^ b ^^^ c) :: xor3 as bs cs
  | _, _, _ => []
theorem xor3_length : ∀ (a b c : List UInt8), b.length = a.length → c.length = a.length → (xor3 a b c).length = a.length
  | [], [], [], _, _ => rfl
  | a :: as, b :: bs, c :: cs, hb, hc => by simp [xor3, xor3_length as bs cs (by simpa using hb) (by simpa using hc)]
  | [], _ :: _, _, h, _ => by simp at h
  | [], _, _ :: _, _, h => by simp at h
  | _ :: _, [], _, h, _ => by simp at h
  | _ :: _, _, [], _, h => by simp at h
theorem xor3_at : ∀ (a b c : List UInt8) (k : Nat), k < a.length → k < b.length → k < c.length → (xor3 a b c)[k]? = some (a.getD k 0 ^^^ b.getD k 0 ^^^ c.getD k 0)
  | a :: as, b :: bs, c :: cs, 0, _, _, _ => by simp [xor3]
  | a :: as, b :: bs, c :: cs, k + 1, ha, hb, hc => by
    have := xor3_at as bs cs k (by simpa using ha) (by simpa using hb) (by simpa using hc)
    simpa [xor3] using this
  | [], _, _, _, h, _, _ => by simp at h
  | _ :: _, [], _, _, _, h, _ => by simp at h
  | _ :: _, _ :: _, [], _, _, _, h => by simp at h
theorem wide_xor (a b : UInt8) : (a ^^^ b).toBitVec.setWidth 32 = a.toBitVec.setWidth 32 ^^^ b.toBitVec.setWidth 32 := by
  rw [UInt8.toBitVec_xor, BitVec.setWidth_xor]
theorem run_xor3 : ∀ (a b c : List UInt8) (r s t : BitVec 32), b.length = a.length → c.length = a.length → run (r ^^^ s ^^^ t) (xor3 a b c) = run r a ^^^ run s b ^^^ run t c
  | [], [], [], _, _, _, _, _ => rfl
  | a :: as, b :: bs, c :: cs, r, s, t, hb, hc => by
    simp only [xor3, run_cons, wide_xor]
    have e : ∀ r s t a b c : BitVec 32, r ^^^ s ^^^ t ^^^ (a ^^^ b ^^^ c) = (r ^^^ a) ^^^ (s ^^^ b) ^^^ (t ^^^ c) := by
      intro r s t a b c
      apply BitVec.eq_of_getLsbD_eq
      intro i hi
      simp only [BitVec.getLsbD_xor]
      cases r.getLsbD i <;> cases s.getLsbD i <;> cases t.getLsbD i <;> cases a.getLsbD i <;> cases b.getLsbD i <;> cases c.getLsbD i <;> rfl
    rw [e, step8_xor, step8_xor]
    exact run_xor3 as bs cs _ _ _ (by simpa using hb) (by simpa using hc)
  | [], _ :: _, _, _, _, _, h, _ => by simp at h
  | [], _, _ :: _, _, _, _, _, h => by simp at h
  | _ :: _, [], _, _, _, _, h, _ => by simp at h
  | _ :: _, _, [], _, _, _, _, h => by simp at h
theorem sum_xor3 (a b c : List UInt8) (hb : b.length = a.length) (hc : c.length = a.length) : sum (xor3 a b c) = sum a ^^^ sum b ^^^ sum c := by
  have h := run_xor3 a b c (~~~ 0#32) (~~~ 0#32) (~~~ 0#32) hb hc
  rw [BitVec.xor_self, BitVec.zero_xor] at h
  show ~~~ run (~~~ 0#32) _ = (~~~ run (~~~ 0#32) a) ^^^ (~~~ run (~~~ 0#32) b) ^^^ (~~~ run (~~~ 0#32) c)
  rw [h]
  generalize run (~~~ 0#32) a = x
  generalize run (~~~ 0#32) b = y
  generalize run (~~~ 0#32) c = z
  apply BitVec.eq_of_getLsbD_eq
  intro i hi
  simp only [BitVec.getLsbD_xor, BitVec.getLsbD_not]
  cases x.getLsbD i <;> cases y.getLsbD i <;> cases z.getLsbD i <;> simp [hi]
end Crc
end Go.Proofs.YtkdmljijgfejpaaDoor


namespace Go.Proofs.YtkdmljijgfejpaaDoor
set_option linter.unusedVariables false
set_option linter.unusedSimpArgs false
namespace Crc

/-! ### steps back -/
def unstep (r : BitVec 32) : BitVec 32 := if r.getLsbD 31 then ((r ^^^ poly) <<< 1) ||| 1#32 else r <<< 1
theorem step_unstep (r : BitVec 32) : step (unstep r) = r := by
  have key : ∀ i, i < 32 → (1#32).getLsbD i = decide (i = 0) := by decide
  unfold unstep
  cases hb : r.getLsbD 31
  · simp only [Bool.false_eq_true, if_false]
    rw [step_even (by simp)]
    apply BitVec.eq_of_getLsbD_eq
    intro i hi
    simp only [BitVec.getLsbD_ushiftRight, BitVec.getLsbD_shiftLeft]
    by_cases h : 1 + i < 32
    · simp [h]
    · have : i = 31 := by omega
      subst this; rw [hb]; simp
  · simp only [if_true]
    have l0 : (((r ^^^ poly) <<< 1) ||| 1#32).getLsbD 0 = true := by simp
    unfold step
    rw [l0, if_pos rfl]
    have : (((r ^^^ poly) <<< 1) ||| 1#32) >>> 1 = r ^^^ poly := by
      apply BitVec.eq_of_getLsbD_eq
      intro i hi
      simp only [BitVec.getLsbD_ushiftRight, BitVec.getLsbD_or, BitVec.getLsbD_shiftLeft]
      by_cases h : 1 + i < 32
      · rw [key (1 + i) h]; simp [h]
      · have : i = 31 := by omega
        subst this
        rw [BitVec.getLsbD_xor, hb]; decide
    rw [this, BitVec.xor_assoc, BitVec.xor_self, BitVec.xor_zero]
def unpw : Nat → BitVec 32 → BitVec 32
  | 0, r => r
  | k + 1, r => unpw k (unstep r)
theorem pw_unpw (k : Nat) : ∀ r, pw k (unpw k r) = r := by
  induction k with
  | zero => intro r; rfl
  | succ k ih => intro r; simp only [pw, unpw]; rw [ih, step_unstep]
theorem unpw_succ (k : Nat) : ∀ r, unpw (k + 1) r = unstep (unpw k r) := by
  induction k with
  | zero => intro r; rfl
  | succ k ih => intro r; rw [unpw, ih]; rfl
theorem unpw_add (a b : Nat) : ∀ r, unpw (a + b) r = unpw b (unpw a r) := by
  induction a with
  | zero => intro r; simp [unpw]
  | succ a ih => intro r; rw [Nat.succ_add]; simp only [unpw]; exact ih _

/-! ### four bytes -/
def byteOf (r : BitVec 32) : UInt8 := ⟨r.setWidth 8⟩
def four (r : BitVec 32) : List UInt8 := [byteOf r, byteOf (r >>> 8), byteOf (r >>> 16), byteOf (r >>> 24)]
theorem byteOf_wide (r : BitVec 32) : (byteOf r).toBitVec.setWidth 32 = r &&& 255#32 := by
  apply BitVec.eq_of_getLsbD_eq
  intro i hi
  have key : ∀ i, i < 32 → (255#32).getLsbD i = decide (i < 8) := by decide
  simp only [byteOf, BitVec.getLsbD_setWidth, BitVec.getLsbD_and, key i hi, hi, decide_true, Bool.true_and]
  rw [Bool.and_comm]
theorem byteOf_xor (a b : BitVec 32) : byteOf a ^^^ byteOf b = byteOf (a ^^^ b) := by
  apply UInt8.eq_of_toBitVec_eq
  rw [UInt8.toBitVec_xor]
  simp only [byteOf]
  rw [BitVec.setWidth_xor]
theorem pw_up (k : Nat) (hk : k ≤ 24) (c : BitVec 32) (hc : ∀ i, 8 ≤ i → c.getLsbD i = false) : pw k (c <<< k) = c := by
  rw [pw_shift k _ (by intro i hi; simp only [BitVec.getLsbD_shiftLeft]; simp [hi])]
  apply BitVec.eq_of_getLsbD_eq
  intro i hi
  simp only [BitVec.getLsbD_ushiftRight, BitVec.getLsbD_shiftLeft]
  by_cases h : i < 8
  · have h1 : k + i < 32 := by omega
    simp [h1]
  · rw [hc i (by omega)]
    rw [show k + i - k = i by omega, hc i (by omega)]; simp
theorem low_byte (r : BitVec 32) : ∀ i, 8 ≤ i → (r &&& 255#32).getLsbD i = false := by
  intro i hi
  rw [BitVec.getLsbD_and]
  by_cases h : i < 32
  · have key : ∀ i, i < 32 → (255#32).getLsbD i = decide (i < 8) := by decide
    rw [key i h]; simp; omega
  · rw [BitVec.getLsbD_of_ge r i (by omega)]; simp
theorem parts (r : BitVec 32) : r = (r &&& 255#32) ^^^ (((r >>> 8) &&& 255#32) <<< 8) ^^^ (((r >>> 16) &&& 255#32) <<< 16) ^^^ (((r >>> 24) &&& 255#32) <<< 24) := by
  have key : ∀ i, i < 32 → (255#32).getLsbD i = decide (i < 8) := by decide
  apply BitVec.eq_of_getLsbD_eq
  intro i hi
  simp only [BitVec.getLsbD_xor, BitVec.getLsbD_and, BitVec.getLsbD_shiftLeft, BitVec.getLsbD_ushiftRight]
  rw [key i hi, key (i - 8) (by omega), key (i - 16) (by omega), key (i - 24) (by omega)]
  by_cases h1 : i < 8
  · have a1 : i < 16 := by omega
    have a2 : i < 24 := by omega
    simp [h1, a1, a2]
  · by_cases h2 : i < 16
    · have a0 : i < 24 := by omega
      have a1 : i - 8 < 8 := by omega
      have a2 : 8 + (i - 8) = i := by omega
      simp [hi, h1, h2, a0, a1, a2]
    · by_cases h3 : i < 24
      · have a1 : ¬ i - 8 < 8 := by omega
        have a2 : i - 16 < 8 := by omega
        have a3 : 16 + (i - 16) = i := by omega
        simp [hi, h1, h2, h3, a1, a2, a3]
      · have a1 : ¬ i - 8 < 8 := by omega
        have a2 : ¬ i - 16 < 8 := by omega
        have a3 : i - 24 < 8 := by omega
        have a4 : 24 + (i - 24) = i := by omega
        simp [hi, h1, h2, h3, a1, a2, a3, a4]
theorem run_four (R r : BitVec 32) : run R (four r) = pw 32 (R ^^^ r) := by
  have e1 := pw_up 8 (by omega) _ (low_byte (r >>> 8))
  have e2 := pw_up 16 (by omega) _ (low_byte (r >>> 16))
  have e3 := pw_up 24 (by omega) _ (low_byte (r >>> 24))
  conv => rhs; rw [parts r]
  simp only [four, run_cons, run_nil, byteOf_wide, step8_pw]
  generalize r &&& 255#32 = c0 at *
  generalize (r >>> 8) &&& 255#32 = c1 at *
  generalize (r >>> 16) &&& 255#32 = c2 at *
  generalize (r >>> 24) &&& 255#32 = c3 at *
  have e : R ^^^ (c0 ^^^ c1 <<< 8 ^^^ c2 <<< 16 ^^^ c3 <<< 24) = ((R ^^^ c0) ^^^ c1 <<< 8 ^^^ c2 <<< 16) ^^^ c3 <<< 24 := by simp only [BitVec.xor_assoc]
  rw [e, pw_add 8 24, pw_xor 24 _ (c3 <<< 24), e3]
  congr 2
  rw [pw_add 8 16, pw_xor 16 _ (c2 <<< 16), e2]
  congr 2
  rw [pw_add 8 8, pw_xor 8 _ (c1 <<< 8), e1]
/-- the word of which Last makes four bytes -/
def lastWord (b : List UInt8) (want : BitVec 32) : BitVec 32 := unpw 32 (~~~ want) ^^^ ~~~ sum b
theorem sum_last (b : List UInt8) (want x : BitVec 32) : sum (b ++ four (lastWord b want ^^^ x)) = want ^^^ pw 32 x := by
  rw [← more_sum]
  show ~~~ run (~~~ sum b) _ = _
  have e : ~~~ sum b ^^^ (lastWord b want ^^^ x) = unpw 32 (~~~ want) ^^^ x := by
    unfold lastWord
    rw [← BitVec.xor_assoc, BitVec.xor_comm (~~~ sum b), BitVec.xor_assoc (unpw _ _), BitVec.xor_self, BitVec.xor_zero]
  rw [run_four, e, pw_xor, pw_unpw, not_xor, BitVec.not_not]
theorem sum_last0 (b : List UInt8) (want : BitVec 32) : sum (b ++ four (lastWord b want)) = want := by
  have := sum_last b want 0#32
  rw [BitVec.xor_zero, pw_zero, BitVec.xor_zero] at this
  exact this
theorem sum_last_iff (b : List UInt8) (want x : BitVec 32) : (sum (b ++ four (lastWord b want ^^^ x)) = want) ↔ x = 0#32 := by
  rw [sum_last]
  constructor
  · intro h
    refine pw_inj0 32 ?_
    calc pw 32 x = want ^^^ (want ^^^ pw 32 x) := by rw [← BitVec.xor_assoc, BitVec.xor_self, BitVec.zero_xor]
      _ = 0#32 := by rw [h, BitVec.xor_self]
  · rintro rfl; rw [pw_zero, BitVec.xor_zero]

/-! ### bursts -/
theorem run_flip (v : UInt8) : ∀ (l : List UInt8) (j : Nat) (hj : j < l.length) (r : BitVec 32), run r (l.set j (l[j] ^^^ v)) = run r l ^^^ pw (8 * (l.length - j)) (v.toBitVec.setWidth 32) := by
  intro l
  induction l with
  | nil => intro j hj; simp at hj
  | cons c l ih =>
    intro j hj r
    cases j with
    | zero =>
      simp only [List.set_cons_zero, List.getElem_cons_zero, run_cons, wide_xor]
      rw [← BitVec.xor_assoc, step8_xor, run_xor, step8_pw (v.toBitVec.setWidth 32), ← pw_add]
      congr 2
    | succ j =>
      simp only [List.set_cons_succ, List.getElem_cons_succ, run_cons]
      rw [ih j (by simpa using hj)]
      simp
def part (change : BitVec 32) : Nat → BitVec 32
  | 0 => 0#32
  | k + 1 => part change k ^^^ (if change.getLsbD k then 1#32 <<< k else 0#32)
theorem part_bit (change : BitVec 32) (k : Nat) (hk : k ≤ 32) : ∀ i, i < 32 → (part change k).getLsbD i = (change.getLsbD i && decide (i < k)) := by
  induction k with
  | zero => intro i hi; simp [part]
  | succ k ih =>
    intro i hi
    rw [part, BitVec.getLsbD_xor, ih (by omega) i hi]
    have e1 : (if change.getLsbD k then 1#32 <<< k else 0#32).getLsbD i = (change.getLsbD k && decide (i = k)) := by
      cases change.getLsbD k
      · simp
      · rw [if_pos rfl]
        simp only [BitVec.getLsbD_shiftLeft, Bool.true_and, BitVec.getLsbD_one]
        by_cases h : i = k
        · subst h; simp; omega
        · simp [h]; omega
    rw [e1]
    by_cases h : i = k
    · subst h; simp
    · have : decide (i < k + 1) = decide (i < k) := by simp; omega
      simp [h, this]
theorem part_all (change : BitVec 32) : part change 32 = change := by
  apply BitVec.eq_of_getLsbD_eq
  intro i hi
  rw [part_bit change 32 (by omega) i hi]; simp [hi]
theorem pw_bit (k : Nat) (hk : k < 32) : pw k (1#32 <<< k) = 1#32 := by
  have : ∀ k, k < 32 → pw k (1#32 <<< k) = 1#32 := by decide
  exact this k hk
/-- one bit of a byte more -/
theorem wide_bit : ∀ i, i < 8 → ((1 : UInt8) <<< UInt8.ofNat i).toBitVec.setWidth 32 = 1#32 <<< i := by decide
theorem run_bit (l : List UInt8) (at_ k : Nat) (hk : k < 32) (h : at_ + 32 ≤ 8 * l.length) (r : BitVec 32) (hj : (at_ + k) / 8 < l.length) :
    run r (l.set ((at_ + k) / 8) (l[(at_ + k) / 8] ^^^ ((1 : UInt8) <<< UInt8.ofNat ((at_ + k) % 8)))) = run r l ^^^ pw (8 * l.length - at_) (1#32 <<< k) := by
  rw [run_flip _ l _ hj r, wide_bit _ (by omega)]
  congr 1
  have hi : (at_ + k) % 8 < 32 := by omega
  rw [show 8 * (l.length - (at_ + k) / 8) = (8 * l.length - at_ - k) + (at_ + k) % 8 by omega, pw_add _ ((at_ + k) % 8), pw_bit _ hi]
  conv => rhs; rw [show 8 * l.length - at_ = (8 * l.length - at_ - k) + k by omega, pw_add _ k, pw_bit k hk]
/-- what the program makes of bytes, change by change -/
def burst (b : List UInt8) (at_ : Nat) (change : BitVec 32) : Nat → List UInt8
  | 0 => b
  | k + 1 => if change.getLsbD k then (burst b at_ change k).set ((at_ + k) / 8) ((burst b at_ change k).getD ((at_ + k) / 8) 0 ^^^ ((1 : UInt8) <<< UInt8.ofNat ((at_ + k) % 8))) else burst b at_ change k
theorem burst_length (b : List UInt8) (at_ : Nat) (change : BitVec 32) (k : Nat) : (burst b at_ change k).length = b.length := by
  induction k with
  | zero => rfl
  | succ k ih => rw [burst]; split <;> simp [ih]
theorem run_burst (b : List UInt8) (at_ : Nat) (change : BitVec 32) (h : at_ + 32 ≤ 8 * b.length) (r : BitVec 32) (k : Nat) (hk : k ≤ 32) :
    run r (burst b at_ change k) = run r b ^^^ pw (8 * b.length - at_) (part change k) := by
  induction k with
  | zero => simp [burst, part, pw_zero]
  | succ k ih =>
    have hl := burst_length b at_ change k
    rw [burst, part, pw_xor, ← BitVec.xor_assoc, ← ih (by omega)]
    split
    · rename_i hc
      have hj : (at_ + k) / 8 < (burst b at_ change k).length := by omega
      have := run_bit (burst b at_ change k) at_ k (by omega) (by omega) r hj
      rw [hl] at this
      rw [← this]
      congr 3
      simp [List.getD, hj]
    · rw [pw_zero, BitVec.xor_zero]
theorem sum_burst (b : List UInt8) (at_ : Nat) (change : BitVec 32) (h : at_ + 32 ≤ 8 * b.length) (hc : change ≠ 0#32) : sum (burst b at_ change 32) ≠ sum b := by
  intro e
  have e2 : run (~~~ 0#32) (burst b at_ change 32) = run (~~~ 0#32) b := by
    have : ~~~ (sum (burst b at_ change 32)) = ~~~ (sum b) := by rw [e]
    simpa [sum, more, BitVec.not_not] using this
  rw [run_burst b at_ change h _ 32 (by omega), part_all] at e2
  refine hc (pw_inj0 (8 * b.length - at_) ?_)
  generalize run (~~~ 0#32) b = R at e2
  generalize pw _ change = D at e2
  calc D = R ^^^ (R ^^^ D) := by rw [← BitVec.xor_assoc, BitVec.xor_self, BitVec.zero_xor]
    _ = 0#32 := by rw [e2, BitVec.xor_self]
end Crc
end Go.Proofs.YtkdmljijgfejpaaDoor


