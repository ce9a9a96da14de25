/- Plain mathematics of the 32-bit sum: products, joins, what four bytes do, bursts. No program in sight. -/
import Derived.Test.YtmpjcnopakfdmaaDoorCrcMath
namespace Go.Proofs.YtmpjcnopakfdmaaDoor
set_option linter.unusedVariables false
set_option linter.unusedSimpArgs false
namespace Crc

/-- so many steps -/
def pw : Nat → BitVec 32 → BitVec 32
  | 0, r => r
  | k + 1, r => step (pw k r)
theorem pw_add (a b : Nat) (r : BitVec 32) : pw (a + b) r = pw a (pw b r) := by
  induction a with
  | zero => simp [pw]
  | succ a ih => rw [Nat.succ_add]; simp only [pw, ih]
theorem pw_succ' (k : Nat) (r : BitVec 32) : pw (k + 1) r = pw k (step r) := by rw [pw_add k 1 r]; rfl
theorem pw_xor (k : Nat) (a b : BitVec 32) : pw k (a ^^^ b) = pw k a ^^^ pw k b := by
  induction k with
  | zero => rfl
  | succ k ih => simp only [pw, ih, step_xor]
theorem pw_zero (k : Nat) : pw k 0#32 = 0#32 := by
  induction k with
  | zero => rfl
  | succ k ih => simp only [pw, ih, step_zero]
theorem step8_pw (r : BitVec 32) : step8 r = pw 8 r := rfl

theorem step_inj0 {r : BitVec 32} (h : step r = 0#32) : r = 0#32 := by
  unfold step at h
  cases hb : r.getLsbD 0
  · rw [hb] at h
    simp only [Bool.false_eq_true, if_false, BitVec.xor_zero] at h
    apply BitVec.eq_of_getLsbD_eq
    intro i hi
    cases i with
    | zero => simpa using hb
    | succ i =>
      have : (r >>> 1).getLsbD i = false := by rw [h]; simp
      simpa [Nat.add_comm] using this
  · rw [hb] at h
    simp only [if_true] at h
    have : ((r >>> 1) ^^^ poly).getLsbD 31 = false := by rw [h]; simp
    rw [BitVec.getLsbD_xor, BitVec.getLsbD_ushiftRight, BitVec.getLsbD_of_ge r (1 + 31) (by omega)] at this
    have hp : poly.getLsbD 31 = true := by decide
    rw [hp] at this
    simp at this
theorem pw_inj0 (k : Nat) {r : BitVec 32} (h : pw k r = 0#32) : r = 0#32 := by
  induction k with
  | zero => exact h
  | succ k ih => exact ih (step_inj0 h)
theorem pw_inj (k : Nat) {a b : BitVec 32} (h : pw k a = pw k b) : a = b := by
  have : pw k (a ^^^ b) = 0#32 := by rw [pw_xor, h, BitVec.xor_self]
  have := pw_inj0 k this
  calc a = (a ^^^ b) ^^^ b := by rw [BitVec.xor_assoc, BitVec.xor_self, BitVec.xor_zero]
    _ = b := by rw [this, BitVec.zero_xor]

/-- where the low bits are none, steps shift -/
theorem pw_shift (k : Nat) (r : BitVec 32) (h : ∀ i, i < k → r.getLsbD i = false) : pw k r = r >>> k := by
  induction k with
  | zero => simp [pw]
  | succ k ih =>
    have h0 : (r >>> k).getLsbD 0 = false := by have := h k (by omega); simpa using this
    rw [pw, ih (fun i hi => h i (by omega)), step_even h0, ← BitVec.shiftRight_add]

/-! ### products -/
def acc (a b : BitVec 32) : Nat → BitVec 32
  | 0 => 0#32
  | k + 1 => acc a b k ^^^ (if b.getLsbD (31 - k) then pw k a else 0#32)
/-- the product, as the program reckons it -/
def times (a b : BitVec 32) : BitVec 32 := acc a b 32

theorem acc_map (f : BitVec 32 → BitVec 32) (fx : ∀ a b, f (a ^^^ b) = f a ^^^ f b) (fs : ∀ a, f (step a) = step (f a)) (a b : BitVec 32) (k : Nat) : f (acc a b k) = acc (f a) b k := by
  have f0 : f 0#32 = 0#32 := by have := fx 0#32 0#32; simpa using this
  have fp : ∀ k, f (pw k a) = pw k (f a) := by
    intro k
    induction k with
    | zero => rfl
    | succ k ih => simp only [pw, fs, ih]
  induction k with
  | zero => exact f0
  | succ k ih =>
    simp only [acc, fx, ih]
    split
    · rw [fp]
    · rw [f0]
def one : BitVec 32 := 0x80000000#32
theorem pw_one : ∀ k, k < 32 → pw k one = 1#32 <<< (31 - k) := by decide
theorem acc_one (b : BitVec 32) (k : Nat) (hk : k ≤ 32) : ∀ i, i < 32 → (acc one b k).getLsbD i = (b.getLsbD i && decide (32 - k ≤ i)) := by
  induction k with
  | zero => intro i hi; simp [acc]; omega
  | succ k ih =>
    intro i hi
    rw [acc, BitVec.getLsbD_xor, ih (by omega) i hi]
    have e1 : (if b.getLsbD (31 - k) then pw k one else 0#32).getLsbD i = (b.getLsbD (31 - k) && decide (i = 31 - k)) := by
      cases b.getLsbD (31 - k)
      · simp
      · rw [if_pos rfl, pw_one k (by omega)]
        simp only [BitVec.getLsbD_shiftLeft, Bool.true_and]
        by_cases h : i = 31 - k
        · subst h; simp; omega
        · have : (1#32).getLsbD (i - (31 - k)) = (decide (i - (31 - k) = 0)) := by
            simp [BitVec.getLsbD_one]
          rw [this]
          simp [h]; omega
    rw [e1]
    by_cases h : i = 31 - k
    · subst h
      have h1 : ¬ (32 - k ≤ 31 - k) := by omega
      simp [h1]
    · by_cases h3 : 32 - k ≤ i
      · simp [h, h3]; intro _; omega
      · simp [h, h3]; intro _; omega
theorem times_one (b : BitVec 32) : times one b = b := by
  apply BitVec.eq_of_getLsbD_eq
  intro i hi
  unfold times
  rw [acc_one b 32 (by omega) i hi]
  simp
theorem map_times (f : BitVec 32 → BitVec 32) (fx : ∀ a b, f (a ^^^ b) = f a ^^^ f b) (fs : ∀ a, f (step a) = step (f a)) (b : BitVec 32) : f b = times (f one) b := by
  conv => lhs; rw [← times_one b]
  exact acc_map f fx fs one b 32
theorem acc_xor (a a' b : BitVec 32) (k : Nat) : acc (a ^^^ a') b k = acc a b k ^^^ acc a' b k := by
  induction k with
  | zero => simp [acc]
  | succ k ih =>
    simp only [acc, ih, pw_xor]
    have k1 : ∀ x y p q : BitVec 32, (x ^^^ y) ^^^ (p ^^^ q) = (x ^^^ p) ^^^ (y ^^^ q) := fun x y p q => by
      rw [BitVec.xor_assoc, ← BitVec.xor_assoc y, BitVec.xor_comm y p, BitVec.xor_assoc p, ← BitVec.xor_assoc]
    split
    · rw [k1]
    · simp
theorem times_xor (a a' b : BitVec 32) : times (a ^^^ a') b = times a b ^^^ times a' b := acc_xor a a' b 32
theorem times_step (a b : BitVec 32) : times (step a) b = step (times a b) := (acc_map step step_xor (fun _ => rfl) a b 32).symm
theorem times_comm (a b : BitVec 32) : times a b = times b a := by
  have := map_times (fun x => times x b) (fun x y => times_xor x y b) (fun x => times_step x b) a
  simp only [times_one] at this
  exact this
theorem times_assoc (a b c : BitVec 32) : times (times a b) c = times a (times b c) := by
  have := map_times (fun x => times (times x b) c) (fun x y => by rw [times_xor, times_xor]) (fun x => by rw [times_step, times_step]) a
  simp only [times_one] at this
  rw [this, times_comm]

/-- so many times a factor -/
def mul (s : BitVec 32) : Nat → BitVec 32 → BitVec 32
  | 0, a => a
  | n + 1, a => mul s n (times a s)
theorem mul_two (s : BitVec 32) (m : Nat) : ∀ a, mul s (2 * m) a = mul (times s s) m a := by
  induction m with
  | zero => intro a; rfl
  | succ m ih =>
    intro a
    rw [show 2 * (m + 1) = 2 * m + 1 + 1 by omega]
    simp only [mul]
    rw [ih, times_assoc]
theorem mul_odd (s : BitVec 32) (m : Nat) (a : BitVec 32) : mul s (2 * m + 1) a = mul (times s s) m (times a s) := by
  simp only [mul]; exact mul_two s m _
def x8 : BitVec 32 := 0x00800000#32
theorem times_x8 (a : BitVec 32) : times a x8 = pw 8 a := by
  have := map_times (pw 8) (pw_xor 8) (fun a => by rw [← pw_succ']; rfl) a
  rw [this, times_comm]
  rfl
theorem mul_x8 (n : Nat) : ∀ a, mul x8 n a = pw (8 * n) a := by
  induction n with
  | zero => intro a; rfl
  | succ n ih =>
    intro a
    simp only [mul]
    rw [ih, times_x8, ← pw_add]; congr 1
/-- what Join does -/
def join (a b : BitVec 32) (n : Nat) : BitVec 32 := mul x8 n a ^^^ b
theorem join_eq (a b : BitVec 32) (n : Nat) : join a b n = pw (8 * n) a ^^^ b := by unfold join; rw [mul_x8]

/-! ### what is linear -/
theorem run_xor (l : List UInt8) : ∀ r s, run (r ^^^ s) l = run r l ^^^ pw (8 * l.length) s := by
  induction l with
  | nil => intro r s; rfl
  | cons c l ih =>
    intro r s
    rw [run_cons, run_cons, show r ^^^ s ^^^ c.toBitVec.setWidth 32 = (r ^^^ c.toBitVec.setWidth 32) ^^^ s by rw [BitVec.xor_assoc, BitVec.xor_comm s, ← BitVec.xor_assoc], step8_xor, ih, step8_pw s, ← pw_add]
    congr 2
theorem not_xor (a b : BitVec 32) : ~~~ (a ^^^ b) = ~~~ a ^^^ b := by
  apply BitVec.eq_of_getLsbD_eq
  intro i hi
  simp [hi]
theorem not_xor' (a b : BitVec 32) : ~~~ (a ^^^ b) = a ^^^ ~~~ b := by rw [BitVec.xor_comm, not_xor, BitVec.xor_comm]
theorem more_sum (a b : List UInt8) : more (sum a) b = sum (a ++ b) := (more_append _ _ _).symm
theorem join_sum (a b : List UInt8) : join (sum a) (sum b) b.length = sum (a ++ b) := by
  rw [join_eq, ← more_sum]
  show pw _ (sum a) ^^^ (~~~ run (~~~ 0#32) b) = ~~~ run (~~~ (sum a)) b
  rw [← not_xor', BitVec.xor_comm, ← run_xor, ← not_xor, BitVec.zero_xor]
theorem join_join (a b c : BitVec 32) (n m : Nat) : join (join a b n) c m = join a (join b c m) (n + m) := by
  simp only [join_eq]
  rw [pw_xor, ← pw_add, BitVec.xor_assoc, show 8 * m + 8 * n = 8 * (n + m) by omega]
theorem join_none (a : BitVec 32) : join a 0#32 0 = a := by rw [join_eq]; simp [pw]
theorem join_first (b : BitVec 32) (n : Nat) : join 0#32 b n = b := by rw [join_eq, pw_zero]; simp
theorem join_zero (a b : BitVec 32) : join a b 0 = a ^^^ b := by rw [join_eq]; rfl

/-- three texts of one length, place by place -/
def xor3 : List UInt8 → List UInt8 → List UInt8 → List UInt8
  | a :: as, b :: bs, c :: cs => (a ^^^ b ^^^ c) :: xor3 as bs cs
  | _, _, _ => []
theorem xor3_length : ∀ (a b c : List UInt8), b.length = a.length → c.length = a.length → (xor3 a b c).length = a.length
  | [], [], [], _, _ => rfl
  | a :: as, b :: bs, c :: cs, hb, hc => by simp [xor3, xor3_length as bs cs (by simpa using hb) (by simpa using hc)]
  | [], _ :: _, _, h, _ => by simp at h
  | [], _, _ :: _, _, h => by simp at h
  | _ :: _, [], _, h, _ => by simp at h
  | _ :: _, _, [], _, h => by simp at h
theorem xor3_at : ∀ (a b c : List UInt8) (k : Nat), k < a.length → k < b.length → k < c.length → (xor3 a b c)[k]? = some (a.getD k 0 ^^^ b.getD k 0 ^^^ c.getD k 0)
  | a :: as, b :: bs, c :: cs, 0, _, _, _ => by simp [xor3]
  | a :: as, b :: bs, c :: cs, k + 1, ha, hb, hc => by
    have := xor3_at as bs cs k (by simpa using ha) (by simpa using hb) (by simpa using hc)
    simpa [xor3] using this
  | [], _, _, _, h, _, _ => by simp at h
  | _ :: _, [], _, _, _, h, _ => by simp at h
  | _ :: _, _ :: _, [], _, _, _, h => by simp at h
theorem wide_xor (a b : UInt8) : (a ^^^ b).toBitVec.setWidth 32 = a.toBitVec.setWidth 32 ^^^ b.toBitVec.setWidth 32 := by
  rw [UInt8.toBitVec_xor, BitVec.setWidth_xor]
theorem run_xor3 : ∀ (a b c : List UInt8) (r s t : BitVec 32), b.length = a.length → c.length = a.length → run (r ^^^ s ^^^ t) (xor3 a b c) = run r a ^^^ run s b ^^^ run t c
  | [], [], [], _, _, _, _, _ => rfl
  | a :: as, b :: bs, c :: cs, r, s, t, hb, hc => by
    simp only [xor3, run_cons, wide_xor]
    have e : ∀ r s t a b c : BitVec 32, r ^^^ s ^^^ t ^^^ (a ^^^ b ^^^ c) = (r ^^^ a) ^^^ (s ^^^ b) ^^^ (t ^^^ c) := by
      intro r s t a b c
      apply BitVec.eq_of_getLsbD_eq
      intro i hi
      simp only [BitVec.getLsbD_xor]
      cases r.getLsbD i <;> cases s.getLsbD i <;> cases t.getLsbD i <;> cases a.getLsbD i <;> cases b.getLsbD i <;> cases c.getLsbD i <;> rfl
    rw [e, step8_xor, step8_xor]
    exact run_xor3 as bs cs _ _ _ (by simpa using hb) (by simpa using hc)
  | [], _ :: _, _, _, _, _, h, _ => by simp at h
  | [], _, _ :: _, _, _, _, _, h => by simp at h
  | _ :: _, [], _, _, _, _, h, _ => by simp at h
  | _ :: _, _, [], _, _, _, _, h => by simp at h
theorem sum_xor3 (a b c : List UInt8) (hb : b.length = a.length) (hc : c.length = a.length) : sum (xor3 a b c) = sum a ^^^ sum b ^^^ sum c := by
  have h := run_xor3 a b c (~~~ 0#32) (~~~ 0#32) (~~~ 0#32) hb hc
  rw [BitVec.xor_self, BitVec.zero_xor] at h
  show ~~~ run (~~~ 0#32) _ = (~~~ run (~~~ 0#32) a) ^^^ (~~~ run (~~~ 0#32) b) ^^^ (~~~ run (~~~ 0#32) c)
  rw [h]
  generalize run (~~~ 0#32) a = x
  generalize run (~~~ 0#32) b = y
  generalize run (~~~ 0#32) c = z
  apply BitVec.eq_of_getLsbD_eq
  intro i hi
  simp only [BitVec.getLsbD_xor, BitVec.getLsbD_not]
  cases x.getLsbD i <;> cases y.getLsbD i <;> cases z.getLsbD i <;> simp [hi]
end Crc
end Go.Proofs.YtmpjcnopakfdmaaDoor
