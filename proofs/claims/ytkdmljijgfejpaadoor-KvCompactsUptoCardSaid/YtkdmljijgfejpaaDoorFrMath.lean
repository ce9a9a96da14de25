/- Frames, plain: a record's frame, all records' frames, which records stand in bytes. -/
import Derived.Test.YtkdmljijgfejpaaDoorGCr
namespace Go.Proofs.YtkdmljijgfejpaaDoor
set_option linter.unusedVariables false
set_option linter.unusedSimpArgs false

namespace Fr
/-- a byte of a number -/
def b8 (n : Nat) : UInt8 := UInt8.ofNat n
theorem b8_toNat (n : Nat) : (b8 n).toNat = n % 256 := by unfold b8; simp
/-- a length, as two bytes -/
def hd2 (n : Nat) : List UInt8 := [b8 (n / 256), b8 n]
/-- a sum, as four bytes -/
def sum4 (s : BitVec 32) : List UInt8 := [b8 (s >>> 24).toNat, b8 (s >>> 16).toNat, b8 (s >>> 8).toNat, b8 s.toNat]
def sumOf (l : List UInt8) : BitVec 32 := Crc.sum (hd2 l.length ++ l)
def frm (l : List UInt8) : List UInt8 := hd2 l.length ++ sum4 (sumOf l) ++ l
theorem hd2_length (n : Nat) : (hd2 n).length = 2 := rfl
theorem sum4_length (s : BitVec 32) : (sum4 s).length = 4 := rfl
theorem frm_length (l : List UInt8) : (frm l).length = 6 + l.length := by simp [frm, hd2_length, sum4_length]; omega
/-- can a record be? -/
def ok (l : List UInt8) : Bool := decide (0 < l.length) && decide (l.length ≤ 4000)
theorem ok_iff {l : List UInt8} : ok l = true ↔ 0 < l.length ∧ l.length ≤ 4000 := by simp [ok]
def at0 (b : List UInt8) (i : Nat) : Nat := (b.getD i 0).toNat
/-- the length that bytes begin with -/
def nAt (b : List UInt8) : Nat := 256 * at0 b 0 + at0 b 1
theorem nAt_frm {l t : List UInt8} (h : l.length ≤ 4000) : nAt (frm l ++ t) = l.length := by
  have e : frm l ++ t = b8 (l.length / 256) :: b8 l.length :: (sum4 (sumOf l) ++ l ++ t) := by simp [frm, hd2]
  rw [e]
  unfold nAt at0
  simp only [List.getD_cons_zero, List.getD_cons_succ, b8_toNat]
  omega
theorem nAt_take {b : List UInt8} {k : Nat} (hk : 2 ≤ k) : nAt (b.take k) = nAt b := by
  unfold nAt at0
  simp only [List.getD_eq_getElem?_getD, List.getElem?_take, if_pos (show 0 < k by omega), if_pos (show 1 < k by omega)]
/-- does a record stand first? -/
def fits (b : List UInt8) : Bool := decide (6 ≤ b.length) && (decide (0 < nAt b) && (decide (nAt b ≤ 4000) && (decide (6 + nAt b ≤ b.length) && (frm ((b.drop 6).take (nAt b)) == b.take (6 + nAt b)))))
def rec1 (b : List UInt8) : List UInt8 := (b.drop 6).take (nAt b)
theorem fits_iff {b : List UInt8} : fits b = true ↔ 6 ≤ b.length ∧ 0 < nAt b ∧ nAt b ≤ 4000 ∧ 6 + nAt b ≤ b.length ∧ frm (rec1 b) = b.take (6 + nAt b) := by
  unfold fits rec1
  rw [Bool.and_eq_true, Bool.and_eq_true, Bool.and_eq_true, Bool.and_eq_true, decide_eq_true_iff, decide_eq_true_iff, decide_eq_true_iff, decide_eq_true_iff, beq_iff_eq]
theorem rec1_length {b : List UInt8} (h : fits b = true) : (rec1 b).length = nAt b := by
  obtain ⟨_, _, _, h4, _⟩ := fits_iff.1 h
  unfold rec1; rw [List.length_take, List.length_drop]; omega
theorem rec1_ok {b : List UInt8} (h : fits b = true) : ok (rec1 b) = true := by
  obtain ⟨_, h2, h3, _, _⟩ := fits_iff.1 h
  rw [ok_iff, rec1_length h]; omega
theorem fits_split {b : List UInt8} (h : fits b = true) : b = frm (rec1 b) ++ b.drop (6 + nAt b) := by
  obtain ⟨_, _, _, _, h5⟩ := fits_iff.1 h
  rw [h5, List.take_append_drop]
theorem rec1_frm {l t : List UInt8} (h : l.length ≤ 4000) : rec1 (frm l ++ t) = l := by
  unfold rec1
  rw [nAt_frm h]
  have e : (frm l ++ t).drop 6 = l ++ t := by
    have : frm l ++ t = (hd2 l.length ++ sum4 (sumOf l)) ++ (l ++ t) := by simp [frm]
    rw [this, List.drop_append, List.drop_of_length_le (by simp [hd2_length, sum4_length])]
    simp [hd2_length, sum4_length]
  rw [e, List.take_append, List.take_of_length_le (Nat.le_refl _)]; simp
theorem fits_frm {l : List UInt8} (h : ok l = true) (t : List UInt8) : fits (frm l ++ t) = true := by
  obtain ⟨h1, h2⟩ := ok_iff.1 h
  refine fits_iff.2 ⟨?_, ?_, ?_, ?_, ?_⟩
  · rw [List.length_append, frm_length]; omega
  · rw [nAt_frm h2]; exact h1
  · rw [nAt_frm h2]; exact h2
  · rw [nAt_frm h2, List.length_append, frm_length]; omega
  · rw [nAt_frm h2, rec1_frm h2, List.take_append, ← frm_length l, List.take_of_length_le (Nat.le_refl _)]; simp
/-- the records that stand in bytes -/
def scanN : Nat → List UInt8 → List (List UInt8)
  | 0, _ => []
  | k + 1, b => if fits b then rec1 b :: scanN k (b.drop (6 + nAt b)) else []
def scan (b : List UInt8) : List (List UInt8) := scanN b.length b
theorem scanN_more : ∀ (k m : Nat) (b : List UInt8), b.length ≤ k → b.length ≤ m → scanN k b = scanN m b
  | 0, 0, _, _, _ => rfl
  | 0, m + 1, b, h, _ => by
    have : fits b = false := by
      cases hf : fits b with
      | false => rfl
      | true => have := (fits_iff.1 hf).1; omega
    show [] = if fits b then _ else _
    rw [this]; rfl
  | k + 1, 0, b, _, h => by
    have : fits b = false := by
      cases hf : fits b with
      | false => rfl
      | true => have := (fits_iff.1 hf).1; omega
    show (if fits b then _ else _) = []
    rw [this]; rfl
  | k + 1, m + 1, b, h1, h2 => by
    show (if fits b then _ else _) = if fits b then _ else _
    cases hf : fits b with
    | false => rfl
    | true =>
      have := (fits_iff.1 hf).1
      simp only [if_true]
      rw [scanN_more k m _ (by rw [List.length_drop]; omega) (by rw [List.length_drop]; omega)]
theorem scan_no {b : List UInt8} (h : fits b = false) : scan b = [] := by
  unfold scan
  cases hl : b.length with
  | zero => rfl
  | succ k => show (if fits b then _ else _) = _; rw [h]; rfl
theorem scan_yes {b : List UInt8} (h : fits b = true) : scan b = rec1 b :: scan (b.drop (6 + nAt b)) := by
  have hl := (fits_iff.1 h).1
  unfold scan
  rw [show b.length = (b.length - 1) + 1 by omega]
  show (if fits b then _ else _) = _
  rw [h, if_pos rfl, scanN_more _ (b.drop (6 + nAt b)).length _ (by rw [List.length_drop]; omega) (Nat.le_refl _)]
theorem scan_nil : scan [] = [] := rfl
/-- how many bytes records have -/
def size : List (List UInt8) → Nat
  | [] => 0
  | l :: ls => 6 + l.length + size ls
def all (ls : List (List UInt8)) : List UInt8 := ls.flatMap frm
theorem all_cons (l : List UInt8) (ls : List (List UInt8)) : all (l :: ls) = frm l ++ all ls := rfl
theorem all_append (a b : List (List UInt8)) : all (a ++ b) = all a ++ all b := List.flatMap_append
theorem all_length : ∀ ls, (all ls).length = size ls
  | [] => rfl
  | l :: ls => by rw [all_cons, List.length_append, frm_length, all_length ls]; rfl
theorem size_append : ∀ a b, size (a ++ b) = size a + size b
  | [], b => by simp [size]
  | x :: a, b => by
    show 6 + x.length + size (a ++ b) = 6 + x.length + size a + size b
    rw [size_append a b]; omega
def oks (ls : List (List UInt8)) : Bool := ls.all ok
theorem scan_frm {l : List UInt8} (h : ok l = true) (t : List UInt8) : scan (frm l ++ t) = l :: scan t := by
  have h2 := (ok_iff.1 h).2
  rw [scan_yes (fits_frm h t), rec1_frm h2, nAt_frm h2, ← frm_length, List.drop_append, List.drop_of_length_le (Nat.le_refl _)]; simp
theorem scan_all : ∀ (ls : List (List UInt8)) (t : List UInt8), oks ls = true → scan (all ls ++ t) = ls ++ scan t
  | [], t, _ => rfl
  | l :: ls, t, h => by
    unfold oks at h
    rw [List.all_cons, Bool.and_eq_true] at h
    rw [all_cons, List.append_assoc, scan_frm h.1, scan_all ls t h.2]; rfl
theorem scanN_oks : ∀ (k : Nat) (b : List UInt8), oks (scanN k b) = true
  | 0, _ => rfl
  | k + 1, b => by
    show oks (if fits b then _ else _) = true
    cases hf : fits b with
    | false => rfl
    | true =>
      simp only [if_true]
      unfold oks
      rw [List.all_cons, rec1_ok hf]
      exact scanN_oks k _
theorem scan_oks (b : List UInt8) : oks (scan b) = true := scanN_oks _ _
/-- what is told stands there, and behind it nothing does -/
theorem scanN_split : ∀ (k : Nat) (b : List UInt8), b.length ≤ k → ∃ t, b = all (scanN k b) ++ t ∧ scan t = []
  | 0, b, h => ⟨b, rfl, by rw [List.eq_nil_of_length_eq_zero (by omega : b.length = 0)]; rfl⟩
  | k + 1, b, h => by
    show ∃ t, b = all (if fits b then _ else _) ++ t ∧ _
    cases hf : fits b with
    | false => exact ⟨b, rfl, scan_no hf⟩
    | true =>
      have hl := (fits_iff.1 hf).1
      obtain ⟨t, h1, h2⟩ := scanN_split k (b.drop (6 + nAt b)) (by rw [List.length_drop]; omega)
      refine ⟨t, ?_, h2⟩
      simp only [if_true]
      rw [all_cons, List.append_assoc, ← h1]
      exact fits_split hf
theorem scan_split (b : List UInt8) : ∃ t, b = all (scan b) ++ t ∧ scan t = [] := scanN_split _ _ (Nat.le_refl _)
theorem scan_size (b : List UInt8) : size (scan b) ≤ b.length := by
  obtain ⟨t, h, _⟩ := scan_split b
  have := congrArg List.length h
  rw [List.length_append, all_length] at this
  omega
theorem scan_take (b : List UInt8) : b.take (size (scan b)) = all (scan b) := by
  obtain ⟨t, h, _⟩ := scan_split b
  have e := all_length (scan b)
  generalize scan b = S at h e
  rw [h, List.take_append, ← e, List.take_of_length_le (Nat.le_refl _)]; simp
theorem scan_drop (b : List UInt8) : scan (b.drop (size (scan b))) = [] := by
  obtain ⟨t, h, h2⟩ := scan_split b
  have e := all_length (scan b)
  generalize scan b = S at h e
  rw [h, List.drop_append, ← e, List.drop_of_length_le (Nat.le_refl _)]
  simpa using h2
/-- how many records are whole in k bytes -/
def whole : List (List UInt8) → Nat → Nat
  | [], _ => 0
  | l :: ls, k => if 6 + l.length ≤ k then 1 + whole ls (k - (6 + l.length)) else 0
theorem scan_cut : ∀ (ls : List (List UInt8)) (k : Nat), oks ls = true → k ≤ size ls → scan ((all ls).take k) = ls.take (whole ls k)
  | [], k, _, _ => by simp [all, whole, scan_nil]
  | l :: ls, k, h, hk => by
    unfold oks at h
    rw [List.all_cons, Bool.and_eq_true] at h
    have h2 := ok_iff.1 h.1
    rw [all_cons]
    by_cases hl : 6 + l.length ≤ k
    · have e : whole (l :: ls) k = 1 + whole ls (k - (6 + l.length)) := if_pos hl
      rw [e, Nat.add_comm 1, List.take_succ_cons, List.take_append, List.take_of_length_le (by rw [frm_length]; omega), frm_length, scan_frm h.1, scan_cut ls _ h.2 (by unfold size at hk; omega)]
    · have e : whole (l :: ls) k = 0 := if_neg hl
      rw [e, List.take_zero]
      refine scan_no ?_
      cases hf : fits ((frm l ++ all ls).take k) with
      | false => rfl
      | true =>
        obtain ⟨q1, q2, q3, q4, _⟩ := fits_iff.1 hf
        rw [List.length_take] at q1 q4
        rw [nAt_take (by omega), nAt_frm h2.2] at q4
        omega
theorem whole_size : ∀ (ls : List (List UInt8)) (k : Nat), size (ls.take (whole ls k)) ≤ k
  | [], k => by simp [whole, size]
  | l :: ls, k => by
    by_cases hl : 6 + l.length ≤ k
    · have e : whole (l :: ls) k = 1 + whole ls (k - (6 + l.length)) := if_pos hl
      rw [e, Nat.add_comm 1, List.take_succ_cons]
      have := whole_size ls (k - (6 + l.length))
      unfold size; omega
    · have e : whole (l :: ls) k = 0 := if_neg hl
      rw [e, List.take_zero]; unfold size; omega
theorem whole_le : ∀ (ls : List (List UInt8)) (k : Nat), whole ls k ≤ ls.length
  | [], k => by simp [whole]
  | l :: ls, k => by
    by_cases hl : 6 + l.length ≤ k
    · have e : whole (l :: ls) k = 1 + whole ls (k - (6 + l.length)) := if_pos hl
      have := whole_le ls (k - (6 + l.length))
      rw [e, List.length_cons]; omega
    · have e : whole (l :: ls) k = 0 := if_neg hl
      rw [e]; omega
/-! ### errors -/
def errOf (b : List UInt8) : Int := if b.length = 0 then 1 else if 4000 < b.length then 2 else 0
def errAll : List (List UInt8) → Int
  | [] => 0
  | l :: ls => if errOf l = 0 then errAll ls else errOf l
theorem errOf_ok {b : List UInt8} : errOf b = 0 ↔ ok b = true := by
  unfold errOf
  rw [ok_iff]
  by_cases h1 : b.length = 0
  · rw [if_pos h1]; constructor <;> intro h
    · exact absurd h (by decide)
    · omega
  · rw [if_neg h1]
    by_cases h2 : 4000 < b.length
    · rw [if_pos h2]; constructor <;> intro h
      · exact absurd h (by decide)
      · omega
    · rw [if_neg h2]; constructor <;> intro h
      · omega
      · rfl
theorem errAll_ok : ∀ {ls : List (List UInt8)}, errAll ls = 0 ↔ oks ls = true
  | [] => ⟨fun _ => rfl, fun _ => rfl⟩
  | l :: ls => by
    show (if errOf l = 0 then errAll ls else errOf l) = 0 ↔ (l :: ls).all ok = true
    rw [List.all_cons, Bool.and_eq_true]
    by_cases h : errOf l = 0
    · rw [if_pos h, errAll_ok, errOf_ok.1 h]; simp [oks]
    · rw [if_neg h]
      constructor
      · intro h2; exact absurd h2 h
      · intro h2; exact absurd (errOf_ok.2 h2.1) h
theorem errOf_cases (b : List UInt8) : errOf b = 0 ∨ errOf b = 1 ∨ errOf b = 2 := by
  unfold errOf
  split
  · exact .inr (.inl rfl)
  · split
    · exact .inr (.inr rfl)
    · exact .inl rfl
theorem errAll_cases : ∀ ls : List (List UInt8), errAll ls = 0 ∨ errAll ls = 1 ∨ errAll ls = 2
  | [] => .inl rfl
  | l :: ls => by
    show (if errOf l = 0 then errAll ls else errOf l) = 0 ∨ _
    show (if errOf l = 0 then errAll ls else errOf l) = 0 ∨ (if errOf l = 0 then errAll ls else errOf l) = 1 ∨ (if errOf l = 0 then errAll ls else errOf l) = 2
    split
    · exact errAll_cases ls
    · exact errOf_cases l
end Fr
end Go.Proofs.YtkdmljijgfejpaaDoor
