/- Pieces of slices of bytes; bytes joined to numbers. -/
import Derived.Test.YtkdmljijgfejpaaDoorBase
import Derived.Test.YtkdmljijgfejpaaDoorFrMath
namespace Go.Proofs.YtkdmljijgfejpaaDoor
set_option linter.unusedVariables false
set_option linter.unusedSimpArgs false
open Go.RowKit Fr

theorem Bytes.pc {w : World} {g o n cap : Nat} {l : List UInt8} (h : Bytes w (.slice (some ⟨g, o, none⟩) n cap) l) (i m : Nat) (him : i + m ≤ l.length) : Bytes w (.slice (some ⟨g, o + i, none⟩) m (cap - i)) ((l.drop i).take m) := by
  obtain ⟨a, cap', e, h⟩ := h
  simp only [Value.slice.injEq] at e
  obtain ⟨rfl, rfl, rfl⟩ := e
  have h1 := h.le
  have h2 := h.capm
  refine Bytes.row (by simp; omega) (by simp; omega) (by omega) fun j hj => ?_
  have hj' : j < m := by simp at hj; omega
  obtain ⟨g', o', e, hc⟩ := h.cells (i + j) (by omega)
  cases e
  rw [Nat.add_assoc, hc]
  simp
theorem Bytes.gt {w : World} {g o n cap : Nat} {l : List UInt8} (h : Bytes w (.slice (some ⟨g, o, none⟩) n cap) l) (j : Nat) (hj : j < l.length) : w.cell? ⟨g, o + j, none⟩ = some (.int .u8 ((l.getD j 0).toNat : Int)) := by
  obtain ⟨a, cap', e, h⟩ := h
  simp only [Value.slice.injEq] at e
  obtain ⟨rfl, rfl, rfl⟩ := e
  obtain ⟨g', o', e, hc⟩ := h.get j hj
  cases e
  exact hc
theorem Bytes.cp {w : World} {a : Option Addr} {n cap : Nat} {l : List UInt8} (h : Bytes w (.slice a n cap) l) : n = l.length ∧ l.length ≤ cap ∧ cap ≤ maxLen := by
  obtain ⟨a, cap', e, h⟩ := h
  simp only [Value.slice.injEq] at e
  obtain ⟨rfl, rfl, rfl⟩ := e
  exact ⟨rfl, h.le, h.capm⟩
theorem Bytes.ini {w : World} {a : Option Addr} {n cap : Nat} {l : List UInt8} (h : Bytes w (.slice a n cap) l) (m : Nat) (hm : m ≤ l.length) : Bytes w (.slice a m cap) (l.take m) := by
  obtain ⟨a', cap', e, hat⟩ := h
  simp only [Value.slice.injEq] at e
  obtain ⟨rfl, rfl, rfl⟩ := e
  have hl : (l.take m).length = m := by rw [List.length_take]; omega
  refine ⟨_, _, by rw [hl], by have := hat.le; omega, hat.capm, hat.none, fun j hj => ?_⟩
  obtain ⟨g, o, h1, h2⟩ := hat.cells j (by omega)
  exact ⟨g, o, h1, by rw [h2]; simp⟩
/-- an address, if there are bytes -/
theorem Bytes.ad {w : World} {a : Option Addr} {n cap : Nat} {l : List UInt8} (h : Bytes w (.slice a n cap) l) (hl : 0 < l.length) : ∃ g o, a = some ⟨g, o, none⟩ := by
  obtain ⟨a', cap', e, hat⟩ := h
  simp only [Value.slice.injEq] at e
  obtain ⟨rfl, rfl, rfl⟩ := e
  obtain ⟨g, o, h1, -⟩ := hat.cells 0 hl
  exact ⟨g, o, h1⟩
/-! ### bytes joined -/
set_option maxRecDepth 10000 in
theorem bits_or_nat (m n : Nat) (hm : m < 9223372036854775808) (hn : n < 9223372036854775808) : bits .or .i64 (m : Int) (n : Int) = ((m ||| n : Nat) : Int) := by
  show IntKind.i64.wrap ((BitVec.ofInt 64 m ||| BitVec.ofInt 64 n).toNat : Int) = _
  have hlt : m ||| n < 2 ^ 63 := Nat.or_lt_two_pow hm hn
  have e1 : (BitVec.ofNat 64 m).toNat = m := by rw [BitVec.toNat_ofNat]; exact Nat.mod_eq_of_lt (Nat.lt_trans hm (by decide))
  have e2 : (BitVec.ofNat 64 n).toNat = n := by rw [BitVec.toNat_ofNat]; exact Nat.mod_eq_of_lt (Nat.lt_trans hn (by decide))
  rw [BitVec.toNat_or, BitVec.ofInt_natCast, BitVec.ofInt_natCast, e1, e2, IntKind.wrap_i64]
  generalize m ||| n = x at *
  have h3 : x < 9223372036854775808 := hlt
  omega
theorem or_hi (a b k : Nat) (hb : b < 2 ^ k) : a * 2 ^ k ||| b = a * 2 ^ k + b := by
  rw [Nat.mul_comm, Nat.two_pow_add_eq_or_of_lt hb]
theorem bits_or8 (a b : Nat) (ha : a < 1000000000000) (hb : b < 256) : bits .or .i64 ((a : Int) * 256) (b : Int) = ((a * 256 + b : Nat) : Int) := by
  have := bits_or_nat (a * 256) b (by omega) (by omega)
  rw [show a * 256 ||| b = a * 256 + b from or_hi a b 8 hb] at this
  rw [← this]; congr 1
theorem shl_byte (yk : IntKind) (a n : Nat) (h : a * 2 ^ n < 9223372036854775808) (hn : n ≤ 63) : Op.shift .shl .i64 (a : Int) yk (n : Int) = pure (.int .i64 ((a * 2 ^ n : Nat) : Int)) := by
  have e : (a : Int) * 2 ^ n = ((a * 2 ^ n : Nat) : Int) := by rw [Int.natCast_mul, Int.natCast_pow]; rfl
  have h1 := shift_shl .i64 yk (a : Int) n (by omega) (by simp only [IntKind.bits]; omega)
  rw [Int.toNat_natCast, e] at h1
  rw [h1]
  generalize a * 2 ^ n = x at *
  have h2 : IntKind.i64.wrap (x : Int) = x := by rw [IntKind.wrap_i64]; omega
  rw [h2]
@[go_sem ↓] theorem shl8_byte (yk : IntKind) (c : UInt8) : Op.shift .shl .i64 (c.toNat : Int) yk 8 = pure (.int .i64 ((c.toNat : Int) * 256)) := by
  have := c.toNat_lt
  have h := shl_byte yk c.toNat 8 (by omega) (by omega)
  exact h
/-- a number of two bytes, behind a name that simp does not open -/
def n2 (c d : UInt8) : Nat := 256 * c.toNat + d.toNat
theorem n2_lt (c d : UInt8) : n2 c d < 65536 := by have := c.toNat_lt; have := d.toNat_lt; unfold n2; omega
theorem wrap64_byte (c : UInt8) : wrap64 (c.toNat : Int) = (c.toNat : Int) := by have := c.toNat_lt; unfold wrap64; omega
theorem wrap64_byte8 (c : UInt8) : wrap64 ((c.toNat : Int) * 256) = (c.toNat : Int) * 256 := by have := c.toNat_lt; unfold wrap64; omega
theorem or_bytes (c d : UInt8) : bits .or .i64 ((c.toNat : Int) * 256) (d.toNat : Int) = ((n2 c d : Nat) : Int) := by
  unfold n2
  have := c.toNat_lt
  have := d.toNat_lt
  rw [bits_or8 _ _ (by omega) (by omega), Nat.mul_comm]
end Go.Proofs.YtkdmljijgfejpaaDoor
