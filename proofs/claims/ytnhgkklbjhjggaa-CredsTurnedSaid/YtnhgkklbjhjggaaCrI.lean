/- Package creds: Same. -/
import Derived.Test.YtnhgkklbjhjggaaCrH
import Derived.Laws.BitsAllLaws
import Derived.BigRegion
namespace Go.Proofs.Ytnhgkklbjhjggaa
open Go.RowKit Cr

theorem ofInt_i64 (n : Nat) (h : n < 9223372036854775808) : (BitVec.ofInt 64 (n : Int)).toNat = n := by
  rw [BitVec.toNat_ofInt]; omega
theorem i64_xor_nat (a b : Nat) (ha : a < 9223372036854775808) (hb : b < 9223372036854775808) : bits .xor .i64 (a : Int) (b : Int) = ((a ^^^ b : Nat) : Int) := by
  have hx : a ^^^ b < 2 ^ 63 := Nat.xor_lt_two_pow (by omega) (by omega)
  show IntKind.i64.wrap ((BitVec.ofInt 64 (a : Int) ^^^ BitVec.ofInt 64 (b : Int)).toNat : Int) = _
  rw [BitVec.toNat_xor, ofInt_i64 a ha, ofInt_i64 b hb, IntKind.wrap_i64]
  omega
theorem i64_or_nat (a b : Nat) (ha : a < 9223372036854775808) (hb : b < 9223372036854775808) : bits .or .i64 (a : Int) (b : Int) = ((a ||| b : Nat) : Int) := by
  have hx : a ||| b < 2 ^ 63 := Nat.or_lt_two_pow (by omega) (by omega)
  show IntKind.i64.wrap ((BitVec.ofInt 64 (a : Int) ||| BitVec.ofInt 64 (b : Int)).toNat : Int) = _
  rw [BitVec.toNat_or, ofInt_i64 a ha, ofInt_i64 b hb, IntKind.wrap_i64]
  omega
theorem xor_zero (a b : Nat) : a ^^^ b = 0 ↔ a = b := by
  refine ⟨fun h => ?_, fun h => by rw [h, Nat.xor_self]⟩
  have := congrArg (a ^^^ ·) h
  simp only [← Nat.xor_assoc, Nat.xor_self, Nat.zero_xor, Nat.xor_zero] at this
  exact this.symm
theorem or_zero (a b : Nat) : a ||| b = 0 ↔ a = 0 ∧ b = 0 := Nat.or_eq_zero_iff
theorem eq_of_bytes {a b : List UInt8} (h : a.length = b.length) (hb : ∀ j, j < a.length → byteAt a j = byteAt b j) : a = b := by
  apply List.ext_getElem h
  intro j h1 h2
  have := hb j h1
  unfold byteAt at this
  simpa [h1, h2] using this
theorem xr_zero (a b : UInt8) : (xr a b).toNat = 0 ↔ a = b := by
  unfold xr
  rw [UInt8.toNat_xor, xor_zero]
  exact ⟨fun h => UInt8.toNat_inj.1 h, fun h => by rw [h]⟩
theorem same_any (a b : List UInt8) (w : World) (ha : a.length ≤ 9223372036854775807) (hb : b.length ≤ 9223372036854775807) :
    Calls Try.prog 10 #[.string (str a), .string (str b)] w fun e w' => e = .returned (.bool (seq a b)) ∧ Ext w w' := by
  have hx := i64_xor_nat a.length b.length (by omega) (by omega)
  have hxlt : a.length ^^^ b.length < 2 ^ 63 := Nat.xor_lt_two_pow (by omega) (by omega)
  have hx0 := Lib.hid (xor_zero a.length b.length)
  obtain ⟨m, hm⟩ : ∃ m, m = a.length ^^^ b.length := ⟨_, rfl⟩
  rw [← hm] at hx hxlt hx0
  clear hm
  go_enter Try.func10, Try.ntmps10
  have h0 := Lib.hid hx0.out
  rcases Nat.lt_or_ge b.length a.length with h | h
  all_goals
    go_wp2
    go_loopw [5, 17] (fun d i wr => ∃ k z : Nat, k ≤ a.length ∧ k ≤ b.length ∧ i = .int .i64 (k : Int) ∧ d = .int .i64 (z : Int) ∧ z < 9223372036854775808 ∧ RowKit.Hid (z = 0 ↔ (a.length = b.length ∧ ∀ j, j < k → byteAt a j = byteAt b j)) ∧ Ext w wr) (fun d i _ => a.length - (intOf i).toNat)
    case atStart => exact ⟨0, m, by omega, by omega, rfl, rfl, by omega, Lib.hid ⟨fun e => ⟨h0.out.1 e, fun j hj => by omega⟩, fun e => h0.out.2 e.1⟩, Ext.refl w⟩
    case round =>
      obtain ⟨k, z, hka, hkb, rfl, rfl, hz, hd, ek⟩ := hrel
      by_cases hlt : k < a.length ∧ k < b.length
      · obtain ⟨hla, hlb⟩ := hlt
        have hla' : (k : Int) < (a.length : Int) := by omega
        have hlb' : (k : Int) < (b.length : Int) := by omega
        have hw : IntKind.i64.wrap ((k : Int) + 1) = (k : Int) + 1 := by rw [IntKind.wrap_i64]; omega
        have hlt2 := (xr (byteAt a k) (byteAt b k)).toNat_lt
        have hor := i64_or_nat z (xr (byteAt a k) (byteAt b k)).toNat hz (by omega)
        have horlt : z ||| (xr (byteAt a k) (byteAt b k)).toNat < 2 ^ 63 := Nat.or_lt_two_pow (by omega) (by omega)
        have hnew := Lib.hid (or_zero z (xr (byteAt a k) (byteAt b k)).toNat)
        have hxz := Lib.hid (xr_zero (byteAt a k) (byteAt b k))
        obtain ⟨q, hq⟩ : ∃ q, q = (xr (byteAt a k) (byteAt b k)).toNat := ⟨_, rfl⟩
        rw [← hq] at hor horlt hnew hxz hlt2
        obtain ⟨y, hy⟩ : ∃ y, y = z ||| q := ⟨_, rfl⟩
        rw [← hy] at hor horlt hnew
        have hqs : ((xr (byteAt a k) (byteAt b k)).toNat : Int) = (q : Int) := by rw [hq]
        have hwq : IntKind.i64.wrap (q : Int) = (q : Int) := by rw [IntKind.wrap_i64]; omega
        clear hq hy
        go_wp2_with go_region
        go_roundw
        case rel => exact ⟨k + 1, y, by omega, by omega, by go_num, rfl, by omega, Lib.hid ⟨fun e => by
          obtain ⟨e1, e2⟩ := hnew.out.1 e
          obtain ⟨f1, f2⟩ := hd.out.1 e1
          exact ⟨f1, fun j hj => by
            by_cases ej : j = k
            · subst ej; exact hxz.out.1 e2
            · exact f2 j (by omega)⟩, fun e => hnew.out.2 ⟨hd.out.2 ⟨e.1, fun j hj => e.2 j (by omega)⟩, hxz.out.2 (e.2 k (by omega))⟩⟩, ek.drew⟩
        case measure => simp [intOf]; omega
      · have hdn : (z : Int) = 0 ↔ a = b := by
          constructor
          · intro e
            obtain ⟨f1, f2⟩ := hd.out.1 (by omega)
            exact eq_of_bytes f1 fun j hj => f2 j (by omega)
          · intro e
            subst e
            have := hd.out.2 ⟨rfl, fun _ _ => rfl⟩
            omega
        have hb2 : ((z : Int) == 0) = seq a b := by
          rw [Bool.eq_iff_iff, seq_true, beq_iff_eq]; exact hdn
        clear hdn hd
        by_cases hh : b.length < a.length
        · have e : k = b.length := by omega
          subst e
          first
            | (exfalso; omega)
            | (go_wp2
               go_ret
               exact ⟨rfl, ek⟩)
        · have e : k = a.length := by omega
          subst e
          first
            | (exfalso; omega)
            | (go_wp2
               go_ret
               exact ⟨rfl, ek⟩)
end Go.Proofs.Ytnhgkklbjhjggaa
