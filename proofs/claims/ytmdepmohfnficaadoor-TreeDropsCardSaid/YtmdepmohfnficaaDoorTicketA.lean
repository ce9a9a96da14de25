/- The contracts of package ticket: prefixes, names, what a text is the name of. -/
import Derived.Test.YtmdepmohfnficaaDoorTicketMath2
import Derived.Test.YtmdepmohfnficaaDoorSeq
import Derived.Laws.Externs
import Derived.BigRegion
namespace Go.Proofs.YtmdepmohfnficaaDoor
open Go.RowKit

/-! ### numbers of 64 bits -/
def V (x : BitVec 64) : Int := (x.toNat : Int)
theorem V_lo (x : BitVec 64) : 0 ≤ V x := by unfold V; omega
theorem V_hi (x : BitVec 64) : V x < 18446744073709551616 := by unfold V; omega
theorem V_inj {x y : BitVec 64} (h : V x = V y) : x = y := by unfold V at h; exact BitVec.eq_of_toNat_eq (by omega)
theorem ofInt_V (x : BitVec 64) : BitVec.ofInt 64 (V x) = x := by unfold V; rw [BitVec.ofInt_natCast]; simp
theorem V_ofInt (n : Int) (h0 : 0 ≤ n) (h1 : n < 18446744073709551616) : V (BitVec.ofInt 64 n) = n := by
  obtain ⟨m, rfl⟩ := Int.eq_ofNat_of_zero_le h0
  unfold V; rw [BitVec.ofInt_natCast, BitVec.toNat_ofNat]; omega
theorem wrapV (x : BitVec 64) : IntKind.u64.wrap (V x) = V x := by rw [IntKind.wrap_u64]; have := V_lo x; have := V_hi x; omega
@[go_sem] theorem bits_V_or (x : BitVec 64) (z : Int) : bits .or .u64 (V x) z = V (x ||| BitVec.ofInt 64 z) := by
  show IntKind.u64.wrap ((BitVec.ofInt 64 (V x) ||| BitVec.ofInt 64 z).toNat : Int) = _
  rw [ofInt_V]; exact wrapV _
@[go_sem] theorem bits_V_and15 (x : BitVec 64) : bits .and .u64 (V x) 15 = V (x &&& 15#64) := by
  show IntKind.u64.wrap ((BitVec.ofInt 64 (V x) &&& BitVec.ofInt 64 15).toNat : Int) = _
  rw [ofInt_V]; exact wrapV _
@[go_sem ↓] theorem shiftV_shl4 (yk : IntKind) (x : BitVec 64) : Op.shift .shl .u64 (V x) yk 4 = pure (.int .u64 (V (x <<< 4))) := by
  have h := shift_shl .u64 yk (V x) 4 (by omega) (by simp only [IntKind.bits]; omega)
  rw [h, IntKind.wrap_u64]
  congr 2
  unfold V
  rw [BitVec.toNat_shiftLeft, Nat.shiftLeft_eq]
  have : (4 : Int).toNat = 4 := rfl
  rw [this]
  omega
@[go_sem ↓] theorem shiftV_shr (yk : IntKind) (x : BitVec 64) (k : Nat) (h : k < 16) : Op.shift .shr .u64 (V x) yk (4 * (k : Int)) = pure (.int .u64 (V (x >>> (4 * k)))) := by
  rw [shift_shr .u64 yk (V x) (4 * (k : Int)) (by omega) (by simp only [IntKind.bits]; omega)]
  congr 2
  unfold V
  rw [BitVec.toNat_ushiftRight, Nat.shiftRight_eq_div_pow]
  have : (4 * (k : Int)).toNat = 4 * k := by omega
  rw [this]
  norm_cast
@[go_sem] theorem V_lo' (x : BitVec 64) : (0 ≤ V x) = True := eq_true (V_lo x)
theorem V_and15 (x : BitVec 64) : V (x &&& 15#64) < 16 := by
  unfold V; rw [BitVec.toNat_and]; have : x.toNat &&& (15#64).toNat ≤ (15#64).toNat := Nat.and_le_right; simp only [BitVec.toNat_ofNat] at this ⊢; omega
@[go_sem] theorem V_and15' (x : BitVec 64) : (V (x &&& 15#64) < 16) = True := eq_true (V_and15 x)
/-- a digit of a draw, as its byte -/
theorem digit_byte (x : BitVec 64) (k : Nat) : byteAt [48, 49, 50, 51, 52, 53, 54, 55, 56, 57, 97, 98, 99, 100, 101, 102] (V ((x >>> (4 * k)) &&& 15#64)).toNat = Tk.hexc (x.toNat / 16 ^ k % 16) := by
  have e : (V ((x >>> (4 * k)) &&& 15#64)).toNat = x.toNat / 16 ^ k % 16 := by
    unfold V
    rw [BitVec.toNat_and, BitVec.toNat_ushiftRight, Nat.shiftRight_eq_div_pow]
    have : (16 : Nat) ^ k = 2 ^ (4 * k) := by rw [Nat.pow_mul]
    rw [this]
    simp only [BitVec.toNat_ofNat, Int.toNat_natCast]
    exact Nat.and_two_pow_sub_one_eq_mod _ 4
  rw [e]
  exact Tk.hexcs _ (Nat.mod_lt _ (by decide))

/-! ### texts in slices -/
def sv (l : List UInt8) : Value := .string (str l)
/-- the prefixes of package ticket lie in the heap -/
def Pres (w : World) : Prop := ∀ k : Nat, k < 7 → w.cell? ⟨1, k, none⟩ = some (.string (str (Tk.pre k)))
theorem Pres.ext {w w' : World} (h : Pres w) (e : Ext w w') : Pres w' := fun k hk => e.cell (h k hk)
theorem Pres.sl0 {w : World} (h : Pres w) : Sl sv w (.slice (some ⟨1, 0, none⟩) 7 7) Tk.pres := by
  refine ⟨_, 7, rfl, by decide, by decide, (fun h => by cases h), fun j x hj => ⟨_, 0, rfl, ?_⟩⟩
  have hj7 : j < 7 := (List.getElem?_eq_some_iff.1 hj).1
  rw [Nat.zero_add, h j hj7]
  have : ∀ j, j < 7 → Tk.pres[j]? = some (Tk.pre j) := by decide
  rw [this j hj7] at hj
  cases hj; rfl
theorem Pres.sl1 {w : World} (h : Pres w) : Sl sv w (.slice (some ⟨1, 1, none⟩) 6 6) Tk.pres.tail := by
  refine ⟨_, 6, rfl, by decide, by decide, (fun h => by cases h), fun j x hj => ⟨_, 1, rfl, ?_⟩⟩
  have hj7 : j < 6 := (List.getElem?_eq_some_iff.1 hj).1
  rw [h (1 + j) (by omega)]
  have : ∀ j, j < 6 → Tk.pres.tail[j]? = some (Tk.pre (1 + j)) := by decide
  rw [this j hj7] at hj
  cases hj; rfl

theorem indexByte0_any (s : List UInt8) (c : UInt8) (w : World) :
    Calls Tryd.prog 125 #[.string (str s), .int .u8 (c.toNat : Int)] w fun e w' => e = .returned (.int .i64 (Lib.indexByte s c)) ∧ w = w' := by
  have hd : (callFunc 129 #[.string (str s), .int .u8 (c.toNat : Int)]).run Tryd.prog w = .ok (.value (.int .i64 (Lib.indexByte s c))) w := by
    rw [run_callFunc_extern (e := Extern.BytealgIndexByte.indexByte) Tryd.func129 (by kernel_rfl) (by kernel_rfl) (by kernel_rfl) (by kernel_rfl), Lib.run_indexByteString]
    have : ((c.toNat : Int).toNat.toUInt8) = c := by simp
    rw [this]; rfl
  go_enter Tryd.func125, Tryd.ntmps125
  go_wp2
  go_ret
  exact ⟨rfl, rfl⟩
theorem indexByte_any (s : List UInt8) (c : UInt8) (w : World) :
    Calls Tryd.prog 123 #[.string (str s), .int .u8 (c.toNat : Int)] w fun e w' => e = .returned (.int .i64 (Lib.indexByte s c)) ∧ w = w' := by
  go_enter Tryd.func123, Tryd.ntmps123
  go_wp2_with (go_at_call 125; refine (indexByte0_any _ _ _).mono ?_; rintro e w' ⟨rfl, rfl⟩)
  go_ret
  exact ⟨rfl, rfl⟩
end Go.Proofs.YtmdepmohfnficaaDoor
