/- The contracts of package crc, each function once. -/
import Derived.Test.YtkdmljijgfejpaaDoorBase
import Derived.Test.YtkdmljijgfejpaaDoorGCr
namespace Go.Proofs.YtkdmljijgfejpaaDoor
set_option linter.unusedVariables false
set_option linter.unusedSimpArgs false
open Go.RowKit

/-- the table of package crc lies in the heap -/
def Halves (w : World) : Prop := ∀ x : BitVec 32, w.cell? ⟨1, (U (x &&& 15#32)).toNat, none⟩ = some (.int .u32 (U (Crc.step4 (x &&& 15#32))))

/-- a half step, the byte as Go's number -/
def halfI (r : BitVec 32) (n : Int) : BitVec 32 := Crc.half r (BitVec.ofInt 32 n)

theorem half_any (r : BitVec 32) (n : Int) (h0 : 0 ≤ n) (h1 : n < 256) (w : World) (hw : Halves w) :
    Calls Tryd.prog 95 #[.int .u32 (U r), .int .u8 n] w fun e w' => e = .returned (.int .u32 (U (halfI r n))) ∧ w = w' := by
  obtain ⟨m, hm⟩ : ∃ m, m = BitVec.ofInt 32 n := ⟨_, rfl⟩
  have e0 : n = U m := by rw [hm, U_ofInt n h0 (by omega)]
  have hc := hw (r ^^^ m)
  unfold halfI
  rw [← hm]
  subst e0
  clear hm hw
  go_enter Tryd.func95, Tryd.ntmps95
  go_wp2
  go_ret
  exact ⟨rfl, rfl⟩

theorem ofInt_byte (c : UInt8) : BitVec.ofInt 32 (c.toNat : Int) = c.toBitVec.setWidth 32 := by
  rw [BitVec.ofInt_natCast]; apply BitVec.eq_of_toNat_eq; simp
theorem ofInt_byte16 (c : UInt8) : BitVec.ofInt 32 ((c.toNat : Int) / 16) = (c.toBitVec.setWidth 32) >>> 4 := by
  have : ((c.toNat : Int) / 16) = ((c.toNat / 16 : Nat) : Int) := by omega
  rw [this, BitVec.ofInt_natCast]; apply BitVec.eq_of_toNat_eq
  have := c.toNat_lt
  simp [Nat.shiftRight_eq_div_pow]
  omega
theorem half_half (r : BitVec 32) (c : UInt8) : halfI (halfI r (c.toNat : Int)) ((c.toNat : Int) / 16) = Crc.step8 (r ^^^ c.toBitVec.setWidth 32) := by
  unfold halfI; rw [ofInt_byte, ofInt_byte16]; exact Crc.byte_run r c

theorem Halves.ext {w w' : World} (h : Halves w) (e : Ext w w') : Halves w' := fun x => e.cell (h x)

set_option maxHeartbeats 400000 in
theorem more_any (s : BitVec 32) (v : Value) (l : List UInt8) (w : World) (hw : Halves w) (hb : Bytes w v l) :
    Calls Tryd.prog 82 #[.int .u32 (U s), v] w fun e w' => e = .returned (.int .u32 (U (Crc.more s l))) ∧ w = w' := by
  obtain ⟨a, cap, rfl, hb⟩ := hb
  have hlen := hb.len
  go_enter Tryd.func82, Tryd.ntmps82
  go_wp2
  go_loop [5, 12] (fun r i => ∃ k : Nat, k ≤ l.length ∧ i = .int .i64 k ∧ r = .int .u32 (U (Crc.run (~~~ s) (l.take k)))) (fun _ i => l.length - (intOf i).toNat)
  case atStart => exact ⟨0, Nat.zero_le _, rfl, rfl⟩
  case round =>
    obtain ⟨k, hk, rfl, rfl⟩ := hrel
    by_cases hlt : k < l.length
    · obtain ⟨g, o, rfl, hcell⟩ := hb.cells k hlt
      have hsn : RowKit.Hid (Crc.run (~~~ s) (l.take (k + 1)) = Crc.step8 (Crc.run (~~~ s) (l.take k) ^^^ l[k].toBitVec.setWidth 32)) := Lib.hid (by rw [← Crc.run_snoc, List.take_succ_eq_append_getElem hlt])
      have hc := byte_lt l[k]
      generalize l[k] = c at hcell hsn hc
      generalize Crc.run (~~~ s) (l.take k) = R at *
      go_wp2_with (go_at_call 95; refine (half_any _ _ (by omega) (by omega) _ hw).mono ?_; rintro e w' ⟨rfl, rfl⟩)
      go_round
      case rel => exact ⟨k + 1, by omega, by go_num, by rw [hsn.out, ← half_half]⟩
      case measure => simp [intOf]; omega
    · go_wp2
      go_ret
      exact ⟨ret_int (by rw [List.take_of_length_le (by omega)]; rfl), rfl⟩

theorem of_any (v : Value) (l : List UInt8) (w : World) (hw : Halves w) (hb : Bytes w v l) :
    Calls Tryd.prog 79 #[v] w fun e w' => e = .returned (.int .u32 (U (Crc.sum l))) ∧ w = w' := by
  go_enter Tryd.func79, Tryd.ntmps79
  go_wp2_with (go_at_call 82; refine (more_any 0#32 _ _ _ hw hb).mono ?_; rintro e w' ⟨rfl, rfl⟩)
  go_ret
  exact ⟨rfl, rfl⟩

/-- a sum of parts, its length as Go's number -/
def joinI (a b : BitVec 32) (n : Int) : BitVec 32 := Crc.join a b n.toNat
theorem x8_U : (8388608 : Int) = U Crc.x8 := rfl
@[go_sem] theorem wrap_u8U (x : BitVec 32) : IntKind.u8.wrap (U x) = ((Crc.byteOf x).toNat : Int) := by
  rw [IntKind.wrap_u8']; unfold U Crc.byteOf
  simp only [UInt8.toNat, BitVec.toNat_setWidth]; omega
end Go.Proofs.YtkdmljijgfejpaaDoor
