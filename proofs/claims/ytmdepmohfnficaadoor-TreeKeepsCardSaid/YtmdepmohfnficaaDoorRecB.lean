/- Records: numbers as bytes and back, the program's functions. -/
import Derived.Test.YtmdepmohfnficaaDoorRecA
namespace Go.Proofs.YtmdepmohfnficaaDoor
set_option linter.unusedVariables false
set_option linter.unusedSimpArgs false
open Go.RowKit Rk

theorem wrap_S (x : BitVec 64) : IntKind.i64.wrap (x.toNat : Int) = S x := by
  rw [IntKind.wrap_i64]; unfold S; rw [BitVec.toInt_eq_toNat_cond]; have := x.isLt; split <;> omega
theorem ofInt_S (x : BitVec 64) : BitVec.ofInt 64 (S x) = x := BitVec.ofInt_toInt
@[go_sem ↓] theorem shl_S8 (yk : IntKind) (x : BitVec 64) : Op.shift .shl .i64 (S x) yk 8 = pure (.int .i64 (S (x <<< 8))) := by
  rw [shift_shl .i64 yk (S x) 8 (by omega) (by simp only [IntKind.bits]; omega)]
  congr 2
  rw [← wrap_S (x <<< 8)]
  rw [IntKind.wrap_i64, IntKind.wrap_i64, BitVec.toNat_shiftLeft, Nat.shiftLeft_eq]
  unfold S
  rw [BitVec.toInt_eq_toNat_cond]
  have := x.isLt
  split <;> simp only [Int.reducePow, Int.reduceToNat, Nat.reducePow] <;> omega
@[go_sem] theorem or_S (x : BitVec 64) (c : UInt8) : bits .or .i64 (S x) (c.toNat : Int) = S (x ||| BitVec.ofNat 64 c.toNat) := by
  show IntKind.i64.wrap ((BitVec.ofInt 64 (S x) ||| BitVec.ofInt 64 (c.toNat : Int)).toNat : Int) = _
  rw [ofInt_S, BitVec.ofInt_natCast, wrap_S]

@[go_sem] theorem wrap64_byte (c : UInt8) : wrap64 (c.toNat : Int) = (c.toNat : Int) := by have := c.toNat_lt; rw [wrap64]; omega
theorem told_any (s : List UInt8) (h8 : 8 ≤ s.length) (hs : s.length ≤ 9223372036854775807) (w : World) :
    Calls Tryd.prog 91 #[.string (str s)] w fun e w' => e = .returned (.int .i64 (S (tb (s.take 8)))) ∧ w = w' := by
  go_enter Tryd.func91, Tryd.ntmps91
  go_wp2
  go_loop [3, 5] (fun n i => ∃ k : Nat, k ≤ 8 ∧ i = .int .i64 k ∧ n = .int .i64 (S (tb (s.take k)))) (fun _ i => 8 - (intOf i).toNat)
  case atStart => exact ⟨0, Nat.zero_le _, rfl, rfl⟩
  case round =>
    obtain ⟨k, hk, rfl, rfl⟩ := hrel
    by_cases hlt : k < 8
    · have ht : RowKit.Hid (tb (s.take (k + 1)) = (tb (s.take k) <<< 8) ||| BitVec.ofNat 64 (byteAt s k).toNat) := Lib.hid (by
        rw [List.take_add_one, List.getElem?_eq_getElem (by omega)]
        rw [Option.toList_some, tb_snoc]
        simp [byteAt, List.getD, show k < s.length by omega])
      go_wp2
      go_round
      case rel => exact ⟨k + 1, by omega, by go_num, by rw [ht.out]⟩
      case measure => simp [intOf]; omega
    · obtain rfl : k = 8 := by omega
      go_wp2
      go_ret
      exact ⟨rfl, rfl⟩

def zero8 : Array Value := ((List.replicate 8 0).map u8v).toArray
theorem byte_of (n k : Nat) : (n : Int) / (2 : Int) ^ (8 * k) % 256 = ((UInt8.ofNat (n / 256 ^ k % 256)).toNat : Int) := by
  have e : (2 : Int) ^ (8 * k) = ((256 ^ k : Nat) : Int) := by rw [Int.pow_mul]; simp
  rw [UInt8.toNat_ofNat', e, ← Int.natCast_ediv]
  omega
set_option maxHeartbeats 800000 in
theorem number_any (n : Nat) (hn : n < 9223372036854775808) (w : World) :
    Calls Tryd.prog 92 #[.int .i64 (n : Int)] w (Ret fun v w' => Bytes w' v (beB 8 n) ∧ Ext w w') := by
  have hmk : ∀ w, (Instr.makeSlice 120 (.int .i64 8) (.int .i64 8)).run Tryd.prog w = .ok (.slice (some ⟨w.heap.size, 0, none⟩) 8 8) (w.alloc (.cells zero8 5)) := fun _ => by kernel_rfl
  have e0 := Ext.refl w
  go_enter Tryd.func92, Tryd.ntmps92
  go_wp2
  have r0 : RowB (w.alloc (.cells zero8 5)) w.heap.size (fill8 0 n) := RowB.made rfl (by simp [zero8, fill8, beB])
  obtain ⟨g, hg⟩ : ∃ g, g = w.heap.size := ⟨_, rfl⟩
  have HG : RowKit.Hid (w.heap.size ≤ g) := Lib.hid (by omega)
  rw [← hg] at r0 ⊢
  have e1 := e0.alloc (.cells zero8 5)
  clear hg hmk
  go_loopw [8] (fun i wr => ∃ k : Nat, k ≤ 8 ∧ i = .int .i64 k ∧ RowB wr g (fill8 k n) ∧ Ext w wr) (fun i _ => 8 - (intOf i).toNat)
  case atStart => exact ⟨0, Nat.zero_le _, rfl, r0, e1⟩
  case round =>
    obtain ⟨k, hk, rfl, rk, ek⟩ := hrel
    by_cases hlt : k < 8
    · have hl := fill8_length k n hk
      have ck := rk.cell (7 - k) (by omega)
      have fk := rk.free (7 - k)
      have hi : (7 : Int) - (k : Int) = ((7 - k : Nat) : Int) := by omega
      go_wp2
      go_roundw
      case rel =>
        refine ⟨k + 1, by omega, by go_num, ?_, ek.setCell HG.out _⟩
        have r1 := rk.set (7 - k) (UInt8.ofNat (n / 256 ^ k % 256))
        rw [fill8_set k _ hlt, ← byte_of] at r1
        exact r1
      case measure => simp [intOf]; omega
    · obtain rfl : k = 8 := by omega
      rw [fill8_end] at rk
      go_wp2
      go_ret
      exact Ret.mk ⟨rk.bytes (by rw [beB_length]) (by rw [beB_length]; exact Nat.le_refl 8) (by decide), ek⟩
end Go.Proofs.YtmdepmohfnficaaDoor
