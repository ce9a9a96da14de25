/- The contracts of package crc, each function once. -/
import Derived.Test.YtjfijjiknoociaaDoorBase
import Derived.Test.YtjfijjiknoociaaDoorCrcMath3
namespace Go.Proofs.YtjfijjiknoociaaDoor
open Go.RowKit

/-- the table of package crc lies in the heap -/
def Halves (w : World) : Prop := ∀ x : BitVec 32, w.cell? ⟨0, (U (x &&& 15#32)).toNat, none⟩ = some (.int .u32 (U (Crc.step4 (x &&& 15#32))))

/-- a half step, the byte as Go's number -/
def halfI (r : BitVec 32) (n : Int) : BitVec 32 := Crc.half r (BitVec.ofInt 32 n)

theorem half_any (r : BitVec 32) (n : Int) (h0 : 0 ≤ n) (h1 : n < 256) (w : World) (hw : Halves w) :
    Calls Tryd.prog 16 #[.int .u32 (U r), .int .u8 n] w fun e w' => e = .returned (.int .u32 (U (halfI r n))) ∧ w = w' := by
  obtain ⟨m, hm⟩ : ∃ m, m = BitVec.ofInt 32 n := ⟨_, rfl⟩
  have e0 : n = U m := by rw [hm, U_ofInt n h0 (by omega)]
  have hc := hw (r ^^^ m)
  unfold halfI
  rw [← hm]
  subst e0
  clear hm hw
  go_enter Tryd.func16, Tryd.ntmps16
  go_wp2
  go_ret
  exact ⟨rfl, rfl⟩

theorem ofInt_byte (c : UInt8) : BitVec.ofInt 32 (c.toNat : Int) = c.toBitVec.setWidth 32 := by
  rw [BitVec.ofInt_natCast]; apply BitVec.eq_of_toNat_eq; simp
theorem ofInt_byte16 (c : UInt8) : BitVec.ofInt 32 ((c.toNat : Int) / 16) = (c.toBitVec.setWidth 32) >>> 4 := by
  have : ((c.toNat : Int) / 16) = ((c.toNat / 16 : Nat) : Int) := by omega
  rw [this, BitVec.ofInt_natCast]; apply BitVec.eq_of_toNat_eq
  have := c.toNat_lt
  simp [Nat.shiftRight_eq_div_pow]
  omega
theorem half_half (r : BitVec 32) (c : UInt8) : halfI (halfI r (c.toNat : Int)) ((c.toNat : Int) / 16) = Crc.step8 (r ^^^ c.toBitVec.setWidth 32) := by
  unfold halfI; rw [ofInt_byte, ofInt_byte16]; exact Crc.byte_run r c

theorem Halves.ext {w w' : World} (h : Halves w) (e : Ext w w') : Halves w' := fun x => e.cell (h x)

set_option maxHeartbeats 400000 in
theorem more_any (s : BitVec 32) (v : Value) (l : List UInt8) (w : World) (hw : Halves w) (hb : Bytes w v l) :
    Calls Tryd.prog 12 #[.int .u32 (U s), v] w fun e w' => e = .returned (.int .u32 (U (Crc.more s l))) ∧ w = w' := by
  obtain ⟨a, cap, rfl, hb⟩ := hb
  have hlen := hb.len
  go_enter Tryd.func12, Tryd.ntmps12
  go_wp2
  go_loop [5, 12] (fun r i => ∃ k : Nat, k ≤ l.length ∧ i = .int .i64 k ∧ r = .int .u32 (U (Crc.run (~~~ s) (l.take k)))) (fun _ i => l.length - (intOf i).toNat)
  case atStart => exact ⟨0, Nat.zero_le _, rfl, rfl⟩
  case round =>
    obtain ⟨k, hk, rfl, rfl⟩ := hrel
    by_cases hlt : k < l.length
    · obtain ⟨g, o, rfl, hcell⟩ := hb.cells k hlt
      have hsn : RowKit.Hid (Crc.run (~~~ s) (l.take (k + 1)) = Crc.step8 (Crc.run (~~~ s) (l.take k) ^^^ l[k].toBitVec.setWidth 32)) := Lib.hid (by rw [← Crc.run_snoc, List.take_succ_eq_append_getElem hlt])
      have hc := byte_lt l[k]
      generalize l[k] = c at hcell hsn hc
      generalize Crc.run (~~~ s) (l.take k) = R at *
      go_wp2_with (go_at_call 16; refine (half_any _ _ (by omega) (by omega) _ hw).mono ?_; rintro e w' ⟨rfl, rfl⟩)
      go_round
      case rel => exact ⟨k + 1, by omega, by go_num, by rw [hsn.out, ← half_half]⟩
      case measure => simp [intOf]; omega
    · go_wp2
      go_ret
      exact ⟨ret_int (by rw [List.take_of_length_le (by omega)]; rfl), rfl⟩

theorem of_any (v : Value) (l : List UInt8) (w : World) (hw : Halves w) (hb : Bytes w v l) :
    Calls Tryd.prog 10 #[v] w fun e w' => e = .returned (.int .u32 (U (Crc.sum l))) ∧ w = w' := by
  go_enter Tryd.func10, Tryd.ntmps10
  go_wp2_with (go_at_call 12; refine (more_any 0#32 _ _ _ hw hb).mono ?_; rintro e w' ⟨rfl, rfl⟩)
  go_ret
  exact ⟨rfl, rfl⟩

set_option maxHeartbeats 400000 in
theorem times_any (a b : BitVec 32) (w : World) :
    Calls Tryd.prog 19 #[.int .u32 (U a), .int .u32 (U b)] w fun e w' => e = .returned (.int .u32 (U (Crc.times a b))) ∧ w = w' := by
  go_enter Tryd.func19, Tryd.ntmps19
  go_wp2
  go_loop [0, 5, 6] (fun x o i => ∃ k : Nat, k ≤ 32 ∧ i = .int .i64 (31 - (k : Int)) ∧ x = .int .u32 (U (Crc.pw k a)) ∧ o = .int .u32 (U (Crc.acc a b k))) (fun _ _ i => (intOf i + 1).toNat)
  case atStart => exact ⟨0, by omega, rfl, rfl, rfl⟩
  case round =>
    obtain ⟨k, hk, rfl, rfl, rfl⟩ := hrel
    by_cases hlt : k < 32
    · have hst : RowKit.Hid (Crc.pw (k + 1) a = (Crc.pw k a >>> 1) ^^^ (if bit (Crc.pw k a) 0 then Crc.poly else 0#32)) := Lib.hid rfl
      have hac : RowKit.Hid (Crc.acc a b (k + 1) = Crc.acc a b k ^^^ (if bit b (31 - k) then Crc.pw k a else 0#32)) := Lib.hid rfl
      have hi0 : (0 : Int) ≤ 31 - (k : Int) := by omega
      generalize Crc.pw k a = A at *
      generalize Crc.acc a b k = O at *
      cases hb : bit b (31 - k) <;> cases ha : bit A 0
      all_goals
        go_wp2
        go_round
        case rel => exact ⟨k + 1, by omega, by go_num, by rw [hst.out, ha]; simp [Crc.poly], by rw [hac.out, hb]; simp⟩
        case measure => simp [intOf]; omega
    · obtain rfl : k = 32 := by omega
      go_wp2
      go_ret
      exact ⟨rfl, rfl⟩

/-- a sum of parts, its length as Go's number -/
def joinI (a b : BitVec 32) (n : Int) : BitVec 32 := Crc.join a b n.toNat
theorem x8_U : (8388608 : Int) = U Crc.x8 := rfl
set_option maxHeartbeats 400000 in
theorem join_any (a b : BitVec 32) (n : Int) (hn : n ≤ 9223372036854775807) (w : World) :
    Calls Tryd.prog 15 #[.int .u32 (U a), .int .u32 (U b), .int .i64 n] w fun e w' => e = .returned (.int .u32 (U (joinI a b n))) ∧ w = w' := by
  unfold joinI
  go_enter Tryd.func15, Tryd.ntmps15
  go_wp2
  go_loop [0, 2, 7] (fun x i s => ∃ (z : Int) (A S : BitVec 32), z ≤ 9223372036854775807 ∧ i = .int .i64 z ∧ x = .int .u32 (U A) ∧ s = .int .u32 (U S) ∧ RowKit.Hid (Crc.mul S z.toNat A = Crc.mul Crc.x8 n.toNat a)) (fun _ i _ => (intOf i).toNat)
  case atStart => exact ⟨n, a, Crc.x8, hn, rfl, rfl, by rw [x8_U], Lib.hid rfl⟩
  case round =>
    obtain ⟨z, A, S, hz, rfl, rfl, rfl, hj⟩ := hrel
    by_cases hlt : 0 < z
    · obtain ⟨m, hm, hm2⟩ : ∃ m : Nat, (z / 2).toNat = m ∧ (z % 2 = 0 ∧ z.toNat = 2 * m ∨ z % 2 = 1 ∧ z.toNat = 2 * m + 1) := ⟨(z / 2).toNat, rfl, by omega⟩
      by_cases hodd : z % 2 = 1
      · have hb : (z % 2 == 1) = true := by simp [hodd]
        have hj2 : RowKit.Hid (Crc.mul (Crc.times S S) (z / 2).toNat (Crc.times A S) = Crc.mul Crc.x8 n.toNat a) := Lib.hid (by rw [← hj.out, hm, ← Crc.mul_odd]; congr 1; omega)
        clear hm hm2 hodd
        go_wp2_with (go_at_call 19; refine (times_any _ _ _).mono ?_; rintro e w' ⟨rfl, rfl⟩)
        go_round
        case rel => exact ⟨z / 2, _, _, by omega, rfl, rfl, rfl, hj2⟩
        case measure => simp [intOf]; omega
      · have hb : (z % 2 == 1) = false := by simp [hodd]
        have hj2 : RowKit.Hid (Crc.mul (Crc.times S S) (z / 2).toNat A = Crc.mul Crc.x8 n.toNat a) := Lib.hid (by rw [← hj.out, hm, ← Crc.mul_two]; congr 1; omega)
        clear hm hm2 hodd
        go_wp2_with (go_at_call 19; refine (times_any _ _ _).mono ?_; rintro e w' ⟨rfl, rfl⟩)
        go_round
        case rel => exact ⟨z / 2, _, _, by omega, rfl, rfl, rfl, hj2⟩
        case measure => simp [intOf]; omega
    · have hfin : RowKit.Hid (A ^^^ b = Crc.join a b n.toNat) := Lib.hid (by unfold Crc.join; rw [← hj.out, show z.toNat = 0 by omega]; rfl)
      go_wp2
      go_ret
      exact ⟨by rw [← hfin.out]; rfl, rfl⟩

theorem join_a0 (b : BitVec 32) (n : Int) (hn : n ≤ 9223372036854775807) (w : World) :
    Calls Tryd.prog 15 #[.int .u32 0, .int .u32 (U b), .int .i64 n] w fun e w' => e = .returned (.int .u32 (U (joinI 0#32 b n))) ∧ w = w' := join_any 0#32 b n hn w
theorem join_b0 (a : BitVec 32) (n : Int) (hn : n ≤ 9223372036854775807) (w : World) :
    Calls Tryd.prog 15 #[.int .u32 (U a), .int .u32 0, .int .i64 n] w fun e w' => e = .returned (.int .u32 (U (joinI a 0#32 n))) ∧ w = w' := join_any a 0#32 n hn w

set_option maxHeartbeats 400000 in
theorem back_any (r : BitVec 32) (w : World) :
    Calls Tryd.prog 18 #[.int .u32 (U r)] w fun e w' => e = .returned (.int .u32 (U (Crc.unpw 8 r))) ∧ w = w' := by
  go_enter Tryd.func18, Tryd.ntmps18
  go_wp2
  go_loop [0, 3] (fun x i => ∃ k : Nat, k ≤ 8 ∧ i = .int .i64 k ∧ x = .int .u32 (U (Crc.unpw k r))) (fun _ i => 8 - (intOf i).toNat)
  case atStart => exact ⟨0, by omega, rfl, rfl⟩
  case round =>
    obtain ⟨k, hk, rfl, rfl⟩ := hrel
    by_cases hlt : k < 8
    · have hst : RowKit.Hid (Crc.unpw (k + 1) r = if bit (Crc.unpw k r) 31 then ((Crc.unpw k r ^^^ Crc.poly) <<< 1) ||| 1#32 else Crc.unpw k r <<< 1) := Lib.hid (Crc.unpw_succ k r)
      generalize Crc.unpw k r = A at *
      cases ha : bit A 31
      all_goals
        go_wp2
        go_round
        case rel => exact ⟨k + 1, by omega, by go_num, by rw [hst.out, ha]; simp [Crc.poly]⟩
        case measure => simp [intOf]; omega
    · obtain rfl : k = 8 := by omega
      go_wp2
      go_ret
      exact ⟨rfl, rfl⟩

@[go_sem] theorem wrap_u8U (x : BitVec 32) : IntKind.u8.wrap (U x) = ((Crc.byteOf x).toNat : Int) := by
  rw [IntKind.wrap_u8']; unfold U Crc.byteOf
  simp only [UInt8.toNat, BitVec.toNat_setWidth]; omega
set_option maxHeartbeats 400000 in
theorem last_any (v : Value) (l : List UInt8) (want : BitVec 32) (w : World) (hw : Halves w) (hb : Bytes w v l) :
    Calls Tryd.prog 14 #[v, .int .u32 (U want)] w (Ret fun v' w' => Bytes w' v' (Crc.four (Crc.lastWord l want)) ∧ Ext w w') := by
  have e0 := Ext.refl w
  go_enter Tryd.func14, Tryd.ntmps14
  go_wp2
  go_loop [5, 8] (fun x i => ∃ k : Nat, k ≤ 4 ∧ i = .int .i64 k ∧ x = .int .u32 (U (Crc.unpw (8 * k) (~~~ want)))) (fun _ i => 4 - (intOf i).toNat)
  case atStart => exact ⟨0, by omega, rfl, rfl⟩
  case round =>
    obtain ⟨k, hk, rfl, rfl⟩ := hrel
    by_cases hlt : k < 4
    · have hst : RowKit.Hid (Crc.unpw (8 * (k + 1)) (~~~ want) = Crc.unpw 8 (Crc.unpw (8 * k) (~~~ want))) := Lib.hid (by rw [← Crc.unpw_add]; congr 1)
      generalize Crc.unpw (8 * k) (~~~ want) = A at *
      go_wp2_with (go_at_call 18; refine (back_any _ _).mono ?_; rintro e w' ⟨rfl, rfl⟩)
      go_round
      case rel => exact ⟨k + 1, by omega, by go_num, by rw [hst.out]⟩
      case measure => simp [intOf]; omega
    · obtain rfl : k = 4 := by omega
      go_wp2_with (go_at_call 10; refine (of_any _ _ _ hw hb).mono ?_; rintro e w' ⟨rfl, rfl⟩)
      go_ret
      exact Ret.mk ⟨Bytes.lit rfl rfl rfl (by decide) (by decide), e0.alloc _⟩
end Go.Proofs.YtjfijjiknoociaaDoor
