/- The walk of CrcBursts: it returns true and leaves what was there. -/
import Derived.Test.YtjfijjiknoociaaDoorCrcAwake
import Derived.BigRegion
namespace Go.Proofs.YtjfijjiknoociaaDoor
open Go.RowKit

/-- one bit of a byte -/
def bitByte (j : Nat) : UInt8 := (1 : UInt8) <<< UInt8.ofNat j
theorem pow_byte : ∀ j, j < 8 → (2 : Int) ^ j % 256 = ((bitByte j).toNat : Int) := by decide
theorem burst_succ (b : List UInt8) (at_ : Nat) (change : BitVec 32) (k : Nat) : Crc.burst b at_ change (k + 1) = if bit change k then (Crc.burst b at_ change k).set ((at_ + k) / 8) (xr ((Crc.burst b at_ change k).getD ((at_ + k) / 8) 0) (bitByte ((at_ + k) % 8))) else Crc.burst b at_ change k := rfl

set_option maxHeartbeats 1000000 in
theorem bursts_any (b : Value) (lb : List UInt8) (n : Nat) (change : BitVec 32) (w : World) (hw : Halves w) (hb : Bytes w b lb) (hn : n < 65536) :
    Calls Tryd.prog 4 #[b, .int .u16 n, .int .u32 (U change)] w (LawEnd w) := by
  obtain ⟨ab, cb, rfl, hb'⟩ := id hb
  have hlb := hb'.len
  clear hb'
  by_cases h1 : lb.length < 4
  · go_enter Tryd.func4, Tryd.ntmps4
    go_wp2_with (go_at_call 9; refine (awake_any _ hw).mono ?_; rintro e w1 ⟨rfl, e1⟩)
    go_ret
    exact ⟨rfl, e1⟩
  by_cases h2 : 300 < lb.length
  · go_enter Tryd.func4, Tryd.ntmps4
    go_wp2_with (go_at_call 9; refine (awake_any _ hw).mono ?_; rintro e w1 ⟨rfl, e1⟩)
    go_ret
    exact ⟨rfl, e1⟩
  by_cases h3 : change = 0#32
  · have t3 : (U change == 0) = true := by rw [h3]; rfl
    clear h3
    go_enter Tryd.func4, Tryd.ntmps4
    go_wp2_with (go_at_call 9; refine (awake_any _ hw).mono ?_; rintro e w1 ⟨rfl, e1⟩)
    go_ret
    exact ⟨rfl, e1⟩
  have t3 : (U change == 0) = false := by
    rw [beq_eq_false_iff_ne]; intro e; exact h3 (U_inj (y := 0#32) e)
  have H3 := Lib.hid h3
  clear h3
  obtain ⟨A, hA, hA2⟩ : ∃ A : Nat, (n : Int) % (8 * (lb.length : Int) - 31) = (A : Int) ∧ A + 32 ≤ 8 * lb.length := by
    refine ⟨((n : Int) % (8 * (lb.length : Int) - 31)).toNat, ?_, ?_⟩
    · have := Int.emod_nonneg (n : Int) (show (8 * (lb.length : Int) - 31) ≠ 0 by omega); omega
    · have := Int.emod_lt_of_pos (n : Int) (show 0 < (8 * (lb.length : Int) - 31) by omega)
      have := Int.emod_nonneg (n : Int) (show (8 * (lb.length : Int) - 31) ≠ 0 by omega); omega
  go_enter Tryd.func4, Tryd.ntmps4
  go_wp2_with (first
    | (go_at_call 9; refine (awake_any _ hw).mono ?_; rintro e w1 ⟨rfl, e1⟩; have o1 : OwnB (w1.alloc (.cells #[] 5)) w.heap.size (.slice (some ⟨w1.heap.size, 0, none⟩) 0 0) [] := OwnB.empty rfl e1.size)
    | (at_builtin; refine wpList_appendB rfl _ _ rfl w.heap.size _ [] rfl o1 _ lb rfl (hb.ext (e1.alloc _)) (by simp; omega) (e1.alloc _).size ?_; intro v2 w2 o2 g2; have e2 := (e1.alloc _).own o1 g2; clear e1 o1 g2; rw [List.nil_append] at o2))
  clear hA t3
  go_loopw [10] (fun i wr => ∃ k : Nat, k ≤ 32 ∧ i = .int .i64 k ∧ OwnB wr w.heap.size v2 (Crc.burst lb A change k) ∧ Ext w wr) (fun i _ => 32 - (intOf i).toNat)
  case atStart => exact ⟨0, Nat.zero_le _, rfl, o2, e2⟩
  case round =>
    obtain ⟨k, hk, rfl, ok, ek⟩ := hrel
    have hml := Crc.burst_length lb A change k
    by_cases hlt : k < 32
    · have HS := Lib.hid (burst_succ lb A change k)
      cases hbit : bit change k
      · rw [hbit] at HS
        go_wp2
        go_roundw
        case rel => exact ⟨k + 1, by omega, by go_num, by rw [HS.out]; exact ok, ek⟩
        case measure => simp [intOf]; omega
      · rw [hbit] at HS
        obtain ⟨g, cap, hv, hg, hgs, hcell, hfr, hset⟩ := ok.cells (by omega)
        rw [hml] at hv
        subst hv
        obtain ⟨q, hq, hq2⟩ : ∃ q : Nat, ((A : Int) + (k : Int)) / 8 = (q : Int) ∧ (A + k) / 8 = q := ⟨(A + k) / 8, by omega, rfl⟩
        obtain ⟨j, hj, hj2, hj3⟩ : ∃ j : Nat, ((A : Int) + (k : Int)) % 8 = (j : Int) ∧ (A + k) % 8 = j ∧ j < 8 := ⟨(A + k) % 8, by omega, rfl, by omega⟩
        have hql : q < lb.length := by omega
        have hca2 := hcell q (by omega)
        have f0 := hfr q
        rw [hq2, hj2] at HS
        generalize (Crc.burst lb A change k).getD q 0 = xa at *
        clear hcell hfr hml
        go_wp2
        go_region
        go_wp2
        go_roundw
        case rel =>
          refine ⟨k + 1, by omega, by go_num, ?_, ?_⟩
          · rw [HS.out, if_pos trivial, pow_byte j hj3, bits_u8_xor]
            exact (hset q (xr xa (bitByte j))).drew
          · exact (ek.setCell hg _).drew
        case measure => simp [intOf]; omega
    · obtain rfl : k = 32 := by omega
      obtain ⟨av, cv, hv, _⟩ := ok.shape
      rw [hml] at hv
      subst hv
      have q := Crc.sum_burst lb A change hA2 H3.out
      have q2 : (U (Crc.sum (Crc.burst lb A change 32)) != U (Crc.sum lb)) = true := by
        rw [bne_iff_ne]; exact fun e => q (U_inj e)
      clear q
      have hml2 := Lib.hid hml
      clear hml
      go_wp2_with fail
      refine (of_any _ _ _ (hw.ext ek) ok.bytes).mono ?_
      rintro e w' ⟨rfl, rfl⟩
      go_wp2_with fail
      refine (of_any _ _ _ (hw.ext ek) (hb.ext ek)).mono ?_
      rintro e w' ⟨rfl, rfl⟩
      go_wp2_with fail
      go_ret
      exact ⟨rfl, ek⟩
end Go.Proofs.YtjfijjiknoociaaDoor
