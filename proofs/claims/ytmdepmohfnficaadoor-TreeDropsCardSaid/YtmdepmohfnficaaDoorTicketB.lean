/- The contracts of package ticket, second part: cut, draw, what a text is the name of. -/
import Derived.Test.YtmdepmohfnficaaDoorTicketA
namespace Go.Proofs.YtmdepmohfnficaaDoor
open Go.RowKit

theorem index_one (s p : List UInt8) (hl : p.length = 1) (w : World) :
    Calls Tryd.prog 124 #[.string (str s), .string (str p)] w fun e w' => e = .returned (.int .i64 (Lib.indexByte s (byteAt p 0))) ∧ w = w' := by
  cases hps : seq p s
  · go_enter Tryd.func124, Tryd.ntmps124
    go_wp2_with (go_at_call 125; refine (indexByte0_any _ _ _).mono ?_; rintro e w' ⟨rfl, rfl⟩)
    go_ret
    exact ⟨rfl, rfl⟩
  · have e0 : Lib.indexByte s (byteAt p 0) = 0 := by
      have := seq_true.1 hps
      subst this
      match p, hl with
      | [c], _ => simp [Lib.indexByte, byteAt]
    rw [e0]
    go_enter Tryd.func124, Tryd.ntmps124
    go_wp2
    go_ret
    exact ⟨rfl, rfl⟩
def dash : List UInt8 := [45]
theorem index_dash (s : List UInt8) (w : World) :
    Calls Tryd.prog 124 #[.string (str s), .string (str dash)] w fun e w' => e = .returned (.int .i64 (Lib.indexByte s 45)) ∧ w = w' := index_one s dash rfl w

theorem cut0_any (s : List UInt8) (hs : s.length ≤ 9223372036854775807) (w : World) :
    Calls Tryd.prog 122 #[.string (str s), .string (str dash)] w fun e w' => e = .returned (.tuple #[.string (str (Tk.cutP s)), .string (str (Tk.cutR s)), .bool (Tk.cutB s)]) ∧ Ext w w' := by
  have hl : dash.length = 1 := rfl
  have e0 := Ext.refl w
  rcases Tk.cut_ix s with ⟨h1, h2⟩ | ⟨i, hi, h1, h2⟩
  · go_enter Tryd.func122, Tryd.ntmps122
    go_wp2_with (go_at_call 124; refine (index_dash _ _).mono ?_; rintro e w' ⟨rfl, rfl⟩; simp only [h1])
    go_ret3
    refine ⟨?_, e0⟩
    simp [Tk.cutP, Tk.cutR, Tk.cutB, h2]
    rfl
  · have hi1 : i + 1 ≤ s.length := hi
    go_enter Tryd.func122, Tryd.ntmps122
    go_wp2_with (first | (go_at_call 124; refine (index_dash _ _).mono ?_; rintro e w' ⟨rfl, rfl⟩; simp only [h1]) | go_region)
    go_ret3
    refine ⟨?_, e0.drew⟩
    simp [Tk.cutP, Tk.cutR, Tk.cutB, h2]
    first | exact ⟨by rw [str_extract]; simp [sub], by rw [str_extract]; unfold sub; rw [List.take_length]⟩ | exact ⟨by simp [sub], by unfold sub; rw [List.take_length]⟩
theorem cut_any (s : List UInt8) (hs : s.length ≤ 9223372036854775807) (w : World) :
    Calls Tryd.prog 119 #[.string (str s), .string (str dash)] w fun e w' => e = .returned (.tuple #[.string (str (Tk.cutP s)), .string (str (Tk.cutR s)), .bool (Tk.cutB s)]) ∧ Ext w w' := by
  go_enter Tryd.func119, Tryd.ntmps119
  go_wp2_with (go_at_call 122; refine (cut0_any _ hs _).mono ?_; rintro e w' ⟨rfl, h⟩)
  go_ret3
  exact ⟨rfl, h⟩

/-- digits of a number, as the program writes them -/
def hexs : List UInt8 := [48, 49, 50, 51, 52, 53, 54, 55, 56, 57, 97, 98, 99, 100, 101, 102]
theorem ixhex_any (c : UInt8) (w : World) :
    Calls Tryd.prog 123 #[.string (str [48, 49, 50, 51, 52, 53, 54, 55, 56, 57, 97, 98, 99, 100, 101, 102]), .int .u8 (c.toNat : Int)] w fun e w' => e = .returned (.int .i64 (Tk.hexI c)) ∧ w = w' := by
  rw [← Tk.ix_hex c]; exact indexByte_any _ c w
theorem wrap_u64_nat (d : Nat) (h : d < 16) : IntKind.u64.wrap (d : Int) = (d : Int) := by rw [IntKind.wrap_u64]; omega
set_option maxHeartbeats 400000 in
theorem draw_any (r : List UInt8) (w : World) :
    Calls Tryd.prog 120 #[.string (str r)] w fun e w' => e = .returned (.tuple #[.int .u64 (V (Tk.dn r)), .bool (Tk.dok r)]) ∧ w = w' := by
  by_cases hl : r.length = 16
  · have hd : Tk.drawOf r = Tk.tell 0 r := by unfold Tk.drawOf; rw [if_pos hl]
    go_enter Tryd.func120, Tryd.ntmps120
    go_wp2
    go_loop [4, 12] (fun n i => ∃ (k : Nat) (x : BitVec 64), k ≤ 16 ∧ i = .int .i64 k ∧ n = .int .u64 (V x) ∧ RowKit.Hid (Tk.tell 0 (r.take k) = some x.toNat)) (fun _ i => 16 - (intOf i).toNat)
    case atStart => exact ⟨0, 0#64, by omega, rfl, rfl, Lib.hid rfl⟩
    case round =>
      obtain ⟨k, x, hk, rfl, rfl, hx⟩ := hrel
      by_cases hlt : k < 16
      · have hst := Tk.tell_step r k (by omega) 0
        have hb := Tk.tell_lt _ _ hx.out
        rw [hx.out] at hst
        cases hh : Tk.hexv (byteAt r k) with
        | none =>
          have hI : Tk.hexI (byteAt r k) = -1 := by unfold Tk.hexI; rw [hh]
          have hno := Tk.tell_cut r k (by omega) hh 0
          have hfin : RowKit.Hid (Tk.dn r = 0#64 ∧ Tk.dok r = false) := Lib.hid (by unfold Tk.dn Tk.dok; rw [hd, hno]; simp)
          clear hst hb hno hd hx hh
          go_wp2_with (go_at_call 123; refine (ixhex_any _ _).mono ?_; rintro e w' ⟨rfl, rfl⟩; simp only [hI])
          go_ret2
          exact ⟨by rw [hfin.out.1, hfin.out.2]; rfl, rfl⟩
        | some d =>
          have hI : Tk.hexI (byteAt r k) = d := by unfold Tk.hexI; rw [hh]
          have hd16 := Tk.hexv_lt hh
          have hx60 : x.toNat < 2 ^ 60 := by
            rw [List.length_take] at hb
            exact Nat.lt_of_lt_of_le hb (Nat.le_trans (Nat.pow_le_pow_right (by decide) (show min k r.length ≤ 15 by omega)) (by decide))
          have hst2 : RowKit.Hid (Tk.tell 0 (r.take (k + 1)) = some ((x <<< 4) ||| BitVec.ofInt 64 (d : Int)).toNat) := Lib.hid (by
            rw [hst, hh, Tk.or_step x d hx60 hd16]; rfl)
          have hw := wrap_u64_nat d hd16
          clear hst hb hh hx60 hd hx
          go_wp2_with (go_at_call 123; refine (ixhex_any _ _).mono ?_; rintro e w' ⟨rfl, rfl⟩; simp only [hI])
          go_round
          case rel => exact ⟨k + 1, _, by omega, by go_num, by first | rfl | rw [hw], hst2⟩
          case measure => simp [intOf]; omega
      · obtain rfl : k = 16 := by omega
        have hfin : RowKit.Hid (Tk.dn r = x ∧ Tk.dok r = true) := Lib.hid (by
          have h := hx.out
          rw [List.take_of_length_le (by omega)] at h
          unfold Tk.dn Tk.dok; rw [hd, h]; simp)
        go_wp2
        go_ret2
        exact ⟨by rw [hfin.out.1, hfin.out.2]; rfl, rfl⟩
  · have hfin : RowKit.Hid (Tk.dn r = 0#64 ∧ Tk.dok r = false) := Lib.hid (by unfold Tk.dn Tk.dok Tk.drawOf; rw [if_neg hl]; simp)
    have hb : ((r.length : Int) != 16) = true := by
      have : (r.length : Int) ≠ 16 := by omega
      simp [bne_iff_ne, this]
    clear hl
    go_enter Tryd.func120, Tryd.ntmps120
    go_wp2
    go_ret2
    exact ⟨by rw [hfin.out.1, hfin.out.2]; rfl, rfl⟩
end Go.Proofs.YtmdepmohfnficaaDoor
