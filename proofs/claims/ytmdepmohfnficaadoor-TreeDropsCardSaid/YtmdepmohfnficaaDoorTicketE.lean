/- The document's answers on names: prefix, name. -/
import Derived.Test.YtmdepmohfnficaaDoorTicketD
namespace Go.Proofs.YtmdepmohfnficaaDoor
open Go.RowKit

theorem preI_no {k : Int} (h : ¬ (1 ≤ k ∧ k ≤ 6)) : Tk.preI k = [] := by unfold Tk.preI Tk.okK; rw [decide_eq_false h]; rfl
theorem refPrefix_any (k : Int) (w : World) :
    Calls Tryd.prog 81 #[.int .i64 k] w fun e w' => e = .returned (.string (str (Tk.preI k))) ∧ w = w' := by
  by_cases h : 1 ≤ k ∧ k ≤ 6
  · have hc : k = 1 ∨ k = 2 ∨ k = 3 ∨ k = 4 ∨ k = 5 ∨ k = 6 := by omega
    rcases hc with rfl | rfl | rfl | rfl | rfl | rfl
    all_goals
      clear h
      go_enter Tryd.func81, Tryd.ntmps81
      go_wp2
      go_ret
      exact ⟨rfl, rfl⟩
  · rw [preI_no h]
    have h1 : (k == 1) = false := by rw [beq_eq_false_iff_ne]; omega
    have h2 : (k == 2) = false := by rw [beq_eq_false_iff_ne]; omega
    have h3 : (k == 3) = false := by rw [beq_eq_false_iff_ne]; omega
    have h4 : (k == 4) = false := by rw [beq_eq_false_iff_ne]; omega
    have h5 : (k == 5) = false := by rw [beq_eq_false_iff_ne]; omega
    have h6 : (k == 6) = false := by rw [beq_eq_false_iff_ne]; omega
    clear h
    go_enter Tryd.func81, Tryd.ntmps81
    go_wp2
    go_ret
    exact ⟨rfl, rfl⟩

theorem one_digit : ∀ d, d < 16 → sub [48, 49, 50, 51, 52, 53, 54, 55, 56, 57, 97, 98, 99, 100, 101, 102] d (d + 1) = [Tk.hexc d] := by decide
set_option maxHeartbeats 800000 in
theorem refName_any (K : Int) (x : BitVec 64) (w : World) :
    Calls Tryd.prog 53 #[.int .i64 K, .int .u64 (V x)] w fun e w' => e = .returned (.tuple #[.string (str (Tk.nameI K x.toNat)), .int .i64 (Tk.errI K)]) ∧ w = w' := by
  cases hk : Tk.okK K
  · have hp : seq (Tk.preI K) [] = true := by rw [Tk.preI_empty, hk]; rfl
    have hfin : RowKit.Hid (Tk.nameI K x.toNat = [] ∧ Tk.errI K = 8) := Lib.hid (by unfold Tk.nameI Tk.errI; rw [hk]; simp)
    go_enter Tryd.func53, Tryd.ntmps53
    go_wp2_with (go_at_call 81; refine (refPrefix_any _ _).mono ?_; rintro e w' ⟨rfl, rfl⟩)
    go_ret2
    exact ⟨by rw [hfin.out.1, hfin.out.2]; rfl, rfl⟩
  · have hp : seq (Tk.preI K) [] = false := by rw [Tk.preI_empty, hk]; rfl
    have hpl : (Tk.preI K).length ≤ 6 := by
      unfold Tk.preI; rw [hk]
      have := Tk.pre_length (Tk.okK_kind hk)
      simp; omega
    have hfin : RowKit.Hid (str (Tk.nameI K x.toNat) = str (Tk.preI K ++ 45 :: Tk.digs 16 x.toNat) ∧ Tk.errI K = 0) := Lib.hid (by unfold Tk.nameI Tk.errI Tk.preI Tk.name; rw [hk]; simp)
    go_enter Tryd.func53, Tryd.ntmps53
    go_wp2_with (go_at_call 81; refine (refPrefix_any _ _).mono ?_; rintro e w' ⟨rfl, rfl⟩)
    go_loop [1, 8, 9] (fun d s i => ∃ (k m : Nat), k ≤ 16 ∧ i = .int .i64 k ∧ d = .int .u64 m ∧ s = .string (str (Tk.digs k x.toNat)) ∧ m < 18446744073709551616 ∧ RowKit.Hid (m = x.toNat / 16 ^ k)) (fun _ _ i => 16 - (intOf i).toNat)
    case atStart => exact ⟨0, x.toNat, by omega, rfl, rfl, rfl, x.isLt, Lib.hid (by simp)⟩
    case round =>
      obtain ⟨k, m, hk, rfl, rfl, rfl, hm, hmx⟩ := hrel
      by_cases hlt : k < 16
      · have hsl : RowKit.Hid (str ([Tk.hexc (m % 16)] ++ Tk.digs k x.toNat) = str (Tk.digs (k + 1) x.toNat)) := Lib.hid (by rw [Tk.digs_cons, hmx.out]; rfl)
        have hdl := Tk.digs_length k x.toNat
        have h1 := Lib.hid (one_digit (m % 16) (Nat.mod_lt _ (by decide)))
        have hl1 : (sub [48, 49, 50, 51, 52, 53, 54, 55, 56, 57, 97, 98, 99, 100, 101, 102] (m % 16) (m % 16 + 1)).length ≤ 1 := by rw [h1.out]; exact Nat.le_refl _
        go_wp2
        go_round
        case rel => exact ⟨k + 1, m / 16, by omega, by go_num, by go_num, by rw [h1.out, hsl.out], by omega, Lib.hid (by rw [hmx.out, Nat.div_div_eq_div_mul, Nat.pow_succ])⟩
        case measure => simp [intOf]; omega
      · obtain rfl : k = 16 := by omega
        have hdl := Tk.digs_length 16 x.toNat
        go_wp2
        go_ret2
        exact ⟨by rw [hfin.out.1, hfin.out.2]; rfl, rfl⟩
end Go.Proofs.YtmdepmohfnficaaDoor
