/- RecordComes, walked. -/
import Derived.Test.YtkpcdbalhpmpmaaDoorRecW
namespace Go.Proofs.YtkpcdbalhpmpmaaDoor
open Go.RowKit Rk

theorem cm_cases (k : Int) : k = 1 ∨ k = 2 ∨ k = 3 ∨ k = 4 ∨ k = 5 ∨ k = 6 ∨ ¬ (1 ≤ k ∧ k ≤ 6) := by omega
theorem cm_up (k : Int) (j : Nat) (h1 : 1 ≤ j) (h6 : j ≤ 6) (h : cm k (j : Int) = true) : cm k 0 = false ∧ ((j : Int) == k) = false := by
  have hj : j = 1 ∨ j = 2 ∨ j = 3 ∨ j = 4 ∨ j = 5 ∨ j = 6 := by omega
  rcases cm_cases k with rfl | rfl | rfl | rfl | rfl | rfl | hk
  all_goals first
    | (rw [cm_other hk] at h; cases h)
    | (rcases hj with rfl | rfl | rfl | rfl | rfl | rfl <;> revert h <;> decide)
/-- does it come of nothing, or of one that stands ahead of j? -/
def anyI (k : Int) : Nat → Bool
  | 0 => cm k 0
  | j + 1 => anyI k j || cm k ((j : Int) + 1)
theorem any_all (k : Int) : anyI k 6 = Tk.okK k := by
  rcases cm_cases k with rfl | rfl | rfl | rfl | rfl | rfl | hk
  all_goals first
    | decide
    | (simp only [anyI, cm_other hk, Bool.or_self]; unfold Tk.okK; exact (decide_eq_false hk).symm)
theorem cm_of {k o : Int} (h : cm k o = true) : 0 ≤ o ∧ o ≤ 6 := by
  unfold cm at h
  simp only [Bool.or_eq_true, Bool.and_eq_true, beq_iff_eq] at h
  omega
theorem cm21 : cm 2 1 = true := by decide
theorem cm42 : cm 4 2 = true := by decide
theorem cm34 : cm 3 4 = true := by decide
theorem cm43 : cm 4 3 = true := by decide
theorem cm24 : cm 2 4 = false := by decide
theorem cm31 : cm 3 1 = false := by decide
attribute [local irreducible] cm anyI Tk.okK
set_option maxRecDepth 20000 in
set_option maxHeartbeats 4000000 in
theorem recComes_any (k o : Int) (w : World) (hw : Pres w) :
    Calls Tryd.prog 11 #[.int .i64 k, .int .i64 o] w fun e w' => e = .returned (.bool true) ∧ Ext w w' := by
  have e0 := Ext.refl w
  have g1 := cm21
  have g2 := cm42
  have g3 := cm34
  have g4 := cm43
  have g5 := cm24
  have g6 := cm31
  cases hr0 : cm k 0
  all_goals
    go_enter Tryd.func11, Tryd.ntmps11
    go_wp2_with (first
      | (go_at_call 29; refine (awake13_any _ hw).mono ?_; rintro e w1 ⟨rfl, h⟩; have e0 := e0.trans h)
      | (go_at_call 37; refine (comes_any _ _ _).mono ?_; rintro e w' ⟨rfl, rfl⟩))
    go_loopw [7, 8] (fun any i wr => ∃ j : Nat, j ≤ 6 ∧ i = .int .i64 ((j : Int) + 1) ∧ any = .bool (anyI k j) ∧ Ext w wr) (fun _ i _ => 7 - (intOf i).toNat)
    case atStart => exact ⟨0, by omega, rfl, by simp [anyI, hr0], e0⟩
    case round =>
      obtain ⟨j, hj, rfl, rfl, e0⟩ := hrel
      by_cases hlt : j < 6
      · have hup := cm_up k (j + 1) (by omega) (by omega)
        have hs : RowKit.Hid (anyI k (j + 1) = (anyI k j || cm k ((j : Int) + 1))) := Lib.hid (by rw [anyI])
        have hup2 : cm k ((j : Int) + 1) = true → cm k 0 = false ∧ (((j : Int) + 1) == k) = false := by simpa using hup
        clear hup
        have hc : ∀ W, Calls Tryd.prog 37 #[.int .i64 k, .int .i64 ((j : Int) + 1)] W fun e w' => e = .returned (.bool (cm k ((j : Int) + 1))) ∧ W = w' := fun W => comes_any k ((j : Int) + 1) W
        cases hx : cm k ((j : Int) + 1)
        · cases ha : anyI k j
          · rw [hx] at hc
            have hs2 : RowKit.Hid (anyI k (j + 1) = false) := Lib.hid (by rw [hs.out, hx, ha]; rfl)
            go_wp2_with (go_at_call 37; refine (hc _).mono ?_; rintro e w' ⟨rfl, rfl⟩)
            go_roundw
            case rel => first | exact ⟨j + 1, by omega, by go_num, by rw [hs2.out], e0⟩ | ((repeat apply Exists.intro); exact ⟨⟨j + 1, by omega, by go_num, by rw [hs2.out], e0⟩, rfl⟩)
            case measure => simp [intOf]; omega
          · rw [hx] at hc
            have hs2 : RowKit.Hid (anyI k (j + 1) = true) := Lib.hid (by rw [hs.out, hx, ha]; rfl)
            go_wp2_with (go_at_call 37; refine (hc _).mono ?_; rintro e w' ⟨rfl, rfl⟩)
            go_roundw
            case rel => first | exact ⟨j + 1, by omega, by go_num, by rw [hs2.out], e0⟩ | ((repeat apply Exists.intro); exact ⟨⟨j + 1, by omega, by go_num, by rw [hs2.out], e0⟩, rfl⟩)
            case measure => simp [intOf]; omega
        · obtain ⟨u1, u2⟩ := hup2 hx
          first
            | (rw [hr0] at u1; cases u1; done)
            | (clear u1
               rw [hx] at hc
               cases ha : anyI k j
               · have hs2 : RowKit.Hid (anyI k (j + 1) = true) := Lib.hid (by rw [hs.out, hx, ha]; rfl)
                 go_wp2_with (go_at_call 37; refine (hc _).mono ?_; rintro e w' ⟨rfl, rfl⟩)
                 go_roundw
                 case rel => first | exact ⟨j + 1, by omega, by go_num, by rw [hs2.out], e0⟩ | ((repeat apply Exists.intro); exact ⟨⟨j + 1, by omega, by go_num, by rw [hs2.out], e0⟩, rfl⟩)
                 case measure => simp [intOf]; omega
               · have hs2 : RowKit.Hid (anyI k (j + 1) = true) := Lib.hid (by rw [hs.out, hx, ha]; rfl)
                 go_wp2_with (go_at_call 37; refine (hc _).mono ?_; rintro e w' ⟨rfl, rfl⟩)
                 go_roundw
                 case rel => first | exact ⟨j + 1, by omega, by go_num, by rw [hs2.out], e0⟩ | ((repeat apply Exists.intro); exact ⟨⟨j + 1, by omega, by go_num, by rw [hs2.out], e0⟩, rfl⟩)
                 case measure => simp [intOf]; omega)
      · obtain rfl : j = 6 := by omega
        have hA := any_all k
        by_cases hk : 1 ≤ k ∧ k ≤ 6
        · obtain ⟨k1, k6⟩ := hk
          have hA2 : anyI k 6 = true := by rw [hA]; unfold Tk.okK; exact decide_eq_true ⟨k1, k6⟩
          clear hA
          cases ho : cm k o
          · go_wp2_with (go_at_call 37; refine (comes_any _ _ _).mono ?_; rintro e w' ⟨rfl, rfl⟩)
            go_ret
            exact ⟨rfl, e0⟩
          · obtain ⟨o0, o6⟩ := cm_of ho
            go_wp2_with (go_at_call 37; refine (comes_any _ _ _).mono ?_; rintro e w' ⟨rfl, rfl⟩)
            go_ret
            exact ⟨rfl, e0⟩
        · have hA2 : anyI k 6 = false := by rw [hA]; unfold Tk.okK; exact decide_eq_false hk
          have ho : cm k o = false := cm_other hk o
          clear hA
          rcases (show k < 1 ∨ (1 ≤ k ∧ 6 < k) by omega) with h1 | ⟨h1, h2⟩
          · go_wp2_with (go_at_call 37; refine (comes_any _ _ _).mono ?_; rintro e w' ⟨rfl, rfl⟩)
            go_ret
            exact ⟨rfl, e0⟩
          · go_wp2_with (go_at_call 37; refine (comes_any _ _ _).mono ?_; rintro e w' ⟨rfl, rfl⟩)
            go_ret
            exact ⟨rfl, e0⟩
end Go.Proofs.YtkpcdbalhpmpmaaDoor
