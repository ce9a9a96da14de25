/- Package creds: words; the document's Shown and Word. -/
import Derived.Test.YtnhgkklbjhjggaaCrA
namespace Go.Proofs.Ytnhgkklbjhjggaa
open Go.RowKit Cr

theorem iff_no {p : Prop} {b : Bool} (h : b = true ↔ p) (hn : ¬ p) : b = false := by
  cases b
  · rfl
  · exact absurd (h.1 rfl) hn
theorem okAt_false {l : List UInt8} {i : Nat} (h : okAt l i = false) (hi : i < l.length) : wordB l = false := by
  unfold wordB; rw [allI_false hi h]; rfl
theorem other_cases (c : UInt8) (b : Bool) (h : otherB c = b) : (b = true → (48 ≤ (c.toNat : Int) ∧ (c.toNat : Int) ≤ 57) ∨ (c.toNat : Int) = 45 ∨ (c.toNat : Int) = 95) ∧ (b = false → ((c.toNat : Int) < 48 ∨ 57 < (c.toNat : Int)) ∧ (c.toNat : Int) ≠ 45 ∧ (c.toNat : Int) ≠ 95) := by
  subst h
  unfold otherB
  refine ⟨fun h => ?_, fun h => ?_⟩
  · simp at h; omega
  · simp at h; omega
set_option maxHeartbeats 1000000 in
theorem word_any (l : List UInt8) (hl : l.length ≤ 9223372036854775807) (w : World) :
    Calls Try.prog 27 #[.string (str l)] w fun e w' => e = .returned (.bool (wordB l)) ∧ w = w' := by
  go_enter Try.func27, Try.ntmps27
  go_wp2
  go_loop [7] (fun k => ∃ i : Nat, i ≤ l.length ∧ k = .int .i64 i ∧ RowKit.Hid (∀ j, j < i → okAt l j = true)) (fun k => l.length - (intOf k).toNat)
  case atStart => exact ⟨0, by omega, rfl, Lib.hid (fun j hj => by omega)⟩
  case round =>
    obtain ⟨i, hi, rfl, hp⟩ := hrel
    by_cases hlt : i < l.length
    · have hil : (i : Int) < (l.length : Int) := by omega
      have hw : IntKind.i64.wrap ((i : Int) + 1) = (i : Int) + 1 := by rw [IntKind.wrap_i64]; omega
      have hnext : RowKit.Hid (okAt l i = true → ∀ j, j < i + 1 → okAt l j = true) := Lib.hid fun h j hj => by
        by_cases e : j = i
        · subst e; exact h
        · exact hp.out j (by omega)
      have hfalse : RowKit.Hid (okAt l i = false → wordB l = false) := Lib.hid fun h => okAt_false h hlt
      obtain ⟨c, hc⟩ : ∃ c, c = byteAt l i := ⟨_, rfl⟩
      have hcs : ((byteAt l i).toNat : Int) = (c.toNat : Int) := by rw [hc]
      have hct : ((byteAt l ((i : Int)).toNat).toNat : Int) = (c.toNat : Int) := by rw [hc]; congr 1
      have hs : RowKit.Hid (okAt l i = (letterB c || (decide (i ≠ 0) && otherB c))) := Lib.hid (by rw [hc]; rfl)
      clear hc
      have hz := byte_lt c
      have hlet := letter_any c
      cases hL : letterB c
      · rw [hL] at hlet hs
        by_cases h0 : i = 0
        · subst h0
          have hs2 := Lib.hid (hfalse.out (hs.out.trans (by simp)))
          clear hs hfalse hnext
          go_wp2_with (go_at_call 34; (with_reducible refine (hlet _).mono ?_); rintro e w' ⟨rfl, rfl⟩)
          go_ret
          exact ⟨by rw [hs2.out]; rfl, rfl⟩
        · have h0' : ((i : Int) == 0) = false := by simp; omega
          cases hO : otherB c
          · obtain ⟨-, ho⟩ := other_cases c _ hO
            obtain ⟨ho1, ho2, ho3⟩ := ho rfl
            clear ho
            have h45 : ((c.toNat : Int) != 45) = true := by simp; omega
            have h95 : ((c.toNat : Int) != 95) = true := by simp; omega
            have hs2 := Lib.hid (hfalse.out (hs.out.trans (by rw [hO]; simp)))
            clear hs hfalse hnext ho2 ho3 hO hL h0
            generalize (c.toNat : Int) = z at *
            rcases ho1 with h1 | h1
            · go_wp2_with (go_at_call 34; (with_reducible refine (hlet _).mono ?_); rintro e w' ⟨rfl, rfl⟩)
              go_ret
              exact ⟨by rw [hs2.out]; rfl, rfl⟩
            · go_wp2_with (go_at_call 34; (with_reducible refine (hlet _).mono ?_); rintro e w' ⟨rfl, rfl⟩)
              go_ret
              exact ⟨by rw [hs2.out]; rfl, rfl⟩
          · obtain ⟨ho, -⟩ := other_cases c _ hO
            have hs2 := Lib.hid (hnext.out (hs.out.trans (by rw [hO]; simpa using h0)))
            have ho1 := ho rfl
            clear hs hfalse hnext ho hO hL h0
            generalize (c.toNat : Int) = z at *
            rcases ho1 with ⟨h1, h2⟩ | h1 | h1
            · go_wp2_with (go_at_call 34; (with_reducible refine (hlet _).mono ?_); rintro e w' ⟨rfl, rfl⟩)
              go_round
              case rel => exact ⟨i + 1, by omega, by go_num, hs2⟩
              case measure => simp [intOf]; omega
            · subst h1
              go_wp2_with (go_at_call 34; (with_reducible refine (hlet _).mono ?_); rintro e w' ⟨rfl, rfl⟩)
              go_round
              case rel => exact ⟨i + 1, by omega, by go_num, hs2⟩
              case measure => simp [intOf]; omega
            · subst h1
              go_wp2_with (go_at_call 34; (with_reducible refine (hlet _).mono ?_); rintro e w' ⟨rfl, rfl⟩)
              go_round
              case rel => exact ⟨i + 1, by omega, by go_num, hs2⟩
              case measure => simp [intOf]; omega
      · rw [hL] at hlet hs
        have hs2 := Lib.hid (hnext.out (hs.out.trans (by simp)))
        clear hs hfalse hnext
        go_wp2_with (go_at_call 34; (with_reducible refine (hlet _).mono ?_); rintro e w' ⟨rfl, rfl⟩)
        go_round
        case rel => exact ⟨i + 1, by omega, by go_num, hs2⟩
        case measure => simp [intOf]; omega
    · obtain rfl : i = l.length := by omega
      have hs : RowKit.Hid (wordB l = (decide (l ≠ []) && decide ((l.length : Int) ≤ 60))) := Lib.hid (by
        unfold wordB; rw [allI_true.2 hp.out]; rfl)
      by_cases hn : l = []
      · subst hn
        have hs2 := Lib.hid (hs.out.trans (by simp : _ = false))
        have hq : seq [] [] = true := rfl
        clear hs
        go_wp2
        go_ret
        exact ⟨by rw [hs2.out]; rfl, rfl⟩
      · have hq : seq l [] = false := seq_false.2 hn
        by_cases h2 : (l.length : Int) ≤ 60
        · have hs2 := Lib.hid (hs.out.trans (by rw [decide_eq_true h2, decide_eq_true hn]))
          clear hs
          go_wp2
          go_ret
          exact ⟨by rw [hs2.out]; rfl, rfl⟩
        · have hs2 := Lib.hid (hs.out.trans (by rw [decide_eq_false h2, Bool.and_false]))
          clear hs
          go_wp2
          go_ret
          exact ⟨by rw [hs2.out]; rfl, rfl⟩
theorem shown_any (l : List UInt8) (a : Int) (hl : l.length ≤ 9223372036854775807) (w : World) :
    Calls Try.prog 30 #[.string (str l), .int .u8 a] w fun e w' => e = .returned (.bool (shownB a l)) ∧ w = w' := by
  go_enter Try.func30, Try.ntmps30
  go_wp2
  go_loop [5] (fun k => ∃ i : Nat, i ≤ l.length ∧ k = .int .i64 i ∧ RowKit.Hid (∀ j, j < i → shAt a l j = true)) (fun k => l.length - (intOf k).toNat)
  case atStart => exact ⟨0, by omega, rfl, Lib.hid (fun j hj => by omega)⟩
  case round =>
    obtain ⟨i, hi, rfl, hp⟩ := hrel
    by_cases hlt : i < l.length
    · have hil : (i : Int) < (l.length : Int) := by omega
      have hw : IntKind.i64.wrap ((i : Int) + 1) = (i : Int) + 1 := by rw [IntKind.wrap_i64]; omega
      obtain ⟨c, hc⟩ : ∃ c, c = byteAt l i := ⟨_, rfl⟩
      have hcs : ((byteAt l i).toNat : Int) = (c.toNat : Int) := by rw [hc]
      have hct : ((byteAt l ((i : Int)).toNat).toNat : Int) = (c.toNat : Int) := by rw [hc]; congr 1
      have hs : RowKit.Hid (shAt a l i = (decide (a ≤ (c.toNat : Int)) && decide ((c.toNat : Int) ≤ 126))) := Lib.hid (by rw [hc]; rfl)
      have hfalse : RowKit.Hid (shAt a l i = false → shownB a l = false) := Lib.hid fun h => by
        unfold shownB; rw [allI_false hlt h]
      clear hc
      by_cases h1 : a ≤ (c.toNat : Int)
      · have h1' : decide ((c.toNat : Int) < a) = false := decide_eq_false (by omega)
        by_cases h2 : (c.toNat : Int) ≤ 126
        · have h2' : decide ((126 : Int) < (c.toNat : Int)) = false := decide_eq_false (by omega)
          have hs2 := Lib.hid (hs.out.trans (by rw [decide_eq_true h1, decide_eq_true h2]))
          clear hs h1 h2 hfalse
          go_wp2
          go_round
          case rel => exact ⟨i + 1, by omega, by go_num, Lib.hid fun j hj => by
            by_cases e : j = i
            · subst e; exact hs2.out
            · exact hp.out j (by omega)⟩
          case measure => simp [intOf]; omega
        · have h2' : decide ((126 : Int) < (c.toNat : Int)) = true := decide_eq_true (by omega)
          have hs2 := Lib.hid (hfalse.out (hs.out.trans (by rw [decide_eq_false h2, Bool.and_false])))
          clear hs h1 h2 hfalse
          go_wp2
          go_ret
          exact ⟨by rw [hs2.out]; rfl, rfl⟩
      · have h1' : decide ((c.toNat : Int) < a) = true := decide_eq_true (by omega)
        have hs2 := Lib.hid (hfalse.out (hs.out.trans (by rw [decide_eq_false h1]; rfl)))
        clear hs h1 hfalse
        go_wp2
        go_ret
        exact ⟨by rw [hs2.out]; rfl, rfl⟩
    · obtain rfl : i = l.length := by omega
      have hs : RowKit.Hid (shownB a l = true) := Lib.hid (allI_true.2 hp.out)
      go_wp2
      go_ret
      exact ⟨by rw [hs.out]; rfl, rfl⟩
set_option maxHeartbeats 1000000 in
theorem refWord_any (l : List UInt8) (hl : l.length ≤ 9223372036854775807) (w : World) :
    Calls Try.prog 31 #[.string (str l)] w fun e w' => e = .returned (.bool (wordB l)) ∧ w = w' := by
  by_cases hn : l = []
  · subst hn
    have hq : seq [] [] = true := rfl
    go_enter Try.func31, Try.ntmps31
    go_wp2
    go_ret
    exact ⟨rfl, rfl⟩
  have hq : seq l [] = false := seq_false.2 hn
  by_cases h60 : (l.length : Int) ≤ 60
  rotate_left
  · have hs : RowKit.Hid (wordB l = false) := Lib.hid (by unfold wordB; rw [decide_eq_false h60, Bool.and_false, Bool.and_false])
    go_enter Try.func31, Try.ntmps31
    go_wp2
    go_ret
    exact ⟨by rw [hs.out]; rfl, rfl⟩
  have hnh := Lib.hid hn
  clear hn
  go_enter Try.func31, Try.ntmps31
  go_wp2
  go_loop [3] (fun k => ∃ i : Nat, i ≤ l.length ∧ k = .int .i64 i ∧ RowKit.Hid (∀ j, j < i → okAt l j = true)) (fun k => l.length - (intOf k).toNat)
  case atStart => exact ⟨0, by omega, rfl, Lib.hid (fun j hj => by omega)⟩
  case round =>
    obtain ⟨i, hi, rfl, hp⟩ := hrel
    by_cases hlt : i < l.length
    · have hil : (i : Int) < (l.length : Int) := by omega
      have hw : IntKind.i64.wrap ((i : Int) + 1) = (i : Int) + 1 := by rw [IntKind.wrap_i64]; omega
      have hnext : RowKit.Hid (okAt l i = true → ∀ j, j < i + 1 → okAt l j = true) := Lib.hid fun h j hj => by
        by_cases e : j = i
        · subst e; exact h
        · exact hp.out j (by omega)
      have hfalse : RowKit.Hid (okAt l i = false → wordB l = false) := Lib.hid fun h => okAt_false h hlt
      obtain ⟨c, hc⟩ : ∃ c, c = byteAt l i := ⟨_, rfl⟩
      have hcs : ((byteAt l i).toNat : Int) = (c.toNat : Int) := by rw [hc]
      have hct : ((byteAt l ((i : Int)).toNat).toNat : Int) = (c.toNat : Int) := by rw [hc]; congr 1
      have hs : RowKit.Hid (okAt l i = (letterB c || (decide (i ≠ 0) && otherB c))) := Lib.hid (by rw [hc]; rfl)
      clear hc
      have hz := byte_lt c
      have hlr : RowKit.Hid (letterB c = true ↔ (97 ≤ (c.toNat : Int) ∧ (c.toNat : Int) ≤ 122) ∨ (65 ≤ (c.toNat : Int) ∧ (c.toNat : Int) ≤ 90)) := Lib.hid (by unfold letterB; simp)
      have hor : RowKit.Hid (otherB c = true ↔ (48 ≤ (c.toNat : Int) ∧ (c.toNat : Int) ≤ 57) ∨ (c.toNat : Int) = 45 ∨ (c.toNat : Int) = 95) := Lib.hid (by unfold otherB; simp [or_assoc])
      generalize (c.toNat : Int) = z at *
      have hcase : (z < 45) ∨ z = 45 ∨ (45 < z ∧ z < 48) ∨ (48 ≤ z ∧ z ≤ 57) ∨ (57 < z ∧ z < 65) ∨ (65 ≤ z ∧ z ≤ 90) ∨ (90 < z ∧ z < 95) ∨ z = 95 ∨ (95 < z ∧ z < 97) ∨ (97 ≤ z ∧ z ≤ 122) ∨ 122 < z := by omega
      have h00 : RowKit.Hid (i = 0 ∨ ¬ i = 0) := Lib.hid (by omega)
      rcases hcase with h1 | h1 | ⟨h1, h2⟩ | ⟨h1, h2⟩ | ⟨h1, h2⟩ | ⟨h1, h2⟩ | ⟨h1, h2⟩ | h1 | ⟨h1, h2⟩ | ⟨h1, h2⟩ | h1
      · have lv := Lib.hid (iff_no hlr.out (by omega))
        have ov := Lib.hid (iff_no hor.out (by omega))
        clear hlr hor
        have d0 : decide (97 ≤ z) = false := decide_eq_false (by omega)
        have d1 : decide (z ≤ 122) = true := decide_eq_true (by omega)
        have d2 : decide (65 ≤ z) = false := decide_eq_false (by omega)
        have d3 : decide (z ≤ 90) = true := decide_eq_true (by omega)
        have d4 : decide (48 ≤ z) = false := decide_eq_false (by omega)
        have d5 : decide (z ≤ 57) = true := decide_eq_true (by omega)
        have n45 : (z == 45) = false := by simp; omega
        have n95 : (z == 95) = false := by simp; omega
        clear h1
        rcases h00.out with rfl | h0
        · have hs2 := Lib.hid (hfalse.out (hs.out.trans (by rw [lv.out]; rfl)))
          clear hs hfalse hnext h00
          go_wp2
          go_ret
          exact ⟨by rw [hs2.out]; rfl, rfl⟩
        · have h0' : ((i : Int) == 0) = false := by simp; omega
          have hs2 := Lib.hid (hfalse.out (hs.out.trans (by rw [lv.out, ov.out, Bool.and_false]; rfl)))
          clear hs hfalse hnext h00
          go_wp2
          go_ret
          exact ⟨by rw [hs2.out]; rfl, rfl⟩
      · have lv := Lib.hid (iff_no hlr.out (by omega))
        have ov := Lib.hid (hor.out.2 (by omega))
        clear hlr hor
        subst h1
        rcases h00.out with rfl | h0
        · have hs2 := Lib.hid (hfalse.out (hs.out.trans (by rw [lv.out]; rfl)))
          clear hs hfalse hnext h00
          go_wp2
          go_ret
          exact ⟨by rw [hs2.out]; rfl, rfl⟩
        · have h0' : ((i : Int) == 0) = false := by simp; omega
          have hs2 := Lib.hid (hnext.out (hs.out.trans (by rw [lv.out, ov.out, decide_eq_true h0]; rfl)))
          clear hs hfalse hnext h00
          go_wp2
          go_round
          case rel => exact ⟨i + 1, by omega, by go_num, hs2⟩
          case measure => simp [intOf]; omega
      · have lv := Lib.hid (iff_no hlr.out (by omega))
        have ov := Lib.hid (iff_no hor.out (by omega))
        clear hlr hor
        have d0 : decide (97 ≤ z) = false := decide_eq_false (by omega)
        have d1 : decide (z ≤ 122) = true := decide_eq_true (by omega)
        have d2 : decide (65 ≤ z) = false := decide_eq_false (by omega)
        have d3 : decide (z ≤ 90) = true := decide_eq_true (by omega)
        have d4 : decide (48 ≤ z) = false := decide_eq_false (by omega)
        have d5 : decide (z ≤ 57) = true := decide_eq_true (by omega)
        have n45 : (z == 45) = false := by simp; omega
        have n95 : (z == 95) = false := by simp; omega
        clear h1 h2
        rcases h00.out with rfl | h0
        · have hs2 := Lib.hid (hfalse.out (hs.out.trans (by rw [lv.out]; rfl)))
          clear hs hfalse hnext h00
          go_wp2
          go_ret
          exact ⟨by rw [hs2.out]; rfl, rfl⟩
        · have h0' : ((i : Int) == 0) = false := by simp; omega
          have hs2 := Lib.hid (hfalse.out (hs.out.trans (by rw [lv.out, ov.out, Bool.and_false]; rfl)))
          clear hs hfalse hnext h00
          go_wp2
          go_ret
          exact ⟨by rw [hs2.out]; rfl, rfl⟩
      · have lv := Lib.hid (iff_no hlr.out (by omega))
        have ov := Lib.hid (hor.out.2 (by omega))
        clear hlr hor
        have d0 : decide (97 ≤ z) = false := decide_eq_false (by omega)
        have d1 : decide (z ≤ 122) = true := decide_eq_true (by omega)
        have d2 : decide (65 ≤ z) = false := decide_eq_false (by omega)
        have d3 : decide (z ≤ 90) = true := decide_eq_true (by omega)
        have d4 : decide (48 ≤ z) = true := decide_eq_true (by omega)
        have d5 : decide (z ≤ 57) = true := decide_eq_true (by omega)
        have n45 : (z == 45) = false := by simp; omega
        have n95 : (z == 95) = false := by simp; omega
        clear h1 h2
        rcases h00.out with rfl | h0
        · have hs2 := Lib.hid (hfalse.out (hs.out.trans (by rw [lv.out]; rfl)))
          clear hs hfalse hnext h00
          go_wp2
          go_ret
          exact ⟨by rw [hs2.out]; rfl, rfl⟩
        · have h0' : ((i : Int) == 0) = false := by simp; omega
          have hs2 := Lib.hid (hnext.out (hs.out.trans (by rw [lv.out, ov.out, decide_eq_true h0]; rfl)))
          clear hs hfalse hnext h00
          go_wp2
          go_round
          case rel => exact ⟨i + 1, by omega, by go_num, hs2⟩
          case measure => simp [intOf]; omega
      · have lv := Lib.hid (iff_no hlr.out (by omega))
        have ov := Lib.hid (iff_no hor.out (by omega))
        clear hlr hor
        have d0 : decide (97 ≤ z) = false := decide_eq_false (by omega)
        have d1 : decide (z ≤ 122) = true := decide_eq_true (by omega)
        have d2 : decide (65 ≤ z) = false := decide_eq_false (by omega)
        have d3 : decide (z ≤ 90) = true := decide_eq_true (by omega)
        have d4 : decide (48 ≤ z) = true := decide_eq_true (by omega)
        have d5 : decide (z ≤ 57) = false := decide_eq_false (by omega)
        have n45 : (z == 45) = false := by simp; omega
        have n95 : (z == 95) = false := by simp; omega
        clear h1 h2
        rcases h00.out with rfl | h0
        · have hs2 := Lib.hid (hfalse.out (hs.out.trans (by rw [lv.out]; rfl)))
          clear hs hfalse hnext h00
          go_wp2
          go_ret
          exact ⟨by rw [hs2.out]; rfl, rfl⟩
        · have h0' : ((i : Int) == 0) = false := by simp; omega
          have hs2 := Lib.hid (hfalse.out (hs.out.trans (by rw [lv.out, ov.out, Bool.and_false]; rfl)))
          clear hs hfalse hnext h00
          go_wp2
          go_ret
          exact ⟨by rw [hs2.out]; rfl, rfl⟩
      · have lv := Lib.hid (hlr.out.2 (by omega))
        have ov := Lib.hid (iff_no hor.out (by omega))
        clear hlr hor
        have d0 : decide (97 ≤ z) = false := decide_eq_false (by omega)
        have d1 : decide (z ≤ 122) = true := decide_eq_true (by omega)
        have d2 : decide (65 ≤ z) = true := decide_eq_true (by omega)
        have d3 : decide (z ≤ 90) = true := decide_eq_true (by omega)
        have d4 : decide (48 ≤ z) = true := decide_eq_true (by omega)
        have d5 : decide (z ≤ 57) = false := decide_eq_false (by omega)
        have n45 : (z == 45) = false := by simp; omega
        have n95 : (z == 95) = false := by simp; omega
        clear h1 h2
        rcases h00.out with rfl | h0
        · have hs2 := Lib.hid (hnext.out (hs.out.trans (by rw [lv.out]; rfl)))
          clear hs hfalse hnext h00
          go_wp2
          go_round
          case rel => exact ⟨1, by omega, by go_num, hs2⟩
          case measure => simp [intOf]; omega
        · have h0' : ((i : Int) == 0) = false := by simp; omega
          have hs2 := Lib.hid (hnext.out (hs.out.trans (by rw [lv.out]; rfl)))
          clear hs hfalse hnext h00
          go_wp2
          go_round
          case rel => exact ⟨i + 1, by omega, by go_num, hs2⟩
          case measure => simp [intOf]; omega
      · have lv := Lib.hid (iff_no hlr.out (by omega))
        have ov := Lib.hid (iff_no hor.out (by omega))
        clear hlr hor
        have d0 : decide (97 ≤ z) = false := decide_eq_false (by omega)
        have d1 : decide (z ≤ 122) = true := decide_eq_true (by omega)
        have d2 : decide (65 ≤ z) = true := decide_eq_true (by omega)
        have d3 : decide (z ≤ 90) = false := decide_eq_false (by omega)
        have d4 : decide (48 ≤ z) = true := decide_eq_true (by omega)
        have d5 : decide (z ≤ 57) = false := decide_eq_false (by omega)
        have n45 : (z == 45) = false := by simp; omega
        have n95 : (z == 95) = false := by simp; omega
        clear h1 h2
        rcases h00.out with rfl | h0
        · have hs2 := Lib.hid (hfalse.out (hs.out.trans (by rw [lv.out]; rfl)))
          clear hs hfalse hnext h00
          go_wp2
          go_ret
          exact ⟨by rw [hs2.out]; rfl, rfl⟩
        · have h0' : ((i : Int) == 0) = false := by simp; omega
          have hs2 := Lib.hid (hfalse.out (hs.out.trans (by rw [lv.out, ov.out, Bool.and_false]; rfl)))
          clear hs hfalse hnext h00
          go_wp2
          go_ret
          exact ⟨by rw [hs2.out]; rfl, rfl⟩
      · have lv := Lib.hid (iff_no hlr.out (by omega))
        have ov := Lib.hid (hor.out.2 (by omega))
        clear hlr hor
        subst h1
        rcases h00.out with rfl | h0
        · have hs2 := Lib.hid (hfalse.out (hs.out.trans (by rw [lv.out]; rfl)))
          clear hs hfalse hnext h00
          go_wp2
          go_ret
          exact ⟨by rw [hs2.out]; rfl, rfl⟩
        · have h0' : ((i : Int) == 0) = false := by simp; omega
          have hs2 := Lib.hid (hnext.out (hs.out.trans (by rw [lv.out, ov.out, decide_eq_true h0]; rfl)))
          clear hs hfalse hnext h00
          go_wp2
          go_round
          case rel => exact ⟨i + 1, by omega, by go_num, hs2⟩
          case measure => simp [intOf]; omega
      · have lv := Lib.hid (iff_no hlr.out (by omega))
        have ov := Lib.hid (iff_no hor.out (by omega))
        clear hlr hor
        have d0 : decide (97 ≤ z) = false := decide_eq_false (by omega)
        have d1 : decide (z ≤ 122) = true := decide_eq_true (by omega)
        have d2 : decide (65 ≤ z) = true := decide_eq_true (by omega)
        have d3 : decide (z ≤ 90) = false := decide_eq_false (by omega)
        have d4 : decide (48 ≤ z) = true := decide_eq_true (by omega)
        have d5 : decide (z ≤ 57) = false := decide_eq_false (by omega)
        have n45 : (z == 45) = false := by simp; omega
        have n95 : (z == 95) = false := by simp; omega
        clear h1 h2
        rcases h00.out with rfl | h0
        · have hs2 := Lib.hid (hfalse.out (hs.out.trans (by rw [lv.out]; rfl)))
          clear hs hfalse hnext h00
          go_wp2
          go_ret
          exact ⟨by rw [hs2.out]; rfl, rfl⟩
        · have h0' : ((i : Int) == 0) = false := by simp; omega
          have hs2 := Lib.hid (hfalse.out (hs.out.trans (by rw [lv.out, ov.out, Bool.and_false]; rfl)))
          clear hs hfalse hnext h00
          go_wp2
          go_ret
          exact ⟨by rw [hs2.out]; rfl, rfl⟩
      · have lv := Lib.hid (hlr.out.2 (by omega))
        have ov := Lib.hid (iff_no hor.out (by omega))
        clear hlr hor
        have d0 : decide (97 ≤ z) = true := decide_eq_true (by omega)
        have d1 : decide (z ≤ 122) = true := decide_eq_true (by omega)
        have d2 : decide (65 ≤ z) = true := decide_eq_true (by omega)
        have d3 : decide (z ≤ 90) = false := decide_eq_false (by omega)
        have d4 : decide (48 ≤ z) = true := decide_eq_true (by omega)
        have d5 : decide (z ≤ 57) = false := decide_eq_false (by omega)
        have n45 : (z == 45) = false := by simp; omega
        have n95 : (z == 95) = false := by simp; omega
        clear h1 h2
        rcases h00.out with rfl | h0
        · have hs2 := Lib.hid (hnext.out (hs.out.trans (by rw [lv.out]; rfl)))
          clear hs hfalse hnext h00
          go_wp2
          go_round
          case rel => exact ⟨1, by omega, by go_num, hs2⟩
          case measure => simp [intOf]; omega
        · have h0' : ((i : Int) == 0) = false := by simp; omega
          have hs2 := Lib.hid (hnext.out (hs.out.trans (by rw [lv.out]; rfl)))
          clear hs hfalse hnext h00
          go_wp2
          go_round
          case rel => exact ⟨i + 1, by omega, by go_num, hs2⟩
          case measure => simp [intOf]; omega
      · have lv := Lib.hid (iff_no hlr.out (by omega))
        have ov := Lib.hid (iff_no hor.out (by omega))
        clear hlr hor
        have d0 : decide (97 ≤ z) = true := decide_eq_true (by omega)
        have d1 : decide (z ≤ 122) = false := decide_eq_false (by omega)
        have d2 : decide (65 ≤ z) = true := decide_eq_true (by omega)
        have d3 : decide (z ≤ 90) = false := decide_eq_false (by omega)
        have d4 : decide (48 ≤ z) = true := decide_eq_true (by omega)
        have d5 : decide (z ≤ 57) = false := decide_eq_false (by omega)
        have n45 : (z == 45) = false := by simp; omega
        have n95 : (z == 95) = false := by simp; omega
        clear h1
        rcases h00.out with rfl | h0
        · have hs2 := Lib.hid (hfalse.out (hs.out.trans (by rw [lv.out]; rfl)))
          clear hs hfalse hnext h00
          go_wp2
          go_ret
          exact ⟨by rw [hs2.out]; rfl, rfl⟩
        · have h0' : ((i : Int) == 0) = false := by simp; omega
          have hs2 := Lib.hid (hfalse.out (hs.out.trans (by rw [lv.out, ov.out, Bool.and_false]; rfl)))
          clear hs hfalse hnext h00
          go_wp2
          go_ret
          exact ⟨by rw [hs2.out]; rfl, rfl⟩
    · obtain rfl : i = l.length := by omega
      have hs : RowKit.Hid (wordB l = true) := Lib.hid (by
        unfold wordB; rw [allI_true.2 hp.out, decide_eq_true h60, decide_eq_true hnh.out]; rfl)
      go_wp2
      go_ret
      exact ⟨by rw [hs.out]; rfl, rfl⟩
end Go.Proofs.Ytnhgkklbjhjggaa
