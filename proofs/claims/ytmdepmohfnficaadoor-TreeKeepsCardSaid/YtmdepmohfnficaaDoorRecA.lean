/- Records: what comes of what, and whether a record can be: the program's functions. -/
import Derived.Test.YtmdepmohfnficaaDoorRecMath
import Derived.Deep.RegionWith
import Derived.Deep.DeepCutAuto
namespace Go.Proofs.YtmdepmohfnficaaDoor
set_option linter.unusedVariables false
set_option linter.unusedSimpArgs false
open Go.RowKit Rk

/-- a record's value -/
abbrev recv (r : Rec) : Value := .agg #[.int .i64 r.kind, .string (str r.name), .string (str r.par), .string (str r.user), .string (str r.serv), .string (str r.url), .int .i64 r.made, .int .i64 r.used, .int .i64 r.uses, .bool r.fresh]

theorem cm_other {k : Int} (h : ¬ (1 ≤ k ∧ k ≤ 6)) (o : Int) : cm k o = false := by
  have h1 : (k == 1) = false := by rw [beq_eq_false_iff_ne]; omega
  have h2 : (k == 2) = false := by rw [beq_eq_false_iff_ne]; omega
  have h3 : (k == 3) = false := by rw [beq_eq_false_iff_ne]; omega
  have h4 : (k == 4) = false := by rw [beq_eq_false_iff_ne]; omega
  have h5 : (k == 5) = false := by rw [beq_eq_false_iff_ne]; omega
  have h6 : (k == 6) = false := by rw [beq_eq_false_iff_ne]; omega
  unfold cm; rw [h1, h2, h3, h4, h5, h6]; rfl
theorem comes_any (k o : Int) (w : World) :
    Calls Tryd.prog 113 #[.int .i64 k, .int .i64 o] w fun e w' => e = .returned (.bool (cm k o)) ∧ w = w' := by
  by_cases h : 1 ≤ k ∧ k ≤ 6
  · have hc : k = 1 ∨ k = 6 ∨ k = 2 ∨ k = 3 ∨ k = 5 ∨ k = 4 := by omega
    rcases hc with rfl | rfl | rfl | rfl | rfl | rfl
    · go_enter Tryd.func113, Tryd.ntmps113
      go_wp2
      go_ret
      exact ⟨by simp [cm], rfl⟩
    · go_enter Tryd.func113, Tryd.ntmps113
      go_wp2
      go_ret
      exact ⟨by simp [cm], rfl⟩
    · go_enter Tryd.func113, Tryd.ntmps113
      go_wp2
      go_ret
      exact ⟨by simp [cm], rfl⟩
    · go_enter Tryd.func113, Tryd.ntmps113
      go_wp2
      go_ret
      exact ⟨by simp [cm], rfl⟩
    · go_enter Tryd.func113, Tryd.ntmps113
      go_wp2
      go_ret
      exact ⟨by simp [cm], rfl⟩
    · by_cases h2 : o = 2
      · subst h2
        go_enter Tryd.func113, Tryd.ntmps113
        go_wp2
        go_ret
        exact ⟨by simp [cm], rfl⟩
      · have hb : (o == 2) = false := by rw [beq_eq_false_iff_ne]; exact h2
        go_enter Tryd.func113, Tryd.ntmps113
        go_wp2
        go_ret
        exact ⟨by simp [cm, hb], rfl⟩
  · have hcm := Lib.hid (cm_other h o)
    have h1 : (k == 1) = false := by rw [beq_eq_false_iff_ne]; omega
    have h2 : (k == 2) = false := by rw [beq_eq_false_iff_ne]; omega
    have h3 : (k == 3) = false := by rw [beq_eq_false_iff_ne]; omega
    have h4 : (k == 4) = false := by rw [beq_eq_false_iff_ne]; omega
    have h5 : (k == 5) = false := by rw [beq_eq_false_iff_ne]; omega
    have h6 : (k == 6) = false := by rw [beq_eq_false_iff_ne]; omega
    go_enter Tryd.func113, Tryd.ntmps113
    go_wp2
    go_ret
    exact ⟨by rw [hcm.out]; rfl, rfl⟩
attribute [local irreducible] cm isI Tk.pk Tk.pn Tk.pok

theorem parent_any (k : Int) (s : List UInt8) (hs : s.length ≤ 9223372036854775807) (w : World) (hw : Pres w) :
    Calls Tryd.prog 100 #[.int .i64 k, .string (str s)] w fun e w' => e = .returned (.bool (parI k s)) ∧ Ext w w' := by
  have e0 := Ext.refl w
  by_cases h0 : s = []
  · subst h0
    have hp : RowKit.Hid (parI k [] = cm k 0) := Lib.hid (by simp [parI])
    have hq := seq_self []
    go_enter Tryd.func100, Tryd.ntmps100
    go_wp2_with (go_at_call 113; refine (comes_any _ _ _).mono ?_; rintro e w' ⟨rfl, rfl⟩)
    go_ret
    exact ⟨by rw [hp.out]; rfl, e0⟩
  · have hq : seq s [] = false := seq_false.2 h0
    cases hok : Tk.pok s
    · have hp : RowKit.Hid (parI k s = false) := Lib.hid (by unfold parI; rw [if_neg h0, hok]; rfl)
      go_enter Tryd.func100, Tryd.ntmps100
      go_wp2_with (first
        | (go_at_call 113; refine (comes_any _ _ _).mono ?_; rintro e w' ⟨rfl, rfl⟩)
        | (go_at_call 112; refine (parse_any _ (by omega) _ hw).mono ?_; rintro e w' ⟨rfl, h⟩; have e0 := e0.trans h))
      go_ret
      exact ⟨by rw [hp.out]; rfl, e0⟩
    · have hp : RowKit.Hid (parI k s = cm k (Tk.pk s)) := Lib.hid (by unfold parI; rw [if_neg h0, hok]; rfl)
      go_enter Tryd.func100, Tryd.ntmps100
      go_wp2_with (first
        | (go_at_call 113; refine (comes_any _ _ _).mono ?_; rintro e w' ⟨rfl, rfl⟩)
        | (go_at_call 112; refine (parse_any _ (by omega) _ hw).mono ?_; rintro e w' ⟨rfl, h⟩; have e0 := e0.trans h))
      go_ret
      exact ⟨by rw [hp.out]; rfl, e0⟩

theorem cell_new (w : World) (C : Array Value) (E : TypeId) (j : Nat) (u : Value) (h : C[j]? = some u) : (w.alloc (.cells C E)).cell? ⟨w.heap.size, j, none⟩ = some u := by
  rw [cell_of_row _ _ _ _ _ _ (heap_alloc_new w _), h]
/-- a record whose texts are not longer than any memory -/
def Fits (r : Rec) : Prop := r.name.length ≤ 9223372036854775807 ∧ r.par.length ≤ 9223372036854775807 ∧ r.user.length ≤ 9223372036854775807 ∧ r.serv.length ≤ 9223372036854775807 ∧ r.url.length ≤ 9223372036854775807
theorem right_any (r : Rec) (hf : Fits r) (w : World) (hw : Pres w) :
    Calls Tryd.prog 84 #[recv r] w fun e w' => e = .returned (.bool (rightI r)) ∧ Ext w w' := by
  have e0 := Ext.refl w
  obtain ⟨k, n, p, u, sv, ur, m, us, ct, f⟩ := r
  obtain ⟨h1, h2, h3, h4, h5⟩ := hf
  simp only at h1 h2 h3 h4 h5
  obtain ⟨r, hr⟩ : ∃ r, r = (⟨k, n, p, u, sv, ur, m, us, ct, f⟩ : Rec) := ⟨_, rfl⟩
  have hR : RowKit.Hid (rightI r = (textsI r && numsI r && isI n k && parI k p)) := Lib.hid (by rw [hr]; rfl)
  have hT : RowKit.Hid (textsI r = (decide (u.length ≤ 32) && decide (sv.length ≤ 100) && decide (ur.length ≤ 100))) := Lib.hid (by rw [hr]; rfl)
  have hN : RowKit.Hid (numsI r = (decide (0 ≤ m) && decide (m ≤ us) && decide (us ≤ 1099511627776) && decide (0 ≤ ct) && decide (ct ≤ 255))) := Lib.hid (by rw [hr]; rfl)
  rw [← hr]
  unfold recv
  rw [hr]
  simp only
  rw [← hr]
  clear hr
  go_enter Tryd.func84, Tryd.ntmps84
  go_upto_region 1 with fail
  go_cut [3] (fun t wd => t = .bool (textsI r) ∧ w.alloc (.cells #[.int .i64 k, .string (str n), .string (str p), .string (str u), .string (str sv), .string (str ur), .int .i64 m, .int .i64 us, .int .i64 ct, .bool f] 36) = wd)
  case first =>
    go_wp2
    all_goals
      go_meet
      case rel =>
        refine ⟨?_, rfl⟩
        rw [hT.out, Value.bool.injEq, Bool.eq_iff_iff]
        simp <;> omega
  case rest =>
    obtain ⟨rfl, rfl⟩ := hcut
    go_upto_region 2 with fail
    go_cut [4] (fun t wd => t = .bool (numsI r) ∧ w.alloc (.cells #[.int .i64 k, .string (str n), .string (str p), .string (str u), .string (str sv), .string (str ur), .int .i64 m, .int .i64 us, .int .i64 ct, .bool f] 36) = wd)
    case first =>
      go_wp2
      all_goals
        go_meet
        case rel =>
          refine ⟨?_, rfl⟩
          rw [hN.out, Value.bool.injEq, Bool.eq_iff_iff]
          simp <;> omega
    case rest =>
      obtain ⟨rfl, rfl⟩ := hcut
      have e0 := (Ext.refl w).alloc (.cells #[.int .i64 k, .string (str n), .string (str p), .string (str u), .string (str sv), .string (str ur), .int .i64 m, .int .i64 us, .int .i64 ct, .bool f] 36)
      cases ht : textsI r
      · go_wp2
        go_ret
        exact ⟨by rw [hR.out, ht]; rfl, e0⟩
      · cases hn : numsI r
        · go_wp2
          go_ret
          exact ⟨by rw [hR.out, ht, hn]; rfl, e0⟩
        · have hR2 : RowKit.Hid (rightI r = (isI n k && parI k p)) := Lib.hid (by rw [hR.out, ht, hn]; rfl)
          have k0 := cell_new w #[.int .i64 k, .string (str n), .string (str p), .string (str u), .string (str sv), .string (str ur), .int .i64 m, .int .i64 us, .int .i64 ct, .bool f] 36 0 _ rfl
          have k2 := cell_new w #[.int .i64 k, .string (str n), .string (str p), .string (str u), .string (str sv), .string (str ur), .int .i64 m, .int .i64 us, .int .i64 ct, .bool f] 36 2 _ rfl
          cases hi : isI n k
          · go_wp2_with (go_at_call 99; refine (is_any _ (by omega) _ _ (hw.ext e0)).mono ?_; rintro e w' ⟨rfl, h⟩; have e0 := e0.trans h)
            go_ret
            exact ⟨by rw [hR2.out, hi]; rfl, e0⟩
          · go_wp2_with (first
              | (go_at_call 99; refine (is_any _ (by omega) _ _ (hw.ext e0)).mono ?_; rintro e w' ⟨rfl, h⟩; have e1 := e0.trans h; have c0 := h.cell k0; have c2 := h.cell k2)
              | (go_at_call 100; refine (parent_any _ _ (by omega) _ (hw.ext e1)).mono ?_; rintro e w' ⟨rfl, h⟩; have e0 := e1.trans h))
            go_ret
            exact ⟨by rw [hR2.out, hi]; rfl, e0⟩
end Go.Proofs.YtmdepmohfnficaaDoor
