/- Package creds: right; the document's Right. -/
import Derived.Test.YtnhgkklbjhjggaaCrD
import Derived.Deep.DeepCutAuto
import Derived.Deep.CutBlock
namespace Go.Proofs.Ytnhgkklbjhjggaa
open Go.RowKit Cr

theorem right_any (u : Us) (sl : Value) (w : World) (hp : Prs w sl u.a) (hu : usF u) :
    Calls Try.prog 22 #[.agg #[.string (str u.n), .string (str u.p), sl]] w fun e w' => e = .returned (.bool (rightU u)) ∧ Ext w w' := by
  have e0 := Ext.refl w
  obtain ⟨f1, f2⟩ := hu
  unfold fit at f1 f2
  have hlp : (u.p.length : Int) ≤ 9223372036854775807 := by omega
  have hwi := within_any u.n 33 1 32 f1
  have hR : RowKit.Hid (rightU u = (withinB 33 1 32 u.n && decide (1 ≤ (u.p.length : Int)) && decide ((u.p.length : Int) ≤ 60) && decide ((u.a.length : Int) ≤ 8) && !u.a.any badP)) := Lib.hid rfl
  have hC := fun W (e : Ext w W) => containsFunc_any sl u.a W (hp.ext e)
  obtain ⟨a2, cap2, rfl, hlen2, -⟩ := Rw.shape hp
  have hCh := Lib.hid hC
  clear hC hp
  cases hW : withinB 33 1 32 u.n
  · rw [hW] at hwi hR
    have hn := Lib.hid (hR.out.trans (by simp : _ = false))
    clear hR
    go_enter Try.func22, Try.ntmps22
    go_wp2_with (go_at_call 28; refine (hwi _).mono ?_; rintro e w' ⟨rfl, rfl⟩)
    go_ret
    exact ⟨by rw [hn.out]; rfl, e0.alloc _⟩
  rw [hW] at hwi hR
  clear hW
  by_cases h1 : 1 ≤ (u.p.length : Int)
  rotate_left
  · have d1 : decide (1 ≤ (u.p.length : Int)) = false := decide_eq_false h1
    have hn := Lib.hid (hR.out.trans (by rw [d1]; simp : _ = false))
    clear hR h1
    go_enter Try.func22, Try.ntmps22
    go_wp2_with (go_at_call 28; refine (hwi _).mono ?_; rintro e w' ⟨rfl, rfl⟩)
    go_ret
    exact ⟨by rw [hn.out]; rfl, e0.alloc _⟩
  have d1 : decide (1 ≤ (u.p.length : Int)) = true := decide_eq_true h1
  by_cases h2 : (u.p.length : Int) ≤ 60
  rotate_left
  · have d2 : decide ((u.p.length : Int) ≤ 60) = false := decide_eq_false h2
    have hn := Lib.hid (hR.out.trans (by rw [d2]; simp : _ = false))
    clear hR h1 h2
    go_enter Try.func22, Try.ntmps22
    go_wp2_with (go_at_call 28; refine (hwi _).mono ?_; rintro e w' ⟨rfl, rfl⟩)
    go_ret
    exact ⟨by rw [hn.out]; rfl, e0.alloc _⟩
  have d2 : decide ((u.p.length : Int) ≤ 60) = true := decide_eq_true h2
  by_cases h3 : (u.a.length : Int) ≤ 8
  rotate_left
  · have d3 : decide ((u.a.length : Int) ≤ 8) = false := decide_eq_false h3
    have hn := Lib.hid (hR.out.trans (by rw [d3]; simp : _ = false))
    clear hR h1 h2 h3
    go_enter Try.func22, Try.ntmps22
    go_wp2_with (go_at_call 28; refine (hwi _).mono ?_; rintro e w' ⟨rfl, rfl⟩)
    go_ret
    exact ⟨by rw [hn.out]; rfl, e0.alloc _⟩
  have d3 : decide ((u.a.length : Int) ≤ 8) = true := decide_eq_true h3
  have hn := Lib.hid (hR.out.trans (by rw [d1, d2, d3]; simp : _ = !u.a.any badP))
  clear hR h1 h2 h3
  go_enter Try.func22, Try.ntmps22
  go_wp2_with (first
    | (go_at_call 28; refine (hwi _).mono ?_; rintro e w' ⟨rfl, rfl⟩)
    | (go_at_call 29; refine (hCh.out _ (e0.alloc _)).mono ?_; rintro e w' ⟨rfl, e2⟩))
  go_ret
  exact ⟨by rw [hn.out]; cases u.a.any badP <;> rfl, (e0.alloc _).trans e2⟩

theorem refRight_any (u : Us) (sl : Value) (w : World) (hp : Prs w sl u.a) (hu : usF u) :
    Calls Try.prog 24 #[.agg #[.string (str u.n), .string (str u.p), sl]] w fun e w' => e = .returned (.bool (rightU u)) ∧ Ext w w' := by
  have e0 := Ext.refl w
  obtain ⟨f1, f2⟩ := hu
  unfold fit at f1 f2
  have hlp : (u.p.length : Int) ≤ 9223372036854775807 := by omega
  have hln : (u.n.length : Int) ≤ 9223372036854775807 := by omega
  have hsh := shown_any u.n 33 f1
  have hR : RowKit.Hid (rightU u = (shownB 33 u.n && (decide (1 ≤ (u.n.length : Int)) && decide ((u.n.length : Int) ≤ 32)) && decide (1 ≤ (u.p.length : Int)) && decide ((u.p.length : Int) ≤ 60) && decide ((u.a.length : Int) ≤ 8) && !u.a.any badP)) := Lib.hid rfl
  obtain ⟨a2, cap2, rfl, hlen2, hget⟩ := Rw.shape hp
  have hgh := Lib.hid hget
  clear hget hp
  have hq : ∀ l : List UInt8, (¬ 1 ≤ (l.length : Int) → seq l [] = true) ∧ (1 ≤ (l.length : Int) → seq l [] = false) := fun l => by
    cases l with
    | nil => exact ⟨fun _ => rfl, fun h => by simp at h⟩
    | cons x r => exact ⟨fun h => by exfalso; apply h; simp; omega, fun _ => rfl⟩
  have hqh := Lib.hid hq
  clear hq
  by_cases h0 : 1 ≤ (u.n.length : Int)
  rotate_left
  · have hs := (hqh.out _).1 h0
    have hn := Lib.hid (hR.out.trans (by rw [decide_eq_false h0]; simp : _ = false))
    clear hR h0 hqh
    go_enter Try.func24, Try.ntmps24
    go_wp2
    go_ret
    exact ⟨by rw [hn.out]; rfl, e0.alloc _⟩
  have s0 := (hqh.out _).2 h0
  have d0 : decide (1 ≤ (u.n.length : Int)) = true := decide_eq_true h0
  by_cases h4 : (u.n.length : Int) ≤ 32
  rotate_left
  · have d4 : decide ((32 : Int) < (u.n.length : Int)) = true := decide_eq_true (by omega)
    have hn := Lib.hid (hR.out.trans (by rw [decide_eq_false h4]; simp : _ = false))
    clear hR h0 h4 hqh d0
    go_enter Try.func24, Try.ntmps24
    go_wp2
    go_ret
    exact ⟨by rw [hn.out]; rfl, e0.alloc _⟩
  have d4 : decide ((32 : Int) < (u.n.length : Int)) = false := decide_eq_false (by omega)
  have d4' : decide ((u.n.length : Int) ≤ 32) = true := decide_eq_true h4
  by_cases h1 : 1 ≤ (u.p.length : Int)
  rotate_left
  · have hs := (hqh.out _).1 h1
    have hn := Lib.hid (hR.out.trans (by rw [decide_eq_false h1]; simp : _ = false))
    clear hR h0 h1 h4 hqh d0 d4'
    go_enter Try.func24, Try.ntmps24
    go_wp2
    go_ret
    exact ⟨by rw [hn.out]; rfl, e0.alloc _⟩
  have s1 := (hqh.out _).2 h1
  have d1 : decide (1 ≤ (u.p.length : Int)) = true := decide_eq_true h1
  by_cases h2 : (u.p.length : Int) ≤ 60
  rotate_left
  · have d2 : decide ((60 : Int) < (u.p.length : Int)) = true := decide_eq_true (by omega)
    have hn := Lib.hid (hR.out.trans (by rw [decide_eq_false h2]; simp : _ = false))
    clear hR h0 h1 h4 hqh d0 d4' d1 h2
    go_enter Try.func24, Try.ntmps24
    go_wp2
    go_ret
    exact ⟨by rw [hn.out]; rfl, e0.alloc _⟩
  have d2 : decide ((60 : Int) < (u.p.length : Int)) = false := decide_eq_false (by omega)
  by_cases h3 : (u.a.length : Int) ≤ 8
  rotate_left
  · have d3 : decide ((8 : Int) < (u.a.length : Int)) = true := decide_eq_true (by omega)
    have hn := Lib.hid (hR.out.trans (by rw [decide_eq_false h3]; simp : _ = false))
    clear hR h0 h1 h4 hqh d0 d4' d1 h2 h3
    go_enter Try.func24, Try.ntmps24
    go_wp2
    go_ret
    exact ⟨by rw [hn.out]; rfl, e0.alloc _⟩
  have d3 : decide ((8 : Int) < (u.a.length : Int)) = false := decide_eq_false (by omega)
  have hn := Lib.hid (hR.out.trans (by rw [d0, d4', d1, decide_eq_true h2, decide_eq_true h3]; simp : _ = (shownB 33 u.n && !u.a.any badP)))
  clear hR h0 h1 h4 hqh d0 d4' d1 h2 h3
  cases hS : shownB 33 u.n
  · rw [hS] at hsh hn
    have hn2 := Lib.hid (hn.out.trans (by simp : _ = false))
    clear hn hS
    go_enter Try.func24, Try.ntmps24
    go_wp2_with (go_at_call 30; refine (hsh _).mono ?_; rintro e w' ⟨rfl, rfl⟩)
    go_ret
    exact ⟨by rw [hn2.out]; rfl, e0.alloc _⟩
  rw [hS] at hsh hn
  have hn2 := Lib.hid (hn.out.trans (by simp : _ = !u.a.any badP))
  clear hn hS
  go_enter Try.func24, Try.ntmps24
  have hbx := heap_alloc_new w (.cells #[.string (str u.n), .string (str u.p), .slice a2 u.a.length cap2] 40)
  have eb := Lib.hid (e0.alloc (.cells #[.string (str u.n), .string (str u.p), .slice a2 u.a.length cap2] 40))
  have b2 := cell_of_row _ w.heap.size 2 _ _ _ hbx
  clear hbx e0
  go_upto_region 3 with (go_at_call 30; refine (hsh _).mono ?_; rintro e w' ⟨rfl, rfl⟩)
  generalize w.alloc (.cells #[.string (str u.n), .string (str u.p), .slice a2 u.a.length cap2] 40) = w1 at *
  generalize w.heap.size = B at *
  clear hsh
  go_wp2
  go_loopw [3] (fun i wr => ∃ k : Nat, k ≤ u.a.length ∧ i = .int .i64 (k : Int) ∧ RowKit.Hid (∀ j x, j < k → u.a[j]? = some x → badP x = false) ∧ Ext w1 wr) (fun i _ => u.a.length - (intOf i).toNat)
  case atStart => exact ⟨0, Nat.zero_le _, rfl, Lib.hid fun j x hj => by omega, Ext.refl w1⟩
  case round =>
    obtain ⟨k, hk, rfl, hd, ek⟩ := hrel
    have c2 := ek.cell b2
    by_cases hlt : k < u.a.length
    · obtain ⟨x, hx⟩ := some_at hlt
      obtain ⟨g, o, cs, rfl, hr, rfl, hf⟩ := hgh.out k x hx
      have hki : (k : Int) < (u.a.length : Int) := by omega
      have hw : IntKind.i64.wrap ((k : Int) + 1) = (k : Int) + 1 := by rw [IntKind.wrap_i64]; omega
      have hr2 : wr.rangeAt g (o + k * 2) [.string (str x.n), .string (str x.v)] := fun i u hu => (eb.out.trans ek).cell (hr i u hu)
      obtain ⟨q1, q2⟩ := hf
      unfold fit at q1 q2
      have hvl : (x.v.length : Int) ≤ 9223372036854775807 := by omega
      have hW := refWord_any x.n q1
      have hSh := shown_any x.v 32 q2
      have hxh := Lib.hid hx
      have hB : RowKit.Hid (badP x = (!wordB x.n || !(shownB 32 x.v && (decide (0 ≤ (x.v.length : Int)) && decide ((x.v.length : Int) ≤ 60))))) := Lib.hid rfl
      have hbad : RowKit.Hid (badP x = true → (!u.a.any badP) = false) := Lib.hid fun h => by rw [any_true hxh.out h]; rfl
      have hgood : RowKit.Hid (badP x = false → ∀ j y, j < k + 1 → u.a[j]? = some y → badP y = false) := Lib.hid fun h j y hj hy => by
        by_cases e : j = k
        · subst e; rw [hxh.out] at hy; cases hy; exact h
        · exact hd.out j y (by omega) hy
      clear hr hx hxh
      cases h5 : wordB x.n
      · rw [h5] at hW hB
        have hn3 := Lib.hid (hbad.out (hB.out.trans (by simp)))
        clear hB hbad hgood hSh
        go_wp2_with (first
          | (refine wpList_load_mid rfl 42 _ rfl g (o + k * 2) rfl [.string (str x.n), .string (str x.v)] _ hr2 Try.underlying42 rfl info_pair ?_)
          | (go_at_call 31; refine (hW _).mono ?_; rintro e w' ⟨rfl, rfl⟩))
        go_ret
        exact ⟨by rw [hn2.out, hn3.out]; rfl, (eb.out.trans ek).alloc _⟩
      rw [h5] at hW hB
      by_cases h6 : (x.v.length : Int) ≤ 60
      rotate_left
      · have d6 : decide ((60 : Int) < (x.v.length : Int)) = true := decide_eq_true (by omega)
        have hn3 := Lib.hid (hbad.out (hB.out.trans (by rw [decide_eq_false h6]; simp)))
        clear hB hbad hgood hSh h6
        go_wp2_with (first
          | (refine wpList_load_mid rfl 42 _ rfl g (o + k * 2) rfl [.string (str x.n), .string (str x.v)] _ hr2 Try.underlying42 rfl info_pair ?_)
          | (go_at_call 31; refine (hW _).mono ?_; rintro e w' ⟨rfl, rfl⟩))
        go_ret
        exact ⟨by rw [hn2.out, hn3.out]; rfl, (eb.out.trans ek).alloc _⟩
      have d6 : decide ((60 : Int) < (x.v.length : Int)) = false := decide_eq_false (by omega)
      have hB2 := Lib.hid (hB.out.trans (by rw [decide_eq_true h6]; simp : _ = !shownB 32 x.v))
      clear hB h6
      cases h7 : shownB 32 x.v
      · rw [h7] at hSh hB2
        have hn3 := Lib.hid (hbad.out (hB2.out.trans (by simp)))
        clear hB2 hbad hgood
        go_wp2_with (first
          | (refine wpList_load_mid rfl 42 _ rfl g (o + k * 2) rfl [.string (str x.n), .string (str x.v)] _ hr2 Try.underlying42 rfl info_pair ?_)
          | (go_at_call 31; refine (hW _).mono ?_; rintro e w' ⟨rfl, rfl⟩)
          | (go_at_call 30; refine (hSh _).mono ?_; rintro e w' ⟨rfl, rfl⟩))
        go_ret
        exact ⟨by rw [hn2.out, hn3.out]; rfl, (eb.out.trans ek).alloc _⟩
      · rw [h7] at hSh hB2
        have hn3 := Lib.hid (hgood.out (hB2.out.trans (by simp)))
        clear hB2 hbad hgood
        go_wp2_with (first
          | (refine wpList_load_mid rfl 42 _ rfl g (o + k * 2) rfl [.string (str x.n), .string (str x.v)] _ hr2 Try.underlying42 rfl info_pair ?_)
          | (go_at_call 31; refine (hW _).mono ?_; rintro e w' ⟨rfl, rfl⟩)
          | (go_at_call 30; refine (hSh _).mono ?_; rintro e w' ⟨rfl, rfl⟩))
        go_roundw
        case rel => exact ⟨k + 1, by omega, by go_num, hn3, ek.alloc _⟩
        case measure => simp [intOf]; omega
    · obtain rfl : k = u.a.length := by omega
      have hn3 := Lib.hid (hn2.out.trans (by rw [any_false hd.out]; rfl : _ = true))
      go_wp2
      go_ret
      exact ⟨by rw [hn3.out]; rfl, eb.out.trans ek⟩
end Go.Proofs.Ytnhgkklbjhjggaa
