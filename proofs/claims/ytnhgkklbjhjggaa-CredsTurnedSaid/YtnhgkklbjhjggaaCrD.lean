/- Package creds: which users can be; the document's Few and Right. -/
import Derived.Test.YtnhgkklbjhjggaaCrC
namespace Go.Proofs.Ytnhgkklbjhjggaa
open Go.RowKit Cr

namespace Cr
def smP (x : Pr) : Bool := decide (x.n.length ≤ 80) && decide (x.v.length ≤ 80)
def smU (u : Us) : Bool := decide (u.a.length ≤ 20) && decide (u.n.length ≤ 80) && decide (u.p.length ≤ 80) && u.a.all smP
def fewB (l : List Us) : Bool := l.all smU && decide (l.length ≤ 20)
def badP (a : Pr) : Bool := !wordB a.n || !withinB 32 0 60 a.v
def rightU (u : Us) : Bool := withinB 33 1 32 u.n && decide (1 ≤ (u.p.length : Int)) && decide ((u.p.length : Int) ≤ 60) && decide ((u.a.length : Int) ≤ 8) && !u.a.any badP
end Cr
theorem all_false {α : Type} {p : α → Bool} {l : List α} {j : Nat} {x : α} (h : l[j]? = some x) (hp : p x = false) : l.all p = false := by
  cases e : l.all p
  · rfl
  · rw [List.all_eq_true.1 e x (List.mem_of_getElem? h)] at hp; cases hp
theorem all_true {α : Type} {p : α → Bool} {l : List α} (h : ∀ j x, j < l.length → l[j]? = some x → p x = true) : l.all p = true :=
  List.all_eq_true.2 fun x hx => by
    obtain ⟨j, hj⟩ := List.getElem?_of_mem hx
    exact h j x (List.getElem?_eq_some_iff.1 hj).1 hj
theorem any_true {α : Type} {p : α → Bool} {l : List α} {j : Nat} {x : α} (h : l[j]? = some x) (hp : p x = true) : l.any p = true :=
  List.any_eq_true.2 ⟨x, List.mem_of_getElem? h, hp⟩
theorem any_false {α : Type} {p : α → Bool} {l : List α} (h : ∀ j x, j < l.length → l[j]? = some x → p x = false) : l.any p = false := by
  cases e : l.any p
  · rfl
  · obtain ⟨x, hx, hp⟩ := List.any_eq_true.1 e
    obtain ⟨j, hj⟩ := List.getElem?_of_mem hx
    rw [h j x (List.getElem?_eq_some_iff.1 hj).1 hj] at hp; cases hp
theorem some_at {α : Type} {l : List α} {j : Nat} (h : j < l.length) : ∃ x, l[j]? = some x := ⟨_, List.getElem?_eq_getElem h⟩
theorem pr_cells {w : World} {g o : Nat} {x : Pr} (h : w.rangeAt g o (prc x)) : w.cell? ⟨g, o, none⟩ = some (.string (str x.n)) ∧ w.cell? ⟨g, o + 1, none⟩ = some (.string (str x.v)) := ⟨h 0 _ rfl, h 1 _ rfl⟩
theorem us_cells {w : World} {g o : Nat} {x : Us} {sl : Value} (h : w.rangeAt g o (usc x sl)) : w.cell? ⟨g, o, none⟩ = some (.string (str x.n)) ∧ w.cell? ⟨g, o + 1, none⟩ = some (.string (str x.p)) ∧ w.cell? ⟨g, o + 2, none⟩ = some sl := ⟨h 0 _ rfl, h 1 _ rfl, h 2 _ rfl⟩

set_option maxHeartbeats 1000000 in
theorem few_any (v : Value) (l : List Us) (w : World) (h : Uss w v l) :
    Calls Try.prog 9 #[v] w fun e w' => e = .returned (.bool (fewB l)) ∧ w = w' := by
  obtain ⟨a, cap, rfl, hlen, hget⟩ := Rw.shape h
  have hgh := Lib.hid hget
  clear hget h
  go_enter Try.func9, Try.ntmps9
  go_wp2
  go_loop [3] (fun i => ∃ k : Nat, k ≤ l.length ∧ i = .int .i64 (k : Int) ∧ RowKit.Hid (∀ j x, j < k → l[j]? = some x → smU x = true)) (fun i => l.length - (intOf i).toNat)
  case atStart => exact ⟨0, Nat.zero_le _, rfl, Lib.hid fun j x hj => by omega⟩
  case round =>
    obtain ⟨k, hk, rfl, hd⟩ := hrel
    by_cases hlt : k < l.length
    · obtain ⟨x, hx⟩ := some_at hlt
      obtain ⟨g, o, cs, rfl, hr, sl, rfl, hp, hf⟩ := hgh.out k x hx
      obtain ⟨c0, c1, c2⟩ := us_cells hr
      obtain ⟨a2, cap2, rfl, hlen2, hget2⟩ := Rw.shape hp
      have hgh2 := Lib.hid hget2
      obtain ⟨f1, f2⟩ := hf
      unfold fit at f1 f2
      have hki : (k : Int) < (l.length : Int) := by omega
      have hw : IntKind.i64.wrap ((k : Int) + 1) = (k : Int) + 1 := by rw [IntKind.wrap_i64]; omega
      have hfalse : RowKit.Hid (smU x = false → fewB l = false) := Lib.hid fun h => by unfold fewB; rw [all_false hx h]; rfl
      have hnext : RowKit.Hid (smU x = true → ∀ j y, j < k + 1 → l[j]? = some y → smU y = true) := Lib.hid fun h j y hj hy => by
        by_cases e : j = k
        · subst e; rw [hx] at hy; cases hy; exact h
        · exact hd.out j y (by omega) hy
      have hs : RowKit.Hid (smU x = (decide (x.a.length ≤ 20) && decide (x.n.length ≤ 80) && decide (x.p.length ≤ 80) && x.a.all smP)) := Lib.hid rfl
      clear hget2 hp hr hx hd
      have hall : RowKit.Hid (x.a.length ≤ 20 → x.n.length ≤ 80 → x.p.length ≤ 80 → smU x = x.a.all smP) := Lib.hid fun q1 q2 q3 => by rw [hs.out, decide_eq_true q1, decide_eq_true q2, decide_eq_true q3]; rfl
      by_cases h1 : x.a.length ≤ 20
      · have d1 : decide ((20 : Int) < (x.a.length : Int)) = false := decide_eq_false (by omega)
        by_cases h2 : x.n.length ≤ 80
        · have d2 : decide ((80 : Int) < (x.n.length : Int)) = false := decide_eq_false (by omega)
          by_cases h3 : x.p.length ≤ 80
          · have d3 : decide ((80 : Int) < (x.p.length : Int)) = false := decide_eq_false (by omega)
            have hall2 := Lib.hid (hall.out h1 h2 h3)
            clear hs hall h1 h2 h3
            go_wp2
            go_loop [4] (fun i => ∃ m : Nat, m ≤ x.a.length ∧ i = .int .i64 (m : Int) ∧ RowKit.Hid (∀ j y, j < m → x.a[j]? = some y → smP y = true)) (fun i => x.a.length - (intOf i).toNat)
            case atStart => exact ⟨0, Nat.zero_le _, rfl, Lib.hid fun j x hj => by omega⟩
            case round =>
              obtain ⟨m, hm, rfl, hd2⟩ := hrel
              by_cases hmlt : m < x.a.length
              · obtain ⟨y, hy⟩ := some_at hmlt
                obtain ⟨g2, o2, cs2, rfl, hr2, rfl, hf2⟩ := hgh2.out m y hy
                obtain ⟨b0, b1⟩ := pr_cells hr2
                obtain ⟨q1, q2⟩ := hf2
                unfold fit at q1 q2
                have hmi : (m : Int) < (x.a.length : Int) := by omega
                have hw2 : IntKind.i64.wrap ((m : Int) + 1) = (m : Int) + 1 := by rw [IntKind.wrap_i64]; omega
                have hbad : RowKit.Hid (smP y = false → fewB l = false) := Lib.hid fun h => hfalse.out (by rw [hall2.out]; exact all_false hy h)
                have hgood : RowKit.Hid (smP y = true → ∀ j z, j < m + 1 → x.a[j]? = some z → smP z = true) := Lib.hid fun h j z hj hz => by
                  by_cases e : j = m
                  · subst e; rw [hy] at hz; cases hz; exact h
                  · exact hd2.out j z (by omega) hz
                have hs2 : RowKit.Hid (smP y = (decide (y.n.length ≤ 80) && decide (y.v.length ≤ 80))) := Lib.hid rfl
                clear hr2 hy
                by_cases h4 : y.n.length ≤ 80
                · have d4 : decide ((80 : Int) < (y.n.length : Int)) = false := decide_eq_false (by omega)
                  by_cases h5 : y.v.length ≤ 80
                  · have d5 : decide ((80 : Int) < (y.v.length : Int)) = false := decide_eq_false (by omega)
                    have hn := Lib.hid (hgood.out (by rw [hs2.out, decide_eq_true h4, decide_eq_true h5]; rfl))
                    clear hbad hgood hs2 h4 h5
                    go_wp2
                    go_round
                    case rel => exact ⟨m + 1, by omega, by go_num, hn⟩
                    case measure => simp [intOf]; omega
                  · have d5 : decide ((80 : Int) < (y.v.length : Int)) = true := decide_eq_true (by omega)
                    have hn := Lib.hid (hbad.out (by rw [hs2.out, decide_eq_false h5, Bool.and_false]))
                    clear hbad hgood hs2 h4 h5
                    go_wp2
                    go_ret
                    exact ⟨by rw [hn.out]; rfl, rfl⟩
                · have d4 : decide ((80 : Int) < (y.n.length : Int)) = true := decide_eq_true (by omega)
                  have hn := Lib.hid (hbad.out (by rw [hs2.out, decide_eq_false h4, Bool.false_and]))
                  clear hbad hgood hs2 h4
                  go_wp2
                  go_ret
                  exact ⟨by rw [hn.out]; rfl, rfl⟩
              · obtain rfl : m = x.a.length := by omega
                have hn := Lib.hid (hnext.out (by rw [hall2.out]; exact all_true hd2.out))
                clear hall2 hnext hfalse
                go_wp2
                go_round
                case rel => exact ⟨k + 1, by omega, by go_num, hn⟩
                case measure => simp [intOf]; omega
          · have d3 : decide ((80 : Int) < (x.p.length : Int)) = true := decide_eq_true (by omega)
            have hn := Lib.hid (hfalse.out (by rw [hs.out, decide_eq_false h3, Bool.and_false, Bool.false_and]))
            clear hs hall h1 h2 h3
            go_wp2
            go_ret
            exact ⟨by rw [hn.out]; rfl, rfl⟩
        · have d2 : decide ((80 : Int) < (x.n.length : Int)) = true := decide_eq_true (by omega)
          have hn := Lib.hid (hfalse.out (by rw [hs.out, decide_eq_false h2, Bool.and_false, Bool.false_and, Bool.false_and]))
          clear hs hall h1 h2
          go_wp2
          go_ret
          exact ⟨by rw [hn.out]; rfl, rfl⟩
      · have d1 : decide ((20 : Int) < (x.a.length : Int)) = true := decide_eq_true (by omega)
        have hn := Lib.hid (hfalse.out (by rw [hs.out, decide_eq_false h1, Bool.false_and, Bool.false_and, Bool.false_and]))
        clear hs hall h1
        go_wp2
        go_ret
        exact ⟨by rw [hn.out]; rfl, rfl⟩
    · obtain rfl : k = l.length := by omega
      have hs : RowKit.Hid (fewB l = decide (l.length ≤ 20)) := Lib.hid (by unfold fewB; rw [all_true hd.out]; rfl)
      by_cases h1 : l.length ≤ 20
      · have d1 : decide ((l.length : Int) ≤ 20) = true := decide_eq_true (by omega)
        have hn := Lib.hid (hs.out.trans (decide_eq_true h1))
        clear hs h1
        go_wp2
        go_ret
        exact ⟨by rw [hn.out]; rfl, rfl⟩
      · have d1 : decide ((l.length : Int) ≤ 20) = false := decide_eq_false (by omega)
        have hn := Lib.hid (hs.out.trans (decide_eq_false h1))
        clear hs h1
        go_wp2
        go_ret
        exact ⟨by rw [hn.out]; rfl, rfl⟩
/-- 'bad' -/
theorem bad_any (x : Pr) (hf : prF x) (w : World) :
    Calls Try.prog 26 #[.agg #[.string (str x.n), .string (str x.v)]] w fun e w' => e = .returned (.bool (badP x)) ∧ Ext w w' := by
  have e0 := Ext.refl w
  obtain ⟨f1, f2⟩ := hf
  unfold fit at f1 f2
  have hw := word_any x.n f1
  have hi := within_any x.v 32 0 60 f2
  have hb : RowKit.Hid (badP x = (!wordB x.n || !withinB 32 0 60 x.v)) := Lib.hid rfl
  go_enter Try.func26, Try.ntmps26
  cases h1 : wordB x.n
  · rw [h1] at hw hb
    clear hi
    have hn := Lib.hid (hb.out.trans (by rfl : _ = true))
    clear hb
    go_wp2_with (go_at_call 27; refine (hw _).mono ?_; rintro e w' ⟨rfl, rfl⟩)
    go_ret
    exact ⟨by rw [hn.out]; rfl, e0.alloc _⟩
  · rw [h1] at hw hb
    cases h2 : withinB 32 0 60 x.v
    · rw [h2] at hi hb
      have hn := Lib.hid (hb.out.trans (by rfl : _ = true))
      clear hb
      go_wp2_with (first
        | (go_at_call 27; refine (hw _).mono ?_; rintro e w' ⟨rfl, rfl⟩)
        | (go_at_call 28; refine (hi _).mono ?_; rintro e w' ⟨rfl, rfl⟩))
      go_ret
      exact ⟨by rw [hn.out]; rfl, e0.alloc _⟩
    · rw [h2] at hi hb
      have hn := Lib.hid (hb.out.trans (by rfl : _ = false))
      clear hb
      go_wp2_with (first
        | (go_at_call 27; refine (hw _).mono ?_; rintro e w' ⟨rfl, rfl⟩)
        | (go_at_call 28; refine (hi _).mono ?_; rintro e w' ⟨rfl, rfl⟩))
      go_ret
      exact ⟨by rw [hn.out]; rfl, e0.alloc _⟩
theorem indexFunc_any (v : Value) (l : List Pr) (w : World) (h : Prs w v l) :
    Calls Try.prog 35 #[v, .func (.func 26) #[] #[]] w fun e w' => (∃ z, e = .returned (.int .i64 z) ∧ decide (0 ≤ z) = l.any badP) ∧ Ext w w' := by
  obtain ⟨a, cap, rfl, hlen, hget⟩ := Rw.shape h
  have hgh := Lib.hid hget
  clear hget h
  have e0 := Ext.refl w
  go_enter Try.func35, Try.ntmps35
  go_wp2
  go_loopw [8] (fun i wr => ∃ k : Nat, k ≤ l.length ∧ i = .int .i64 (k : Int) ∧ RowKit.Hid (∀ j x, j < k → l[j]? = some x → badP x = false) ∧ Ext w wr) (fun i _ => l.length - (intOf i).toNat)
  case atStart => exact ⟨0, Nat.zero_le _, rfl, Lib.hid fun j x hj => by omega, e0⟩
  case round =>
    obtain ⟨k, hk, rfl, hd, ek⟩ := hrel
    by_cases hlt : k < l.length
    · obtain ⟨x, hx⟩ := some_at hlt
      obtain ⟨g, o, cs, rfl, hr, rfl, hf⟩ := hgh.out k x hx
      have hki : (k : Int) < (l.length : Int) := by omega
      have hw : IntKind.i64.wrap ((k : Int) + 1) = (k : Int) + 1 := by rw [IntKind.wrap_i64]; omega
      have hr2 : wr.rangeAt g (o + k * 2) [.string (str x.n), .string (str x.v)] := fun i u hu => ek.cell (hr i u hu)
      have hb := bad_any x hf
      have hxh := Lib.hid hx
      clear hr hf hx
      cases hv : badP x
      · rw [hv] at hb
        go_wp2_with (first
          | (refine wpList_load_mid rfl 42 _ rfl g (o + k * 2) rfl [.string (str x.n), .string (str x.v)] _ hr2 Try.underlying42 rfl info_pair ?_)
          | (go_at_call 26; refine (hb _).mono ?_; rintro e w2 ⟨rfl, e2⟩))
        go_roundw
        case rel => exact ⟨k + 1, by omega, by go_num, Lib.hid fun j y hj hy => by
          by_cases e : j = k
          · subst e; rw [hxh.out] at hy; cases hy; exact hv
          · exact hd.out j y (by omega) hy, ek.trans e2⟩
        case measure => simp [intOf]; omega
      · rw [hv] at hb
        go_wp2_with (first
          | (refine wpList_load_mid rfl 42 _ rfl g (o + k * 2) rfl [.string (str x.n), .string (str x.v)] _ hr2 Try.underlying42 rfl info_pair ?_)
          | (go_at_call 26; refine (hb _).mono ?_; rintro e w2 ⟨rfl, e2⟩))
        go_ret
        exact ⟨⟨_, rfl, by rw [any_true hxh.out hv]; exact decide_eq_true (by omega)⟩, ek.trans e2⟩
    · obtain rfl : k = l.length := by omega
      go_wp2
      go_ret
      exact ⟨⟨_, rfl, by rw [any_false hd.out]; rfl⟩, ek⟩
theorem containsFunc_any (v : Value) (l : List Pr) (w : World) (h : Prs w v l) :
    Calls Try.prog 29 #[v, .func (.func 26) #[] #[]] w fun e w' => e = .returned (.bool (l.any badP)) ∧ Ext w w' := by
  have hi := indexFunc_any v l w h
  go_enter Try.func29, Try.ntmps29
  go_wp2_with (go_at_call 35; refine hi.mono ?_; rintro e w' ⟨⟨z, rfl, hz⟩, e1⟩)
  go_ret
  exact ⟨by first | rfl | rw [hz], e1⟩
end Go.Proofs.Ytnhgkklbjhjggaa
