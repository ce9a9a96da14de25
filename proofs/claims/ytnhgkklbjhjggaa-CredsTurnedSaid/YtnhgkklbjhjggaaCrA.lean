/- Package creds: bytes and texts: letters, words, what is shown; the document's answers to the same. -/
import Derived.Test.YtnhgkklbjhjggaaStr
import Derived.Test.YtnhgkklbjhjggaaSeq
import Derived.Test.YtnhgkklbjhjggaaMem
namespace Go.Proofs.Ytnhgkklbjhjggaa
open Go.RowKit

namespace Cr
def letterB (c : UInt8) : Bool := (decide (97 ≤ (c.toNat : Int)) && decide ((c.toNat : Int) ≤ 122)) || (decide (65 ≤ (c.toNat : Int)) && decide ((c.toNat : Int) ≤ 90))
def otherB (c : UInt8) : Bool := (decide (48 ≤ (c.toNat : Int)) && decide ((c.toNat : Int) ≤ 57)) || decide ((c.toNat : Int) = 45) || decide ((c.toNat : Int) = 95)
def okAt (l : List UInt8) (i : Nat) : Bool := letterB (byteAt l i) || (decide (i ≠ 0) && otherB (byteAt l i))
def allI (n : Nat) (p : Nat → Bool) : Bool := (List.range n).all p
theorem allI_true {n : Nat} {p : Nat → Bool} : allI n p = true ↔ ∀ i, i < n → p i = true := by simp [allI]
theorem allI_false {n i : Nat} {p : Nat → Bool} (hi : i < n) (h : p i = false) : allI n p = false := by
  cases e : allI n p
  · rfl
  · rw [allI_true.1 e i hi] at h; cases h
def wordB (l : List UInt8) : Bool := allI l.length (okAt l) && (decide (l ≠ []) && decide ((l.length : Int) ≤ 60))
def shAt (a : Int) (l : List UInt8) (i : Nat) : Bool := decide (a ≤ ((byteAt l i).toNat : Int)) && decide (((byteAt l i).toNat : Int) ≤ 126)
def shownB (a : Int) (l : List UInt8) : Bool := allI l.length (shAt a l)
def withinB (a lo hi : Int) (l : List UInt8) : Bool := shownB a l && (decide (lo ≤ (l.length : Int)) && decide ((l.length : Int) ≤ hi))
end Cr
open Cr

theorem letter_any (c : UInt8) (w : World) :
    Calls Try.prog 34 #[.int .u8 (c.toNat : Int)] w fun e w' => e = .returned (.bool (letterB c)) ∧ w = w' := by
  have hl := byte_lt c
  have hc : ((c.toNat : Int) < 65) ∨ ((65 : Int) ≤ c.toNat ∧ (c.toNat : Int) ≤ 90) ∨ ((90 : Int) < c.toNat ∧ (c.toNat : Int) < 97) ∨ ((97 : Int) ≤ c.toNat ∧ (c.toNat : Int) ≤ 122) ∨ ((122 : Int) < c.toNat) := by omega
  have hL : RowKit.Hid (letterB c = ((decide (97 ≤ (c.toNat : Int)) && decide ((c.toNat : Int) ≤ 122)) || (decide (65 ≤ (c.toNat : Int)) && decide ((c.toNat : Int) ≤ 90)))) := Lib.hid rfl
  generalize (c.toNat : Int) = z at *
  rcases hc with h1 | ⟨h1, h2⟩ | ⟨h1, h2⟩ | ⟨h1, h2⟩ | h1
  · obtain ⟨b, hb, e1⟩ : ∃ b, (b = true ↔ (97 ≤ z ∧ z ≤ 122) ∨ (65 ≤ z ∧ z ≤ 90)) ∧ RowKit.Hid (letterB c = b) := ⟨_, by simp, hL⟩
    obtain rfl : b = false := by
      first
      | (apply hb.2; omega)
      | (cases b; rfl; exact absurd (hb.1 rfl) (by omega))
    clear hb
    clear hL
    go_enter Try.func34, Try.ntmps34
    go_wp2
    go_ret
    exact ⟨by rw [e1.out]; rfl, rfl⟩
  · obtain ⟨b, hb, e1⟩ : ∃ b, (b = true ↔ (97 ≤ z ∧ z ≤ 122) ∨ (65 ≤ z ∧ z ≤ 90)) ∧ RowKit.Hid (letterB c = b) := ⟨_, by simp, hL⟩
    obtain rfl : b = true := by
      first
      | (apply hb.2; omega)
      | (cases b; rfl; exact absurd (hb.1 rfl) (by omega))
    clear hb
    clear hL
    go_enter Try.func34, Try.ntmps34
    go_wp2
    go_ret
    exact ⟨by rw [e1.out]; rfl, rfl⟩
  · obtain ⟨b, hb, e1⟩ : ∃ b, (b = true ↔ (97 ≤ z ∧ z ≤ 122) ∨ (65 ≤ z ∧ z ≤ 90)) ∧ RowKit.Hid (letterB c = b) := ⟨_, by simp, hL⟩
    obtain rfl : b = false := by
      first
      | (apply hb.2; omega)
      | (cases b; rfl; exact absurd (hb.1 rfl) (by omega))
    clear hb
    have d1 : decide (z ≤ 90) = false := decide_eq_false (by omega)
    clear hL
    go_enter Try.func34, Try.ntmps34
    go_wp2
    go_ret
    exact ⟨by rw [e1.out]; rfl, rfl⟩
  · obtain ⟨b, hb, e1⟩ : ∃ b, (b = true ↔ (97 ≤ z ∧ z ≤ 122) ∨ (65 ≤ z ∧ z ≤ 90)) ∧ RowKit.Hid (letterB c = b) := ⟨_, by simp, hL⟩
    obtain rfl : b = true := by
      first
      | (apply hb.2; omega)
      | (cases b; rfl; exact absurd (hb.1 rfl) (by omega))
    clear hb
    clear hL
    go_enter Try.func34, Try.ntmps34
    go_wp2
    go_ret
    exact ⟨by rw [e1.out]; rfl, rfl⟩
  · obtain ⟨b, hb, e1⟩ : ∃ b, (b = true ↔ (97 ≤ z ∧ z ≤ 122) ∨ (65 ≤ z ∧ z ≤ 90)) ∧ RowKit.Hid (letterB c = b) := ⟨_, by simp, hL⟩
    obtain rfl : b = false := by
      first
      | (apply hb.2; omega)
      | (cases b; rfl; exact absurd (hb.1 rfl) (by omega))
    clear hb
    have d1 : decide (z ≤ 90) = false := decide_eq_false (by omega)
    have d2 : decide (z ≤ 122) = false := decide_eq_false (by omega)
    clear hL
    go_enter Try.func34, Try.ntmps34
    go_wp2
    go_ret
    exact ⟨by rw [e1.out]; rfl, rfl⟩
theorem within_any (l : List UInt8) (a lo h9 : Int) (hl : l.length ≤ 9223372036854775807) (w : World) :
    Calls Try.prog 28 #[.string (str l), .int .u8 a, .int .i64 lo, .int .i64 h9] w fun e w' => e = .returned (.bool (withinB a lo h9 l)) ∧ w = w' := by
  go_enter Try.func28, Try.ntmps28
  go_wp2
  go_loop [12] (fun k => ∃ i : Nat, i ≤ l.length ∧ k = .int .i64 i ∧ RowKit.Hid (∀ j, j < i → shAt a l j = true)) (fun k => l.length - (intOf k).toNat)
  case atStart => exact ⟨0, by omega, rfl, Lib.hid (fun j hj => by omega)⟩
  case round =>
    obtain ⟨i, hi, rfl, hp⟩ := hrel
    by_cases hlt : i < l.length
    · have hil : (i : Int) < (l.length : Int) := by omega
      have hw : IntKind.i64.wrap ((i : Int) + 1) = (i : Int) + 1 := by rw [IntKind.wrap_i64]; omega
      have hil2 := Lib.hid hlt
      obtain ⟨c, hc⟩ : ∃ c, c = byteAt l i := ⟨_, rfl⟩
      have hcs : byteAt l i = c := hc.symm
      have hct : byteAt l ((i : Int)).toNat = c := by rw [hc]; congr 1
      have hs : RowKit.Hid (shAt a l i = (decide (a ≤ (c.toNat : Int)) && decide ((c.toNat : Int) ≤ 126))) := Lib.hid (by rw [hc]; rfl)
      have hfalse : RowKit.Hid (shAt a l i = false → withinB a lo h9 l = false) := Lib.hid fun h => by
        unfold withinB shownB; rw [allI_false hlt h]; rfl
      clear hc
      by_cases h1 : a ≤ (c.toNat : Int)
      · have h1' : decide ((c.toNat : Int) < a) = false := decide_eq_false (by omega)
        by_cases h2 : (c.toNat : Int) ≤ 126
        · have h2' : decide ((126 : Int) < (c.toNat : Int)) = false := decide_eq_false (by omega)
          have hs2 := Lib.hid (hs.out.trans (by rw [decide_eq_true h1, decide_eq_true h2]))
          clear hs h1 h2 hfalse
          go_wp2
          go_round
          case rel => exact ⟨i + 1, by omega, by go_num, Lib.hid fun j hj => by
            by_cases e : j = i
            · subst e; exact hs2.out
            · exact hp.out j (by omega)⟩
          case measure => simp [intOf]; omega
        · have h2' : decide ((126 : Int) < (c.toNat : Int)) = true := decide_eq_true (by omega)
          have hs2 := Lib.hid (hfalse.out (hs.out.trans (by rw [decide_eq_false h2, Bool.and_false])))
          clear hs h1 h2 hfalse
          go_wp2
          go_ret
          exact ⟨by rw [hs2.out]; rfl, rfl⟩
      · have h1' : decide ((c.toNat : Int) < a) = true := decide_eq_true (by omega)
        have hs2 := Lib.hid (hfalse.out (hs.out.trans (by rw [decide_eq_false h1, Bool.false_and])))
        clear hs h1 hfalse
        go_wp2
        go_ret
        exact ⟨by rw [hs2.out]; rfl, rfl⟩
    · obtain rfl : i = l.length := by omega
      have hs : RowKit.Hid (withinB a lo h9 l = (decide (lo ≤ (l.length : Int)) && decide ((l.length : Int) ≤ h9))) := Lib.hid (by
        unfold withinB shownB; rw [allI_true.2 hp.out]; rfl)
      by_cases h1 : lo ≤ (l.length : Int)
      · by_cases h2 : (l.length : Int) ≤ h9
        · have hs2 := Lib.hid (hs.out.trans (by rw [decide_eq_true h1, decide_eq_true h2]))
          clear hs
          go_wp2
          go_ret
          exact ⟨by rw [hs2.out]; rfl, rfl⟩
        · have hs2 := Lib.hid (hs.out.trans (by rw [decide_eq_false h2, Bool.and_false]))
          clear hs
          go_wp2
          go_ret
          exact ⟨by rw [hs2.out]; rfl, rfl⟩
      · have hs2 := Lib.hid (hs.out.trans (by rw [decide_eq_false h1, Bool.false_and]))
        clear hs
        go_wp2
        go_ret
        exact ⟨by rw [hs2.out]; rfl, rfl⟩
end Go.Proofs.Ytnhgkklbjhjggaa
