/- TicketUnlike, walked. -/
import Derived.Test.YtkpcdbalhpmpmaaDoorTicketW
import Derived.Test.YtkpcdbalhpmpmaaDoorTicketMath4
namespace Go.Proofs.YtkpcdbalhpmpmaaDoor
open Go.RowKit

/-- a kind of a byte -/
def kindB (c : UInt8) : Int := 1 + (c.toNat : Int) % 6
theorem kindB_ok (c : UInt8) : Tk.okK (kindB c) = true := by unfold Tk.okK kindB; exact decide_eq_true (by omega)
theorem kindB_inj {c d : UInt8} (h : (kindB c).toNat = (kindB d).toNat) : (c.toNat : Int) % 6 = (d.toNat : Int) % 6 := by unfold kindB at h; omega
structure Unlike (c d : UInt8) (a b : BitVec 64) (s t : List UInt8) (same : Bool) : Prop where
  ls : s.length ≤ 23
  lt : t.length ≤ 23
  es : seq s [] = false
  et : seq t [] = false
  eq : seq s t = same
  within : same = false → ∀ i, i + s.length ≤ t.length → seq (sub t i (i + s.length)) s = false
  found : Tk.teq (Tk.find s) [s] = true
theorem unlike_of (c d : UInt8) (a b : BitVec 64) : Unlike c d a b (Tk.nameI (kindB c) a.toNat) (Tk.nameI (kindB d) b.toNat) (((c.toNat : Int) % 6 == (d.toNat : Int) % 6) && (a == b)) := by
  have hc := Tk.okK_kind (kindB_ok c)
  have hd := Tk.okK_kind (kindB_ok d)
  rw [Tk.nameI_ok (kindB_ok c), Tk.nameI_ok (kindB_ok d)]
  have lc := Tk.name_length (kindB c).toNat a.toNat
  have ld := Tk.name_length (kindB d).toNat b.toNat
  have pc := Tk.pre_length hc
  have pd := Tk.pre_length hd
  have hfull : Tk.name (kindB c).toNat a.toNat = Tk.name (kindB d).toNat b.toNat → (((c.toNat : Int) % 6 == (d.toNat : Int) % 6) && (a == b)) = true := by
    intro h
    have hk := Tk.isName_unique (k := (kindB c).toNat) (n := a.toNat) (k' := (kindB d).toNat) (n' := b.toNat) (s := Tk.name (kindB c).toNat a.toNat) ⟨hc, a.isLt, rfl⟩ ⟨hd, b.isLt, h⟩
    rw [Bool.and_eq_true, beq_iff_eq, beq_iff_eq]
    exact ⟨kindB_inj hk.1, BitVec.eq_of_toNat_eq hk.2⟩
  refine ⟨by omega, by omega, seq_false.2 fun h => ?_, seq_false.2 fun h => ?_, ?_, fun hs i hi => ?_, ?_⟩
  · rw [h] at lc; simp at lc
  · rw [h] at ld; simp at ld
  · cases hs : (((c.toNat : Int) % 6 == (d.toNat : Int) % 6) && (a == b))
    · apply seq_false.2
      intro h
      rw [hfull h] at hs; cases hs
    · rw [Bool.and_eq_true, beq_iff_eq, beq_iff_eq] at hs
      obtain ⟨h1, rfl⟩ := hs
      apply seq_true.2
      unfold kindB; rw [h1]
  · apply seq_false.2
    intro h
    have := Tk.name_within hc hd hi h
    rw [hfull this.2] at hs; cases hs
  · apply Tk.teq_true.2
    have := Tk.find_name hc a.isLt []
    rw [List.append_nil] at this
    exact this

set_option maxRecDepth 20000 in
set_option maxHeartbeats 4000000 in
theorem unlike_any (c d : UInt8) (a b : BitVec 64) (w : World) (hw : Pres w) :
    Calls Tryd.prog 3 #[.int .u8 (c.toNat : Int), .int .u8 (d.toNat : Int), .int .u64 (V a), .int .u64 (V b)] w fun e w' => e = .returned (.bool true) ∧ Ext w w' := by
  have e0 := Ext.refl w
  have HU := unlike_of c d a b
  obtain ⟨K, hK⟩ : ∃ K, 1 + (c.toNat : Int) % 6 = K := ⟨_, rfl⟩
  obtain ⟨L, hL⟩ : ∃ L, 1 + (d.toNat : Int) % 6 = L := ⟨_, rfl⟩
  have hKo : Tk.errI K = 0 := by have := kindB_ok c; unfold kindB at this; rw [hK] at this; unfold Tk.errI; rw [this]; rfl
  have hLo : Tk.errI L = 0 := by have := kindB_ok d; unfold kindB at this; rw [hL] at this; unfold Tk.errI; rw [this]; rfl
  have eK : kindB c = K := hK
  have eL : kindB d = L := hL
  rw [eK, eL] at HU
  clear eK eL
  obtain ⟨s, hs⟩ : ∃ s, Tk.nameI K a.toNat = s := ⟨_, rfl⟩
  obtain ⟨t, ht⟩ : ∃ t, Tk.nameI L b.toNat = t := ⟨_, rfl⟩
  rw [hs, ht] at HU
  have hab : (V a == V b) = (a == b) := by
    cases h : a == b
    · rw [beq_eq_false_iff_ne] at h ⊢
      exact fun e => h (V_inj e)
    · rw [beq_iff_eq] at h ⊢
      rw [h]
  obtain ⟨hls, hlt, hes, het, heq, hwi, hfo⟩ := HU
  have hwi2 : RowKit.Hid _ := Lib.hid hwi
  clear hwi
  rcases (by cases h6 : ((c.toNat : Int) % 6 == (d.toNat : Int) % 6) <;> cases h2 : (a == b) <;> simp : (((c.toNat : Int) % 6 == (d.toNat : Int) % 6) = false) ∨ (((c.toNat : Int) % 6 == (d.toNat : Int) % 6) = true ∧ (a == b) = false) ∨ (((c.toNat : Int) % 6 == (d.toNat : Int) % 6) = true ∧ (a == b) = true)) with h6 | ⟨h6, h2⟩ | ⟨h6, h2⟩
  · rw [h6, Bool.false_and] at heq hwi2
    go_enter Tryd.func3, Tryd.ntmps3
    go_wp2_with (first
      | (go_at_call 13; refine (awake_any _ hw).mono ?_; rintro e w' ⟨rfl, h⟩; have e0 := e0.trans h)
      | (go_at_call 14; refine (name_any _ _ _ (hw.ext e0)).mono ?_; rintro e w' ⟨rfl, h⟩; have e0 := e0.trans h))
    go_loop [15] (fun i => ∃ k : Nat, k ≤ t.length + 1 ∧ i = .int .i64 k) (fun i => t.length + 1 - (intOf i).toNat)
    case atStart => exact ⟨0, Nat.zero_le _, rfl⟩
    case round =>
      obtain ⟨k, hk, rfl⟩ := hrel
      by_cases hlt : k + s.length ≤ t.length
      · have hq := hwi2.out (by simp) k hlt
        go_wp2
        go_round
        case rel => exact ⟨k + 1, by omega, by go_num⟩
        case measure => simp [intOf]; omega
      · go_wp2_with (first
          | (go_at_call 16; refine (find_any _ (by omega) _ (hw.ext e0)).mono ?_; rintro e w' ⟨v, rfl, sA, h⟩; have e0 := e0.trans h)
          | (go_at_call 15; refine (texts_any _ _ _ [s] _ (sA.ext ((Ext.refl _).alloc _)) (Sl.lit (by rfl) rfl rfl (Nat.le_refl 1) (by decide))).mono ?_; rintro e w' ⟨rfl, h⟩; have e0 := (e0.alloc _).trans h))
        go_ret
        exact ⟨rfl, e0⟩
  · rw [h6, h2, Bool.true_and] at heq hwi2
    go_enter Tryd.func3, Tryd.ntmps3
    go_wp2_with (first
      | (go_at_call 13; refine (awake_any _ hw).mono ?_; rintro e w' ⟨rfl, h⟩; have e0 := e0.trans h)
      | (go_at_call 14; refine (name_any _ _ _ (hw.ext e0)).mono ?_; rintro e w' ⟨rfl, h⟩; have e0 := e0.trans h))
    go_loop [15] (fun i => ∃ k : Nat, k ≤ t.length + 1 ∧ i = .int .i64 k) (fun i => t.length + 1 - (intOf i).toNat)
    case atStart => exact ⟨0, Nat.zero_le _, rfl⟩
    case round =>
      obtain ⟨k, hk, rfl⟩ := hrel
      by_cases hlt : k + s.length ≤ t.length
      · have hq := hwi2.out (by simp) k hlt
        go_wp2
        go_round
        case rel => exact ⟨k + 1, by omega, by go_num⟩
        case measure => simp [intOf]; omega
      · go_wp2_with (first
          | (go_at_call 16; refine (find_any _ (by omega) _ (hw.ext e0)).mono ?_; rintro e w' ⟨v, rfl, sA, h⟩; have e0 := e0.trans h)
          | (go_at_call 15; refine (texts_any _ _ _ [s] _ (sA.ext ((Ext.refl _).alloc _)) (Sl.lit (by rfl) rfl rfl (Nat.le_refl 1) (by decide))).mono ?_; rintro e w' ⟨rfl, h⟩; have e0 := (e0.alloc _).trans h))
        go_ret
        exact ⟨rfl, e0⟩
  · rw [h6, h2, Bool.true_and] at heq hwi2
    go_enter Tryd.func3, Tryd.ntmps3
    go_wp2_with (first
      | (go_at_call 13; refine (awake_any _ hw).mono ?_; rintro e w' ⟨rfl, h⟩; have e0 := e0.trans h)
      | (go_at_call 14; refine (name_any _ _ _ (hw.ext e0)).mono ?_; rintro e w' ⟨rfl, h⟩; have e0 := e0.trans h))
    go_loop [15] (fun i => ∃ k : Nat, k ≤ t.length + 1 ∧ i = .int .i64 k) (fun i => t.length + 1 - (intOf i).toNat)
    case atStart => exact ⟨0, Nat.zero_le _, rfl⟩
    case round =>
      obtain ⟨k, hk, rfl⟩ := hrel
      by_cases hlt : k + s.length ≤ t.length
      · cases hq : seq (sub t k (k + s.length)) s
        all_goals
          go_wp2
          go_round
          case rel => exact ⟨k + 1, by omega, by go_num⟩
          case measure => simp [intOf]; omega
      · go_wp2_with (first
          | (go_at_call 16; refine (find_any _ (by omega) _ (hw.ext e0)).mono ?_; rintro e w' ⟨v, rfl, sA, h⟩; have e0 := e0.trans h)
          | (go_at_call 15; refine (texts_any _ _ _ [s] _ (sA.ext ((Ext.refl _).alloc _)) (Sl.lit (by rfl) rfl rfl (Nat.le_refl 1) (by decide))).mono ?_; rintro e w' ⟨rfl, h⟩; have e0 := (e0.alloc _).trans h))
        go_ret
        exact ⟨rfl, e0⟩
end Go.Proofs.YtkpcdbalhpmpmaaDoor
