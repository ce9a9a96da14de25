/- The laws on names, walked: the chapter's examples, TicketTells, TicketBack. -/
import Derived.Test.YtkpcdbalhpmpmaaDoorTicketG
namespace Go.Proofs.YtkpcdbalhpmpmaaDoor
open Go.RowKit

def exA : List UInt8 := [83, 84, 45, 48, 48, 48, 48, 48, 48, 48, 48, 48, 48, 48, 48, 48, 48, 102, 102]
def exB : List UInt8 := [80, 71, 84, 45, 48, 48, 48, 48, 48, 48, 48, 48, 48, 48, 48, 48, 48, 48, 48, 49]
def exC : List UInt8 := [120, 61, 80, 71, 84, 73, 79, 85, 45, 48, 48, 48, 48, 48, 48, 48, 48, 48, 48, 48, 48, 48, 48, 48, 49, 38, 83, 84, 45, 49]
def exD : List UInt8 := [80, 71, 84, 73, 79, 85, 45, 48, 48, 48, 48, 48, 48, 48, 48, 48, 48, 48, 48, 48, 48, 48, 49]
theorem exA_eq : seq (Tk.nameI 2 (255#64).toNat) exA = true := by decide +kernel
theorem exA_e : Tk.errI 2 = 0 := by decide
theorem exB_k : Tk.pk exB = 4 := by decide +kernel
theorem exB_n : V (Tk.pn exB) = 1 := by decide +kernel
theorem exB_o : Tk.pok exB = true := by decide +kernel
theorem exC_f : Tk.teq (Tk.find exC) [exD] = true := by decide +kernel
theorem name_255 (w : World) (hw : Pres w) :
    Calls Tryd.prog 14 #[.int .i64 2, .int .u64 255] w fun e w' => e = .returned (.tuple #[.string (str (Tk.nameI 2 (255#64).toNat)), .int .i64 (Tk.errI 2)]) ∧ Ext w w' := name_any 2 255#64 w hw
set_option maxRecDepth 20000 in
set_option maxHeartbeats 4000000 in
theorem awake_any (w : World) (hw : Pres w) :
    Calls Tryd.prog 13 #[] w fun e w' => e = .returned (.bool true) ∧ Ext w w' := by
  have e0 := Ext.refl w
  have h1 := exA_eq
  have h2 := exA_e
  have h3 := exB_k
  have h4 := exB_n
  have h5 := exB_o
  have h6 := exC_f
  unfold exA at h1
  go_enter Tryd.func13, Tryd.ntmps13
  go_wp2_with (first
    | (go_at_call 14; refine (name_255 _ hw).mono ?_; rintro e w' ⟨rfl, h⟩; have e0 := e0.trans h)
    | (go_at_call 18; refine (parse_any exB (by decide) _ (hw.ext e0)).mono ?_; rintro e w' ⟨rfl, h⟩; have e0 := e0.trans h)
    | (go_at_call 16; refine (find_any exC (by decide) _ (hw.ext e0)).mono ?_; rintro e w' ⟨v, rfl, sA, h⟩; have e0 := e0.trans h)
    | (go_at_call 15; refine (texts_any _ _ _ [exD] _ (sA.ext ((Ext.refl _).alloc _)) (Sl.lit (by rfl) rfl rfl (by decide) (by decide))).mono ?_; rintro e w' ⟨rfl, h⟩; have e0 := (e0.alloc _).trans h))
  go_ret
  exact ⟨rfl, e0⟩

set_option maxRecDepth 20000 in
set_option maxHeartbeats 4000000 in
theorem tells_any (k : Int) (x : BitVec 64) (s : List UInt8) (w : World) (hw : Pres w) :
    Calls Tryd.prog 5 #[.int .i64 k, .int .u64 (V x), .string (str s)] w fun e w' => e = .returned (.bool true) ∧ Ext w w' := by
  have e0 := Ext.refl w
  by_cases hl : s.length ≤ 300
  · cases hp : Tk.pok s
    · have hI : isI s k = false := by unfold isI; rw [hp]; rfl
      go_enter Tryd.func5, Tryd.ntmps5
      go_wp2_with (first
        | (go_at_call 13; refine (awake_any _ hw).mono ?_; rintro e w' ⟨rfl, h⟩; have e0 := e0.trans h)
        | (go_at_call 14; refine (name_any _ _ _ (hw.ext e0)).mono ?_; rintro e w' ⟨rfl, h⟩; have e0 := e0.trans h)
        | (go_at_call 17; refine (refName_any _ _ _).mono ?_; rintro e w' ⟨rfl, rfl⟩)
        | (go_at_call 18; refine (parse_any s (by omega) _ (hw.ext e0)).mono ?_; rintro e w' ⟨rfl, h⟩; have e0 := e0.trans h)
        | (go_at_call 19; refine (refParse_any s (by omega) _).mono ?_; rintro e w' ⟨rfl, rfl⟩)
        | (go_at_call 20; refine (prefix_any _ _ (hw.ext e0)).mono ?_; rintro e w' ⟨rfl, rfl⟩)
        | (go_at_call 21; refine (refPrefix_any _ _).mono ?_; rintro e w' ⟨rfl, rfl⟩)
        | (go_at_call 22; refine (is_any s (by omega) _ _ (hw.ext e0)).mono ?_; rintro e w' ⟨rfl, h⟩; have e0 := e0.trans h)
        | (go_at_call 16; refine (find_any s (by omega) _ (hw.ext e0)).mono ?_; rintro e w' ⟨v, rfl, sA, h⟩; have e0 := e0.trans h)
        | (go_at_call 23; refine (refFind_any s (by omega) _).mono ?_; rintro e w' ⟨u, rfl, sB, h⟩; have e0 := e0.trans h; have sA := sA.ext h)
        | (go_at_call 15; refine (texts_any _ _ _ _ _ sA sB).mono ?_; rintro e w' ⟨rfl, h⟩; have e0 := e0.trans h; have ht := Tk.teq_true.2 (Eq.refl (Tk.find s))))
      go_ret
      exact ⟨rfl, e0⟩
    · have hI : isI s k = (Tk.pk s == k) := by unfold isI; rw [hp]; rfl
      go_enter Tryd.func5, Tryd.ntmps5
      go_wp2_with (first
        | (go_at_call 13; refine (awake_any _ hw).mono ?_; rintro e w' ⟨rfl, h⟩; have e0 := e0.trans h)
        | (go_at_call 14; refine (name_any _ _ _ (hw.ext e0)).mono ?_; rintro e w' ⟨rfl, h⟩; have e0 := e0.trans h)
        | (go_at_call 17; refine (refName_any _ _ _).mono ?_; rintro e w' ⟨rfl, rfl⟩)
        | (go_at_call 18; refine (parse_any s (by omega) _ (hw.ext e0)).mono ?_; rintro e w' ⟨rfl, h⟩; have e0 := e0.trans h)
        | (go_at_call 19; refine (refParse_any s (by omega) _).mono ?_; rintro e w' ⟨rfl, rfl⟩)
        | (go_at_call 20; refine (prefix_any _ _ (hw.ext e0)).mono ?_; rintro e w' ⟨rfl, rfl⟩)
        | (go_at_call 21; refine (refPrefix_any _ _).mono ?_; rintro e w' ⟨rfl, rfl⟩)
        | (go_at_call 22; refine (is_any s (by omega) _ _ (hw.ext e0)).mono ?_; rintro e w' ⟨rfl, h⟩; have e0 := e0.trans h)
        | (go_at_call 16; refine (find_any s (by omega) _ (hw.ext e0)).mono ?_; rintro e w' ⟨v, rfl, sA, h⟩; have e0 := e0.trans h)
        | (go_at_call 23; refine (refFind_any s (by omega) _).mono ?_; rintro e w' ⟨u, rfl, sB, h⟩; have e0 := e0.trans h; have sA := sA.ext h)
        | (go_at_call 15; refine (texts_any _ _ _ _ _ sA sB).mono ?_; rintro e w' ⟨rfl, h⟩; have e0 := e0.trans h; have ht := Tk.teq_true.2 (Eq.refl (Tk.find s))))
      go_ret
      exact ⟨rfl, e0⟩
  · go_enter Tryd.func5, Tryd.ntmps5
    go_wp2_with (go_at_call 13; refine (awake_any _ hw).mono ?_; rintro e w' ⟨rfl, h⟩; have e0 := e0.trans h)
    go_ret
    exact ⟨rfl, e0⟩

theorem name_len (k : Int) (n : Nat) : (Tk.nameI k n).length ≤ 23 := by
  unfold Tk.nameI
  cases h : Tk.okK k
  · simp
  · have := Tk.pre_length (Tk.okK_kind h)
    simp [Tk.name_length]; omega
theorem parse_nameI {k : Int} (h : Tk.okK k = true) (x : BitVec 64) : Tk.pok (Tk.nameI k x.toNat) = true ∧ Tk.pk (Tk.nameI k x.toNat) = k ∧ Tk.pn (Tk.nameI k x.toNat) = x := by
  have hk := Tk.okK_kind h
  have e : Tk.nameI k x.toNat = Tk.name k.toNat x.toNat := by unfold Tk.nameI; rw [h]; rfl
  rw [e]
  obtain ⟨h1, h2, h3⟩ := pk_some (Tk.parse_name hk x.isLt)
  refine ⟨h3, ?_, ?_⟩
  · rw [h1]; unfold Tk.isKind at hk; omega
  · rw [h2]; simp
theorem back_name {s : List UInt8} (h : Tk.pok s = true) : Tk.nameI (Tk.pk s) (Tk.pn s).toNat = s ∧ Tk.errI (Tk.pk s) = 0 := by
  obtain ⟨k, n, hn⟩ := (Tk.pok_iff s).1 h
  obtain ⟨h1, h2, _⟩ := pk_some ((Tk.parse_iff _ _ _).2 hn)
  obtain ⟨hk, hlt, e⟩ := hn
  rw [h1, h2]
  unfold Tk.nameI Tk.errI
  rw [Tk.okK_of hk]
  refine ⟨?_, rfl⟩
  rw [if_pos rfl, BitVec.toNat_ofNat, Nat.mod_eq_of_lt hlt, e]; rfl
theorem pok_no {s : List UInt8} (h : Tk.pok s = false) : Tk.pk s = 0 ∧ V (Tk.pn s) = 0 := by
  unfold Tk.pok at h
  have h0 : Tk.parse s = none := by simpa using h
  exact ⟨(pk_none h0).1, by rw [(pk_none h0).2.1]; rfl⟩

attribute [local irreducible] Tk.nameI Tk.pk Tk.pn Tk.pok Tk.errI Tk.find isI
set_option maxRecDepth 20000 in
set_option maxHeartbeats 4000000 in
theorem back_any (k : Int) (x : BitVec 64) (s : List UInt8) (w : World) (hw : Pres w) :
    Calls Tryd.prog 6 #[.int .i64 k, .int .u64 (V x), .string (str s)] w fun e w' => e = .returned (.bool true) ∧ Ext w w' := by
  have e0 := Ext.refl w
  by_cases hl : s.length ≤ 100
  · cases hk : Tk.okK k
    · have hn : Tk.nameI k x.toNat = [] := by unfold Tk.nameI; rw [hk]; rfl
      have he : Tk.errI k = 8 := by unfold Tk.errI; rw [hk]; rfl
      have hs0 := seq_self []
      have hkk : k < 1 ∨ (1 ≤ k ∧ 6 < k) := by unfold Tk.okK at hk; have := of_decide_eq_false hk; omega
      rcases hkk with h1 | ⟨h1, h2⟩
      all_goals
        go_enter Tryd.func6, Tryd.ntmps6
        go_wp2_with (first
          | (go_at_call 13; refine (awake_any _ hw).mono ?_; rintro e w' ⟨rfl, h⟩; have e0 := e0.trans h)
          | (go_at_call 14; refine (name_any _ _ _ (hw.ext e0)).mono ?_; rintro e w' ⟨rfl, h⟩; have e0 := e0.trans h))
        go_ret
        exact ⟨rfl, e0⟩
    · obtain ⟨q1, q2, q3⟩ := parse_nameI hk x
      have hnl := name_len k x.toNat
      have he : Tk.errI k = 0 := by unfold Tk.errI; rw [hk]; rfl
      have i1 : isI (Tk.nameI k x.toNat) k = true := by unfold isI; rw [q1, q2]; simp
      have i2 : isI (Tk.nameI k x.toNat) (k + 1) = false := by
        unfold isI; rw [q1, q2, Bool.true_and, beq_eq_false_iff_ne]; omega
      have hk6 : 1 ≤ k ∧ k ≤ 6 := by unfold Tk.okK at hk; exact of_decide_eq_true hk
      obtain ⟨hk1, hk7⟩ := hk6
      cases hp : Tk.pok s
      · obtain ⟨z1, z2⟩ := pok_no hp
        go_enter Tryd.func6, Tryd.ntmps6
        go_wp2_with (first
          | (go_at_call 13; refine (awake_any _ hw).mono ?_; rintro e w' ⟨rfl, h⟩; have e0 := e0.trans h)
          | (go_at_call 14; refine (name_any _ _ _ (hw.ext e0)).mono ?_; rintro e w' ⟨rfl, h⟩; have e0 := e0.trans h)
          | (go_at_call 18; refine (parse_any _ (by omega) _ (hw.ext e0)).mono ?_; rintro e w' ⟨rfl, h⟩; have e0 := e0.trans h)
          | (go_at_call 22; refine (is_any _ (by omega) _ _ (hw.ext e0)).mono ?_; rintro e w' ⟨rfl, h⟩; have e0 := e0.trans h))
        go_ret
        exact ⟨rfl, e0⟩
      · obtain ⟨z1, z2⟩ := back_name hp
        have hs0 := seq_self s
        go_enter Tryd.func6, Tryd.ntmps6
        go_wp2_with (first
          | (go_at_call 13; refine (awake_any _ hw).mono ?_; rintro e w' ⟨rfl, h⟩; have e0 := e0.trans h)
          | (go_at_call 14; refine (name_any _ _ _ (hw.ext e0)).mono ?_; rintro e w' ⟨rfl, h⟩; have e0 := e0.trans h)
          | (go_at_call 18; refine (parse_any _ (by omega) _ (hw.ext e0)).mono ?_; rintro e w' ⟨rfl, h⟩; have e0 := e0.trans h)
          | (go_at_call 22; refine (is_any _ (by omega) _ _ (hw.ext e0)).mono ?_; rintro e w' ⟨rfl, h⟩; have e0 := e0.trans h))
        go_ret
        exact ⟨rfl, e0⟩
  · go_enter Tryd.func6, Tryd.ntmps6
    go_wp2_with (go_at_call 13; refine (awake_any _ hw).mono ?_; rintro e w' ⟨rfl, h⟩; have e0 := e0.trans h)
    go_ret
    exact ⟨rfl, e0⟩
end Go.Proofs.YtkpcdbalhpmpmaaDoor
