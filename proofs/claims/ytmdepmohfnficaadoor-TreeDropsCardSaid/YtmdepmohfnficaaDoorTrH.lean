/- slices.DeleteFunc; Drop. -/
import Derived.Test.YtmdepmohfnficaaDoorTrG
namespace Go.Proofs.YtmdepmohfnficaaDoor
open Go.RowKit Rk Tr

namespace Tr
theorem idx_cases (p : Rec → Bool) (l : List Rec) : (idx p l = -1 ∧ l.filter (fun r => !p r) = l) ∨ ∃ (i : Nat) (x : Rec), idx p l = (i : Int) ∧ l[i]? = some x ∧ p x = true ∧ (l.take (i + 1)).filter (fun r => !p r) = l.take i := by
  unfold idx
  cases h : l.findIdx? p with
  | none =>
    refine .inl ⟨rfl, List.filter_eq_self.2 fun x hx => ?_⟩
    rw [List.findIdx?_eq_none_iff] at h
    rw [h x hx]; rfl
  | some i =>
    obtain ⟨h1, h2, h3⟩ := List.findIdx?_eq_some_iff_getElem.1 h
    refine .inr ⟨i, l[i], rfl, List.getElem?_eq_getElem h1, h2, ?_⟩
    rw [List.take_add_one, List.getElem?_eq_getElem h1, List.filter_append]
    have : (l.take i).filter (fun r => !p r) = l.take i := List.filter_eq_self.2 fun x hx => by
      obtain ⟨j, hj⟩ := List.getElem?_of_mem hx
      have hji := (List.getElem?_eq_some_iff.1 hj).1
      rw [List.length_take] at hji
      rw [List.getElem?_take, if_pos (by omega)] at hj
      obtain ⟨hj1, rfl⟩ := List.getElem?_eq_some_iff.1 hj
      have := h3 j (by omega)
      simpa using this
    rw [this]; simp [h2]
end Tr
attribute [local irreducible] rcells
set_option maxHeartbeats 1000000 in
theorem indexDrop_any (v : Value) (l : List Rec) (p : Rec → Bool) (B : Nat) (w : World) (h : Recs w v l) (hP : ∀ W r, Ext w W → Calls Tryd.prog 70 #[.agg (rcells r), .pointer (some ⟨B, 0, none⟩)] W fun e w' => e = .returned (.bool (p r)) ∧ Ext W w') :
    Calls Tryd.prog 85 #[v, .func (.func 70) #[] #[.pointer (some ⟨B, 0, none⟩)]] w fun e w' => e = .returned (.int .i64 (idx p l)) ∧ Ext w w' := by
  obtain ⟨a, cap, rfl, hlen, hget⟩ := Rw.shape h
  have hgh := Lib.hid hget
  clear hget h
  have e0 := Ext.refl w
  go_enter Tryd.func85, Tryd.ntmps85
  go_wp2
  go_loopw [8] (fun i wr => ∃ k : Nat, k ≤ l.length ∧ i = .int .i64 (k : Int) ∧ RowKit.Hid (∀ j x, j < k → l[j]? = some x → p x = false) ∧ Ext w wr) (fun i _ => l.length - (intOf i).toNat)
  case atStart => exact ⟨0, Nat.zero_le _, rfl, Lib.hid fun j x hj => by omega, e0⟩
  case round =>
    obtain ⟨k, hk, rfl, hno, ek⟩ := hrel
    clear e0
    by_cases hlt : k < l.length
    · obtain ⟨x, hx⟩ := some_at hlt
      obtain ⟨g, o, cs, rfl, hr, rfl, hf⟩ := hgh.out k x hx
      have hki : (k : Int) < (l.length : Int) := by omega
      have hw : IntKind.i64.wrap ((k : Int) + 1) = (k : Int) + 1 := by rw [IntKind.wrap_i64]; omega
      have hr2 : wr.rangeAt g (o + k * 10) (prow x) := fun i u hu => ek.cell (hr i u hu)
      have hat := hP wr x ek
      have hit := Lib.hid (fun h => idx_hit hno.out hx h : p x = true → idx p l = (k : Int))
      have hnx := Lib.hid (fun h => (fun j y hj hy => if e : j = k then by subst e; rw [hx] at hy; cases hy; exact h else hno.out j y (by omega) hy) : p x = false → ∀ j y, j < k + 1 → l[j]? = some y → p y = false)
      clear hr hx hf hno
      cases hs : p x
      · rw [hs] at hat
        have hnx2 := Lib.hid (hnx.out hs)
        clear hnx hit
        go_wp2_with (first
          | (refine wpList_load_rec (by rfl) _ rfl g (o + k * 10) rfl x hr2 ?_)
          | (go_at_call 70; refine hat.mono ?_; rintro e w2 ⟨rfl, e2⟩))
        go_roundw
        case rel => exact ⟨k + 1, by omega, by go_num, Lib.hid hnx2.out, ek.trans e2⟩
        case measure => simp [intOf]; omega
      · rw [hs] at hat
        have hit2 := Lib.hid (hit.out hs)
        clear hnx hit
        go_wp2_with (first
          | (refine wpList_load_rec (by rfl) _ rfl g (o + k * 10) rfl x hr2 ?_)
          | (go_at_call 70; refine hat.mono ?_; rintro e w2 ⟨rfl, e2⟩))
        go_ret
        exact ⟨by rw [hit2.out]; rfl, ek.trans e2⟩
    · obtain rfl : k = l.length := by omega
      have hm := Lib.hid (idx_miss hno.out)
      go_wp2
      go_ret
      exact ⟨by rw [hm.out]; rfl, ek⟩
end Go.Proofs.YtmdepmohfnficaaDoor
