/- The document's tree: New, At, Get, Kids, Path. -/
import Derived.Test.YtmdepmohfnficaaDoorGTs
import Derived.Test.YtmdepmohfnficaaDoorRecG
namespace Go.Proofs.YtmdepmohfnficaaDoor
set_option linter.unusedVariables false
set_option linter.unusedSimpArgs false
open Go.RowKit Rk Tr

theorem refNew_any (z : Int) (w : World) :
    Calls Tryd.prog 37 #[.int .i64 z] w (Ret fun u w' => u = .pointer (some ⟨w.heap.size, 0, none⟩) ∧ TrM 34 w' (fun k => k = w.heap.size) w.heap.size (roomN z) [] ∧ Ext w w') := by
  have e0 := Ext.refl w
  go_enter Tryd.func37, Tryd.ntmps37
  go_wp2
  all_goals go_ret
  all_goals exact Ret.mk ⟨rfl, new_tr (by rw [roomN_eq]; omega) w, e0.alloc _⟩
attribute [local irreducible] rcells
set_option maxHeartbeats 1000000 in
theorem refAt_any {F : Nat → Prop} {p room : Nat} {l : List Rec} (n : List UInt8) {w : World} (h : TrM 34 w F p room l) :
    Calls Tryd.prog 68 #[.pointer (some ⟨p, 0, none⟩), .string (str n)] w fun e w' => e = .returned (.int .i64 (atI l n)) ∧ w = w' := by
  obtain ⟨a, cap, -, c1, hr⟩ := h.parts
  obtain ⟨a', cap', hq, hlen, hget⟩ := Rw.shape hr
  cases hq
  have hgh := Lib.hid hget
  clear hget hr h
  go_enter Tryd.func68, Tryd.ntmps68
  go_wp2
  go_loop [5] (fun i => ∃ k : Nat, k ≤ l.length ∧ i = .int .i64 (k : Int) ∧ RowKit.Hid (∀ j x, j < k → l[j]? = some x → seq x.name n = false)) (fun i => l.length - (intOf i).toNat)
  case atStart => exact ⟨0, Nat.zero_le _, rfl, Lib.hid fun j x hj => by omega⟩
  case round =>
    obtain ⟨k, hk, rfl, hno⟩ := hrel
    by_cases hlt : k < l.length
    · obtain ⟨x, hx⟩ := some_at hlt
      obtain ⟨g, o, cs, rfl, hr, rfl, hf⟩ := hgh.out k x hx
      have hki : (k : Int) < (l.length : Int) := by omega
      have hw : IntKind.i64.wrap ((k : Int) + 1) = (k : Int) + 1 := by rw [IntKind.wrap_i64]; omega
      have n1 := hr 1 _ (prow_cells x).2.1
      have hit := Lib.hid (fun h => idx_hit hno.out hx h : seq x.name n = true → idx (fun r => seq r.name n) l = (k : Int))
      have hnx := Lib.hid (fun h => (fun j y hj hy => if e : j = k then by subst e; rw [hx] at hy; cases hy; exact h else hno.out j y (by omega) hy) : seq x.name n = false → ∀ j y, j < k + 1 → l[j]? = some y → seq y.name n = false)
      clear hr hx hf hno
      cases hs : seq x.name n
      · have hnx2 := Lib.hid (hnx.out hs)
        clear hnx hit
        go_wp2
        go_round
        case rel => exact ⟨k + 1, by omega, by go_num, Lib.hid hnx2.out⟩
        case measure => simp [intOf]; omega
      · have hit2 := Lib.hid (hit.out hs)
        clear hnx hit
        go_wp2
        go_ret
        exact ⟨by unfold atI; rw [hit2.out]; rfl, rfl⟩
    · obtain rfl : k = l.length := by omega
      have hm := Lib.hid (idx_miss hno.out)
      go_wp2
      go_ret
      exact ⟨by unfold atI; rw [hm.out]; rfl, rfl⟩
set_option maxRecDepth 20000 in
set_option maxHeartbeats 1000000 in
theorem refGet_any {F : Nat → Prop} {p room : Nat} {l : List Rec} (n : List UInt8) {w : World} (h : TrM 34 w F p room l) :
    Calls Tryd.prog 31 #[.pointer (some ⟨p, 0, none⟩), .string (str n)] w fun e w' => e = .returned (.tuple #[.agg (rcells (getR l n)), .bool (isIn l n)]) ∧ Ext w w' := by
  have e1 := (Ext.refl w).alloc (.cells zcells 36)
  have hz := heap_alloc_new w (.cells zcells 36)
  have hat := refAt_any n (h.ext e1)
  have hpt := (h.ext e1).parts
  rcases atI_cases l n with ⟨h1, h2⟩ | ⟨i, r, h1, h2, h3, -⟩
  · have hR := Lib.hid (show getR l n = zero ∧ isIn l n = false from by unfold getR isIn; rw [h1]; exact ⟨rfl, rfl⟩)
    rw [h2] at hat
    clear h1 h2 h hpt
    have hzh := Lib.hid hz
    have e1h := Lib.hid e1
    clear hz e1
    go_enter Tryd.func31, Tryd.ntmps31
    go_wp2_with (first
      | (go_at_call 68; refine hat.mono ?_; rintro e w2 ⟨rfl, rfl⟩)
      | (refine wpList_store_row rfl 36 _ _ rfl w.heap.size zcells rfl rfl 36 zcells hzh.out info_rec rfl zcells_one ?_))
    refine bodyPost_ret (results_rec rfl _ _ w.heap.size zcells rfl (setRow_heap _ w.heap.size zcells zcells _ _ hzh.out) info_rec) rfl ⟨?_, e1h.out.setRow (Nat.le_refl _) _⟩
    rw [hR.out.1, hR.out.2, ← zc_rc]; rfl
  · have hR := Lib.hid (show getR l n = r ∧ isIn l n = true from by unfold getR isIn; rw [h1]; exact ⟨getD_at h3, rfl⟩)
    rw [h2] at hat
    have hil : (i : Int) < (l.length : Int) := by
      have := (List.getElem?_eq_some_iff.1 h3).1
      omega
    obtain ⟨a, cap, -, c1, hr⟩ := hpt
    obtain ⟨a', cap', hq, -, hget⟩ := Rw.shape hr
    cases hq
    obtain ⟨g, o, cs, rfl, hrr, rfl, -⟩ := hget i r h3
    have hzh := Lib.hid hz
    have e1h := Lib.hid e1
    clear h1 h2 h hz e1 h3 hr hget
    go_enter Tryd.func31, Tryd.ntmps31
    go_wp2_with (first
      | (go_at_call 68; refine hat.mono ?_; rintro e w2 ⟨rfl, rfl⟩)
      | (refine wpList_load_rec (by rfl) _ rfl g (o + i * 10) rfl r hrr ?_)
      | (refine wpList_store_row rfl 36 _ _ rfl w.heap.size (rcells r) rfl rfl 36 zcells hzh.out (rc_sz r) (zc_size r) (rc_one r) ?_))
    refine bodyPost_ret (results_rec rfl _ _ w.heap.size (rcells r) rfl (setRow_heap _ w.heap.size zcells (rcells r) _ _ hzh.out) (rc_sz r)) rfl ⟨?_, e1h.out.setRow (Nat.le_refl _) _⟩
    rw [hR.out.1, hR.out.2]; rfl
end Go.Proofs.YtmdepmohfnficaaDoor
