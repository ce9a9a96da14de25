/- The document's expiry: whether a record lives. -/
import Derived.Test.YtmdepmohfnficaaDoorFxD
namespace Go.Proofs.YtmdepmohfnficaaDoor
set_option linter.unusedVariables false
set_option linter.unusedSimpArgs false
open Go.RowKit Rk Tr

theorem at_new2' (w : World) (A B : Obj) : ((w.alloc A).alloc B).heap[w.heap.size + 1]? = some B := at_new2 w A B
theorem at_old2' (w : World) (A B : Obj) : ((w.alloc A).alloc B).heap[w.heap.size]? = some A := at_old2 w A B
theorem bl_zero {n l : Int} (h : l = 0) : bl n l = true := by unfold bl; rw [h]; rfl
theorem bl_lt {n l : Int} (h : n < l) : bl n l = true := by unfold bl; rw [decide_eq_true h, Bool.or_true]
theorem bl_ge {n l : Int} (h : l ≠ 0) (h2 : ¬ n < l) : bl n l = false := by
  unfold bl
  rw [decide_eq_false h2, beq_eq_false_iff_ne.2 h]; rfl
theorem bl_cases (n l : Int) : (l = 0 ∧ bl n l = true) ∨ (l ≠ 0 ∧ n < l ∧ bl n l = true) ∨ (l ≠ 0 ∧ ¬ n < l ∧ bl n l = false) := by
  by_cases h : l = 0
  · exact .inl ⟨h, bl_zero h⟩
  · by_cases h2 : n < l
    · exact .inr (.inl ⟨h, h2, bl_lt h2⟩)
    · exact .inr (.inr ⟨h, h2, bl_ge h h2⟩)
theorem rc_t (r : Rec) : (rcells r)[0]? = some (.int .i64 r.kind) ∧ (rcells r)[6]? = some (.int .i64 r.made) ∧ (rcells r)[7]? = some (.int .i64 r.used) ∧ (rcells r)[8]? = some (.int .i64 r.uses) := ⟨rfl, rfl, rfl, rfl⟩
attribute [local irreducible] pcA rcells bl
set_option maxRecDepth 20000 in
set_option maxHeartbeats 4000000 in
theorem refLive_any (f : Nat → Int) (r : Rec) (now : Int) (hP : rightP f = true) (hn : -2305843009213693952 ≤ now) (hn2 : now ≤ 2305843009213693952) (hm : -2305843009213693952 ≤ r.made) (hm2 : r.made ≤ 2305843009213693952) (hu : -2305843009213693952 ≤ r.used) (hu2 : r.used ≤ 2305843009213693952) (w : World) :
    Calls Tryd.prog 64 #[.agg (pcA f), .agg (rcells r), .int .i64 now] w fun e w' => e = .returned (.bool (liveI f r now)) ∧ Ext w w' := by
  have hp := at_old2' w (.cells (pcA f) 25) (.cells (rcells r) 36)
  have hb := at_new2' w (.cells (pcA f) 25) (.cells (rcells r) 36)
  have e2 := ((Ext.refl w).alloc (.cells (pcA f) 25)).alloc (.cells (rcells r) 36)
  have r0 := cell_at hb 0 (rc_t r).1
  have r6 := cell_at hb 6 (rc_t r).2.1
  have r7 := cell_at hb 7 (rc_t r).2.2.1
  have r8 := cell_at hb 8 (rc_t r).2.2.2
  by_cases hk1 : r.kind < 1
  · have d1 : decide (r.kind < 1) = true := decide_eq_true hk1
    have hL := Lib.hid (show liveI f r now = false from by unfold liveI; rw [decide_eq_false (by omega : ¬ 1 ≤ r.kind)]; rfl)
    clear hp hb
    go_enter Tryd.func64, Tryd.ntmps64
    go_wp2
    go_ret
    exact ⟨by rw [hL.out]; rfl, e2⟩
  have d1 : decide (r.kind < 1) = false := decide_eq_false hk1
  by_cases hk6 : 6 < r.kind
  · have d6 : decide (6 < r.kind) = true := decide_eq_true hk6
    have hL := Lib.hid (show liveI f r now = false from by unfold liveI; rw [decide_eq_false (by omega : ¬ r.kind ≤ 6), Bool.and_false]; rfl)
    clear hp hb
    go_enter Tryd.func64, Tryd.ntmps64
    go_wp2
    go_ret
    exact ⟨by rw [hL.out]; rfl, e2⟩
  have d6 : decide (6 < r.kind) = false := decide_eq_false hk6
  obtain ⟨k, hk⟩ : ∃ k : Nat, r.kind = k := ⟨r.kind.toNat, by omega⟩
  have hL := Lib.hid (show liveI f r now = (bl (now - r.made) (f k) && (bl (now - r.used) (f (7 + k)) && bl r.uses (f (14 + k)))) from by
    unfold liveI
    rw [decide_eq_true (by omega : 1 ≤ r.kind), decide_eq_true (by omega : r.kind ≤ 6), hk, Int.toNat_natCast]; rfl)
  rw [hk] at r0 d1 d6
  obtain ⟨hf1, hf2, hf3⟩ := rightP_ge hP (by omega : k < 7)
  have c1 := (cell_of_row _ w.heap.size k _ _ _ hp).trans (pcA_at f (by omega))
  have c2 := (cell_of_row _ w.heap.size (7 + k) _ _ _ hp).trans (pcA_at f (by omega))
  have c3 := (cell_of_row _ w.heap.size (14 + k) _ _ _ hp).trans (pcA_at f (by omega))
  have k7 : (k : Int) < 7 := by omega
  have k0 : (0 : Int) ≤ (k : Int) := by omega
  have w1 : IntKind.i64.wrap (now - r.made) = now - r.made := by rw [IntKind.wrap_i64]; omega
  have w2 : IntKind.i64.wrap (now - r.used) = now - r.used := by rw [IntKind.wrap_i64]; omega
  have hb1 := bl_cases (now - r.made) (f k)
  have hb2 := bl_cases (now - r.used) (f (7 + k))
  have hb3 := bl_cases r.uses (f (14 + k))
  clear hp hb hk1 hk6 hP hn hn2 hm hm2 hu hu2 hk
  go_enter Tryd.func64, Tryd.ntmps64
  go_upto_region 4 with fail
  generalize (w.alloc (.cells (pcA f) 25)).alloc (.cells (rcells r) 36) = W2 at *
  go_cut [31] (fun b wd => b = .bool (!bl (now - r.made) (f k)) ∧ Ext W2 wd)
  case first =>
    rcases hb1 with ⟨h1, h2⟩ | ⟨h1, h2, h3⟩ | ⟨h1, h2, h3⟩
    · have q : decide (0 < f k) = false := decide_eq_false (by omega)
      have h2h := Lib.hid h2
      clear h1 h2 hf1
      go_quiet (fail)
      go_wp2
      go_meet
      exact ⟨by rw [h2h.out]; rfl, Ext.drewM _ nq⟩
    · have q : decide (0 < f k) = true := decide_eq_true (by omega)
      have q2 : decide (f k ≤ now - r.made) = false := decide_eq_false (by omega)
      have h2h := Lib.hid h3
      clear h1 h2 h3 hf1
      go_quiet (fail)
      go_wp2
      go_meet
      exact ⟨by rw [h2h.out]; rfl, Ext.drewM _ nq⟩
    · have q : decide (0 < f k) = true := decide_eq_true (by omega)
      have q2 : decide (f k ≤ now - r.made) = true := decide_eq_true (by omega)
      have h2h := Lib.hid h3
      clear h1 h2 h3 hf1
      go_quiet (fail)
      go_wp2
      go_meet
      exact ⟨by rw [h2h.out]; rfl, Ext.drewM _ nq⟩
  case rest =>
    obtain ⟨rfl, e3⟩ := hcut
    cases hB1 : bl (now - r.made) (f k)
    · have hF := Lib.hid (hL.out.trans (by rw [hB1]; rfl : _ = false))
      go_wp2
      go_ret
      exact ⟨by rw [hF.out]; rfl, e2.trans e3⟩
    have hL2 := Lib.hid (hL.out.trans (by rw [hB1, Bool.true_and] : _ = (bl (now - r.used) (f (7 + k)) && bl r.uses (f (14 + k)))))
    have r7 := e3.cell r7
    have r8 := e3.cell r8
    have c2 := e3.cell c2
    have c3 := e3.cell c3
    have e4 := e2.trans e3
    clear hL hb1 c1 r0 r6 e2 e3 hf1
    go_upto_region 6 with fail
    go_cut [47] (fun b wd => b = .bool (!bl (now - r.used) (f (7 + k))) ∧ Ext wc wd)
    case first =>
      rcases hb2 with ⟨h1, h2⟩ | ⟨h1, h2, h3⟩ | ⟨h1, h2, h3⟩
      · have q : decide (0 < f (7 + k)) = false := decide_eq_false (by omega)
        have h2h := Lib.hid h2
        clear h1 h2 hf2
        go_quiet (fail)
        go_wp2
        go_meet
        exact ⟨by rw [h2h.out]; rfl, Ext.drewM _ nq⟩
      · have q : decide (0 < f (7 + k)) = true := decide_eq_true (by omega)
        have q2 : decide (f (7 + k) ≤ now - r.used) = false := decide_eq_false (by omega)
        have h2h := Lib.hid h3
        clear h1 h2 h3 hf2
        go_quiet (fail)
        go_wp2
        go_meet
        exact ⟨by rw [h2h.out]; rfl, Ext.drewM _ nq⟩
      · have q : decide (0 < f (7 + k)) = true := decide_eq_true (by omega)
        have q2 : decide (f (7 + k) ≤ now - r.used) = true := decide_eq_true (by omega)
        have h2h := Lib.hid h3
        clear h1 h2 h3 hf2
        go_quiet (fail)
        go_wp2
        go_meet
        exact ⟨by rw [h2h.out]; rfl, Ext.drewM _ nq⟩
    case rest =>
      obtain ⟨rfl, e5⟩ := hcut
      cases hB2 : bl (now - r.used) (f (7 + k))
      · have hF := Lib.hid (hL2.out.trans (by rw [hB2]; rfl : _ = false))
        go_wp2
        go_ret
        exact ⟨by rw [hF.out]; rfl, e4.trans e5⟩
      have hL3 := Lib.hid (hL2.out.trans (by rw [hB2, Bool.true_and] : _ = bl r.uses (f (14 + k))))
      have r8 := e5.cell r8
      have c3 := e5.cell c3
      have e6 := e4.trans e5
      clear hL2 hb2 c2 r7 e4 e5 hf2
      go_upto_region 8 with fail
      rcases hb3 with ⟨h1, h2⟩ | ⟨h1, h2, h3⟩ | ⟨h1, h2, h3⟩
      · have q : (f (14 + k) == 0) = true := by rw [beq_iff_eq]; exact h1
        have h2h := Lib.hid h2
        clear h1 h2 hf3
        go_quiet (fail)
        go_wp2
        go_ret
        exact ⟨by rw [hL3.out, h2h.out]; rfl, e6.trans (Ext.drewM _ nq)⟩
      · have q : (f (14 + k) == 0) = false := by rw [beq_eq_false_iff_ne]; exact h1
        have q2 : decide (r.uses < f (14 + k)) = true := decide_eq_true h2
        have h2h := Lib.hid h3
        clear h1 h2 h3 hf3
        go_quiet (fail)
        go_wp2
        go_ret
        exact ⟨by rw [hL3.out, h2h.out]; rfl, e6.trans (Ext.drewM _ nq)⟩
      · have q : (f (14 + k) == 0) = false := by rw [beq_eq_false_iff_ne]; exact h1
        have q2 : decide (r.uses < f (14 + k)) = false := decide_eq_false h2
        have h2h := Lib.hid h3
        clear h1 h2 h3 hf3
        go_quiet (fail)
        go_wp2
        go_ret
        exact ⟨by rw [hL3.out, h2h.out]; rfl, e6.trans (Ext.drewM _ nq)⟩
end Go.Proofs.YtmdepmohfnficaaDoor
