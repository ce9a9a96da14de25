/- Package expiry: what is used; which policies can be. -/
import Derived.Test.YtmdepmohfnficaaDoorFxA
namespace Go.Proofs.YtmdepmohfnficaaDoor
set_option linter.unusedVariables false
set_option linter.unusedSimpArgs false
open Go.RowKit Rk

theorem info_pol : (Tryd.prog.info? 25).map (·.size) = some 21 := by kernel_rfl
def rzero : Rec := ⟨0, [], [], [], [], [], 0, 0, 0, false⟩
theorem results_one {fn : Func} {p : Tmp} (h : fn.results = #[.cell p 36]) (tmps : Array Value) (w : World) (g : Nat) (cs : Array Value) (hp : tmps.getD p undef = .pointer (some ⟨g, 0, none⟩)) (hg : w.heap[g]? = some (.cells cs 36 (0, 0))) (hs : (Tryd.prog.info? 36).map (·.size) = some cs.size) :
    (results fn tmps).run Tryd.prog w = .ok (.agg cs) w := by
  have e : (results fn tmps).run Tryd.prog w = ((asAddr (tmps.getD p undef)).run Tryd.prog w).andThen fun a w₁ => (loadVar 36 a).run Tryd.prog w₁ := by
    simp only [results, h]
    simp [Sem.run_bind, Result.andThen]
  rw [e, hp]
  simp only [asAddr, Sem.run_pure, Result.andThen_ok, run_loadVar_row w g 36 36 cs (0, 0) _ hg Tryd.underlying36 rfl hs]
theorem rset7 (r : Rec) (z : Int) : (rcells r).setIfInBounds 7 (.int .i64 z) = rcells { r with used := z } := rfl
theorem rset8 (r : Rec) (z : Int) : (rcells r).setIfInBounds 8 (.int .i64 z) = rcells { r with uses := z } := rfl
set_option maxRecDepth 20000 in
set_option maxHeartbeats 2000000 in
theorem touch_any (r : Rec) (now : Int) (hc0 : 0 ≤ r.uses) (hc : r.uses ≤ 2305843009213693952) (w : World) :
    Calls Tryd.prog 54 #[.agg (rcells r), .int .i64 now] w fun e w' => e = .returned (.agg (rcells (touch r now))) ∧ Ext w w' := by
  have e0 := Ext.refl w
  have hT : RowKit.Hid (touch r now = { r with uses := min (r.uses + 1) 255, used := max r.used now }) := Lib.hid rfl
  obtain ⟨k, n, p, u, s, l, m, us, ct, fr⟩ := r
  simp only at hc0 hc hT
  have hbox := heap_alloc2_old w (.cells (rcells ⟨k, n, p, u, s, l, m, us, ct, fr⟩) 36) (.cells (rcells rzero) 36)
  have hres := heap_alloc2_new w (.cells (rcells ⟨k, n, p, u, s, l, m, us, ct, fr⟩) 36) (.cells (rcells rzero) 36)
  have e2 : Ext w ((w.alloc (.cells (rcells ⟨k, n, p, u, s, l, m, us, ct, fr⟩) 36)).alloc (.cells (rcells rzero) 36)) := (e0.alloc _).alloc _
  rw [rcells_eq] at *
  have hz : rcells rzero = #[.int .i64 0, .string (str []), .string (str []), .string (str []), .string (str []), .string (str []), .int .i64 0, .int .i64 0, .int .i64 0, .bool false] := rfl
  rw [hz] at hbox hres e2
  clear hz
  go_enter Tryd.func54, Tryd.ntmps54
  have t1 : IntKind.i64.wrap (ct + 1) = ct + 1 := by rw [IntKind.wrap_i64]; omega
  have hmn : (ct + 1 ≤ 255 ∧ min (ct + 1) 255 = ct + 1) ∨ (¬ ct + 1 ≤ 255 ∧ min (ct + 1) 255 = 255) := by omega
  have hmx : (us < now ∧ max us now = now) ∨ (¬ us < now ∧ max us now = us) := by omega
  have hb := Lib.hid hbox
  have hr := Lib.hid hres
  have e2h := Lib.hid e2
  clear hbox hres e2 e0
  rcases hmn with ⟨a1, a2⟩ | ⟨a1, a2⟩
  all_goals
    rcases hmx with ⟨b1, b2⟩ | ⟨b1, b2⟩
    all_goals
      have a2h := Lib.hid a2
      have b2h := Lib.hid b2
      clear a2 b2
      go_upto_region 3 with fail
      go_wp2
      refine bodyPost_ret (results_one rfl _ _ (w.heap.size + 1) _ rfl (heap_alloc2_new w _ _) info_rec) rfl ⟨by rw [hT.out, a2h.out, b2h.out]; rfl, ((Ext.refl w).alloc _).alloc _⟩
theorem bad_any (n : Int) (h0 : 0 ≤ n) (h1 : n ≤ 1099511627776) (w : World) :
    Calls Tryd.prog 82 #[.int .i64 n] w fun e w' => e = .returned (.bool false) ∧ w = w' := by
  have d1 : decide (n < 0) = false := by rw [decide_eq_false_iff_not]; omega
  have d2 : decide ((1099511627776 : Int) < n) = false := by rw [decide_eq_false_iff_not]; omega
  clear h0 h1
  go_enter Tryd.func82, Tryd.ntmps82
  go_wp2
  go_ret
  exact ⟨rfl, rfl⟩
theorem indexFunc_ok (g o : Nat) (f : Nat → Int) (w : World) (hc : ∀ j, j < 7 → w.cell? ⟨g, o + j, none⟩ = some (.int .i64 (f j))) (hf : ∀ j, j < 7 → 0 ≤ f j ∧ f j ≤ 1099511627776) :
    Calls Tryd.prog 98 #[.slice (some ⟨g, o, none⟩) 7 7, .func (.func 82) #[] #[]] w fun e w' => e = .returned (.int .i64 (-1)) ∧ w = w' := by
  have hch := Lib.hid hc
  have hfh := Lib.hid hf
  clear hc hf
  go_enter Tryd.func98, Tryd.ntmps98
  go_wp2
  go_loop [8] (fun i => ∃ j : Nat, j ≤ 7 ∧ i = .int .i64 (j : Int)) (fun i => 7 - (intOf i).toNat)
  case atStart => exact ⟨0, by omega, rfl⟩
  case round =>
    obtain ⟨j, hj, rfl⟩ := hrel
    by_cases hlt : j < 7
    · have hji : (j : Int) < 7 := by omega
      have c := hch.out j hlt
      have hb := bad_any (f j) (hfh.out j hlt).1 (hfh.out j hlt).2 w
      go_wp2_with (go_at_call 82; refine hb.mono ?_; rintro e w' ⟨rfl, rfl⟩)
      go_round
      case rel => exact ⟨j + 1, by omega, by go_num⟩
      case measure => simp [intOf]; omega
    · obtain rfl : j = 7 := by omega
      go_wp2
      go_ret
      exact ⟨rfl, rfl⟩
theorem containsFunc_ok (g o : Nat) (f : Nat → Int) (w : World) (hc : ∀ j, j < 7 → w.cell? ⟨g, o + j, none⟩ = some (.int .i64 (f j))) (hf : ∀ j, j < 7 → 0 ≤ f j ∧ f j ≤ 1099511627776) :
    Calls Tryd.prog 83 #[.slice (some ⟨g, o, none⟩) 7 7, .func (.func 82) #[] #[]] w fun e w' => e = .returned (.bool false) ∧ w = w' := by
  have hi := indexFunc_ok g o f w hc hf
  clear hc hf
  go_enter Tryd.func83, Tryd.ntmps83
  go_wp2_with (go_at_call 98; refine hi.mono ?_; rintro e w' ⟨rfl, rfl⟩)
  go_ret
  exact ⟨rfl, rfl⟩
attribute [local irreducible] pcA
set_option maxRecDepth 20000 in
theorem right_ok (f : Nat → Int) (hf : ∀ j, j < 21 → 0 ≤ f j ∧ f j ≤ 1099511627776) (w : World) :
    Calls Tryd.prog 55 #[.agg (pcA f)] w fun e w' => e = .returned (.bool true) ∧ Ext w w' := by
  have hp := heap_alloc_new w (.cells (pcA f) 25)
  have hcell : ∀ j, j < 21 → (w.alloc (.cells (pcA f) 25)).cell? ⟨w.heap.size, j, none⟩ = some (.int .i64 (f j)) := fun j hj => (cell_of_row _ w.heap.size j _ _ _ hp).trans (pcA_at f hj)
  have h1 := containsFunc_ok w.heap.size 0 (fun j => f j) _ (fun j hj => by rw [Nat.zero_add]; exact hcell j (by omega)) (fun j hj => hf j (by omega))
  have h2 := containsFunc_ok w.heap.size 7 (fun j => f (7 + j)) _ (fun j hj => hcell (7 + j) (by omega)) (fun j hj => hf (7 + j) (by omega))
  have h3 := containsFunc_ok w.heap.size 14 (fun j => f (14 + j)) _ (fun j hj => hcell (14 + j) (by omega)) (fun j hj => hf (14 + j) (by omega))
  have e1 := Lib.hid ((Ext.refl w).alloc (.cells (pcA f) 25))
  clear hp hcell hf
  go_enter Tryd.func55, Tryd.ntmps55
  go_wp2_with (go_at_call 83; first | ((with_reducible refine h1.mono ?_); rintro e w' ⟨rfl, rfl⟩) | ((with_reducible refine h2.mono ?_); rintro e w' ⟨rfl, rfl⟩) | ((with_reducible refine h3.mono ?_); rintro e w' ⟨rfl, rfl⟩))
  go_ret
  exact ⟨rfl, e1.out⟩
end Go.Proofs.YtmdepmohfnficaaDoor
