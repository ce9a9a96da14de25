/- RecordSteps, walked. -/
import Derived.Test.YtkpcdbalhpmpmaaDoorRecY
namespace Go.Proofs.YtkpcdbalhpmpmaaDoor
open Go.RowKit Rk

def stepA (r : Rec) (m u c : Int) : Rec := { r with made := m, used := u, uses := c }
def stepB (r : Rec) (u : List UInt8) : Rec := { r with user := u }
theorem rc_stepA (r : Rec) (m u c : Int) : (((rcells r).setIfInBounds 6 (.int .i64 m)).setIfInBounds 7 (.int .i64 u)).setIfInBounds 8 (.int .i64 c) = rcells (stepA r m u c) := rfl
theorem rc_stepB (r : Rec) (u : List UInt8) : (rcells r).setIfInBounds 3 (.string (str u)) = rcells (stepB r u) := rfl
theorem rc_six (r : Rec) : (rcells r)[6]? = some (.int .i64 r.made) ∧ (rcells r)[7]? = some (.int .i64 r.used) ∧ (rcells r)[8]? = some (.int .i64 r.uses) ∧ (rcells r)[3]? = some (.string (str r.user)) := ⟨rfl, rfl, rfl, rfl⟩
theorem fits_B {r : Rec} (h : Fits r) (u : List UInt8) (hu : u.length ≤ 9223372036854775807) : Fits (stepB r u) := ⟨h.1, h.2.1, hu, h.2.2.2.1, h.2.2.2.2⟩
theorem fits_A {r : Rec} (h : Fits r) (m u c : Int) : Fits (stepA r m u c) := h
theorem rc_B3 (r : Rec) (u : List UInt8) : (rcells (stepB r u))[3]? = some (.string (str u)) := rfl
theorem stepA_len (r : Rec) (m u c : Int) : (enc (stepA r m u c)).length = (enc r).length := by rw [enc_length, enc_length]; rfl
theorem stepB_len (r : Rec) (u : List UInt8) : (enc (stepB r u)).length + r.user.length = (enc r).length + u.length := by rw [enc_length, enc_length]; simp only [stepB]; omega
theorem stepB_right {r : Rec} (h : rightI r = true) (u : List UInt8) : rightI (stepB r u) = decide (u.length ≤ 32) := by
  have R := (right_iff r).1 h
  rw [Bool.eq_iff_iff, right_iff, decide_eq_true_iff]
  exact ⟨fun q => q.user, fun q => ⟨q, R.serv, R.url, R.made, R.used, R.last, R.uses, R.most, R.is, R.par⟩⟩
theorem encS_len {r : Rec} (h : rightI r = true) : (encS r).length = (enc r).length := by unfold encS; rw [h]; rfl
theorem two_rows {w : World} {g k : Nat} {A : Array Value} (hg : w.heap[g]? = some (.cells A 50 (0, 0))) (o : Obj) (cs : Array Value) (_ : k = 0) : ((w.alloc o).setRow w.heap.size cs).heap[g]? = some (.cells A 50 (0, 0)) := by
  have hlt := (Array.getElem?_eq_some_iff.1 hg).1
  exact (setRow_other _ _ _ _ (by omega)).trans (((Ext.refl w).alloc o).heap hg)

attribute [local irreducible] rcells cm isI Tk.pk Tk.pn Tk.pok rightI enc encS encE parI decR decE req fewI stepA stepB
set_option maxRecDepth 20000 in
set_option maxHeartbeats 4000000 in
theorem recSteps_any (r : Rec) (m u c : Int) (more : List UInt8) (w : World) (hw : Pres w) (hF : Fits r) (hml : more.length ≤ 9223372036854775807) :
    Calls Tryd.prog 12 #[.agg (rcells r), .int .i64 m, .int .i64 u, .int .i64 c, .string (str more)] w fun e w' => e = .returned (.bool true) ∧ Ext w w' := by
  have e0 := Ext.refl w
  go_enter Tryd.func12, Tryd.ntmps12
  go_upto_region 1 with fail
  go_cut [5, 10, 11] (fun p z ok wd => z = .bool false ∧ ok = .bool true ∧ ∃ g, p = .pointer (some ⟨g, 0, none⟩) ∧ wd.heap[g]? = some (.cells (rcells r) 50 (0, 0)) ∧ Ext w wd)
  case first =>
    go_wp2_with (go_at_call 29; refine (awake13_any _ (hw.ext (e0.alloc _))).mono ?_; rintro e wA ⟨rfl, h⟩)
    go_meet
    case rel => exact ⟨rfl, rfl, w.heap.size, rfl, h.heap (heap_alloc_new w _), (e0.alloc _).trans h⟩
  case rest =>
    obtain ⟨rfl, rfl, g, rfl, hg, e1⟩ := hcut
    go_upto_region 4 with (first
      | (refine wpList_load_row rfl 50 _ rfl g rfl 50 (rcells r) (0, 0) _ hg Tryd.underlying50 rfl (info_rc _) ?_)
      | (go_at_call 30; refine (few_any r _).mono ?_; rintro e wA ⟨rfl, h⟩; have e1 := e1.trans h; have hg := h.heap hg)
      | (go_at_call 31; refine (encode_r r hF _ (hw.ext e1)).mono ?_; rintro e wA ⟨rfl, h⟩; have e1 := e1.trans h; have hg := h.heap hg))
    cases h1 : fewI r
    · go_wp2
      go_ret
      exact ⟨rfl, e1⟩
    · cases h3 : rightI r
      · have h5 := e_wrong h3
        go_wp2
        go_ret
        exact ⟨rfl, e1⟩
      · have h5 := e_right h3
        by_cases h60 : more.length ≤ 60
        · have d60 : decide ((60 : Int) < (more.length : Int)) = false := by rw [decide_eq_false_iff_not]; omega
          go_upto_region 6 with fail
          go_cut [14, 15] (fun e p wd => e = .int .i64 0 ∧ ∃ k, p = .pointer (some ⟨k, 0, none⟩) ∧ wd.heap[k]? = some (.cells (rcells r) 50 (0, 0)) ∧ wd.heap[g]? = some (.cells (rcells r) 50 (0, 0)) ∧ g ≠ k ∧ w.heap.size ≤ k ∧ Ext w wd)
          case first =>
            go_wp2_with (first
              | (refine wpList_load_row rfl 50 _ rfl g rfl 50 (rcells r) (0, 0) _ hg Tryd.underlying50 rfl (info_rc _) ?_)
              | (refine wpList_store_row rfl 50 _ _ rfl _ (rcells r) rfl rfl 50 zcells (heap_alloc_new _ _) (info_rc _) (rc_size _) (rcells_one _) ?_))
            go_meet
            case rel =>
              have hlt := (Array.getElem?_eq_some_iff.1 hg).1
              exact ⟨rfl, _, rfl, setRow_heap _ _ zcells _ _ _ (heap_alloc_new _ _), two_rows hg _ _ rfl, by omega, e1.size, (e1.alloc _).setRow e1.size _⟩
          case rest =>
            obtain ⟨rfl, k, rfl, hk, hg, hgk, hwk, e1⟩ := hcut
            obtain ⟨s6, s7, s8, s3⟩ := rc_six r
            have c6 : wc.cell? ⟨k, 6, none⟩ = some (.int .i64 r.made) := by rw [cell_of_row _ _ _ _ _ _ hk, s6]
            have c7 : wc.cell? ⟨k, 7, none⟩ = some (.int .i64 r.used) := by rw [cell_of_row _ _ _ _ _ _ hk, s7]
            have c8 : wc.cell? ⟨k, 8, none⟩ = some (.int .i64 r.uses) := by rw [cell_of_row _ _ _ _ _ _ hk, s8]
            have f6 : ∀ q, wc.frozen? ⟨k, q, none⟩ = false := fun q => by simp [World.frozen?, hk]
            have hk3 : (((wc.setCell ⟨k, 6, none⟩ (.int .i64 m)).setCell ⟨k, 7, none⟩ (.int .i64 u)).setCell ⟨k, 8, none⟩ (.int .i64 c)).heap[k]? = some (.cells (rcells (stepA r m u c)) 50 (0, 0)) := by
              rw [← rc_stepA]
              exact setCell_row _ k 8 _ _ _ _ (setCell_row _ k 7 _ _ _ _ (setCell_row _ k 6 _ _ _ _ hk))
            have hg3 : (((wc.setCell ⟨k, 6, none⟩ (.int .i64 m)).setCell ⟨k, 7, none⟩ (.int .i64 u)).setCell ⟨k, 8, none⟩ (.int .i64 c)).heap[g]? = some (.cells (rcells r) 50 (0, 0)) :=
              (Below.heap_setCell _ _ _ _ hgk).trans ((Below.heap_setCell _ _ _ _ hgk).trans ((Below.heap_setCell _ _ _ _ hgk).trans hg))
            have e3 : Ext w (((wc.setCell ⟨k, 6, none⟩ (.int .i64 m)).setCell ⟨k, 7, none⟩ (.int .i64 u)).setCell ⟨k, 8, none⟩ (.int .i64 c)) := ((e1.setCell hwk _).setCell hwk _).setCell hwk _
            go_upto_region 10 with fail
            generalize (((wc.setCell ⟨k, 6, none⟩ (.int .i64 m)).setCell ⟨k, 7, none⟩ (.int .i64 u)).setCell ⟨k, 8, none⟩ (.int .i64 c)) = wd at *
            have hFA : Fits (stepA r m u c) := fits_A hF m u c
            clear c6 c7 c8 f6 hk
            go_upto_region 11 with (first
              | (refine wpList_load_row rfl 50 _ rfl k rfl 50 (rcells (stepA r m u c)) (0, 0) _ hk3 Tryd.underlying50 rfl (info_rc _) ?_)
              | (go_at_call 31; refine (encode_r (stepA r m u c) hFA _ (hw.ext e3)).mono ?_; rintro e wE ⟨rfl, h⟩; have e3 := e3.trans h; have hg3 := h.heap hg3))
            go_cut [18] (fun p wd => ∃ k, p = .pointer (some ⟨k, 0, none⟩) ∧ wd.heap[k]? = some (.cells (rcells r) 50 (0, 0)) ∧ wd.heap[g]? = some (.cells (rcells r) 50 (0, 0)) ∧ g ≠ k ∧ w.heap.size ≤ k ∧ Ext w wd)
            case first =>
              go_wp2_with (first
                | (refine wpList_load_row rfl 50 _ rfl g rfl 50 (rcells r) (0, 0) _ hg3 Tryd.underlying50 rfl (info_rc _) ?_)
                | (refine wpList_store_row rfl 50 _ _ rfl _ (rcells r) rfl rfl 50 zcells (heap_alloc_new _ _) (info_rc _) (rc_size _) (rcells_one _) ?_))
              go_meet
              case rel =>
                have hlt := (Array.getElem?_eq_some_iff.1 hg3).1
                exact ⟨_, rfl, setRow_heap _ _ zcells _ _ _ (heap_alloc_new _ _), two_rows hg3 _ _ rfl, by omega, e3.size, (e3.alloc _).setRow e3.size _⟩
            case rest =>
              clear hg3 e3 hg e1 hwk hgk hk3
              obtain ⟨k, rfl, hk, hg, hgk, hwk, e1⟩ := hcut
              have cu := row_user hg
              have c3 : wc.cell? ⟨k, 3, none⟩ = some (.string (str r.user)) := by rw [cell_of_row _ _ _ _ _ _ hk, s3]
              have f6 : ∀ q, wc.frozen? ⟨k, q, none⟩ = false := fun q => by simp [World.frozen?, hk]
              have R := (right_iff r).1 h3
              have hul := R.user
              have ka : ∀ W, (binOp .add 9 (.string (str r.user)) (.string (str more))).run Tryd.prog W = .ok (.string (str (r.user ++ more))) W := fun W => run_add_str (P := Tryd.prog) W 9 r.user more (by omega)
              have hk3 : (wc.setCell ⟨k, 3, none⟩ (.string (str (r.user ++ more)))).heap[k]? = some (.cells (rcells (stepB r (r.user ++ more))) 50 (0, 0)) := by
                rw [← rc_stepB]
                exact setCell_row _ k 3 _ _ _ _ hk
              have e3 : Ext w (wc.setCell ⟨k, 3, none⟩ (.string (str (r.user ++ more)))) := e1.setCell hwk _
              have hlr : (encS r).length ≤ 300 := by
                rw [encS_len h3, enc_length]
                have := R.parl
                have := R.serv
                have := R.url
                omega
              have hFB : Fits (stepB r (r.user ++ more)) := by
                refine fits_B hF _ ?_
                rw [List.length_append]; omega
              have hBd := stepB_right h3 (r.user ++ more)
              have hBl := stepB_len r (r.user ++ more)
              rw [List.length_append] at hBd hBl
              obtain ⟨X, hX⟩ : ∃ X, X = stepB r (r.user ++ more) := ⟨_, rfl⟩
              have hX3 : (rcells X)[3]? = some (.string (str (r.user ++ more))) := by rw [hX]; exact rc_B3 _ _
              rw [← hX] at hk3 hFB hBd hBl
              clear hX
              go_upto_region 13 with fail
              generalize wc.setCell ⟨k, 3, none⟩ (.string (str (r.user ++ more))) = wd at *
              clear c3 f6 hk cu
              go_upto_region 14 with (first
                | (refine wpList_load_row rfl 50 _ rfl k rfl 50 (rcells X) (0, 0) _ hk3 Tryd.underlying50 rfl (info_rc _) ?_)
                | (go_at_call 31; refine (encode_r X hFB _ (hw.ext e3)).mono ?_; rintro e wE ⟨rfl, h⟩; have e3 := e3.trans h; have hk3 := h.heap hk3))
              have cX := cell_of_row _ k 3 _ _ _ hk3
              rw [hX3] at cX
              by_cases h32 : r.user.length + more.length ≤ 32
              · have hB : rightI X = true := by rw [hBd]; exact decide_eq_true h32
                have z1 := e_right hB
                have z2 : (((encS X).length : Int) == ((encS r).length : Int) + (more.length : Int)) = true := by
                  rw [encS_len hB, encS_len h3, beq_iff_eq]; omega
                have z3 : (r.user.length : Int) + (more.length : Int) ≤ 32 := by omega
                cases hA : rightI (stepA r m u c)
                · have y1 := e_wrong hA
                  go_wp2
                  go_ret
                  exact ⟨by first | rfl | (rw [z4]; rfl), e3⟩
                · have y1 := e_right hA
                  have y2 : (((encS (stepA r m u c)).length : Int) != ((encS r).length : Int)) = false := by
                    rw [encS_len hA, encS_len h3, stepA_len]; simp
                  go_wp2
                  go_ret
                  exact ⟨by first | rfl | (rw [z4]; rfl), e3⟩
              · have hB : rightI X = false := by rw [hBd]; exact decide_eq_false h32
                have z1 := e_wrong hB
                have z3 : (32 : Int) < (r.user.length : Int) + (more.length : Int) := by omega
                have z4 : decide ((r.user.length : Int) + (more.length : Int) ≤ 32) = false := by rw [decide_eq_false_iff_not]; omega
                cases hA : rightI (stepA r m u c)
                · have y1 := e_wrong hA
                  go_wp2
                  go_ret
                  exact ⟨by first | rfl | (rw [z4]; rfl), e3⟩
                · have y1 := e_right hA
                  have y2 : (((encS (stepA r m u c)).length : Int) != ((encS r).length : Int)) = false := by
                    rw [encS_len hA, encS_len h3, stepA_len]; simp
                  go_wp2
                  go_ret
                  exact ⟨by first | rfl | (rw [z4]; rfl), e3⟩
        · have d60 : decide ((60 : Int) < (more.length : Int)) = true := by rw [decide_eq_true_iff]; omega
          go_wp2
          go_ret
          exact ⟨rfl, e1⟩
end Go.Proofs.YtkpcdbalhpmpmaaDoor
