/- RecordTells, walked. -/
import Derived.Test.YtkpcdbalhpmpmaaDoorRecV
import Derived.Test.YtkpcdbalhpmpmaaDoorRecH
import Derived.Test.YtkpcdbalhpmpmaaDoorRecI
namespace Go.Proofs.YtkpcdbalhpmpmaaDoor
open Go.RowKit Rk

theorem run_loadAt_rec (W : World) (g : Nat) (r : Rec) (hg : W.heap[g]? = some (.cells (rcells r) 50 (0, 0))) : (Instr.loadAt 50 (.pointer (some ⟨g, 0, none⟩))).run Tryd.prog W = .ok (.agg (rcells r)) W := by
  simp only [Instr.loadAt, Instr.sureAddr, Sem.run_bind, Sem.run_pure, Result.andThen_ok, run_loadVar_row W g 50 50 (rcells r) (0, 0) _ hg Tryd.underlying50 rfl (info_rc r)]
theorem refEncode_r (r : Rec) (hf : Fits r) (hn1 : r.name.length ≤ 1099511627776) (hp1 : r.par.length ≤ 1099511627776) (w : World) :
    Calls Tryd.prog 32 #[.agg (rcells r)] w fun e w' => e = .returned (.tuple #[.string (str (encS r)), .int .i64 (encE r)]) ∧ Ext w w' := refEncode_any r hf hn1 hp1 w
theorem refDecode_r (name s : List UInt8) (hn : name.length ≤ 1000) (hs : s.length ≤ 1000) (w : World) :
    Calls Tryd.prog 34 #[.string (str name), .string (str s)] w fun e w' => e = .returned (.tuple #[.agg (rcells (decR name s)), .int .i64 (decE name s)]) ∧ Ext w w' := refDecode_any name s hn hs w
theorem refRight_r (r : Rec) (hf : Fits r) (hn1 : r.name.length ≤ 1099511627776) (hp1 : r.par.length ≤ 1099511627776) (w : World) :
    Calls Tryd.prog 36 #[.agg (rcells r)] w fun e w' => e = .returned (.bool (rightI r)) ∧ Ext w w' := refRight_any r hf hn1 hp1 w
theorem few_par {r : Rec} (h : fewI r = true) : r.name.length ≤ 1099511627776 ∧ r.par.length ≤ 1099511627776 := by
  unfold fewI at h
  simp only [Bool.and_eq_true, decide_eq_true_eq] at h
  omega
attribute [local irreducible] rcells cm isI Tk.pk Tk.pn Tk.pok rightI enc encS encE parI decR decE req fewI
set_option maxRecDepth 20000 in
set_option maxHeartbeats 4000000 in
theorem recTells_any (r : Rec) (k o : Int) (name s : List UInt8) (w : World) (hw : Pres w) (hF : Fits r) (_ : -9223372036854775808 ≤ k) (_ : k ≤ 9223372036854775807) (_ : -9223372036854775808 ≤ o) (_ : o ≤ 9223372036854775807) (_hnl : name.length ≤ 9223372036854775807) (_hsl : s.length ≤ 9223372036854775807) :
    Calls Tryd.prog 8 #[.agg (rcells r), .int .i64 k, .int .i64 o, .string (str name), .string (str s)] w fun e w' => e = .returned (.bool true) ∧ Ext w w' := by
  have e0 := Ext.refl w
  go_enter Tryd.func8, Tryd.ntmps8
  go_upto_region 1 with fail
  go_cut [5, 10, 11] (fun p z ok wd => z = .bool false ∧ ok = .bool true ∧ ∃ g, p = .pointer (some ⟨g, 0, none⟩) ∧ wd.heap[g]? = some (.cells (rcells r) 50 (0, 0)) ∧ Ext w wd)
  case first =>
    go_wp2_with (go_at_call 29; refine (awake13_any _ (hw.ext (e0.alloc _))).mono ?_; rintro e wA ⟨rfl, h⟩)
    go_meet
    case rel => exact ⟨rfl, rfl, w.heap.size, rfl, h.heap (heap_alloc_new w _), (e0.alloc _).trans h⟩
  case rest =>
    obtain ⟨rfl, rfl, g, rfl, hg, e1⟩ := hcut
    go_upto_region 3 with (first
      | (refine wpList_load_row rfl 50 _ rfl g rfl 50 (rcells r) (0, 0) _ hg Tryd.underlying50 rfl (info_rc _) ?_)
      | (go_at_call 30; refine (few_any r _).mono ?_; rintro e wA ⟨rfl, h⟩; have e1 := e1.trans h; have hg := h.heap hg))
    cases h1 : fewI r
    · go_wp2
      go_ret
      exact ⟨rfl, e1⟩
    · by_cases h60 : name.length ≤ 60
      · have d60 : decide ((60 : Int) < (name.length : Int)) = false := by rw [decide_eq_false_iff_not]; omega
        by_cases h400 : s.length ≤ 400
        · have d400 : decide ((400 : Int) < (s.length : Int)) = false := by rw [decide_eq_false_iff_not]; omega
          obtain ⟨hn1, hp1⟩ := few_par h1
          go_upto_region 8 with (first
            | (refine wpList_load_row rfl 50 _ rfl g rfl 50 (rcells r) (0, 0) _ hg Tryd.underlying50 rfl (info_rc _) ?_)
            | (go_at_call 31; refine (encode_r r hF _ (hw.ext e1)).mono ?_; rintro e wA ⟨rfl, h⟩; have e1 := e1.trans h; have hg := h.heap hg)
            | (go_at_call 32; refine (refEncode_r r hF hn1 hp1 _).mono ?_; rintro e wA ⟨rfl, h⟩; have e1 := e1.trans h; have hg := h.heap hg)
            | (go_at_call 33; refine (decode_r name s (by omega) (by omega) _ (hw.ext e1)).mono ?_; rintro e wA ⟨rfl, h⟩; have e1 := e1.trans h; have hg := h.heap hg)
            | (refine wpList_store_row rfl 50 _ _ rfl _ (rcells (decR name s)) rfl rfl 50 zcells (heap_alloc_new _ _) (info_rc _) (rc_size _) (rcells_one _) ?_))
          go_cut [13, 14, 15, 16, 17, 18, 19, 20] (fun a e b f x q y q' wd => a = .string (str (encS r)) ∧ e = .int .i64 (encE r) ∧ b = .string (str (encS r)) ∧ f = .int .i64 (encE r) ∧ q = .int .i64 (decE name s) ∧ q' = .int .i64 (decE name s) ∧ ∃ k1 k2, x = .pointer (some ⟨k1, 0, none⟩) ∧ y = .pointer (some ⟨k2, 0, none⟩) ∧ wd.heap[k1]? = some (.cells (rcells (decR name s)) 50 (0, 0)) ∧ wd.heap[k2]? = some (.cells (rcells (decR name s)) 50 (0, 0)) ∧ wd.heap[g]? = some (.cells (rcells r) 50 (0, 0)) ∧ Ext w wd)
          case first =>
            have hlt := (Array.getElem?_eq_some_iff.1 hg).1
            have hg1 := (setRow_other (wA.alloc (.cells zcells 50)) wA.heap.size g (rcells (decR name s)) (by omega)).trans (((Ext.refl wA).alloc _).heap hg)
            have hk1 := setRow_heap (wA.alloc (.cells zcells 50)) wA.heap.size zcells (rcells (decR name s)) _ _ (heap_alloc_new _ _)
            have e2 := (e1.alloc (.cells zcells 50)).setRow e1.size (rcells (decR name s))
            go_wp2_with (first
              | (go_at_call 34; refine (refDecode_r name s (by omega) (by omega) _).mono ?_; rintro e wB ⟨rfl, h⟩; have e3 := e2.trans h; have hg3 := h.heap hg1; have hk3 := h.heap hk1)
              | (refine wpList_store_row rfl 50 _ _ rfl _ (rcells (decR name s)) rfl rfl 50 zcells (heap_alloc_new _ _) (info_rc _) (rc_size _) (rcells_one _) ?_))
            go_meet
            case rel =>
              have l1 := (Array.getElem?_eq_some_iff.1 hg3).1
              have l2 := (Array.getElem?_eq_some_iff.1 hk3).1
              exact ⟨rfl, rfl, rfl, rfl, rfl, rfl, wA.heap.size, wB.heap.size, rfl, rfl, (setRow_other _ _ _ _ (by omega)).trans (((Ext.refl wB).alloc _).heap hk3), setRow_heap _ _ zcells _ _ _ (heap_alloc_new _ _), (setRow_other _ _ _ _ (by omega)).trans (((Ext.refl wB).alloc _).heap hg3), (e3.alloc _).setRow e3.size _⟩
          case rest =>
            clear hg e1
            obtain ⟨rfl, rfl, rfl, rfl, rfl, rfl, k1, k2, rfl, rfl, hk1, hk2, hg, e2⟩ := hcut
            have hq1 := seq_self (encS r)
            have hq2 : (encE r == encE r) = true := beq_self_eq_true _
            have hq3 : (decE name s == decE name s) = true := beq_self_eq_true _
            have hq4 : (rightI r == rightI r) = true := beq_self_eq_true _
            have hq5 : (cm k o == cm k o) = true := beq_self_eq_true _
            generalize decR name s = R at *
            have hq : ∀ W, (binOp .eql 50 (.agg #[.int .i64 R.kind, .string (str R.name), .string (str R.par), .string (str R.user), .string (str R.serv), .string (str R.url), .int .i64 R.made, .int .i64 R.used, .int .i64 R.uses, .bool R.fresh]) (.agg #[.int .i64 R.kind, .string (str R.name), .string (str R.par), .string (str R.user), .string (str R.serv), .string (str R.url), .int .i64 R.made, .int .i64 R.used, .int .i64 R.uses, .bool R.fresh])).run Tryd.prog W = .ok (.bool true) W := fun W => by
              have := rec_eql R R W
              rw [req_self] at this
              unfold rcells at this
              exact this
            have hR1 : ∀ W, Pres W → Calls Tryd.prog 35 #[.agg #[.int .i64 r.kind, .string (str r.name), .string (str r.par), .string (str r.user), .string (str r.serv), .string (str r.url), .int .i64 r.made, .int .i64 r.used, .int .i64 r.uses, .bool r.fresh]] W fun e w' => e = .returned (.bool (rightI r)) ∧ Ext W w' := fun W h => by
              have := right_r r hF W h
              unfold rcells at this
              exact this
            have hR2 : ∀ W, Calls Tryd.prog 36 #[.agg #[.int .i64 r.kind, .string (str r.name), .string (str r.par), .string (str r.user), .string (str r.serv), .string (str r.url), .int .i64 r.made, .int .i64 r.used, .int .i64 r.uses, .bool r.fresh]] W fun e w' => e = .returned (.bool (rightI r)) ∧ Ext W w' := fun W => by
              have := refRight_r r hF hn1 hp1 W
              unfold rcells at this
              exact this
            have hS : RowKit.Hid (∀ W, Ext wc W → W.cell? ⟨g, 0, none⟩ = some (.int .i64 r.kind) ∧ W.cell? ⟨g, 1, none⟩ = some (.string (str r.name)) ∧ W.cell? ⟨g, 2, none⟩ = some (.string (str r.par)) ∧ W.cell? ⟨g, 3, none⟩ = some (.string (str r.user)) ∧ W.cell? ⟨g, 4, none⟩ = some (.string (str r.serv)) ∧ W.cell? ⟨g, 5, none⟩ = some (.string (str r.url)) ∧ W.cell? ⟨g, 6, none⟩ = some (.int .i64 r.made) ∧ W.cell? ⟨g, 7, none⟩ = some (.int .i64 r.used) ∧ W.cell? ⟨g, 8, none⟩ = some (.int .i64 r.uses) ∧ W.cell? ⟨g, 9, none⟩ = some (.bool r.fresh) ∧ W.cell? ⟨k1, 0, none⟩ = some (.int .i64 R.kind) ∧ W.cell? ⟨k1, 1, none⟩ = some (.string (str R.name)) ∧ W.cell? ⟨k1, 2, none⟩ = some (.string (str R.par)) ∧ W.cell? ⟨k1, 3, none⟩ = some (.string (str R.user)) ∧ W.cell? ⟨k1, 4, none⟩ = some (.string (str R.serv)) ∧ W.cell? ⟨k1, 5, none⟩ = some (.string (str R.url)) ∧ W.cell? ⟨k1, 6, none⟩ = some (.int .i64 R.made) ∧ W.cell? ⟨k1, 7, none⟩ = some (.int .i64 R.used) ∧ W.cell? ⟨k1, 8, none⟩ = some (.int .i64 R.uses) ∧ W.cell? ⟨k1, 9, none⟩ = some (.bool R.fresh) ∧ W.cell? ⟨k2, 0, none⟩ = some (.int .i64 R.kind) ∧ W.cell? ⟨k2, 1, none⟩ = some (.string (str R.name)) ∧ W.cell? ⟨k2, 2, none⟩ = some (.string (str R.par)) ∧ W.cell? ⟨k2, 3, none⟩ = some (.string (str R.user)) ∧ W.cell? ⟨k2, 4, none⟩ = some (.string (str R.serv)) ∧ W.cell? ⟨k2, 5, none⟩ = some (.string (str R.url)) ∧ W.cell? ⟨k2, 6, none⟩ = some (.int .i64 R.made) ∧ W.cell? ⟨k2, 7, none⟩ = some (.int .i64 R.used) ∧ W.cell? ⟨k2, 8, none⟩ = some (.int .i64 R.uses) ∧ W.cell? ⟨k2, 9, none⟩ = some (.bool R.fresh)) := Lib.hid fun W e => by
              have a0 := e.heap hg
              have a1 := e.heap hk1
              have a2 := e.heap hk2
              unfold rcells at a0 a1 a2
              exact ⟨by rw [cell_of_row _ _ _ _ _ _ a0]; rfl, by rw [cell_of_row _ _ _ _ _ _ a0]; rfl, by rw [cell_of_row _ _ _ _ _ _ a0]; rfl, by rw [cell_of_row _ _ _ _ _ _ a0]; rfl, by rw [cell_of_row _ _ _ _ _ _ a0]; rfl, by rw [cell_of_row _ _ _ _ _ _ a0]; rfl, by rw [cell_of_row _ _ _ _ _ _ a0]; rfl, by rw [cell_of_row _ _ _ _ _ _ a0]; rfl, by rw [cell_of_row _ _ _ _ _ _ a0]; rfl, by rw [cell_of_row _ _ _ _ _ _ a0]; rfl, by rw [cell_of_row _ _ _ _ _ _ a1]; rfl, by rw [cell_of_row _ _ _ _ _ _ a1]; rfl, by rw [cell_of_row _ _ _ _ _ _ a1]; rfl, by rw [cell_of_row _ _ _ _ _ _ a1]; rfl, by rw [cell_of_row _ _ _ _ _ _ a1]; rfl, by rw [cell_of_row _ _ _ _ _ _ a1]; rfl, by rw [cell_of_row _ _ _ _ _ _ a1]; rfl, by rw [cell_of_row _ _ _ _ _ _ a1]; rfl, by rw [cell_of_row _ _ _ _ _ _ a1]; rfl, by rw [cell_of_row _ _ _ _ _ _ a1]; rfl, by rw [cell_of_row _ _ _ _ _ _ a2]; rfl, by rw [cell_of_row _ _ _ _ _ _ a2]; rfl, by rw [cell_of_row _ _ _ _ _ _ a2]; rfl, by rw [cell_of_row _ _ _ _ _ _ a2]; rfl, by rw [cell_of_row _ _ _ _ _ _ a2]; rfl, by rw [cell_of_row _ _ _ _ _ _ a2]; rfl, by rw [cell_of_row _ _ _ _ _ _ a2]; rfl, by rw [cell_of_row _ _ _ _ _ _ a2]; rfl, by rw [cell_of_row _ _ _ _ _ _ a2]; rfl, by rw [cell_of_row _ _ _ _ _ _ a2]; rfl⟩
            clear hg hk1 hk2
            go_upto_region 9 with fail
            go_region_held3 (fun W => W.cell? ⟨g, 0, none⟩ = some (.int .i64 r.kind) ∧ W.cell? ⟨g, 1, none⟩ = some (.string (str r.name)) ∧ W.cell? ⟨g, 2, none⟩ = some (.string (str r.par)) ∧ W.cell? ⟨g, 3, none⟩ = some (.string (str r.user)) ∧ W.cell? ⟨g, 4, none⟩ = some (.string (str r.serv)) ∧ W.cell? ⟨g, 5, none⟩ = some (.string (str r.url)) ∧ W.cell? ⟨g, 6, none⟩ = some (.int .i64 r.made) ∧ W.cell? ⟨g, 7, none⟩ = some (.int .i64 r.used) ∧ W.cell? ⟨g, 8, none⟩ = some (.int .i64 r.uses) ∧ W.cell? ⟨g, 9, none⟩ = some (.bool r.fresh) ∧ W.cell? ⟨k1, 0, none⟩ = some (.int .i64 R.kind) ∧ W.cell? ⟨k1, 1, none⟩ = some (.string (str R.name)) ∧ W.cell? ⟨k1, 2, none⟩ = some (.string (str R.par)) ∧ W.cell? ⟨k1, 3, none⟩ = some (.string (str R.user)) ∧ W.cell? ⟨k1, 4, none⟩ = some (.string (str R.serv)) ∧ W.cell? ⟨k1, 5, none⟩ = some (.string (str R.url)) ∧ W.cell? ⟨k1, 6, none⟩ = some (.int .i64 R.made) ∧ W.cell? ⟨k1, 7, none⟩ = some (.int .i64 R.used) ∧ W.cell? ⟨k1, 8, none⟩ = some (.int .i64 R.uses) ∧ W.cell? ⟨k1, 9, none⟩ = some (.bool R.fresh) ∧ W.cell? ⟨k2, 0, none⟩ = some (.int .i64 R.kind) ∧ W.cell? ⟨k2, 1, none⟩ = some (.string (str R.name)) ∧ W.cell? ⟨k2, 2, none⟩ = some (.string (str R.par)) ∧ W.cell? ⟨k2, 3, none⟩ = some (.string (str R.user)) ∧ W.cell? ⟨k2, 4, none⟩ = some (.string (str R.serv)) ∧ W.cell? ⟨k2, 5, none⟩ = some (.string (str R.url)) ∧ W.cell? ⟨k2, 6, none⟩ = some (.int .i64 R.made) ∧ W.cell? ⟨k2, 7, none⟩ = some (.int .i64 R.used) ∧ W.cell? ⟨k2, 8, none⟩ = some (.int .i64 R.uses) ∧ W.cell? ⟨k2, 9, none⟩ = some (.bool R.fresh))
              ((exact hS.out _ (by repeat (first | exact Ext.refl _ | with_reducible assumption | refine Ext.drew ?_ | refine Ext.trans ?_ (by assumption)))))
              (first
                | (go_at_call 35; refine (hR1 _ (hw.ext (e2.trans (by repeat (first | exact Ext.refl _ | with_reducible assumption | refine Ext.drew ?_ | refine Ext.trans ?_ (by assumption)))))).mono ?_; rintro e w' ⟨rfl, h⟩)
                | (go_at_call 36; refine (hR2 _).mono ?_; rintro e w' ⟨rfl, h⟩)
                | (go_at_call 37; refine (comes_any k o _).mono ?_; rintro e w' ⟨rfl, rfl⟩)
                | (go_at_call 38; refine (refComes_any k o _).mono ?_; rintro e w' ⟨rfl, h⟩))
            all_goals
              go_wp2
              go_ret
              exact ⟨rfl, e2.trans (by repeat (first | exact Ext.refl _ | with_reducible assumption | refine Ext.drew ?_ | refine Ext.trans ?_ (by assumption)))⟩
        · have d400 : decide ((400 : Int) < (s.length : Int)) = true := by rw [decide_eq_true_iff]; omega
          go_wp2
          go_ret
          exact ⟨rfl, e1⟩
      · have d60 : decide ((60 : Int) < (name.length : Int)) = true := by rw [decide_eq_true_iff]; omega
        go_wp2
        go_ret
        exact ⟨rfl, e1⟩
end Go.Proofs.YtkpcdbalhpmpmaaDoor
