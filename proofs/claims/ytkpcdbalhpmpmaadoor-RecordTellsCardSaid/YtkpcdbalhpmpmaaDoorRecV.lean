/- RecordBack, walked. -/
import Derived.Test.YtkpcdbalhpmpmaaDoorRecY
namespace Go.Proofs.YtkpcdbalhpmpmaaDoor
open Go.RowKit Rk

theorem back_none {name s : List UInt8} (h : dec name s = none) : decR name s = Rk.zero ∧ decE name s = 8 := by unfold decR decE; rw [h]; exact ⟨rfl, rfl⟩
theorem back_some {name s : List UInt8} {r : Rec} (h : dec name s = some r) : decR name s = r ∧ decE name s = 0 ∧ encS r = s ∧ encE r = 0 ∧ r.name = name ∧ rightI r = true := by
  obtain ⟨h1, h2, h3⟩ := (dec_iff _ _ _).1 h
  unfold decR decE encS encE
  rw [h, h1]; exact ⟨rfl, rfl, h3, rfl, h2, rfl⟩
theorem fits_right {r : Rec} (h : rightI r = true) : Fits r := by
  have R := (right_iff r).1 h
  have hi := R.is
  unfold isI at hi
  simp only [Bool.and_eq_true] at hi
  have := pok_len hi.1
  have := R.parl
  have := R.user
  have := R.serv
  have := R.url
  unfold Fits
  omega
theorem enc_short {r : Rec} (h : rightI r = true) : (encS r).length ≤ 300 := by
  have R := (right_iff r).1 h
  have e : encS r = enc r := by unfold encS; rw [h]; rfl
  have := R.parl
  have := R.user
  have := R.serv
  have := R.url
  rw [e, enc_length]; omega
theorem zero_cells : (#[.int .i64 0, .string (str []), .string (str []), .string (str []), .string (str []), .string (str []), .int .i64 0, .int .i64 0, .int .i64 0, .bool false] : Array Value) = rcells Rk.zero := rfl
theorem name_short {r : Rec} (h : rightI r = true) : r.name.length ≤ 1000 := by
  have R := (right_iff r).1 h
  have hi := R.is
  unfold isI at hi
  simp only [Bool.and_eq_true] at hi
  have := pok_len hi.1
  omega

attribute [local irreducible] rcells cm isI Tk.pk Tk.pn Tk.pok rightI enc encS encE parI decR decE req fewI
set_option maxRecDepth 20000 in
set_option maxHeartbeats 4000000 in
theorem recBack_any (r : Rec) (name s : List UInt8) (w : World) (hw : Pres w) (hF : Fits r) (hnl : name.length ≤ 9223372036854775807) (hsl : s.length ≤ 9223372036854775807) :
    Calls Tryd.prog 9 #[.agg (rcells r), .string (str name), .string (str s)] w fun e w' => e = .returned (.bool true) ∧ Ext w w' := by
  have e0 := Ext.refl w
  go_enter Tryd.func9, Tryd.ntmps9
  go_upto_region 1 with fail
  go_cut [3, 6, 7] (fun p z ok wd => z = .bool false ∧ ok = .bool true ∧ ∃ g, p = .pointer (some ⟨g, 0, none⟩) ∧ wd.heap[g]? = some (.cells (rcells r) 50 (0, 0)) ∧ Ext w wd)
  case first =>
    go_wp2_with (go_at_call 29; refine (awake13_any _ (hw.ext (e0.alloc _))).mono ?_; rintro e wA ⟨rfl, h⟩)
    go_meet
    case rel => exact ⟨rfl, rfl, w.heap.size, rfl, h.heap (heap_alloc_new w _), (e0.alloc _).trans h⟩
  case rest =>
    obtain ⟨rfl, rfl, g, rfl, hg, e1⟩ := hcut
    go_upto_region 3 with (first
      | (refine wpList_load_row rfl 50 _ rfl g rfl 50 (rcells r) (0, 0) _ hg Tryd.underlying50 rfl (info_rc _) ?_)
      | (go_at_call 30; refine (few_any r _).mono ?_; rintro e wA ⟨rfl, h⟩; have e1 := e1.trans h; have hg := h.heap hg))
    cases h1 : fewI r
    · go_wp2
      go_ret
      exact ⟨rfl, e1⟩
    · by_cases h60 : name.length ≤ 60
      · have d60 : decide ((60 : Int) < (name.length : Int)) = false := by rw [decide_eq_false_iff_not]; omega
        by_cases h400 : s.length ≤ 400
        · have d400 : decide ((400 : Int) < (s.length : Int)) = false := by rw [decide_eq_false_iff_not]; omega
          go_upto_region 7 with (first
            | (refine wpList_load_row rfl 50 _ rfl g rfl 50 (rcells r) (0, 0) _ hg Tryd.underlying50 rfl (info_rc _) ?_)
            | (go_at_call 31; refine (encode_r r hF _ (hw.ext e1)).mono ?_; rintro e wA ⟨rfl, h⟩; have e1 := e1.trans h; have hg := h.heap hg)
            | (go_at_call 35; refine (right_r r hF _ (hw.ext e1)).mono ?_; rintro e wA ⟨rfl, h⟩; have e1 := e1.trans h; have hg := h.heap hg))
          have ha0 : rightI r = false → encS r = [] := fun h => by unfold encS; rw [h]; rfl
          go_cut [9, 10, 11, 56] (fun a e rt t wd => a = .string (str (encS r)) ∧ e = .int .i64 (encE r) ∧ rt = .bool (rightI r) ∧ t = .bool false ∧ wA = wd)
          case first =>
            cases h3 : rightI r
            · have h5 := e_wrong h3
              have h6 := ha0 h3
              have h7 := seq_self []
              go_wp2
              go_meet
              case rel => exact ⟨by first | rfl | (rw [h6]; rfl), by first | rfl | (rw [h5]), by first | rfl | (rw [h3]), rfl, rfl⟩
            · have h5 := e_right h3
              go_wp2
              go_meet
              case rel => exact ⟨rfl, by first | rfl | (rw [h5]), by first | rfl | (rw [h3]), rfl, rfl⟩
          case rest =>
            obtain ⟨rfl, rfl, rfl, rfl, rfl⟩ := hcut
            go_upto_if 57 with fail
            go_cut [9, 10, 11, 12, 13] (fun _ _ _ _ _ wd => Ext w wd)
            case first =>
              cases h3 : rightI r
              · go_wp2
                go_meet
                case rel => exact e1
              · obtain ⟨d1, d2⟩ := dec_enc h3
                have h5 := enc_short h3
                have hn := row_name hg
                have hdec : ∀ W, Pres W → Calls Tryd.prog 33 #[.string (str r.name), .string (str (encS r))] W fun e w' => e = .returned (.tuple #[.agg (rcells r), .int .i64 0]) ∧ Ext W w' := fun W h => by
                  have := decode_r r.name (encS r) (name_short h3) (by omega) W h
                  rw [d1, d2] at this
                  exact this
                have hq : ∀ W, (binOp .neq 50 (.agg (rcells r)) (.agg (rcells r))).run Tryd.prog W = .ok (.bool false) W := fun W => by rw [rec_neq, req_self]; rfl
                have h300 : decide ((300 : Int) < ((encS r).length : Int)) = false := by rw [decide_eq_false_iff_not]; omega
                clear d1 d2
                go_wp2_with (first
                  | (go_at_call 33; refine (hdec _ (hw.ext e1)).mono ?_; rintro e wB ⟨rfl, h⟩; have e2 := e1.trans h; have hg2 := h.heap hg; have hlt := (Array.getElem?_eq_some_iff.1 hg2).1)
                  | (refine wpList_store_row rfl 50 _ _ rfl _ (rcells r) rfl rfl 50 zcells (heap_alloc_new _ _) (info_rc _) (rc_size _) (rcells_one _) ?_)
                  | (refine wpList_load_rowG (by rfl) 50 _ rfl wB.heap.size rfl 50 (rcells r) (0, 0) _ (setRow_heap _ _ zcells _ _ _ (heap_alloc_new _ _)) Tryd.underlying50 rfl (info_rc _) ?_)
                  | (refine wpList_load_rowG (by rfl) 50 _ rfl g rfl 50 (rcells r) (0, 0) _ ((setRow_other _ _ _ _ (by omega)).trans (((Ext.refl wB).alloc _).heap hg2)) Tryd.underlying50 rfl (info_rc _) ?_))
                go_meet
                case rel => exact (e2.alloc _).setRow e2.size _
            case rest =>
              go_upto_region 13 with fail
              go_cut [14, 15] (fun p z wd => ∃ k, p = .pointer (some ⟨k, 0, none⟩) ∧ z = .int .i64 (decE name s) ∧ wd.heap[k]? = some (.cells (rcells (decR name s)) 50 (0, 0)) ∧ Ext w wd)
              case first =>
                go_wp2_with (first
                  | (go_at_call 33; refine (decode_r name s (by omega) (by omega) _ (hw.ext hcut)).mono ?_; rintro e wB ⟨rfl, h⟩; have e2 := hcut.trans h)
                  | (refine wpList_store_row rfl 50 _ _ rfl _ (rcells (decR name s)) rfl rfl 50 zcells (heap_alloc_new _ _) (info_rc _) (rc_size _) (rcells_one _) ?_))
                go_meet
                case rel => exact ⟨_, rfl, rfl, setRow_heap _ _ zcells _ _ _ (heap_alloc_new _ _), (e2.alloc _).setRow e2.size _⟩
              case rest =>
                clear hg e1 ha0
                obtain ⟨k, rfl, rfl, hk, e2⟩ := hcut
                cases hd : dec name s with
                | none =>
                  obtain ⟨d1, d2⟩ := back_none hd
                  rw [d1] at hk
                  have hz : ∀ W, (binOp .eql 50 (.agg (rcells Rk.zero)) (.agg #[.int .i64 0, .string (str []), .string (str []), .string (str []), .string (str []), .string (str []), .int .i64 0, .int .i64 0, .int .i64 0, .bool false])).run Tryd.prog W = .ok (.bool true) W := fun W => by rw [zero_cells, rec_eql, req_self]
                  clear hd d1
                  go_wp2_with (refine wpList_load_rowG (by rfl) 50 _ rfl k rfl 50 (rcells Rk.zero) (0, 0) _ hk Tryd.underlying50 rfl (info_rc _) ?_)
                  go_ret
                  exact ⟨rfl, e2⟩
                | some x =>
                  obtain ⟨d1, d2, d3, d4, d5, d6⟩ := back_some hd
                  rw [d1] at hk
                  have hq := seq_self s
                  have hq2 := seq_self name
                  have hFx := fits_right d6
                  clear hd d1 d6
                  go_wp2_with (first
                    | (refine wpList_load_row rfl 50 _ rfl k rfl 50 (rcells x) (0, 0) _ hk Tryd.underlying50 rfl (info_rc _) ?_)
                    | (go_at_call 31; refine (encode_r x hFx _ (hw.ext e2)).mono ?_; rintro e wC ⟨rfl, h⟩; have e3 := e2.trans h; have cn := row_name (h.heap hk); rw [d5] at cn))
                  go_ret
                  exact ⟨rfl, e3⟩
        · have d400 : decide ((400 : Int) < (s.length : Int)) = true := by rw [decide_eq_true_iff]; omega
          go_wp2
          go_ret
          exact ⟨rfl, e1⟩
      · have d60 : decide ((60 : Int) < (name.length : Int)) = true := by rw [decide_eq_true_iff]; omega
        go_wp2
        go_ret
        exact ⟨rfl, e1⟩
end Go.Proofs.YtkpcdbalhpmpmaaDoor
