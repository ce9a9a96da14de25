/- RecordUnlike, walked; how records that come in are opened. -/
import Derived.Test.YtkpcdbalhpmpmaaDoorRecW
import Derived.Deep.DeepCutAuto
import Derived.Deep.RegionWith
namespace Go.Proofs.YtkpcdbalhpmpmaaDoor
open Go.RowKit Rk

section
variable {W : World} {base : Nat} {v : Value}
theorem cell_int {u : Value} (h : Cell.okWide Tryd.prog W .any base 3 u) : ∃ n, u = .int .i64 n := by
  simp only [Cell.okWide, Tryd.underlying3] at h
  cases u <;> simp_all [Cell.ok, Tryd.underlying3]
theorem cell_bool {u : Value} (h : Cell.okWide Tryd.prog W .any base 4 u) : ∃ n, u = .bool n := by
  simp only [Cell.okWide, Tryd.underlying4] at h
  cases u <;> simp_all [Cell.ok, Tryd.underlying4]
theorem cell_str {u : Value} (h : Cell.okWide Tryd.prog W .any base 9 u) : ∃ l : List UInt8, l.length ≤ 9223372036854775807 ∧ u = .string (str l) := by
  simp only [Cell.okWide, Tryd.underlying9] at h
  cases u with
  | string s =>
    simp only [Cell.ok, Tryd.underlying9] at h
    refine ⟨s.data.toList, ?_, rfl⟩
    have : s.data.toList.length = s.size := rfl
    simp [IntKind.max, IntKind.signed, IntKind.bits] at h
    omega
  | _ => simp_all [Cell.ok, Tryd.underlying9]
theorem ten_of {cs : Array Value} (h : cs.size = 10) : ∃ a b c d e f g i j k, cs = #[a, b, c, d, e, f, g, i, j, k] := by
  obtain ⟨l⟩ := cs
  match l, h with
  | [a, b, c, d, e, f, g, i, j, k], _ => exact ⟨a, b, c, d, e, f, g, i, j, k, rfl⟩
theorem types_rec : Tryd.prog.cellTypes Tryd.prog.depth 50 = some [3, 9, 9, 9, 9, 9, 3, 3, 3, 4] := by kernel_rfl
theorem open_rec (hval : Value.okWide Tryd.prog W .any base 50 v) : ∃ r : Rec, Fits r ∧ v = .agg (rcells r) := by
  simp only [Value.okWide, Tryd.underlying50] at hval
  obtain ⟨cs, rfl, hs, ts, ht, -, hc⟩ := hval
  have hs10 : cs.size = 10 := by rw [hs]; kernel_rfl
  rw [types_rec] at ht
  obtain rfl := Option.some.inj ht
  obtain ⟨a, b, c, d, e, f, g, i, j, k, rfl⟩ := ten_of hs10
  have q : ∀ n u, #[a, b, c, d, e, f, g, i, j, k][n]? = some u → ∀ t, [3, 9, 9, 9, 9, 9, 3, 3, 3, 4][n % 10]? = some t → Cell.okWide Tryd.prog W .any base t u := fun n u hu t ht => by
    obtain ⟨t', h1, h2⟩ := hc n u hu
    have : t' = t := Option.some.inj (h1.symm.trans ht)
    rwa [this] at h2
  obtain ⟨x0, rfl⟩ := cell_int (q 0 a rfl _ rfl)
  obtain ⟨x1, l1, rfl⟩ := cell_str (q 1 b rfl _ rfl)
  obtain ⟨x2, l2, rfl⟩ := cell_str (q 2 c rfl _ rfl)
  obtain ⟨x3, l3, rfl⟩ := cell_str (q 3 d rfl _ rfl)
  obtain ⟨x4, l4, rfl⟩ := cell_str (q 4 e rfl _ rfl)
  obtain ⟨x5, l5, rfl⟩ := cell_str (q 5 f rfl _ rfl)
  obtain ⟨x6, rfl⟩ := cell_int (q 6 g rfl _ rfl)
  obtain ⟨x7, rfl⟩ := cell_int (q 7 i rfl _ rfl)
  obtain ⟨x8, rfl⟩ := cell_int (q 8 j rfl _ rfl)
  obtain ⟨x9, rfl⟩ := cell_bool (q 9 k rfl _ rfl)
  exact ⟨⟨x0, x1, x2, x3, x4, x5, x6, x7, x8, x9⟩, ⟨l1, l2, l3, l4, l5⟩, rfl⟩
end
theorem row_name {w : World} {g : Nat} {r : Rec} (h : w.heap[g]? = some (.cells (rcells r) 50 (0, 0))) : w.cell? ⟨g, 1, none⟩ = some (.string (str r.name)) := by
  rw [cell_of_row _ _ _ _ _ _ h]; rfl
theorem row_user {w : World} {g : Nat} {r : Rec} (h : w.heap[g]? = some (.cells (rcells r) 50 (0, 0))) : w.cell? ⟨g, 3, none⟩ = some (.string (str r.user)) := by
  rw [cell_of_row _ _ _ _ _ _ h]; rfl
theorem two_old' (w : World) (A B : Obj) : ((w.alloc A).alloc B).heap[w.heap.size]? = some A := two_old w A B
theorem two_new' (w : World) (A B : Obj) : ((w.alloc A).alloc B).heap[w.heap.size + 1]? = some B := two_new w A B
theorem unlike_plain {a b : Rec} (ha : rightI a = true) (hb : rightI b = true) (hn : a.name = b.name) : seq (encS a) (encS b) = req a b := by
  unfold seq req
  rw [Bool.eq_iff_iff, beq_iff_eq, decide_eq_true_iff]
  constructor
  · intro h
    have h1 := (dec_enc ha).1
    have h2 := (dec_enc hb).1
    rw [h, hn, h2] at h1
    exact h1.symm
  · rintro rfl; rfl
theorem e_right {a : Rec} (ha : rightI a = true) : encE a = 0 := by unfold encE; rw [ha]; rfl
theorem e_wrong {a : Rec} (ha : rightI a = false) : encE a = 1 := by unfold encE; rw [ha]; rfl

attribute [local irreducible] rcells cm isI Tk.pk Tk.pn Tk.pok rightI enc encS encE parI decR decE req fewI
set_option maxRecDepth 20000 in
set_option maxHeartbeats 4000000 in
theorem recUnlike_any (a b : Rec) (w : World) (hw : Pres w) (ha : Fits a) (hb : Fits b) :
    Calls Tryd.prog 10 #[.agg (rcells a), .agg (rcells b)] w fun e w' => e = .returned (.bool true) ∧ Ext w w' := by
  have e0 := Ext.refl w
  have hq : ∀ W, (binOp .eql 50 (.agg (rcells a)) (.agg (rcells b))).run Tryd.prog W = .ok (.bool (req a b)) W := fun W => rec_eql a b W
  go_enter Tryd.func10, Tryd.ntmps10
  go_upto_region 1 with fail
  go_cut [2, 3, 4, 5] (fun p q z ok wd => z = .bool false ∧ ok = .bool true ∧ ∃ g2 g3, p = .pointer (some ⟨g2, 0, none⟩) ∧ q = .pointer (some ⟨g3, 0, none⟩) ∧ wd.heap[g2]? = some (.cells (rcells a) 50 (0, 0)) ∧ wd.heap[g3]? = some (.cells (rcells b) 50 (0, 0)) ∧ Ext w wd)
  case first =>
    go_wp2_with (go_at_call 29; refine (awake13_any _ (hw.ext ((e0.alloc _).alloc _))).mono ?_; rintro e wA ⟨rfl, h⟩)
    go_meet
    case rel => exact ⟨rfl, rfl, w.heap.size, w.heap.size + 1, rfl, rfl, h.heap (two_old' w _ _), h.heap (two_new' w _ _), ((e0.alloc _).alloc _).trans h⟩
  case rest =>
    obtain ⟨rfl, rfl, g2, g3, rfl, rfl, hga, hgb, e1⟩ := hcut
    go_upto_region 6 with (first
      | (refine wpList_load_row rfl 50 _ rfl g2 rfl 50 (rcells a) (0, 0) _ hga Tryd.underlying50 rfl (info_rc _) ?_)
      | (refine wpList_load_row rfl 50 _ rfl g3 rfl 50 (rcells b) (0, 0) _ hgb Tryd.underlying50 rfl (info_rc _) ?_)
      | (go_at_call_of 30 (Value.agg (rcells a)); refine (few_any a _).mono ?_; rintro e wA ⟨rfl, h⟩; have e1 := e1.trans h; have hga := h.heap hga; have hgb := h.heap hgb)
      | (go_at_call_of 30 (Value.agg (rcells b)); refine (few_any b _).mono ?_; rintro e wA ⟨rfl, h⟩; have e1 := e1.trans h; have hga := h.heap hga; have hgb := h.heap hgb)
      | (go_at_call_of 31 (Value.agg (rcells a)); refine (encode_r a ha _ (hw.ext e1)).mono ?_; rintro e wA ⟨rfl, h⟩; have e1 := e1.trans h; have hga := h.heap hga; have hgb := h.heap hgb)
      | (go_at_call_of 31 (Value.agg (rcells b)); refine (encode_r b hb _ (hw.ext e1)).mono ?_; rintro e wA ⟨rfl, h⟩; have e1 := e1.trans h; have hga := h.heap hga; have hgb := h.heap hgb))
    have na := row_name hga
    have nb := row_name hgb
    cases h1 : fewI a
    · go_wp2
      go_ret
      exact ⟨rfl, e1⟩
    · cases h2 : fewI b
      · go_wp2
        go_ret
        exact ⟨rfl, e1⟩
      · cases h3 : rightI a
        · have h5 := e_wrong h3
          go_wp2
          go_ret
          exact ⟨rfl, e1⟩
        · have h5 := e_right h3
          cases h4 : rightI b
          · have h6 := e_wrong h4
            go_wp2
            go_ret
            exact ⟨rfl, e1⟩
          · have h6 := e_right h4
            cases h7 : seq a.name b.name
            · go_wp2
              go_ret
              exact ⟨rfl, e1⟩
            · have h8 := unlike_plain h3 h4 (seq_true.1 h7)
              go_wp2_with (first
                | (refine wpList_load_rowG (by rfl) 50 _ rfl g2 rfl 50 (rcells a) (0, 0) _ hga Tryd.underlying50 rfl (info_rc _) ?_)
                | (refine wpList_load_rowG (by rfl) 50 _ rfl g3 rfl 50 (rcells b) (0, 0) _ hgb Tryd.underlying50 rfl (info_rc _) ?_))
              go_ret
              exact ⟨rfl, e1⟩
end Go.Proofs.YtkpcdbalhpmpmaaDoor
