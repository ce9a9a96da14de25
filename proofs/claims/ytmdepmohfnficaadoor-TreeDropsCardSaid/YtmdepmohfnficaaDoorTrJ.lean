/- slices.DeleteFunc, walked; Drop. -/
import Derived.Test.YtmdepmohfnficaaDoorTrI
namespace Go.Proofs.YtmdepmohfnficaaDoor
open Go.RowKit Rk Tr

theorem zero_rec (W : World) : (zeroValue 36).run Tryd.prog W = .ok (.agg zcells) W := by
  have h := info_recZ
  cases hi : Tryd.prog.info? 36 with
  | none => rw [hi] at h; cases h
  | some i =>
    rw [hi] at h
    simp only [Option.map_some, Option.some.injEq, Prod.mk.injEq] at h
    simp [zeroValue, typeInfo, hi, h.1]
theorem zc_cells : (Value.agg zcells).cells = zcells := rfl
theorem zc_ten : zcells.size = 10 := rfl
theorem zc_each : ∀ u ∈ zcells, u.oneCell' = true := fun u hu => Array.all_eq_true_iff_forall_mem.1 zcells_one u hu
attribute [local irreducible] rcells
set_option maxRecDepth 20000 in
set_option maxHeartbeats 2000000 in
theorem deleteFunc_any {F : Nat → Prop} {g cap B : Nat} {l : List Rec} {p : Rec → Bool} {w : World} (hown : OwnR w F (.slice (some ⟨g, 0, none⟩) l.length cap) l) (hl : l.length ≤ 1000)
    (hP : ∀ W r, Chg (fun k => k = g) w W → Calls Tryd.prog 70 #[.agg (rcells r), .pointer (some ⟨B, 0, none⟩)] W fun e w' => e = .returned (.bool (p r)) ∧ Ext W w') :
    Calls Tryd.prog 69 #[.slice (some ⟨g, 0, none⟩) l.length cap, .func (.func 70) #[] #[.pointer (some ⟨B, 0, none⟩)]] w (Ret fun u w' => OwnR w' F u (l.filter fun r => !p r) ∧ (∃ a c, u = .slice a (l.filter fun r => !p r).length c) ∧ Chg (fun k => k = g) w w') := by
  have hi := indexDrop_any _ l p B w hown.recs fun W r e => hP W r (Chg.of_ext e)
  have hoh := Lib.hid hown
  rcases idx_cases p l with ⟨h1, h2⟩ | ⟨i, x0, h1, hx0, hp0, hf⟩
  · rw [h1] at hi
    have hf2 := Lib.hid h2
    clear h1 h2 hown
    go_enter Tryd.func69, Tryd.ntmps69
    go_wp2_with (go_at_call 85; refine hi.mono ?_; rintro e w2 ⟨rfl, e2⟩)
    go_ret
    exact Ret.mk ⟨by rw [hf2.out]; exact hoh.out.ext e2, ⟨_, _, by rw [hf2.out]; rfl⟩, Chg.of_ext e2⟩
  · rw [h1] at hi
    obtain ⟨hnc, hcm, hFg, hst⟩ := DelSt.start hown hf
    have hil := (List.getElem?_eq_some_iff.1 hx0).1
    have hii : (i : Int) < (l.length : Int) := by omega
    have hwi : IntKind.i64.wrap ((i : Int) + 1) = (i : Int) + 1 := by rw [IntKind.wrap_i64]; omega
    have hi1 : (((i : Int) == -1) = false) := by rw [beq_eq_false_iff_ne]; omega
    have hlI : (l.length : Int) ≤ 1000 := by omega
    have hlc : (l.length : Int) ≤ (cap : Int) := by omega
    have hmost : RowKit.Hid (∀ j, i < j → ((l.take j).filter fun r => !p r).length < j) := Lib.hid fun j hj => by
      have h3 : l.take j = l.take (i + 1) ++ (l.take j).drop (i + 1) := by
        conv => lhs; rw [← List.take_append_drop (i + 1) (l.take j)]
        rw [List.take_take, Nat.min_eq_left (by omega)]
      rw [h3, List.filter_append, List.length_append, hf]
      have h4 := List.length_filter_le (fun r => !p r) ((l.take j).drop (i + 1))
      rw [List.length_drop, List.length_take] at h4
      rw [List.length_take]
      omega
    have hf0 : RowKit.Hid (((l.take (i + 1)).filter fun r => !p r).length = i) := Lib.hid (by rw [hf, List.length_take]; omega)
    clear h1 hown
    go_enter Tryd.func69, Tryd.ntmps69
    go_wp2_with (go_at_call 85; refine hi.mono ?_; rintro e w2 ⟨rfl, e2⟩)
    have hst2 := Lib.hid (hst.ext e2)
    have hc2 : Chg (fun k => k = g) w w2 := Chg.of_ext e2
    have hfith := Lib.hid hoh.out.2
    clear hst e2 hi1 hwi
    go_loopw [5, 6] (fun ci jv wr => ∃ (j c : Nat), i < j ∧ j ≤ l.length ∧ jv = .int .i64 (j : Int) ∧ ci = .int .i64 (c : Int) ∧ RowKit.Hid (((l.take j).filter fun r => !p r).length = c) ∧ RowKit.Hid (DelSt wr g cap l p j) ∧ RowKit.Hid (Chg (fun k => k = g) w wr)) (fun _ jv _ => l.length - (intOf jv).toNat)
    case atStart => exact ⟨i + 1, i, by omega, by omega, by go_num, rfl, hf0, hst2, Lib.hid hc2⟩
    case round =>
      obtain ⟨j, c, hij, hjl, rfl, rfl, hcc, hd, hch⟩ := hrel
      clear hst2 hc2
      have hcj : c < j := by have := hmost.out j hij; rw [hcc.out] at this; exact this
      by_cases hlt : j < l.length
      · obtain ⟨x, hx⟩ := some_at hlt
        have hji : (j : Int) < (l.length : Int) := by omega
        have hwj : IntKind.i64.wrap ((j : Int) + 1) = (j : Int) + 1 := by rw [IntKind.wrap_i64]; omega
        have hr2 : wr.rangeAt g (0 + j * 10) (prow x) := by rw [Nat.zero_add]; exact hd.out.back j x (Nat.le_refl _) hx
        have hr3 : wr.rangeAt g (j * 10) (prow x) := hd.out.back j x (Nat.le_refl _) hx
        go_upto_region 8 with (first
          | (refine wpList_load_rec (by rfl) _ rfl g (j * 10) rfl x hr3 ?_)
          | (refine wpList_store_new wr rfl 36 _ _ rfl (rcells x) _ rfl rfl rfl 10 info_rec (rc_ten x) rfl (rc_one x) ?_))
        go_frame
        have hg := heap_alloc_new wr (.cells (rcells x) 36)
        have e1 := (Ext.refl wr).alloc (.cells (rcells x) 36)
        have hd1 := Lib.hid (hd.out.ext e1)
        have hch1 := Lib.hid (hch.out.ext e1)
        generalize wr.alloc (.cells (rcells x) 36) = W1 at *
        generalize wr.heap.size = B1 at *
        have hcall := hP W1 x hch1.out
        have hgh := Lib.hid hg
        have hxh := Lib.hid hx
        clear hg hd hch e1 hr2 hr3 hx
        cases hp : p x
        · rw [hp] at hcall
          have hko := Lib.hid (keep_out hxh.out hp)
          have hc0 : (c : Int) < (l.length : Int) := by omega
          have hwc : IntKind.i64.wrap ((c : Int) + 1) = (c : Int) + 1 := by rw [IntKind.wrap_i64]; omega
          go_upto_region 9 with (first
            | (refine wpList_load_row rfl 36 _ rfl B1 rfl 36 (rcells x) (0, 0) _ hgh.out Tryd.underlying36 rfl (rc_sz x) ?_)
            | (go_at_call 70; refine hcall.mono ?_; rintro e W2 ⟨rfl, e2⟩))
          have hg2 := Lib.hid (e2.heap hgh.out)
          have hd2 := Lib.hid (hd1.out.ext e2)
          have hch2 := Lib.hid (hch1.out.ext e2)
          have hth : W2.there g (c * 10) (rcells x).size := by
            obtain ⟨cur, k1, k2⟩ := hd2.out.blk
            exact there_row k1 (by rw [rc_ten, k2]; omega)
          clear e2
          go_upto_region 10 with (first
            | (refine wpList_load_row rfl 36 _ rfl B1 rfl 36 (rcells x) (0, 0) _ hg2.out Tryd.underlying36 rfl (rc_sz x) ?_)
            | (refine wpList_store_mid rfl 36 _ _ rfl g (c * 10) (rcells x) rfl rfl hth (rc_sz x) (rc_one x) ?_))
          go_frame
          have hd3 := hd2.out.put hxh.out hp hnc
          rw [hcc.out] at hd3
          have hch3 : Chg (fun k => k = g) w (W2.setCells g (c * 10) (rcells x).toList) := hch2.out.trans (setCells_chg (p := fun k => k = g) g rfl _ _ _)
          have hd3 : DelSt (W2.setCells g (c * 10) (rcells x).toList) g cap l p (j + 1) := hd3
          generalize W2.setCells g (c * 10) (rcells x).toList = W3 at *
          have hd3h := Lib.hid hd3
          have hch3h := Lib.hid hch3
          clear hd3 hch3 hth
          go_wp2
          go_roundw
          case rel => exact ⟨j + 1, c + 1, by omega, by omega, by go_num, by go_num, Lib.hid (by rw [hko.out, List.length_append, hcc.out]; rfl), hd3h, hch3h⟩
          case measure => simp [intOf]; omega
        · rw [hp] at hcall
          have hki := Lib.hid (keep_in hxh.out hp)
          have hdk := Lib.hid (hd1.out.skip hxh.out hp)
          go_wp2_with (first
            | (refine wpList_load_row rfl 36 _ rfl B1 rfl 36 (rcells x) (0, 0) _ hgh.out Tryd.underlying36 rfl (rc_sz x) ?_)
            | (go_at_call 70; refine hcall.mono ?_; rintro e W2 ⟨rfl, e2⟩))
          go_roundw
          case rel => exact ⟨j + 1, c, by omega, by omega, by go_num, rfl, Lib.hid (by rw [hki.out, hcc.out]), Lib.hid (hdk.out.ext e2), Lib.hid (hch1.out.ext e2)⟩
          case measure => simp [intOf]; omega
      · obtain rfl : j = l.length := by omega
        have hcl : (c : Int) < (l.length : Int) := by omega
        have hcl2 : (c : Int) < (cap : Int) := by omega
        have hcl3 : (c : Int) ≤ (cap : Int) := by omega
        have hcl4 : (c : Int) ≤ (l.length : Int) := by omega
        have hcl5 : ¬ cap = c := by omega
        have hthz : wr.there g (c * 10) ((l.length - c) * (Value.agg zcells).cells.size) := by
          obtain ⟨cur, k1, k2⟩ := hd.out.blk
          exact there_row k1 (by rw [zc_cells, zc_ten, k2]; omega)
        have hclr : ∀ ty, (Builtin.clear_ #[22] ty #[.slice (some ⟨g, c * 10, none⟩) (l.length - c) (cap - c)]).run Tryd.prog wr = .ok (.tuple #[]) (wr.setCells g (c * 10) (Builtin.zeroCells zcells (l.length - c)).toList) := fun ty =>
          run_clear_cells wr 22 36 ty (.agg zcells) Tryd.underlying22 zero_rec zc_each (by rw [zc_cells, zc_ten]; omega) g (c * 10) (l.length - c) (cap - c) (by omega) hthz
        have hcc2 := hcc.out
        rw [List.take_length] at hcc2
        have hdn := Lib.hid (hd.out.done hfith.out hFg hnc hcm (Builtin.zeroCells zcells (l.length - c)).toList (by rw [hcc2]; simp [Builtin.zeroCells, zc_ten]))
        rw [hcc2] at hdn
        have hccg := Lib.hid (hch.out.trans (setCells_chg (p := fun k => k = g) g rfl (Builtin.zeroCells zcells (l.length - c)).toList (c * 10) wr))
        have hc2h := Lib.hid hcc2
        clear hthz hcc hd hch hcc2 hmost hf0
        generalize (Builtin.zeroCells zcells (l.length - c)).toList = Z at *
        go_wp2
        go_ret
        exact Ret.mk ⟨hdn.out, ⟨_, _, by rw [hc2h.out]; rfl⟩, hccg.out⟩
theorem deleteFunc_all {F : Nat → Prop} {B : Nat} {v : Value} {l : List Rec} {p : Rec → Bool} {w : World} (hown : OwnR w F v l) (hl : l.length ≤ 1000)
    (hP : ∀ W r, Chg F w W → Calls Tryd.prog 70 #[.agg (rcells r), .pointer (some ⟨B, 0, none⟩)] W fun e w' => e = .returned (.bool (p r)) ∧ Ext W w') :
    Calls Tryd.prog 69 #[v, .func (.func 70) #[] #[.pointer (some ⟨B, 0, none⟩)]] w (Ret fun u w' => OwnR w' F u (l.filter fun r => !p r) ∧ (∃ a c, u = .slice a (l.filter fun r => !p r).length c) ∧ Chg F w w') := by
  have hid := hown
  obtain ⟨⟨⟨-, h⟩, h2⟩, hf⟩ := hown
  rcases h with ⟨rfl, hn⟩ | ⟨g, cap, cur, rfl, hb, hh, hn, hm, hs, ht⟩
  · obtain rfl := List.eq_nil_of_length_eq_zero hn
    have hi := indexDrop_any _ [] p B w (Recs.nil w) fun W r e => hP W r (Chg.of_ext e)
    have hi2 : idx p [] = -1 := rfl
    rw [hi2] at hi
    go_enter Tryd.func69, Tryd.ntmps69
    go_wp2_with (go_at_call 85; refine hi.mono ?_; rintro e w2 ⟨rfl, e2⟩)
    go_ret
    exact Ret.mk ⟨OwnR.nil _ _, ⟨_, _, rfl⟩, Chg.of_ext e2⟩
  · have hFg := h2 g rfl
    refine (deleteFunc_any hid hl fun W r c => hP W r (c.mono fun k hk => by rw [hk]; exact hFg)).mono ?_
    rintro e w' ⟨u, rfl, k1, k2, k3⟩
    exact Ret.mk ⟨k1, k2, k3.mono fun k hk => by rw [hk]; exact hFg⟩
end Go.Proofs.YtmdepmohfnficaaDoor
