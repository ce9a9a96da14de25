/- Bytes as records: the document's Decode. -/
import Derived.Test.YtmdepmohfnficaaDoorRecG
import Derived.Test.YtmdepmohfnficaaDoorRecJ
import Derived.Deep.DeepCutAuto
import Derived.BigRegion
import Derived.StillTailTactics
namespace Go.Proofs.YtmdepmohfnficaaDoor
open Go.RowKit Rk

attribute [local irreducible] cm isI Tk.pk Tk.pn Tk.pok rightI enc encS encE parI tb S decR decE
set_option maxRecDepth 20000 in
set_option maxHeartbeats 4000000 in
theorem refDecode_no (name s : List UInt8) (_hn : name.length ≤ 1000) (hs : s.length ≤ 1000) (hf : ¬ few2 s) (w : World) :
    Calls Tryd.prog 74 #[.string (str name), .string (str s)] w fun e w' => e = .returned (.tuple #[recv (decR name s), .int .i64 (decE name s)]) ∧ Ext w w' := by
  have e0 := Ext.refl w
  have hE : RowKit.Hid (decR name s = Rk.zero ∧ decE name s = 8) := Lib.hid (rd_none hf)
  by_cases h23 : s.length < 23
  · clear hf
    go_enter Tryd.func74, Tryd.ntmps74
    go_wp2
    refine bodyPost_ret (v := .tuple #[recv Rk.zero, .int .i64 8]) (by rw [results_cell_tmp rfl]; go_simp; simp [zero]) rfl ⟨by rw [hE.out.1, hE.out.2], e0.alloc _⟩
  · have i23 : (23 : Int) ≤ (s.length : Int) := by omega
    have j0 : (0 : Int) < (s.length : Int) := by omega
    have j1 : (1 : Int) < (s.length : Int) := by omega
    have j2 : (2 : Int) < (s.length : Int) := by omega
    have j3 : (3 : Int) < (s.length : Int) := by omega
    have j4 : (4 : Int) < (s.length : Int) := by omega
    have j11 : (11 : Int) < (s.length : Int) := by omega
    have j12 : (12 : Int) < (s.length : Int) := by omega
    have hcase : (1 : Int) < ((byteAt s 2).toNat : Int) ∨ (((byteAt s 2).toNat : Int) ≤ 1 ∧ (0 : Int) < ((byteAt s 3).toNat : Int)) ∨ (((byteAt s 2).toNat : Int) ≤ 1 ∧ ((byteAt s 3).toNat : Int) = 0 ∧ (0 : Int) < ((byteAt s 4).toNat : Int)) ∨ (((byteAt s 2).toNat : Int) ≤ 1 ∧ ((byteAt s 3).toNat : Int) = 0 ∧ ((byteAt s 4).toNat : Int) = 0 ∧ (0 : Int) < ((byteAt s 11).toNat : Int)) ∨ (((byteAt s 2).toNat : Int) ≤ 1 ∧ ((byteAt s 3).toNat : Int) = 0 ∧ ((byteAt s 4).toNat : Int) = 0 ∧ ((byteAt s 11).toNat : Int) = 0 ∧ (0 : Int) < ((byteAt s 12).toNat : Int)) := by
      have hnf : ¬ (23 ≤ s.length ∧ (byteAt s 2).toNat ≤ 1 ∧ (byteAt s 3).toNat = 0 ∧ (byteAt s 4).toNat = 0 ∧ (byteAt s 11).toNat = 0 ∧ (byteAt s 12).toNat = 0) := hf
      omega
    rcases hcase with b2 | ⟨b2, b3⟩ | ⟨b2, b3, b4⟩ | ⟨b2, b3, b4, b11⟩ | ⟨b2, b3, b4, b11, b12⟩
    all_goals
      go_enter Tryd.func74, Tryd.ntmps74
      go_wp2
      refine bodyPost_ret (v := .tuple #[recv Rk.zero, .int .i64 8]) (by rw [results_cell_tmp rfl]; go_simp; simp [zero]) rfl ⟨by rw [hE.out.1, hE.out.2], e0.alloc _⟩
set_option maxRecDepth 20000 in
set_option maxHeartbeats 4000000 in
theorem refDecode_few (name s : List UInt8) (hn : name.length ≤ 1000) (hs : s.length ≤ 1000) (hf : few2 s) (w : World) :
    Calls Tryd.prog 74 #[.string (str name), .string (str s)] w fun e w' => e = .returned (.tuple #[recv (decR name s), .int .i64 (decE name s)]) ∧ Ext w w' := by
  have e0 := Ext.refl w
  have hfh := Lib.hid hf
  obtain ⟨h23, f2, f3, f4, f11, f12⟩ := hf
  have i23 : (23 : Int) ≤ (s.length : Int) := by omega
  have j0 : (0 : Int) < (s.length : Int) := by omega
  have j1 : (1 : Int) < (s.length : Int) := by omega
  have j2 : (2 : Int) < (s.length : Int) := by omega
  have j3 : (3 : Int) < (s.length : Int) := by omega
  have j4 : (4 : Int) < (s.length : Int) := by omega
  have j11 : (11 : Int) < (s.length : Int) := by omega
  have j12 : (12 : Int) < (s.length : Int) := by omega
  have b2 : ((byteAt s 2).toNat : Int) ≤ 1 := by have : (byteAt s 2).toNat ≤ 1 := f2; omega
  have b3 : ((byteAt s 3).toNat : Int) = 0 := by have : (byteAt s 3).toNat = 0 := f3; omega
  have b4 : ((byteAt s 4).toNat : Int) = 0 := by have : (byteAt s 4).toNat = 0 := f4; omega
  have b11 : ((byteAt s 11).toNat : Int) = 0 := by have : (byteAt s 11).toNat = 0 := f11; omega
  have b12 : ((byteAt s 12).toNat : Int) = 0 := by have : (byteAt s 12).toNat = 0 := f12; omega
  clear f2 f3 f4 f11 f12
  go_enter Tryd.func74, Tryd.ntmps74
  go_upto_region 3 with fail
  go_cut [6] (fun p wd => p = .pointer (some ⟨w.heap.size + 1, 0, none⟩) ∧ Ext w wd ∧ w.heap.size + 2 ≤ wd.heap.size ∧ wd.heap[w.heap.size]? = some (.cells zcells 36 (0, 0)) ∧ wd.heap[w.heap.size + 1]? = some (.cells (rcells (stR name s 0)) 36 (0, 0)))
  case first => as_aux_lemma =>
    have wb0 := wrap64_byte (byteAt s 0)
    have wb1 := wrap64_byte (byteAt s 1)
    go_region
    go_wp2
    go_meet
    case rel => exact ⟨rfl, ((e0.alloc _).alloc _).drew, by simp, two_old _ _ _, by first | exact two_new _ _ _ | (rw [two_new, wb0, wb1]; rfl)⟩
  case rest =>
    obtain ⟨rfl, eW, hW2, hz, hr⟩ := hcut
    obtain ⟨g6, hg6⟩ : ∃ g, g = w.heap.size + 1 := ⟨_, rfl⟩
    rw [← hg6] at hr ⊢
    have hg62 := Lib.hid hg6
    clear hg6 b2 b3 b4 b11 b12
    go_wp2
    go_loopw [7] (fun i wr => ∃ j : Nat, j ≤ 8 ∧ i = .int .i64 (3 + (j : Int)) ∧ wr.heap[g6]? = some (.cells (rcells (stR name s j)) 36 (0, 0)) ∧ wr.heap[w.heap.size]? = some (.cells zcells 36 (0, 0)) ∧ Ext w wr) (fun i _ => 11 - (intOf i).toNat)
    case atStart => exact ⟨0, by omega, rfl, hr, hz, eW⟩
    case round =>
      clear hr hz eW
      obtain ⟨j, hj, rfl, hr, hz, ek⟩ := hrel
      by_cases hlt : j < 8
      · as_aux_lemma =>
        obtain ⟨y3, y11, hy3, hy11, q0, q1⟩ := dec_round name s hfh.out j hlt
        rw [q0] at hr
        have q1h := Lib.hid q1
        clear q1 q0
        have hb3 := (byteAt s (3 + j)).toNat_lt
        have hb11 := (byteAt s (11 + j)).toNat_lt
        have w3 : RowKit.Hid (wrap64 (wrap64 (256 * (y3 : Int)) + wrap64 ((byteAt s (3 + j)).toNat : Int)) = ((256 * y3 + (byteAt s (3 + j)).toNat : Nat) : Int)) := Lib.hid (wrap3 _ _ hy3 hb3)
        have w11 : RowKit.Hid (wrap64 (wrap64 (256 * (y11 : Int)) + ((byteAt s (11 + j)).toNat : Int)) = ((256 * y11 + (byteAt s (11 + j)).toNat : Nat) : Int)) := Lib.hid (wrap2 _ _ hy11 hb11)
        obtain ⟨R, hR⟩ : ∃ R, R = stR name s 0 := ⟨_, rfl⟩
        rw [← hR] at hr
        have hRh := Lib.hid hR
        clear hR hy3 hy11 hb3 hb11
        obtain ⟨c6, c7, ff⟩ := row_num hr
        have i3 : ∀ W, (Instr.index 9 (.string (str s)) (.int .i64 (3 + (j : Int)))).run Tryd.prog W = .ok (.int .u8 ((byteAt s (3 + j)).toNat : Int)) W := fun W => run_index_str W _ s .i64 (3 + (j : Int)) Tryd.underlying9 (by omega) (by omega)
        have i11 : ∀ W, (Instr.index 9 (.string (str s)) (.int .i64 (3 + (j : Int) + 8))).run Tryd.prog W = .ok (.int .u8 ((byteAt s (11 + j)).toNat : Int)) W := fun W => by
          have := run_index_str (P := Tryd.prog) W 9 s .i64 (3 + (j : Int) + 8) Tryd.underlying9 (by omega) (by omega)
          rw [this]
          have e : (3 + (j : Int) + 8).toNat = 11 + j := by omega
          rw [e]
        have s3 : (3 : Int) + (j : Int) < (s.length : Int) := by omega
        have s11 : (3 : Int) + (j : Int) + 8 < (s.length : Int) := by omega
        have hrh := Lib.hid hr
        clear hr
        go_wp2
        go_still_tail 9, (by kernel_rfl)
        go_wp2
        generalize hW : (wr.setCell _ _).drew = W2
        have hr2 : W2.heap[g6]? = some (.cells (rcells { R with made := ((256 * y3 + (byteAt s (3 + j)).toNat : Nat) : Int), used := (y11 : Int) }) 36 (0, 0)) := by
          rw [← hW]; exact row_made hrh.out (int_eq w3.out)
        have hz2 : W2.heap[w.heap.size]? = some (.cells zcells 36 (0, 0)) := by
          have hg := hg62.out
          rw [← hW]; exact (Below.heap_setCell wr _ _ _ (by simp; omega)).trans hz
        have ek2 : Ext w W2 := by
          have hg := hg62.out
          rw [← hW]; exact (ek.setCell (by simp; omega) _).drew
        obtain ⟨d6, d7, ff2⟩ := row_num hr2
        clear d6
        have hr2h := Lib.hid hr2
        clear hW hr2 c6 c7 ff hrh hz ek
        have ws1 : IntKind.i64.wrap (3 + (j : Int) + 8) = 3 + (j : Int) + 8 := by rw [IntKind.wrap_i64]; omega
        have ws2 : wrap64 (3 + (j : Int) + 8) = 3 + (j : Int) + 8 := by rw [wrap64]; omega
        go_still_tail 10, (by kernel_rfl)
        go_wp2
        go_roundw
        case rel =>
          have hg := hg62.out
          refine ⟨j + 1, by omega, by go_num, ?_, (Below.heap_setCell W2 _ _ _ (by simp; omega)).trans hz2, (ek2.setCell (by simp; omega) _).drew⟩
          rw [q1h.out, ← hRh.out]
          exact row_used hr2h.out (int_eq w11.out)
        case measure => simp [intOf]; omega
      · obtain rfl : j = 8 := by omega
        rw [str_end] at hr
        obtain ⟨W1, rfl⟩ : ∃ W1 : World, W1 = wr := ⟨_, rfl⟩
        have hglt : g6 < W1.heap.size := (Array.getElem?_eq_some_iff.1 hr).1
        go_wp2
        go_loopw [8, 9] (fun at_ l w2 => ∃ (a : Nat) (L : List (List UInt8)), a ≤ s.length ∧ at_ = .int .i64 (a : Int) ∧ L.length ≤ 4 ∧ Own sv 9 w2 W1.heap.size l L ∧ Ext W1 w2 ∧ RowKit.Hid (pn 4 (s.drop 19) = (pn (4 - L.length) (s.drop a)).map fun q => (L ++ q.1, q.2)) ∧ RowKit.Hid (∀ x ∈ L, x.length ≤ 1000)) (fun at_ _ _ => s.length - (intOf at_).toNat)
        case atStart => exact ⟨19, [], by omega, rfl, by simp, Own.nil _ _ _, Ext.refl _, Lib.hid (by cases pn 4 (s.drop 19) <;> rfl), Lib.hid (by simp)⟩
        case round =>
          obtain ⟨a, L, ha, rfl, hL4, ho, e2, hP, hLs⟩ := hrel
          obtain ⟨ad, cap, rfl, hsl, -⟩ := ho.shape
          have hz2 := e2.heap hz
          have hr2 := e2.heap hr
          have ek2 := ek.trans e2
          by_cases hl : L.length < 4
          · as_aux_lemma =>
            by_cases hfit : a < s.length ∧ a + 1 + (byteAt s a).toNat ≤ s.length
            · obtain ⟨hfa, hfb⟩ := hfit
              have hb := (byteAt s a).toNat_lt
              have hpt := pt_at (s := s.drop a) (by rw [byteAt_drop, List.length_drop]; omega)
              rw [byteAt_drop] at hpt
              have hP2 : RowKit.Hid (pn 4 (s.drop 19) = (pn (4 - (L ++ [sub s (a + 1) (a + 1 + (byteAt s a).toNat)]).length) (s.drop (a + 1 + (byteAt s a).toNat))).map fun q => ((L ++ [sub s (a + 1) (a + 1 + (byteAt s a).toNat)]) ++ q.1, q.2)) := Lib.hid (by
                rw [hP.out, List.length_append, List.length_singleton, show 4 - L.length = (4 - (L.length + 1)) + 1 by omega, pn_step hpt, List.drop_drop, sub_drop1, Nat.add_assoc a 1 (byteAt s a).toNat]
                cases pn (4 - (L.length + 1)) (s.drop (a + (1 + (byteAt s a).toNat))) <;> simp)
              have hLs2 : RowKit.Hid (∀ x ∈ L ++ [sub s (a + 1) (a + 1 + (byteAt s a).toNat)], x.length ≤ 1000) := Lib.hid (by
                intro x hx
                rcases List.mem_append.1 hx with h | h
                · exact hLs.out x h
                · rw [List.mem_singleton] at h
                  rw [h]; unfold sub; rw [List.length_drop, List.length_take]; omega)
              have hsc : ∀ W, (Instr.slice 9 (.string (str s)) (some (.int .i64 ((a : Int) + 1))) (some (.int .i64 ((a : Int) + 1 + ((byteAt s a).toNat : Int)))) none).run Tryd.prog W = .ok (.string (str (sub s (a + 1) (a + 1 + (byteAt s a).toNat)))) W := fun W => by
                have := run_slice_str (P := Tryd.prog) W 9 s .i64 .i64 ((a : Int) + 1) ((a : Int) + 1 + ((byteAt s a).toNat : Int)) Tryd.underlying9 (by omega) (by omega) (by omega)
                rw [this]
                congr 3
              have hai : (a : Int) < (s.length : Int) := by omega
              have hbi : (a : Int) + 1 + ((byteAt s a).toNat : Int) ≤ (s.length : Int) := by omega
              clear hpt hr hz hr2 hz2 ek ek2 hsl hP hLs
              go_wp2_with (at_builtin; refine wpList_appendS (z := .string ⟨#[]⟩) (bytes := 16) Tryd.underlying39 (by kernel_rfl) rfl sv_one rfl _ _ rfl W1.heap.size _ L rfl (ho.alloc _) _ [sub s (a + 1) (a + 1 + (byteAt s a).toNat)] rfl (Sl.lit (by rfl) rfl rfl (by decide) (by decide)) (by simp; omega) (by simp; omega) ((e2.alloc _).size) ?_; intro v' w' g1 g2)
              go_roundw
              case rel => first | exact ⟨a + 1 + (byteAt s a).toNat, _, by omega, by go_num, by simp; omega, g1, Ext.owns (e2.alloc _) (ho.alloc _) g2, hP2, hLs2⟩ | ((repeat apply Exists.intro); exact ⟨⟨a + 1 + (byteAt s a).toNat, _, by omega, by go_num, by simp; omega, g1, Ext.owns (e2.alloc _) (ho.alloc _) g2, hP2, hLs2⟩, rfl⟩) | (refine ⟨?_, ?_⟩) 
              case measure => simp [intOf]; omega
            · have hno : RowKit.Hid (decR name s = zero ∧ decE name s = 8) := Lib.hid (rd_stop (by
                rw [hP.out, show 4 - L.length = (4 - (L.length + 1)) + 1 by omega, pn_stop (pt_not (by rw [byteAt_drop, List.length_drop]; omega))]; rfl))
              by_cases ha0 : a < s.length
              · have hb := (byteAt s a).toNat_lt
                have hai : (a : Int) < (s.length : Int) := by omega
                have hbi : (s.length : Int) < (a : Int) + 1 + ((byteAt s a).toNat : Int) := by omega
                clear hr hz hr2 ek hsl hP hLs hfit
                go_wp2_with (refine wpList_store_row rfl 36 _ _ rfl w.heap.size zcells rfl rfl 36 zcells hz2 info_rec rfl zcells_one ?_)
                (try simp only [Exit.inBlock, Exit.then])
                refine bodyPost_ret (results_rec rfl _ _ w.heap.size zcells rfl (setRow_heap wr w.heap.size zcells zcells _ _ hz2) info_rec) rfl ⟨by rw [hno.out.1, hno.out.2]; rfl, ek2.setRow (Nat.le_refl _) _⟩
              · have hai : (s.length : Int) ≤ (a : Int) := by omega
                clear hr hz hr2 ek hsl hP hLs hfit
                go_wp2_with (refine wpList_store_row rfl 36 _ _ rfl w.heap.size zcells rfl rfl 36 zcells hz2 info_rec rfl zcells_one ?_)
                (try simp only [Exit.inBlock, Exit.then])
                refine bodyPost_ret (results_rec rfl _ _ w.heap.size zcells rfl (setRow_heap wr w.heap.size zcells zcells _ _ hz2) info_rec) rfl ⟨by rw [hno.out.1, hno.out.2]; rfl, ek2.setRow (Nat.le_refl _) _⟩
          · as_aux_lemma =>
            obtain ⟨x0, x1, x2, x3, rfl⟩ : ∃ x0 x1 x2 x3, L = [x0, x1, x2, x3] := four_of (by omega)
            have hp4 : pn 4 (s.drop 19) = some ([x0, x1, x2, x3], s.drop a) := by rw [hP.out]; rfl
            have hD := Lib.hid (rd_four (name := name) hfh.out hp4)
            have hF : Fits (raw2 name s x0 x1 x2 x3) ∧ (raw2 name s x0 x1 x2 x3).name.length ≤ 1099511627776 ∧ (raw2 name s x0 x1 x2 x3).par.length ≤ 1099511627776 := by
              have q0 := hLs.out x0 (by simp)
              have q1 := hLs.out x1 (by simp)
              have q2 := hLs.out x2 (by simp)
              have q3 := hLs.out x3 (by simp)
              unfold raw2 Fits; simp only; omega
            have hend := Lib.hid (drop_end s a ha)
            obtain ⟨g, o, rfl, c0⟩ := hsl.cells 0 x0 rfl
            have hge : W1.heap.size ≤ g := ho.lt g rfl
            obtain ⟨g', o', e, c1⟩ := hsl.cells 1 x1 rfl
            cases e
            obtain ⟨g', o', e, c2⟩ := hsl.cells 2 x2 rfl
            cases e
            obtain ⟨g', o', e, c3⟩ := hsl.cells 3 x3 rfl
            cases e
            unfold sv at c0 c1 c2 c3
            rw [Nat.add_zero] at c0
            have hne1 : ¬ g6 = g := by omega
            have hne2 : ¬ g = g6 := by omega
            have ff : ∀ q, wr.frozen? ⟨g6, q, none⟩ = false := fun q => by simp [World.frozen?, hr2]
            have f2 : wr.cell? ⟨g6, 2, none⟩ = some (.string (str [])) := by rw [cell_of_row _ _ _ _ _ _ hr2]; rfl
            have f3 : wr.cell? ⟨g6, 3, none⟩ = some (.string (str [])) := by rw [cell_of_row _ _ _ _ _ _ hr2]; rfl
            have f4 : wr.cell? ⟨g6, 4, none⟩ = some (.string (str [])) := by rw [cell_of_row _ _ _ _ _ _ hr2]; rfl
            have f5 : wr.cell? ⟨g6, 5, none⟩ = some (.string (str [])) := by rw [cell_of_row _ _ _ _ _ _ hr2]; rfl
            have hr3 := Lib.hid (raw_texts hr2 (x0 := x0) (x1 := x1) (x2 := x2) (x3 := x3))
            have hz3 := Lib.hid hz2
            have ek3 := Lib.hid ek2
            clear hr hz hr2 hz2 ek ek2 ho hP hLs hp4 hsl
            go_upto_region 19 with fail
            go_cut [8] (fun at_ wd => at_ = .int .i64 (a : Int) ∧ wd.heap[g6]? = some (.cells (rcells (raw2 name s x0 x1 x2 x3)) 36 (0, 0)) ∧ wd.heap[w.heap.size]? = some (.cells zcells 36 (0, 0)) ∧ Ext w wd)
            case first =>
              go_wp2
              go_meet
              case rel =>
                have hg := hg62.out
                have hy := ek3.out.size
                refine ⟨rfl, hr3.out, ?_, (((ek3.out.setCell (by simp; omega) _).setCell (by simp; omega) _).setCell (by simp; omega) _).setCell (by simp; omega) _⟩
                exact (Below.heap_setCell _ _ _ _ (by simp; omega)).trans ((Below.heap_setCell _ _ _ _ (by simp; omega)).trans ((Below.heap_setCell _ _ _ _ (by simp; omega)).trans ((Below.heap_setCell _ _ _ _ (by simp; omega)).trans hz3.out)))
            case rest =>
              obtain ⟨rfl, hg, hz2, ek2⟩ := hcut
              have hright := fun W => refRight_any (raw2 name s x0 x1 x2 x3) hF.1 hF.2.1 hF.2.2 W
              clear c0 c1 c2 c3 f2 f3 f4 f5 ff hF
              generalize raw2 name s x0 x1 x2 x3 = R at *
              by_cases hE : a = s.length ∧ rightI R = true
              · obtain ⟨hE1, hE2⟩ := hE
                have hyes : RowKit.Hid (decR name s = R ∧ decE name s = 0) := Lib.hid (by
                  unfold decR decE; rw [hD.out, if_pos ⟨hend.out.2 hE1, hE2⟩]; exact ⟨rfl, rfl⟩)
                have ht : ((a : Int) != (s.length : Int)) = false := by rw [hE1]; simp
                rw [hE2] at hright
                clear hE1 hE2 ha
                go_wp2_with (first
                  | (refine wpList_load_row rfl 36 _ rfl g6 rfl 36 (rcells R) (0, 0) _ (by first | exact hg | exact hg5) Tryd.underlying36 rfl info_rec ?_)
                  | (go_at_call 72; refine (hright _).mono ?_; rintro e w5 ⟨rfl, h⟩; have hz5 := h.heap hz2; have hg5 := h.heap hg; have ek5 := ek2.trans h)
                  | (refine wpList_store_row rfl 36 _ _ rfl w.heap.size (rcells R) rfl rfl 36 zcells hz5 info_rec rfl (rcells_one R) ?_))
                (try simp only [Exit.inBlock, Exit.then])
                refine bodyPost_ret (results_rec rfl _ _ w.heap.size (rcells R) rfl (setRow_heap w5 w.heap.size zcells (rcells R) _ _ hz5) info_rec) rfl ⟨by rw [hyes.out.1, hyes.out.2]; rfl, ek5.setRow (Nat.le_refl _) _⟩
              · have hno : RowKit.Hid (decR name s = zero ∧ decE name s = 8) := Lib.hid (by
                  unfold decR decE; rw [hD.out, if_neg (fun h => hE ⟨hend.out.1 h.1, h.2⟩)]; exact ⟨rfl, rfl⟩)
                have hcase : ((a : Int) != (s.length : Int)) = true ∨ (((a : Int) != (s.length : Int)) = false ∧ rightI R = false) := by
                  by_cases h1 : a = s.length
                  · right; refine ⟨by rw [h1]; simp, ?_⟩
                    cases h2 : rightI R
                    · rfl
                    · exact absurd ⟨h1, h2⟩ hE
                  · left; simp [bne_iff_ne]; omega
                clear hE hD ha
                rcases hcase with ht | ⟨ht, h2⟩
                · go_wp2_with (first
                    | (refine wpList_load_row rfl 36 _ rfl g6 rfl 36 (rcells R) (0, 0) _ hg Tryd.underlying36 rfl info_rec ?_)
                    | (go_at_call 72; refine (hright _).mono ?_; rintro e w5 ⟨rfl, h⟩; have hz5 := h.heap hz2; have hg5 := h.heap hg; have ek5 := ek2.trans h)
                    | (refine wpList_store_row rfl 36 _ _ rfl w.heap.size zcells rfl rfl 36 zcells hz5 info_rec rfl zcells_one ?_))
                  (try simp only [Exit.inBlock, Exit.then])
                  refine bodyPost_ret (results_rec rfl _ _ w.heap.size zcells rfl (setRow_heap w5 w.heap.size zcells zcells _ _ hz5) info_rec) rfl ⟨by rw [hno.out.1, hno.out.2]; rfl, ek5.setRow (Nat.le_refl _) _⟩
                · rw [h2] at hright
                  clear h2
                  go_wp2_with (first
                    | (refine wpList_load_row rfl 36 _ rfl g6 rfl 36 (rcells R) (0, 0) _ hg Tryd.underlying36 rfl info_rec ?_)
                    | (go_at_call 72; refine (hright _).mono ?_; rintro e w5 ⟨rfl, h⟩; have hz5 := h.heap hz2; have hg5 := h.heap hg; have ek5 := ek2.trans h)
                    | (refine wpList_store_row rfl 36 _ _ rfl w.heap.size zcells rfl rfl 36 zcells hz5 info_rec rfl zcells_one ?_))
                  (try simp only [Exit.inBlock, Exit.then])
                  refine bodyPost_ret (results_rec rfl _ _ w.heap.size zcells rfl (setRow_heap w5 w.heap.size zcells zcells _ _ hz5) info_rec) rfl ⟨by rw [hno.out.1, hno.out.2]; rfl, ek5.setRow (Nat.le_refl _) _⟩
theorem refDecode_any (name s : List UInt8) (hn : name.length ≤ 1000) (hs : s.length ≤ 1000) (w : World) :
    Calls Tryd.prog 74 #[.string (str name), .string (str s)] w fun e w' => e = .returned (.tuple #[recv (decR name s), .int .i64 (decE name s)]) ∧ Ext w w' := by
  by_cases hf : few2 s
  · exact refDecode_few name s hn hs hf w
  · exact refDecode_no name s hn hs hf w
end Go.Proofs.YtmdepmohfnficaaDoor
