/- ExpiryFree, walked. -/
import Derived.Test.YtmdepmohfnficaaDoorFxJ
namespace Go.Proofs.YtmdepmohfnficaaDoor
set_option linter.unusedVariables false
set_option linter.unusedSimpArgs false
open Go.ChangeShapes Go.WideShapes Go.ChangeAt Go.RowKit Rk Tr

set_option maxRecDepth 20000
namespace Tr
def fK (k : Nat) (a b c : Int) : Nat → Int := upd (upd (upd (fun _ => 0) k a) (7 + k) b) (14 + k) c
theorem fK_other {k j : Nat} {a b c : Int} (hj : j ≠ k) (h7 : j < 7) (hk : k < 7) : fK k a b c j = 0 ∧ fK k a b c (7 + j) = 0 ∧ fK k a b c (14 + j) = 0 := by
  unfold fK upd
  refine ⟨?_, ?_, ?_⟩
  · rw [if_neg (by omega), if_neg (by omega), if_neg (by omega)]
  · rw [if_neg (by omega), if_neg (by omega), if_neg (by omega)]
  · rw [if_neg (by omega), if_neg (by omega), if_neg (by omega)]
theorem live_free {f : Nat → Int} {r : Rec} {now : Int} (hr : rightI r = true) (h : f r.kind.toNat = 0 ∧ f (7 + r.kind.toNat) = 0 ∧ f (14 + r.kind.toNat) = 0) : liveI f r now = true := by
  have R := (right_iff r).1 hr
  have hk := R.kind
  unfold liveI
  rw [h.1, h.2.1, h.2.2, bl_zero rfl, bl_zero rfl, bl_zero rfl, decide_eq_true (by omega), decide_eq_true (by omega)]; rfl
theorem live_none {r : Rec} {now : Int} (hr : rightI r = true) : liveI (fun _ => 0) r now = true := live_free hr ⟨rfl, rfl, rfl⟩
theorem live_fK {r : Rec} {now a b c : Int} {k : Nat} (hr : rightI r = true) (hk : k < 7) (h : r.kind ≠ (k : Int)) : liveI (fK k a b c) r now = true := by
  have R := (right_iff r).1 hr
  have h1 := R.kind
  exact live_free hr (fK_other (by omega) (by omega) hk)
theorem mem_sweep {l : List Rec} {f : Nat → Int} {now : Int} {n : List UInt8} (h : n ∈ sweepI l f now) : ∃ r ∈ l, r.name = n ∧ deadI l f now n = true := by
  unfold sweepI at h
  obtain ⟨r, hr, hn⟩ := List.mem_map.1 h
  obtain ⟨h1, h2⟩ := List.mem_filter.1 hr
  refine ⟨r, h1, hn, ?_⟩
  unfold topI at h2
  rw [Bool.and_eq_true, hn] at h2
  exact h2.1
theorem getR_mem {l : List Rec} (h : Ok l) {x : Rec} (hx : x ∈ l) : getR l x.name = x := by
  obtain ⟨k, hk⟩ := List.getElem?_of_mem hx
  exact getR_at h hk
theorem dead_not_live {l : List Rec} {f : Nat → Int} {now : Int} {n : List UInt8} (h : deadI l f now n = true) : liveI f (getR l n) now = false := by
  unfold deadI at h
  rw [Bool.and_eq_true] at h
  simpa using h.1
theorem sweep_kind {l : List Rec} (h : Ok l) {k : Nat} {a b c now : Int} (hk : k < 7) {n : List UInt8} (hn : n ∈ sweepI l (fK k a b c) now) : (getR l n).kind = k := by
  obtain ⟨r, hr, rfl, hd⟩ := mem_sweep hn
  have h1 := dead_not_live hd
  rw [getR_mem h hr] at h1 ⊢
  refine Classical.byContradiction fun hne => ?_
  rw [live_fK (h.right r hr) hk hne] at h1
  cases h1
theorem sweep_none {l : List Rec} (h : Ok l) (now : Int) : sweepI l (fun _ => 0) now = [] := by
  refine List.eq_nil_iff_forall_not_mem.2 fun n hn => ?_
  obtain ⟨r, hr, rfl, hd⟩ := mem_sweep hn
  have h1 := dead_not_live hd
  rw [getR_mem h hr, live_none (h.right r hr)] at h1
  cases h1
theorem alive_free {l : List Rec} (h : Ok l) (now : Int) {k : Nat} {x : Rec} (hx : l[k]? = some x) : aliveI l (fun _ => 0) now x.name = true := by
  rw [alive_end, decide_eq_true_iff]
  · exact (path_first h hx).2
  · intro j m _ hm
    obtain ⟨h1, h2, -⟩ := path_at h hm
    obtain ⟨i, hi⟩ := Option.ne_none_iff_exists'.1 (isIn_ix.1 h1)
    obtain ⟨r, h3, rfl⟩ := ix_some hi
    unfold offI
    rw [getR_at h h3, live_none (h.right r (List.mem_of_getElem? h3)), Bool.and_comm]; rfl
end Tr
section
variable {W : World} {base : Nat} {v : Value}
theorem types_lim : Tryd.prog.cellTypes Tryd.prog.depth 60 = some (List.replicate 3 59) := by kernel_rfl
theorem u16_cell {u : Value} (h : Cell.okWide Tryd.prog W .any base 59 u) : ∃ n, u = .int .u16 n := by
  simp only [Cell.okWide, Tryd.underlying59] at h
  cases u <;> simp_all [Cell.ok, Tryd.underlying59]
theorem open_lim (hval : Value.okWide Tryd.prog W .any base 60 v) : ∃ a b c : Int, v = .agg #[.int .u16 a, .int .u16 b, .int .u16 c] := by
  simp only [Value.okWide, Tryd.underlying60] at hval
  obtain ⟨cs, rfl, hs, ts, ht, -, hc⟩ := hval
  have hs3 : cs.size = 3 := by rw [hs]; kernel_rfl
  rw [types_lim] at ht
  obtain rfl := Option.some.inj ht
  have hat : ∀ j, j < 3 → ∃ n, cs[j]? = some (.int .u16 n) := fun j hj => by
    have hjs : j < cs.size := by omega
    obtain ⟨t', h1, h2⟩ := hc j cs[j] (Array.getElem?_eq_getElem hjs)
    have ht' : t' = 59 := by
      have h3 : (List.replicate 3 59)[j % 3]? = some 59 := by rw [List.getElem?_replicate, if_pos (Nat.mod_lt _ (by decide))]
      exact Option.some.inj (h1.symm.trans h3)
    rw [ht'] at h2
    obtain ⟨n, hn⟩ := u16_cell h2
    exact ⟨n, by rw [Array.getElem?_eq_getElem hjs, hn]⟩
  obtain ⟨a, ha⟩ := hat 0 (by omega)
  obtain ⟨b, hb⟩ := hat 1 (by omega)
  obtain ⟨c, hc⟩ := hat 2 (by omega)
  refine ⟨a, b, c, congrArg Value.agg ?_⟩
  apply Array.ext_getElem?
  intro j
  rcases j with _ | _ | _ | j
  · exact ha
  · exact hb
  · exact hc
  · rw [Array.getElem?_eq_none (by omega), Array.getElem?_eq_none (by simp)]
end
theorem yieldsIf_load_recM {ops : Array Oper} {S : World → Prop} {op : Oper} {a : Act} (hw : Region.wanted op (yielded ops a.tmps) = true) (x : Operand) (ho : op.op = .load 36 x) (b i : Nat) (hx : a.eval x = .pointer (some ⟨b, i, none⟩)) (r : Rec)
    (hS : ∀ w, S w → w.rangeAt b i (prow r)) : YieldsIf Tryd.prog ops S op (.agg (rcells r)) a := by
  have := yieldsIf_load_mid hw 36 x ho b i hx (prow r) _ hS Tryd.underlying36 rfl info_rec
  rwa [show (prow r).toArray = rcells r by simp [prow]] at this
theorem fK_def (k : Nat) (a b c : Int) : upd (upd (upd (fun _ => 0) k a) (7 + k) b) (14 + k) c = fK k a b c := rfl
theorem sweepI_len (l : List Rec) (f : Nat → Int) (now : Int) : (sweepI l f now).length ≤ l.length := by
  unfold sweepI
  rw [List.length_map]
  exact List.length_filter_le _ _
attribute [local irreducible] pcA rcells liveI holdsI offI aliveI deadI topI sweepI bldL tmI
set_option linter.unusedSimpArgs false in
set_option maxRecDepth 20000 in
set_option maxHeartbeats 4000000 in
theorem expiryFree_any (v1 : Value) (l1 : List Rec) (x : UInt8) (a b c now : Int) (w : World) (hw : Pres w) (h1 : Recs w v1 l1) :
    Calls Tryd.prog 6 #[v1, .int .u8 (x.toNat : Int), .agg #[.int .u16 a, .int .u16 b, .int .u16 c], .int .i64 now] w fun e w' => e = .returned (.bool true) ∧ Ext w w' := by
  have hg := heap_alloc_new w (.cells #[.int .u16 a, .int .u16 b, .int .u16 c] 60)
  have e1 := (Ext.refl w).alloc (.cells #[.int .u16 a, .int .u16 b, .int .u16 c] 60)
  have h1h := Lib.hid h1
  have hwh := Lib.hid hw
  obtain ⟨a1, c1, rfl, -⟩ := Rw.shape h1
  clear hw h1
  go_enter Tryd.func6, Tryd.ntmps6
  go_upto_region 1 with fail
  generalize w.alloc (.cells #[.int .u16 a, .int .u16 b, .int .u16 c] 60) = W1 at *
  generalize w.heap.size = B0 at *
  have e1h := Lib.hid e1
  have hgh := Lib.hid hg
  clear e1 hg
  go_upto_region 2 with (go_at_call 13; refine (awake15_any _).mono ?_; rintro e W3 ⟨rfl, e2⟩)
  have e13 := e1h.out.trans e2
  have hg3 := Lib.hid (e2.heap hgh.out)
  have hB := (built_any _ l1 W3 (h1h.out.ext e13) (hwh.out.ext e13)).mono (R' := fun e w' => ∃ p q b, e = .returned (.tuple #[.pointer (some ⟨p, 0, none⟩), .pointer (some ⟨q, 0, none⟩), .bool b]) ∧ RowKit.Hid ((b = true ∧ Tw W3 w' p q 64 (bldL [] l1)) ∨ (b = false ∧ Ext W3 w'))) fun e w' h => by
    obtain ⟨p, q, ⟨rfl, h⟩ | ⟨rfl, h⟩⟩ := h
    · exact ⟨p, q, true, rfl, Lib.hid (.inl ⟨rfl, h⟩)⟩
    · exact ⟨p, q, false, rfl, Lib.hid (.inr ⟨rfl, h⟩)⟩
  have e13h := Lib.hid e13
  clear e1h hgh e2 e13 hwh
  go_upto_region 3 with (go_at_call 15; refine hB.mono ?_; rintro e W4 ⟨p, q, b, rfl, hTw⟩)
  clear hB
  obtain ⟨hb, hTT⟩ | ⟨hb, e4⟩ := hTw.out
  rotate_left
  · subst hb
    have e04 := Lib.hid (e13h.out.trans e4)
    clear e4 hTw
    go_wp2
    go_ret
    exact ⟨rfl, e04.out⟩
  subst hb
  obtain ⟨F, G, tp, tq, hF, hG, hFG, e34⟩ := hTT
  have e04 := Lib.hid (e13h.out.trans e34)
  have hg4 := e34.heap hg3.out
  clear hTw e34 hF hG hFG hg3
  cases ht : tmI now
  · go_wp2_with (go_at_call 16; refine (time_any _ _).mono ?_; rintro e w' ⟨rfl, rfl⟩)
    go_ret
    exact ⟨rfl, e04.out⟩
  have hSt := Lib.hid (St.bld l1 (St.nil (Nat.le_refl 64)))
  have ht' := Lib.hid ht
  generalize bldL [] l1 = L at *
  obtain ⟨aq, cq, -, hq1, rq⟩ := tq.parts
  obtain ⟨a', cap', hq, hlm, hget⟩ := Rw.shape rq
  cases hq
  have hgeth := Lib.hid hget
  have hq1h := Lib.hid hq1
  have tph := Lib.hid tp
  have tqh := Lib.hid tq
  clear hget hq1 rq tp tq h1h
  have c0 := cell_at hg4 0 (u := .int .u16 a) rfl
  have c1 := cell_at hg4 1 (u := .int .u16 b) rfl
  have c2 := cell_at hg4 2 (u := .int .u16 c) rfl
  have zB := (Array.getElem?_eq_some_iff.1 hg4).1
  obtain ⟨k, hk⟩ : ∃ k : Nat, k = 1 + x.toNat % 6 := ⟨_, rfl⟩
  have hk6 : k < 7 := by omega
  have hx := x.toNat_lt
  clear hg4
  go_upto_region 8 with (go_at_call 16; refine (time_any _ _).mono ?_; rintro e w' ⟨rfl, rfl⟩)
  rw [pcA_zero]
  rw [show (1 + (x.toNat : Int) % 6) = (k : Int) by omega]
  have hN := heap_alloc_new W4 (.cells (pcA fun _ => 0) 25)
  have e45 := (Ext.refl W4).alloc (.cells (pcA fun _ => 0) 25)
  have hs5 : (W4.alloc (.cells (pcA fun _ => 0) 25)).heap.size = W4.heap.size + 1 := alloc_size _ _
  generalize W4.alloc (.cells (pcA fun _ => 0) 25) = W5 at *
  have hP := heap_alloc_new W5 (.cells (pcA fun _ => 0) 25)
  have eP := (Ext.refl W5).alloc (.cells (pcA fun _ => 0) 25)
  rw [hs5] at hP
  generalize W5.alloc (.cells (pcA fun _ => 0) 25) = W6 at *
  have i0 : (0 : Int) ≤ (k : Int) := by omega
  have i7 : (k : Int) < 7 := by omega
  clear zB hx hk
  have k0 := (cell_of_row _ (W4.heap.size + 1) (k) _ _ _ hP).trans (pcA_at _ (by omega))
  have f0 : W6.frozen? ⟨W4.heap.size + 1, k, none⟩ = false := by simp [World.frozen?, hP]
  have r0 := setCell_row W6 (W4.heap.size + 1) (k) _ _ _ (.int .i64 (wrap64 a)) hP
  rw [pcA_set] at r0
  have e0 : Ext W5 (W6.setCell ⟨W4.heap.size + 1, k, none⟩ (.int .i64 (wrap64 a))) := eP.chg ((Chg.refl (fun j => j = W4.heap.size + 1) W6).setCell (fun _ => rfl) _) (fun j hj => by omega)
  have l0 := (e45.trans eP).cell c0
  clear hP eP
  go_upto_region 9 with fail
  generalize W6.setCell ⟨W4.heap.size + 1, k, none⟩ (.int .i64 (wrap64 a)) = W7 at *
  have hP := r0
  have eP := e0
  clear k0 f0 r0 e0 l0
  have k1 := (cell_of_row _ (W4.heap.size + 1) (7 + k) _ _ _ hP).trans (pcA_at _ (by omega))
  have f1 : W7.frozen? ⟨W4.heap.size + 1, 7 + k, none⟩ = false := by simp [World.frozen?, hP]
  have r1 := setCell_row W7 (W4.heap.size + 1) (7 + k) _ _ _ (.int .i64 (wrap64 b)) hP
  rw [pcA_set] at r1
  have e1 : Ext W5 (W7.setCell ⟨W4.heap.size + 1, 7 + k, none⟩ (.int .i64 (wrap64 b))) := eP.chg ((Chg.refl (fun j => j = W4.heap.size + 1) W7).setCell (fun _ => rfl) _) (fun j hj => by omega)
  have l1 := (e45.trans eP).cell c1
  clear hP eP
  go_upto_region 10 with fail
  generalize W7.setCell ⟨W4.heap.size + 1, 7 + k, none⟩ (.int .i64 (wrap64 b)) = W8 at *
  have hP := r1
  have eP := e1
  clear k1 f1 r1 e1 l1
  have k2 := (cell_of_row _ (W4.heap.size + 1) (14 + k) _ _ _ hP).trans (pcA_at _ (by omega))
  have f2 : W8.frozen? ⟨W4.heap.size + 1, 14 + k, none⟩ = false := by simp [World.frozen?, hP]
  have r2 := setCell_row W8 (W4.heap.size + 1) (14 + k) _ _ _ (.int .i64 (wrap64 c)) hP
  rw [pcA_set] at r2
  have e2 : Ext W5 (W8.setCell ⟨W4.heap.size + 1, 14 + k, none⟩ (.int .i64 (wrap64 c))) := eP.chg ((Chg.refl (fun j => j = W4.heap.size + 1) W8).setCell (fun _ => rfl) _) (fun j hj => by omega)
  have l2 := (e45.trans eP).cell c2
  clear hP eP
  go_upto_region 11 with fail
  generalize W8.setCell ⟨W4.heap.size + 1, 14 + k, none⟩ (.int .i64 (wrap64 c)) = W9 at *
  have hP := r2
  have eP := e2
  clear k2 f2 r2 e2 l2
  rw [fK_def] at hP
  clear c0 c1 c2
  obtain ⟨f, hf⟩ : ∃ f, f = fK k (wrap64 a) (wrap64 b) (wrap64 c) := ⟨_, rfl⟩
  rw [← hf] at hP
  have hSk := Lib.hid (fun n (hn : n ∈ sweepI L f now) => sweep_kind hSt.out.ok hk6 (by rw [hf] at hn; exact hn))
  have hLo := Lib.hid (fun (y : Rec) (hy : y ∈ L) (hne : y.kind ≠ (k : Int)) => (by rw [hf]; exact live_fK (hSt.out.ok.right y hy) hk6 hne : liveI f y now = true))
  generalize hB13 : W4.heap.size = B13 at *
  generalize hB14 : B13 + 1 = B14 at *
  have hN9 := Lib.hid (eP.heap hN)
  have hPh := Lib.hid hP
  have e49 := Lib.hid (e45.trans eP)
  have hSw1 := sweep_any (fun _ => 0) now (tph.out.ext e49.out) hSt.out.ok hSt.out.small ht
  rw [sweep_none hSt.out.ok] at hSw1
  clear hf hP hN e45 eP hs5 hB14 i0 i7 hB13
  go_upto_region 13 with (first
    | (refine wpList_load_rowG (by rfl) 25 _ rfl B13 rfl 25 (pcA fun _ => 0) (0, 0) _ hN9.out Tryd.underlying25 rfl (pc_sz _) ?_)
    | (go_at_call 29; refine hSw1.mono ?_; rintro e W10 ⟨_, rfl, o10, e10⟩; obtain ⟨_, _, rfl, -⟩ := o10.sl))
  have hP10 := Lib.hid (e10.heap hPh.out)
  have hN10 := Lib.hid (e10.heap hN9.out)
  have e410 := Lib.hid (e49.out.trans e10)
  have hSw2 := sweep_any f now (tph.out.ext e410.out) hSt.out.ok hSt.out.small ht
  clear hSw1 o10 e10 hPh hN9 e49
  go_upto_region 14 with (first
    | (refine wpList_load_rowG (by rfl) 25 _ rfl B14 rfl 25 (pcA f) (0, 0) _ hP10.out Tryd.underlying25 rfl (pc_sz _) ?_)
    | (go_at_call 29; refine hSw2.mono ?_; rintro e W11 ⟨_, rfl, o11, e11⟩))
  obtain ⟨a11, c11, rfl, hs11⟩ := o11.sl
  have hc11 := Lib.hid hs11.cells
  have hP11 := Lib.hid (e11.heap hP10.out)
  have hN11 := Lib.hid (e11.heap hN10.out)
  have e411 := Lib.hid (e410.out.trans e11)
  have hS64 := Lib.hid (Nat.le_trans (sweepI_len L f now) hSt.out.small)
  generalize sweepI L f now = S at *
  clear hSw2 o11 hs11 e11 hP10 hN10 e410
  go_wp2
  go_loopw [17] (fun i wr => ∃ j : Nat, j ≤ S.length ∧ i = .int .i64 (j : Int) ∧ Ext W11 wr) (fun i _ => S.length - (intOf i).toNat)
  case atStart => exact ⟨0, Nat.zero_le _, rfl, Ext.refl _⟩
  case round =>
    obtain ⟨j, hj, rfl, ej⟩ := hrel
    by_cases hjt : j < S.length
    · obtain ⟨m, hm⟩ := some_at hjt
      obtain ⟨g9, q9, rfl, p0⟩ := hc11.out j m hm
      unfold sv at p0
      have hji : (j : Int) < (S.length : Int) := by omega
      have hw2 : IntKind.i64.wrap ((j : Int) + 1) = (j : Int) + 1 := by have := hS64.out; rw [IntKind.wrap_i64]; omega
      have pj := ej.cell p0
      have hG := refGet_any m (tqh.out.ext (e411.out.trans ej))
      have hk := hSk.out m (List.mem_of_getElem? hm)
      generalize getR L m = R at *
      clear p0 hm
      go_upto_region 18 with (first
        | (go_at_call 31; refine hG.mono ?_; rintro e w3 ⟨rfl, e3⟩)
        | (refine wpList_store_new w3 rfl 36 _ _ rfl (rcells R) _ rfl rfl rfl 10 info_rec (rc_ten R) rfl (rc_one R) ?_))
      have kk := cell_at (heap_alloc_new w3 (.cells (rcells R) 36)) 0 (rc_t R).1
      have e4 := (ej.trans e3).alloc (.cells (rcells R) 36)
      rw [hk] at kk
      generalize w3.alloc (.cells (rcells R) 36) = W5 at *
      generalize w3.heap.size = B4 at *
      clear hG hk pj e3 ej
      go_wp2
      go_roundw
      case rel => exact ⟨j + 1, by omega, by go_num, e4⟩
      case measure => simp [intOf]; omega
    · obtain rfl : j = S.length := by omega
      have hP12 := Lib.hid (ej.heap hP11.out)
      have hN12 := Lib.hid (ej.heap hN11.out)
      have e412 := Lib.hid (e411.out.trans ej)
      clear hP11 hN11 ej hc11 hSk e411
      obtain ⟨W12, rfl⟩ : ∃ W, W = wr := ⟨_, rfl⟩
      go_wp2
      go_loopw [20] (fun i ws => ∃ j : Nat, j ≤ L.length ∧ i = .int .i64 (j : Int) ∧ Ext W12 ws) (fun i _ => L.length - (intOf i).toNat)
      case atStart => exact ⟨0, Nat.zero_le _, rfl, Ext.refl _⟩
      case round =>
        obtain ⟨j, hj, rfl, ej⟩ := hrel
        have cq1 := (e412.out.trans ej).cell hq1h.out
        by_cases hjt : j < L.length
        · obtain ⟨x, hx⟩ := some_at hjt
          obtain ⟨g, o, cs, rfl, hr, rfl, hfit⟩ := hgeth.out j x hx
          have hji : (j : Int) < (L.length : Int) := by omega
          have hw2 : IntKind.i64.wrap ((j : Int) + 1) = (j : Int) + 1 := by have := hSt.out.small; rw [IntKind.wrap_i64]; omega
          have hAl := Lib.hid (fun W (e : Ext wr W) => (by
            have h := alive_any (fun _ => 0) x.name now (tph.out.ext ((e412.out.trans ej).trans e)) hSt.out.ok hSt.out.small ht'.out
            rwa [alive_free hSt.out.ok now hx] at h : Calls Tryd.prog 18 #[.pointer (some ⟨p, 0, none⟩), .agg (pcA fun _ => 0), .string (str x.name), .int .i64 now] W fun e w' => e = .returned (.bool true) ∧ Ext W w'))
          have hLf := Lib.hid (hLo.out x (List.mem_of_getElem? hx))
          have hLv0 := Lib.hid (fun W => liveB_any f x now ht'.out (right_bnd (hSt.out.ok.right x (List.mem_of_getElem? hx))) W)
          have hS := Lib.hid (fun W (e : Ext wr W) => (⟨pol_range ((ej.trans e).heap hN12.out), pol_range ((ej.trans e).heap hP12.out), e.cell cq1, fun i u hu => ((e412.out.trans ej).trans e).cell (hr i u hu), ((e412.out.trans ej).trans e).cell (hr 1 _ (prow_cells x).2.1), by have h := ((e412.out.trans ej).trans e).cell (hr 0 _ (prow_cells x).1); rwa [Nat.add_zero] at h⟩ : W.rangeAt B13 0 (pcA fun _ => 0).toList ∧ W.rangeAt B14 0 (pcA f).toList ∧ W.cell? ⟨q, 1, none⟩ = some (.slice (some ⟨g, o, none⟩) L.length cq) ∧ W.rangeAt g (o + j * 10) (prow x) ∧ W.cell? ⟨g, o + j * 10 + 1, none⟩ = some (.string (str x.name)) ∧ W.cell? ⟨g, o + j * 10, none⟩ = some (.int .i64 x.kind)))
          clear hx hr hfit
          go_upto_region 23 with fail
          by_cases hkk : x.kind = (k : Int)
          · have hne : (x.kind != (k : Int)) = false := by rw [hkk]; exact bne_self_eq_false _
            clear hkk hLf
            -- BEGIN SAME
            refine wp_region_held_drew (S := (fun W => W.rangeAt B13 0 (pcA fun _ => 0).toList ∧ W.rangeAt B14 0 (pcA f).toList ∧ W.cell? ⟨q, 1, none⟩ = some (.slice (some ⟨g, o, none⟩) L.length cq) ∧ W.rangeAt g (o + j * 10) (prow x) ∧ W.cell? ⟨g, o + j * 10 + 1, none⟩ = some (.string (str x.name)) ∧ W.cell? ⟨g, o + j * 10, none⟩ = some (.int .i64 x.kind))) (by kernel_rfl) ?_ (fun hHeld => ?_)
            · (refine hS.out _ ?_; (repeat (first | exact Ext.refl _ | with_reducible assumption | refine Ext.drew ?_ | refine Ext.alloc ?_ _ | refine Ext.trans ?_ (by assumption))))
            refine wpAnyH_take (i := 0) (oi := ⟨some 100, _, _, _, _, _⟩) (v := ?_) rfl (by kernel_rfl) (by kernel_rfl) (by kernel_rfl) (fun _ _ _ h => h) (Or.inl ⟨by kernel_rfl, ?_⟩) (by assumption) ?_
            rotate_left
            · (intro w hSw; (try dsimp only at hSw); go_simp; try with_reducible rfl)
            try simp only [Act.put, List.setIfInBounds_toArray, List.set_cons_zero, List.set_cons_succ]
            refine wpAnyH_take (i := 1) (oi := ⟨some 101, _, _, _, _, _⟩) (v := .agg (pcA fun _ => 0)) rfl (by kernel_rfl) (by kernel_rfl) (by kernel_rfl) (fun _ _ _ h => h) (yieldsIf_load_pol (by kernel_rfl) _ rfl B13 rfl (fun _ => 0) (fun _ h => h.1)) (by assumption) ?_
            try simp only [Act.put, List.setIfInBounds_toArray, List.set_cons_zero, List.set_cons_succ]
            refine wpAnyH_take (i := 2) (oi := ⟨some 102, _, _, _, _, _⟩) (v := ?_) rfl (by kernel_rfl) (by kernel_rfl) (by kernel_rfl) (fun _ _ _ h => h) (Or.inl ⟨by kernel_rfl, ?_⟩) (by assumption) ?_
            rotate_left
            · (intro w hSw; (try dsimp only at hSw); go_simp; try with_reducible rfl)
            try simp only [Act.put, List.setIfInBounds_toArray, List.set_cons_zero, List.set_cons_succ]
            refine wpAnyH_take (i := 3) (oi := ⟨some 103, _, _, _, _, _⟩) (v := ?_) rfl (by kernel_rfl) (by kernel_rfl) (by kernel_rfl) (fun _ _ _ h => h) (Or.inl ⟨by kernel_rfl, ?_⟩) (by assumption) ?_
            rotate_left
            · (intro w hSw; (try dsimp only at hSw); go_simp; try with_reducible rfl)
            try simp only [Act.put, List.setIfInBounds_toArray, List.set_cons_zero, List.set_cons_succ]
            refine wpAnyH_take (i := 4) (oi := ⟨some 104, _, _, _, _, _⟩) (v := ?_) rfl (by kernel_rfl) (by kernel_rfl) (by kernel_rfl) (fun _ _ _ h => h) (Or.inl ⟨by kernel_rfl, ?_⟩) (by assumption) ?_
            rotate_left
            · (intro w hSw; (try dsimp only at hSw); go_simp; try with_reducible rfl)
            try simp only [Act.put, List.setIfInBounds_toArray, List.set_cons_zero, List.set_cons_succ]
            refine wpAnyH_take (i := 5) (oi := ⟨some 105, _, _, _, _, _⟩) (v := ?_) rfl (by kernel_rfl) (by kernel_rfl) (by kernel_rfl) (fun _ _ _ h => h) (Or.inl ⟨by kernel_rfl, ?_⟩) (by assumption) ?_
            rotate_left
            · (intro w hSw; (try dsimp only at hSw); go_simp; try with_reducible rfl)
            try simp only [Act.put, List.setIfInBounds_toArray, List.set_cons_zero, List.set_cons_succ]
            refine wpAnyH_take (i := 6) (oi := ⟨some 106, _, _, _, _, _⟩) (v := ?_) rfl (by kernel_rfl) (by kernel_rfl) (by kernel_rfl) (fun _ _ _ h => h) (Or.inl ⟨by kernel_rfl, ?_⟩) (by assumption) ?_
            rotate_left
            · (intro w hSw; (try dsimp only at hSw); go_simp; try with_reducible rfl)
            try simp only [Act.put, List.setIfInBounds_toArray, List.set_cons_zero, List.set_cons_succ]
            refine wpAnyH_take (i := 7) (oi := ⟨some 107, _, _, _, _, _⟩) (v := ?_) rfl (by kernel_rfl) (by kernel_rfl) (by kernel_rfl) (fun _ _ _ h => h) (Or.inl ⟨by kernel_rfl, ?_⟩) (by assumption) ?_
            rotate_left
            · (intro w hSw; (try dsimp only at hSw); go_simp; try with_reducible rfl)
            try simp only [Act.put, List.setIfInBounds_toArray, List.set_cons_zero, List.set_cons_succ]
            refine wpAnyH_take (i := 8) (oi := ⟨some 108, _, _, _, _, _⟩) (v := ?_) rfl (by kernel_rfl) (by kernel_rfl) (by kernel_rfl) (fun _ _ _ h => h) (Or.inl ⟨by kernel_rfl, ?_⟩) (by assumption) ?_
            rotate_left
            · (intro w hSw; (try dsimp only at hSw); go_simp; try with_reducible rfl)
            try simp only [Act.put, List.setIfInBounds_toArray, List.set_cons_zero, List.set_cons_succ]
            refine wpAnyH_take (i := 9) (oi := ⟨some 109, _, _, _, _, _⟩) (v := ?_) rfl (by kernel_rfl) (by kernel_rfl) (by kernel_rfl) (fun _ _ _ h => h) (Or.inl ⟨by kernel_rfl, ?_⟩) (by assumption) ?_
            rotate_left
            · (intro w hSw; (try dsimp only at hSw); go_simp; try with_reducible rfl)
            try simp only [Act.put, List.setIfInBounds_toArray, List.set_cons_zero, List.set_cons_succ]
            refine wpAnyH_take (i := 10) (oi := ⟨some 110, _, _, _, _, _⟩) (v := ?_) rfl (by kernel_rfl) (by kernel_rfl) (by kernel_rfl) (fun _ _ _ h => h) (Or.inl ⟨by kernel_rfl, ?_⟩) (by assumption) ?_
            rotate_left
            · (intro w hSw; (try dsimp only at hSw); go_simp; try with_reducible rfl)
            try simp only [Act.put, List.setIfInBounds_toArray, List.set_cons_zero, List.set_cons_succ]
            refine wpAnyH_ready (rs := [11]) (by kernel_rfl) (by simp) ?_
            refine AllReadyH.cons rfl (fun K hK => ?_) ?_
            · go_simp
              (go_at_call 18; refine (hAl.out _ (by (repeat (first | exact Ext.refl _ | with_reducible assumption | refine Ext.drew ?_ | refine Ext.alloc ?_ _ | refine Ext.trans ?_ (by assumption))))).mono ?_; rintro e WA ⟨rfl, eA⟩)
              go_wp2_with fail
              clear hHeld
              refine hK.out _ _ ?_ (fun hHeld => ?_)
              · (refine hS.out _ ?_; (repeat (first | exact Ext.refl _ | with_reducible assumption | refine Ext.drew ?_ | refine Ext.alloc ?_ _ | refine Ext.trans ?_ (by assumption))))
              clear hK K
              try simp only [Act.put, List.setIfInBounds_toArray, List.set_cons_zero, List.set_cons_succ]
              refine wpAnyH_take (i := 12) (oi := ⟨some 112, _, _, _, _, _⟩) (v := ?_) rfl (by kernel_rfl) (by kernel_rfl) (by kernel_rfl) (fun _ _ _ h => h) (Or.inl ⟨by kernel_rfl, ?_⟩) (by assumption) ?_
              rotate_left
              · (intro w hSw; (try dsimp only at hSw); go_simp; try with_reducible rfl)
              try simp only [Act.put, List.setIfInBounds_toArray, List.set_cons_zero, List.set_cons_succ]
              refine wpAnyH_take (i := 13) (oi := ⟨some 113, _, _, _, _, _⟩) (v := ?_) rfl (by kernel_rfl) (by kernel_rfl) (by kernel_rfl) (fun _ _ _ h => h) (Or.inl ⟨by kernel_rfl, ?_⟩) (by assumption) ?_
              rotate_left
              · (intro w hSw; (try dsimp only at hSw); go_simp; try with_reducible rfl)
              try simp only [Act.put, List.setIfInBounds_toArray, List.set_cons_zero, List.set_cons_succ]
              refine wpAnyH_take (i := 14) (oi := ⟨some 114, _, _, _, _, _⟩) (v := ?_) rfl (by kernel_rfl) (by kernel_rfl) (by kernel_rfl) (fun _ _ _ h => h) (Or.inl ⟨by kernel_rfl, ?_⟩) (by assumption) ?_
              rotate_left
              · (intro w hSw; (try dsimp only at hSw); go_simp; try with_reducible rfl)
              try simp only [Act.put, List.setIfInBounds_toArray, List.set_cons_zero, List.set_cons_succ]
              refine wpAnyH_take (i := 15) (oi := ⟨some 115, _, _, _, _, _⟩) (v := ?_) rfl (by kernel_rfl) (by kernel_rfl) (by kernel_rfl) (fun _ _ _ h => h) (Or.inl ⟨by kernel_rfl, ?_⟩) (by assumption) ?_
              rotate_left
              · (intro w hSw; (try dsimp only at hSw); go_simp; try with_reducible rfl)
              try simp only [Act.put, List.setIfInBounds_toArray, List.set_cons_zero, List.set_cons_succ]
              refine wpAnyH_take (i := 16) (oi := ⟨some 116, _, _, _, _, _⟩) (v := ?_) rfl (by kernel_rfl) (by kernel_rfl) (by kernel_rfl) (fun _ _ _ h => h) (Or.inl ⟨by kernel_rfl, ?_⟩) (by assumption) ?_
              rotate_left
              · (intro w hSw; (try dsimp only at hSw); go_simp; try with_reducible rfl)
              try simp only [Act.put, List.setIfInBounds_toArray, List.set_cons_zero, List.set_cons_succ]
              refine wpAnyH_take (i := 17) (oi := ⟨some 117, _, _, _, _, _⟩) (v := ?_) rfl (by kernel_rfl) (by kernel_rfl) (by kernel_rfl) (fun _ _ _ h => h) (Or.inl ⟨by kernel_rfl, ?_⟩) (by assumption) ?_
              rotate_left
              · (intro w hSw; (try dsimp only at hSw); go_simp; try with_reducible rfl)
              try simp only [Act.put, List.setIfInBounds_toArray, List.set_cons_zero, List.set_cons_succ]
              refine wpAnyH_take (i := 18) (oi := ⟨some 118, _, _, _, _, _⟩) (v := ?_) rfl (by kernel_rfl) (by kernel_rfl) (by kernel_rfl) (fun _ _ _ h => h) (Or.inl ⟨by kernel_rfl, ?_⟩) (by assumption) ?_
              rotate_left
              · (intro w hSw; (try dsimp only at hSw); go_simp; try with_reducible rfl)
              try simp only [Act.put, List.setIfInBounds_toArray, List.set_cons_zero, List.set_cons_succ]
              refine wpAnyH_take (i := 19) (oi := ⟨some 119, _, _, _, _, _⟩) (v := ?_) rfl (by kernel_rfl) (by kernel_rfl) (by kernel_rfl) (fun _ _ _ h => h) (Or.inl ⟨by kernel_rfl, ?_⟩) (by assumption) ?_
              rotate_left
              · (intro w hSw; (try dsimp only at hSw); go_simp; try with_reducible rfl)
              try simp only [Act.put, List.setIfInBounds_toArray, List.set_cons_zero, List.set_cons_succ]
              refine wpAnyH_take (i := 20) (oi := ⟨some 120, _, _, _, _, _⟩) (v := ?_) rfl (by kernel_rfl) (by kernel_rfl) (by kernel_rfl) (fun _ _ _ h => h) (Or.inl ⟨by kernel_rfl, ?_⟩) (by assumption) ?_
              rotate_left
              · (intro w hSw; (try dsimp only at hSw); go_simp; try with_reducible rfl)
              try simp only [Act.put, List.setIfInBounds_toArray, List.set_cons_zero, List.set_cons_succ]
              refine wpAnyH_take (i := 21) (oi := ⟨some 121, _, _, _, _, _⟩) (v := ?_) rfl (by kernel_rfl) (by kernel_rfl) (by kernel_rfl) (fun _ _ _ h => h) (Or.inl ⟨by kernel_rfl, ?_⟩) (by assumption) ?_
              rotate_left
              · (intro w hSw; (try dsimp only at hSw); go_simp; try with_reducible rfl)
              try simp only [Act.put, List.setIfInBounds_toArray, List.set_cons_zero, List.set_cons_succ]
              refine wpAnyH_take (i := 22) (oi := ⟨some 122, _, _, _, _, _⟩) (v := ?_) rfl (by kernel_rfl) (by kernel_rfl) (by kernel_rfl) (fun _ _ _ h => h) (Or.inl ⟨by kernel_rfl, ?_⟩) (by assumption) ?_
              rotate_left
              · (intro w hSw; (try dsimp only at hSw); go_simp; try with_reducible rfl)
              try simp only [Act.put, List.setIfInBounds_toArray, List.set_cons_zero, List.set_cons_succ]
              refine wpAnyH_take (i := 23) (oi := ⟨some 123, _, _, _, _, _⟩) (v := ?_) rfl (by kernel_rfl) (by kernel_rfl) (by kernel_rfl) (fun _ _ _ h => h) (Or.inl ⟨by kernel_rfl, ?_⟩) (by assumption) ?_
              rotate_left
              · (intro w hSw; (try dsimp only at hSw); go_simp; try with_reducible rfl)
              try simp only [Act.put, List.setIfInBounds_toArray, List.set_cons_zero, List.set_cons_succ]
              refine wpAnyH_take (i := 24) (oi := ⟨some 124, _, _, _, _, _⟩) (v := ?_) rfl (by kernel_rfl) (by kernel_rfl) (by kernel_rfl) (fun _ _ _ h => h) (Or.inl ⟨by kernel_rfl, ?_⟩) (by assumption) ?_
              rotate_left
              · (intro w hSw; (try dsimp only at hSw); go_simp; try with_reducible rfl)
              try simp only [Act.put, List.setIfInBounds_toArray, List.set_cons_zero, List.set_cons_succ]
              refine wpAnyH_take (i := 25) (oi := ⟨some 125, _, _, _, _, _⟩) (v := undef) rfl (by kernel_rfl) (by kernel_rfl) (by kernel_rfl) (fun _ _ _ h => h) (Or.inr ⟨by kernel_rfl, rfl⟩) (by assumption) ?_
              try simp only [Act.put, List.setIfInBounds_toArray, List.set_cons_zero, List.set_cons_succ]
              refine wpAnyH_take (i := 26) (oi := ⟨some 126, _, _, _, _, _⟩) (v := undef) rfl (by kernel_rfl) (by kernel_rfl) (by kernel_rfl) (fun _ _ _ h => h) (Or.inr ⟨by kernel_rfl, rfl⟩) (by assumption) ?_
              try simp only [Act.put, List.setIfInBounds_toArray, List.set_cons_zero, List.set_cons_succ]
              refine wpAnyH_take (i := 27) (oi := ⟨some 127, _, _, _, _, _⟩) (v := undef) rfl (by kernel_rfl) (by kernel_rfl) (by kernel_rfl) (fun _ _ _ h => h) (Or.inr ⟨by kernel_rfl, rfl⟩) (by assumption) ?_
              try simp only [Act.put, List.setIfInBounds_toArray, List.set_cons_zero, List.set_cons_succ]
              refine wpAnyH_take (i := 28) (oi := ⟨some 128, _, _, _, _, _⟩) (v := undef) rfl (by kernel_rfl) (by kernel_rfl) (by kernel_rfl) (fun _ _ _ h => h) (Or.inr ⟨by kernel_rfl, rfl⟩) (by assumption) ?_
              try simp only [Act.put, List.setIfInBounds_toArray, List.set_cons_zero, List.set_cons_succ]
              refine wpAnyH_take (i := 29) (oi := ⟨some 129, _, _, _, _, _⟩) (v := undef) rfl (by kernel_rfl) (by kernel_rfl) (by kernel_rfl) (fun _ _ _ h => h) (Or.inr ⟨by kernel_rfl, rfl⟩) (by assumption) ?_
              try simp only [Act.put, List.setIfInBounds_toArray, List.set_cons_zero, List.set_cons_succ]
              refine wpAnyH_take (i := 30) (oi := ⟨some 130, _, _, _, _, _⟩) (v := undef) rfl (by kernel_rfl) (by kernel_rfl) (by kernel_rfl) (fun _ _ _ h => h) (Or.inr ⟨by kernel_rfl, rfl⟩) (by assumption) ?_
              try simp only [Act.put, List.setIfInBounds_toArray, List.set_cons_zero, List.set_cons_succ]
              refine wpAnyH_take (i := 31) (oi := ⟨some 131, _, _, _, _, _⟩) (v := undef) rfl (by kernel_rfl) (by kernel_rfl) (by kernel_rfl) (fun _ _ _ h => h) (Or.inr ⟨by kernel_rfl, rfl⟩) (by assumption) ?_
              try simp only [Act.put, List.setIfInBounds_toArray, List.set_cons_zero, List.set_cons_succ]
              refine wpAnyH_take (i := 32) (oi := ⟨some 132, _, _, _, _, _⟩) (v := undef) rfl (by kernel_rfl) (by kernel_rfl) (by kernel_rfl) (fun _ _ _ h => h) (Or.inr ⟨by kernel_rfl, rfl⟩) (by assumption) ?_
              try simp only [Act.put, List.setIfInBounds_toArray, List.set_cons_zero, List.set_cons_succ]
              refine wpAnyH_take (i := 33) (oi := ⟨some 133, _, _, _, _, _⟩) (v := undef) rfl (by kernel_rfl) (by kernel_rfl) (by kernel_rfl) (fun _ _ _ h => h) (Or.inr ⟨by kernel_rfl, rfl⟩) (by assumption) ?_
              try simp only [Act.put, List.setIfInBounds_toArray, List.set_cons_zero, List.set_cons_succ]
              refine wpAnyH_take (i := 34) (oi := ⟨some 134, _, _, _, _, _⟩) (v := undef) rfl (by kernel_rfl) (by kernel_rfl) (by kernel_rfl) (fun _ _ _ h => h) (Or.inr ⟨by kernel_rfl, rfl⟩) (by assumption) ?_
              try simp only [Act.put, List.setIfInBounds_toArray, List.set_cons_zero, List.set_cons_succ]
              refine wpAnyH_take (i := 35) (oi := ⟨some 135, _, _, _, _, _⟩) (v := undef) rfl (by kernel_rfl) (by kernel_rfl) (by kernel_rfl) (fun _ _ _ h => h) (Or.inr ⟨by kernel_rfl, rfl⟩) (by assumption) ?_
              try simp only [Act.put, List.setIfInBounds_toArray, List.set_cons_zero, List.set_cons_succ]
              refine wpAnyH_take (i := 36) (oi := ⟨some 136, _, _, _, _, _⟩) (v := ?_) rfl (by kernel_rfl) (by kernel_rfl) (by kernel_rfl) (fun _ _ _ h => h) (Or.inl ⟨by kernel_rfl, ?_⟩) (by assumption) ?_
              rotate_left
              · (intro w hSw; (try dsimp only at hSw); go_simp; try with_reducible rfl)
              try simp only [Act.put, List.setIfInBounds_toArray, List.set_cons_zero, List.set_cons_succ]
              refine wpAnyH_take (i := 37) (oi := ⟨some 137, _, _, _, _, _⟩) (v := ?_) rfl (by kernel_rfl) (by kernel_rfl) (by kernel_rfl) (fun _ _ _ h => h) (Or.inl ⟨by kernel_rfl, ?_⟩) (by assumption) ?_
              rotate_left
              · (intro w hSw; (try dsimp only at hSw); go_simp; try with_reducible rfl)
              try simp only [Act.put, List.setIfInBounds_toArray, List.set_cons_zero, List.set_cons_succ]
              refine wpAnyH_done (by kernel_rfl) ?_ _
              have eW := (by (repeat (first | exact Ext.refl _ | with_reducible assumption | refine Ext.drew ?_ | refine Ext.alloc ?_ _ | refine Ext.trans ?_ (by assumption))) : Ext wr WA)
              clear hHeld
              go_wp2
              go_roundw
              case rel => exact ⟨j + 1, by omega, by go_num, ej.trans eW⟩
              case measure => simp [intOf]; omega
            exact AllReadyH.nil
            -- END SAME
          · have hne : (x.kind != (k : Int)) = true := by rw [bne_iff_ne]; exact hkk
            have hLv := hLv0.out
            rw [hLf.out hkk] at hLv
            have hLv := Lib.hid hLv
            clear hkk hLf hLv0
            -- BEGIN OTHER
            refine wp_region_held_drew (S := (fun W => W.rangeAt B13 0 (pcA fun _ => 0).toList ∧ W.rangeAt B14 0 (pcA f).toList ∧ W.cell? ⟨q, 1, none⟩ = some (.slice (some ⟨g, o, none⟩) L.length cq) ∧ W.rangeAt g (o + j * 10) (prow x) ∧ W.cell? ⟨g, o + j * 10 + 1, none⟩ = some (.string (str x.name)) ∧ W.cell? ⟨g, o + j * 10, none⟩ = some (.int .i64 x.kind))) (by kernel_rfl) ?_ (fun hHeld => ?_)
            · (refine hS.out _ ?_; (repeat (first | exact Ext.refl _ | with_reducible assumption | refine Ext.drew ?_ | refine Ext.alloc ?_ _ | refine Ext.trans ?_ (by assumption))))
            refine wpAnyH_take (i := 0) (oi := ⟨some 100, _, _, _, _, _⟩) (v := ?_) rfl (by kernel_rfl) (by kernel_rfl) (by kernel_rfl) (fun _ _ _ h => h) (Or.inl ⟨by kernel_rfl, ?_⟩) (by assumption) ?_
            rotate_left
            · (intro w hSw; (try dsimp only at hSw); go_simp; try with_reducible rfl)
            try simp only [Act.put, List.setIfInBounds_toArray, List.set_cons_zero, List.set_cons_succ]
            refine wpAnyH_take (i := 1) (oi := ⟨some 101, _, _, _, _, _⟩) (v := .agg (pcA fun _ => 0)) rfl (by kernel_rfl) (by kernel_rfl) (by kernel_rfl) (fun _ _ _ h => h) (yieldsIf_load_pol (by kernel_rfl) _ rfl B13 rfl (fun _ => 0) (fun _ h => h.1)) (by assumption) ?_
            try simp only [Act.put, List.setIfInBounds_toArray, List.set_cons_zero, List.set_cons_succ]
            refine wpAnyH_take (i := 2) (oi := ⟨some 102, _, _, _, _, _⟩) (v := ?_) rfl (by kernel_rfl) (by kernel_rfl) (by kernel_rfl) (fun _ _ _ h => h) (Or.inl ⟨by kernel_rfl, ?_⟩) (by assumption) ?_
            rotate_left
            · (intro w hSw; (try dsimp only at hSw); go_simp; try with_reducible rfl)
            try simp only [Act.put, List.setIfInBounds_toArray, List.set_cons_zero, List.set_cons_succ]
            refine wpAnyH_take (i := 3) (oi := ⟨some 103, _, _, _, _, _⟩) (v := ?_) rfl (by kernel_rfl) (by kernel_rfl) (by kernel_rfl) (fun _ _ _ h => h) (Or.inl ⟨by kernel_rfl, ?_⟩) (by assumption) ?_
            rotate_left
            · (intro w hSw; (try dsimp only at hSw); go_simp; try with_reducible rfl)
            try simp only [Act.put, List.setIfInBounds_toArray, List.set_cons_zero, List.set_cons_succ]
            refine wpAnyH_take (i := 4) (oi := ⟨some 104, _, _, _, _, _⟩) (v := ?_) rfl (by kernel_rfl) (by kernel_rfl) (by kernel_rfl) (fun _ _ _ h => h) (Or.inl ⟨by kernel_rfl, ?_⟩) (by assumption) ?_
            rotate_left
            · (intro w hSw; (try dsimp only at hSw); go_simp; try with_reducible rfl)
            try simp only [Act.put, List.setIfInBounds_toArray, List.set_cons_zero, List.set_cons_succ]
            refine wpAnyH_take (i := 5) (oi := ⟨some 105, _, _, _, _, _⟩) (v := ?_) rfl (by kernel_rfl) (by kernel_rfl) (by kernel_rfl) (fun _ _ _ h => h) (Or.inl ⟨by kernel_rfl, ?_⟩) (by assumption) ?_
            rotate_left
            · (intro w hSw; (try dsimp only at hSw); go_simp; try with_reducible rfl)
            try simp only [Act.put, List.setIfInBounds_toArray, List.set_cons_zero, List.set_cons_succ]
            refine wpAnyH_take (i := 6) (oi := ⟨some 106, _, _, _, _, _⟩) (v := ?_) rfl (by kernel_rfl) (by kernel_rfl) (by kernel_rfl) (fun _ _ _ h => h) (Or.inl ⟨by kernel_rfl, ?_⟩) (by assumption) ?_
            rotate_left
            · (intro w hSw; (try dsimp only at hSw); go_simp; try with_reducible rfl)
            try simp only [Act.put, List.setIfInBounds_toArray, List.set_cons_zero, List.set_cons_succ]
            refine wpAnyH_take (i := 7) (oi := ⟨some 107, _, _, _, _, _⟩) (v := ?_) rfl (by kernel_rfl) (by kernel_rfl) (by kernel_rfl) (fun _ _ _ h => h) (Or.inl ⟨by kernel_rfl, ?_⟩) (by assumption) ?_
            rotate_left
            · (intro w hSw; (try dsimp only at hSw); go_simp; try with_reducible rfl)
            try simp only [Act.put, List.setIfInBounds_toArray, List.set_cons_zero, List.set_cons_succ]
            refine wpAnyH_take (i := 8) (oi := ⟨some 108, _, _, _, _, _⟩) (v := ?_) rfl (by kernel_rfl) (by kernel_rfl) (by kernel_rfl) (fun _ _ _ h => h) (Or.inl ⟨by kernel_rfl, ?_⟩) (by assumption) ?_
            rotate_left
            · (intro w hSw; (try dsimp only at hSw); go_simp; try with_reducible rfl)
            try simp only [Act.put, List.setIfInBounds_toArray, List.set_cons_zero, List.set_cons_succ]
            refine wpAnyH_take (i := 9) (oi := ⟨some 109, _, _, _, _, _⟩) (v := ?_) rfl (by kernel_rfl) (by kernel_rfl) (by kernel_rfl) (fun _ _ _ h => h) (Or.inl ⟨by kernel_rfl, ?_⟩) (by assumption) ?_
            rotate_left
            · (intro w hSw; (try dsimp only at hSw); go_simp; try with_reducible rfl)
            try simp only [Act.put, List.setIfInBounds_toArray, List.set_cons_zero, List.set_cons_succ]
            refine wpAnyH_take (i := 10) (oi := ⟨some 110, _, _, _, _, _⟩) (v := ?_) rfl (by kernel_rfl) (by kernel_rfl) (by kernel_rfl) (fun _ _ _ h => h) (Or.inl ⟨by kernel_rfl, ?_⟩) (by assumption) ?_
            rotate_left
            · (intro w hSw; (try dsimp only at hSw); go_simp; try with_reducible rfl)
            try simp only [Act.put, List.setIfInBounds_toArray, List.set_cons_zero, List.set_cons_succ]
            refine wpAnyH_ready (rs := [11]) (by kernel_rfl) (by simp) ?_
            refine AllReadyH.cons rfl (fun K hK => ?_) ?_
            · go_simp
              (go_at_call 18; refine (hAl.out _ (by (repeat (first | exact Ext.refl _ | with_reducible assumption | refine Ext.drew ?_ | refine Ext.alloc ?_ _ | refine Ext.trans ?_ (by assumption))))).mono ?_; rintro e WA ⟨rfl, eA⟩)
              go_wp2_with fail
              clear hHeld
              refine hK.out _ _ ?_ (fun hHeld => ?_)
              · (refine hS.out _ ?_; (repeat (first | exact Ext.refl _ | with_reducible assumption | refine Ext.drew ?_ | refine Ext.alloc ?_ _ | refine Ext.trans ?_ (by assumption))))
              clear hK K
              try simp only [Act.put, List.setIfInBounds_toArray, List.set_cons_zero, List.set_cons_succ]
              refine wpAnyH_take (i := 12) (oi := ⟨some 112, _, _, _, _, _⟩) (v := ?_) rfl (by kernel_rfl) (by kernel_rfl) (by kernel_rfl) (fun _ _ _ h => h) (Or.inl ⟨by kernel_rfl, ?_⟩) (by assumption) ?_
              rotate_left
              · (intro w hSw; (try dsimp only at hSw); go_simp; try with_reducible rfl)
              try simp only [Act.put, List.setIfInBounds_toArray, List.set_cons_zero, List.set_cons_succ]
              refine wpAnyH_take (i := 13) (oi := ⟨some 113, _, _, _, _, _⟩) (v := ?_) rfl (by kernel_rfl) (by kernel_rfl) (by kernel_rfl) (fun _ _ _ h => h) (Or.inl ⟨by kernel_rfl, ?_⟩) (by assumption) ?_
              rotate_left
              · (intro w hSw; (try dsimp only at hSw); go_simp; try with_reducible rfl)
              try simp only [Act.put, List.setIfInBounds_toArray, List.set_cons_zero, List.set_cons_succ]
              refine wpAnyH_take (i := 14) (oi := ⟨some 114, _, _, _, _, _⟩) (v := ?_) rfl (by kernel_rfl) (by kernel_rfl) (by kernel_rfl) (fun _ _ _ h => h) (Or.inl ⟨by kernel_rfl, ?_⟩) (by assumption) ?_
              rotate_left
              · (intro w hSw; (try dsimp only at hSw); go_simp; try with_reducible rfl)
              try simp only [Act.put, List.setIfInBounds_toArray, List.set_cons_zero, List.set_cons_succ]
              refine wpAnyH_take (i := 15) (oi := ⟨some 115, _, _, _, _, _⟩) (v := ?_) rfl (by kernel_rfl) (by kernel_rfl) (by kernel_rfl) (fun _ _ _ h => h) (Or.inl ⟨by kernel_rfl, ?_⟩) (by assumption) ?_
              rotate_left
              · (intro w hSw; (try dsimp only at hSw); go_simp; try with_reducible rfl)
              try simp only [Act.put, List.setIfInBounds_toArray, List.set_cons_zero, List.set_cons_succ]
              refine wpAnyH_take (i := 16) (oi := ⟨some 116, _, _, _, _, _⟩) (v := ?_) rfl (by kernel_rfl) (by kernel_rfl) (by kernel_rfl) (fun _ _ _ h => h) (Or.inl ⟨by kernel_rfl, ?_⟩) (by assumption) ?_
              rotate_left
              · (intro w hSw; (try dsimp only at hSw); go_simp; try with_reducible rfl)
              try simp only [Act.put, List.setIfInBounds_toArray, List.set_cons_zero, List.set_cons_succ]
              refine wpAnyH_take (i := 17) (oi := ⟨some 117, _, _, _, _, _⟩) (v := ?_) rfl (by kernel_rfl) (by kernel_rfl) (by kernel_rfl) (fun _ _ _ h => h) (Or.inl ⟨by kernel_rfl, ?_⟩) (by assumption) ?_
              rotate_left
              · (intro w hSw; (try dsimp only at hSw); go_simp; try with_reducible rfl)
              try simp only [Act.put, List.setIfInBounds_toArray, List.set_cons_zero, List.set_cons_succ]
              refine wpAnyH_take (i := 18) (oi := ⟨some 118, _, _, _, _, _⟩) (v := ?_) rfl (by kernel_rfl) (by kernel_rfl) (by kernel_rfl) (fun _ _ _ h => h) (Or.inl ⟨by kernel_rfl, ?_⟩) (by assumption) ?_
              rotate_left
              · (intro w hSw; (try dsimp only at hSw); go_simp; try with_reducible rfl)
              try simp only [Act.put, List.setIfInBounds_toArray, List.set_cons_zero, List.set_cons_succ]
              refine wpAnyH_take (i := 19) (oi := ⟨some 119, _, _, _, _, _⟩) (v := ?_) rfl (by kernel_rfl) (by kernel_rfl) (by kernel_rfl) (fun _ _ _ h => h) (Or.inl ⟨by kernel_rfl, ?_⟩) (by assumption) ?_
              rotate_left
              · (intro w hSw; (try dsimp only at hSw); go_simp; try with_reducible rfl)
              try simp only [Act.put, List.setIfInBounds_toArray, List.set_cons_zero, List.set_cons_succ]
              refine wpAnyH_take (i := 20) (oi := ⟨some 120, _, _, _, _, _⟩) (v := ?_) rfl (by kernel_rfl) (by kernel_rfl) (by kernel_rfl) (fun _ _ _ h => h) (Or.inl ⟨by kernel_rfl, ?_⟩) (by assumption) ?_
              rotate_left
              · (intro w hSw; (try dsimp only at hSw); go_simp; try with_reducible rfl)
              try simp only [Act.put, List.setIfInBounds_toArray, List.set_cons_zero, List.set_cons_succ]
              refine wpAnyH_take (i := 21) (oi := ⟨some 121, _, _, _, _, _⟩) (v := ?_) rfl (by kernel_rfl) (by kernel_rfl) (by kernel_rfl) (fun _ _ _ h => h) (Or.inl ⟨by kernel_rfl, ?_⟩) (by assumption) ?_
              rotate_left
              · (intro w hSw; (try dsimp only at hSw); go_simp; try with_reducible rfl)
              try simp only [Act.put, List.setIfInBounds_toArray, List.set_cons_zero, List.set_cons_succ]
              refine wpAnyH_take (i := 22) (oi := ⟨some 122, _, _, _, _, _⟩) (v := ?_) rfl (by kernel_rfl) (by kernel_rfl) (by kernel_rfl) (fun _ _ _ h => h) (Or.inl ⟨by kernel_rfl, ?_⟩) (by assumption) ?_
              rotate_left
              · (intro w hSw; (try dsimp only at hSw); go_simp; try with_reducible rfl)
              try simp only [Act.put, List.setIfInBounds_toArray, List.set_cons_zero, List.set_cons_succ]
              refine wpAnyH_take (i := 23) (oi := ⟨some 123, _, _, _, _, _⟩) (v := ?_) rfl (by kernel_rfl) (by kernel_rfl) (by kernel_rfl) (fun _ _ _ h => h) (Or.inl ⟨by kernel_rfl, ?_⟩) (by assumption) ?_
              rotate_left
              · (intro w hSw; (try dsimp only at hSw); go_simp; try with_reducible rfl)
              try simp only [Act.put, List.setIfInBounds_toArray, List.set_cons_zero, List.set_cons_succ]
              refine wpAnyH_take (i := 24) (oi := ⟨some 124, _, _, _, _, _⟩) (v := ?_) rfl (by kernel_rfl) (by kernel_rfl) (by kernel_rfl) (fun _ _ _ h => h) (Or.inl ⟨by kernel_rfl, ?_⟩) (by assumption) ?_
              rotate_left
              · (intro w hSw; (try dsimp only at hSw); go_simp; try with_reducible rfl)
              try simp only [Act.put, List.setIfInBounds_toArray, List.set_cons_zero, List.set_cons_succ]
              refine wpAnyH_take (i := 25) (oi := ⟨some 125, _, _, _, _, _⟩) (v := .agg (pcA f)) rfl (by kernel_rfl) (by kernel_rfl) (by kernel_rfl) (fun _ _ _ h => h) (yieldsIf_load_pol (by kernel_rfl) _ rfl B14 rfl f (fun _ h => h.2.1)) (by assumption) ?_
              try simp only [Act.put, List.setIfInBounds_toArray, List.set_cons_zero, List.set_cons_succ]
              refine wpAnyH_take (i := 26) (oi := ⟨some 126, _, _, _, _, _⟩) (v := ?_) rfl (by kernel_rfl) (by kernel_rfl) (by kernel_rfl) (fun _ _ _ h => h) (Or.inl ⟨by kernel_rfl, ?_⟩) (by assumption) ?_
              rotate_left
              · (intro w hSw; (try dsimp only at hSw); go_simp; try with_reducible rfl)
              try simp only [Act.put, List.setIfInBounds_toArray, List.set_cons_zero, List.set_cons_succ]
              refine wpAnyH_take (i := 27) (oi := ⟨some 127, _, _, _, _, _⟩) (v := ?_) rfl (by kernel_rfl) (by kernel_rfl) (by kernel_rfl) (fun _ _ _ h => h) (Or.inl ⟨by kernel_rfl, ?_⟩) (by assumption) ?_
              rotate_left
              · (intro w hSw; (try dsimp only at hSw); go_simp; try with_reducible rfl)
              try simp only [Act.put, List.setIfInBounds_toArray, List.set_cons_zero, List.set_cons_succ]
              refine wpAnyH_take (i := 28) (oi := ⟨some 128, _, _, _, _, _⟩) (v := ?_) rfl (by kernel_rfl) (by kernel_rfl) (by kernel_rfl) (fun _ _ _ h => h) (Or.inl ⟨by kernel_rfl, ?_⟩) (by assumption) ?_
              rotate_left
              · (intro w hSw; (try dsimp only at hSw); go_simp; try with_reducible rfl)
              try simp only [Act.put, List.setIfInBounds_toArray, List.set_cons_zero, List.set_cons_succ]
              refine wpAnyH_take (i := 29) (oi := ⟨some 129, _, _, _, _, _⟩) (v := ?_) rfl (by kernel_rfl) (by kernel_rfl) (by kernel_rfl) (fun _ _ _ h => h) (Or.inl ⟨by kernel_rfl, ?_⟩) (by assumption) ?_
              rotate_left
              · (intro w hSw; (try dsimp only at hSw); go_simp; try with_reducible rfl)
              try simp only [Act.put, List.setIfInBounds_toArray, List.set_cons_zero, List.set_cons_succ]
              refine wpAnyH_take (i := 30) (oi := ⟨some 130, _, _, _, _, _⟩) (v := ?_) rfl (by kernel_rfl) (by kernel_rfl) (by kernel_rfl) (fun _ _ _ h => h) (Or.inl ⟨by kernel_rfl, ?_⟩) (by assumption) ?_
              rotate_left
              · (intro w hSw; (try dsimp only at hSw); go_simp; try with_reducible rfl)
              try simp only [Act.put, List.setIfInBounds_toArray, List.set_cons_zero, List.set_cons_succ]
              refine wpAnyH_take (i := 31) (oi := ⟨some 131, _, _, _, _, _⟩) (v := ?_) rfl (by kernel_rfl) (by kernel_rfl) (by kernel_rfl) (fun _ _ _ h => h) (Or.inl ⟨by kernel_rfl, ?_⟩) (by assumption) ?_
              rotate_left
              · (intro w hSw; (try dsimp only at hSw); go_simp; try with_reducible rfl)
              try simp only [Act.put, List.setIfInBounds_toArray, List.set_cons_zero, List.set_cons_succ]
              refine wpAnyH_take (i := 32) (oi := ⟨some 132, _, _, _, _, _⟩) (v := .agg (rcells x)) rfl (by kernel_rfl) (by kernel_rfl) (by kernel_rfl) (fun _ _ _ h => h) (yieldsIf_load_recM (by kernel_rfl) _ rfl g (o + j * 10) rfl x (fun _ h => h.2.2.2.1)) (by assumption) ?_
              try simp only [Act.put, List.setIfInBounds_toArray, List.set_cons_zero, List.set_cons_succ]
              refine wpAnyH_take (i := 33) (oi := ⟨some 133, _, _, _, _, _⟩) (v := ?_) rfl (by kernel_rfl) (by kernel_rfl) (by kernel_rfl) (fun _ _ _ h => h) (Or.inl ⟨by kernel_rfl, ?_⟩) (by assumption) ?_
              rotate_left
              · (intro w hSw; (try dsimp only at hSw); go_simp; try with_reducible rfl)
              try simp only [Act.put, List.setIfInBounds_toArray, List.set_cons_zero, List.set_cons_succ]
              refine wpAnyH_ready (rs := [34]) (by kernel_rfl) (by simp) ?_
              refine AllReadyH.cons rfl (fun K hK => ?_) ?_
              · go_simp
                (go_at_call 17; refine (hLv.out _).mono ?_; rintro e WB ⟨rfl, eB⟩)
                go_wp2_with fail
                clear hHeld
                refine hK.out _ _ ?_ (fun hHeld => ?_)
                · (refine hS.out _ ?_; (repeat (first | exact Ext.refl _ | with_reducible assumption | refine Ext.drew ?_ | refine Ext.alloc ?_ _ | refine Ext.trans ?_ (by assumption))))
                clear hK K
                try simp only [Act.put, List.setIfInBounds_toArray, List.set_cons_zero, List.set_cons_succ]
                refine wpAnyH_take (i := 35) (oi := ⟨some 135, _, _, _, _, _⟩) (v := ?_) rfl (by kernel_rfl) (by kernel_rfl) (by kernel_rfl) (fun _ _ _ h => h) (Or.inl ⟨by kernel_rfl, ?_⟩) (by assumption) ?_
                rotate_left
                · (intro w hSw; (try dsimp only at hSw); go_simp; try with_reducible rfl)
                try simp only [Act.put, List.setIfInBounds_toArray, List.set_cons_zero, List.set_cons_succ]
                refine wpAnyH_take (i := 36) (oi := ⟨some 136, _, _, _, _, _⟩) (v := ?_) rfl (by kernel_rfl) (by kernel_rfl) (by kernel_rfl) (fun _ _ _ h => h) (Or.inl ⟨by kernel_rfl, ?_⟩) (by assumption) ?_
                rotate_left
                · (intro w hSw; (try dsimp only at hSw); go_simp; try with_reducible rfl)
                try simp only [Act.put, List.setIfInBounds_toArray, List.set_cons_zero, List.set_cons_succ]
                refine wpAnyH_take (i := 37) (oi := ⟨some 137, _, _, _, _, _⟩) (v := ?_) rfl (by kernel_rfl) (by kernel_rfl) (by kernel_rfl) (fun _ _ _ h => h) (Or.inl ⟨by kernel_rfl, ?_⟩) (by assumption) ?_
                rotate_left
                · (intro w hSw; (try dsimp only at hSw); go_simp; try with_reducible rfl)
                try simp only [Act.put, List.setIfInBounds_toArray, List.set_cons_zero, List.set_cons_succ]
                refine wpAnyH_done (by kernel_rfl) ?_ _
                have eW := (by (repeat (first | exact Ext.refl _ | with_reducible assumption | refine Ext.drew ?_ | refine Ext.alloc ?_ _ | refine Ext.trans ?_ (by assumption))) : Ext wr WB)
                clear hHeld
                go_wp2
                go_roundw
                case rel => exact ⟨j + 1, by omega, by go_num, ej.trans eW⟩
                case measure => simp [intOf]; omega
              exact AllReadyH.nil
            exact AllReadyH.nil
            -- END OTHER
        · obtain rfl : j = L.length := by omega
          go_wp2
          go_ret
          exact ⟨rfl, e04.out.trans (e412.out.trans ej)⟩
end Go.Proofs.YtmdepmohfnficaaDoor
