/- WalFails: the walk. -/
import Derived.Test.YtmpjcnopakfdmaaDoorWlR
namespace Go.Proofs.YtmpjcnopakfdmaaDoor
set_option linter.unusedVariables false
set_option linter.unusedSimpArgs false
open Go.RowKit Dk Wl Fr

attribute [local irreducible] opL wk openE openH openU
theorem faults_len (ps : List Bool) (d : D) : (faults ps d).st = d.st := rfl
def goodW (x : Wop) : Prop := x.what = 1 ∨ x.what = 2
theorem wop_cases (x : Wop) : ((x.what != 1) = false ∧ goodW x) ∨ ((x.what != 1) = true ∧ (x.what != 2) = false ∧ goodW x) ∨ ((x.what != 1) = true ∧ (x.what != 2) = true) := by
  by_cases h1 : x.what = 1
  · exact .inl ⟨by rw [h1]; rfl, .inl h1⟩
  · have q1 : (x.what != 1) = true := by rw [bne_iff_ne]; exact h1
    by_cases h2 : x.what = 2
    · exact .inr (.inl ⟨q1, by rw [h2]; rfl, .inr h2⟩)
    · exact .inr (.inr ⟨q1, by rw [bne_iff_ne]; exact h2⟩)
def brow (n : Nat) : Array Value := ((List.replicate n false).map bv).toArray
theorem info_boolZ : (Tryd.prog.info? 4).map (fun i => (i.zero, i.size, i.bytes)) = some (some (.bool false), 1, 1) := by kernel_rfl
theorem make_bools (n : Nat) (hn : n ≤ 1048576) (W : World) : (Instr.makeSlice 55 (.int .i64 (n : Int)) (.int .i64 (n : Int))).run Tryd.prog W = .ok (.slice (some ⟨W.heap.size, 0, none⟩) n n) (W.alloc (.cells (brow n) 4)) := by
  obtain ⟨i, hi, hz0, hz1, hz2⟩ := info_parts info_boolZ
  have h := run_make (P := Tryd.prog) W 55 4 i _ Tryd.underlying55 hi hz0 .i64 .i64 (n : Int) (n : Int) (by omega) (Int.le_refl _) (by rw [hz2]; omega) (by omega)
  rw [Int.toNat_natCast, hz1] at h
  rw [h]
  have e : madeCells (Value.cells (.bool false)) (n * 1) = brow n := by
    rw [Nat.mul_one]
    apply Array.ext'
    unfold madeCells brow
    rw [Array.toList_map, Array.toList_range, List.map_replicate]
    apply List.ext_getElem?
    intro j
    rw [List.getElem?_map, List.getElem?_replicate]
    by_cases hj : j < n
    · rw [List.getElem?_range hj, if_pos hj]
      simp [Value.cells, bv, Nat.mod_one]
    · rw [List.getElem?_eq_none (by simp; omega), if_neg hj]; rfl
  rw [e]
theorem brow_get (n j : Nat) (h : j < n) : (brow n)[j]? = some (.bool false) := by
  unfold brow
  rw [← Array.getElem?_toList, List.toList_toArray, List.getElem?_map, List.getElem?_replicate, if_pos h]; rfl
theorem plan_sl (w : World) (k : Nat) : Ext w (w.alloc (.cells ((brow (k + 1)).setIfInBounds k (.bool true)) 4)) ∧ (k ≤ 100 → Sl bv (w.alloc (.cells ((brow (k + 1)).setIfInBounds k (.bool true)) 4)) (.slice (some ⟨w.heap.size, 0, none⟩) (k + 1) (k + 1)) (List.replicate k false ++ [true])) := by
  have hh := heap_alloc_new w (.cells ((brow (k + 1)).setIfInBounds k (.bool true)) 4)
  refine ⟨(Ext.refl w).alloc _, fun hk => ⟨_, k + 1, by simp, by simp, by unfold maxLen; omega, fun h => by simp at h, fun j x hj => ⟨w.heap.size, 0, rfl, ?_⟩⟩⟩
  rw [cell_of_row _ _ _ _ _ _ hh, Nat.zero_add]
  have hjl := (List.getElem?_eq_some_iff.1 hj).1
  simp at hjl
  by_cases hjk : j = k
  · subst hjk
    rw [List.getElem?_append_right (by simp)] at hj
    simp at hj
    subst hj
    have hsz : j < (brow (j + 1)).size := by unfold brow; simp
    simp [Array.getElem?_setIfInBounds, hsz, bv]
  · rw [List.getElem?_append_left (by simp; omega), List.getElem?_replicate, if_pos (by omega)] at hj
    cases hj
    rw [Array.getElem?_setIfInBounds_ne (by omega), brow_get _ _ (by omega)]; rfl
theorem frozen_row {w : World} {g : Nat} {C : Array Value} {t : TypeId} (h : w.heap[g]? = some (.cells C t (0, 0))) (j : Nat) : w.frozen? ⟨g, j, none⟩ = false := by simp [World.frozen?, h]
attribute [local irreducible] brow
set_option maxRecDepth 20000 in
set_option maxHeartbeats 4000000 in
theorem walFails_any (blocks : UInt8) (v1 : Value) (l : List Wop) (x : Wop) (vb vl vp : Value) (sb : UInt8) (y : Wop) (vb2 vl2 vp2 : Value) (w : World) (hw : Halves w) (h1 : Wops w v1 l) (hn1 : l.length ≤ 1048576) (hb : Bytes w vb x.bs) (hv : LL w vl x.ls) (hp : Sl bv w vp x.ps) (hr : -9223372036854775808 ≤ x.n ∧ x.n ≤ 9223372036854775807) (hb2 : Bytes w vb2 y.bs) (hv2 : LL w vl2 y.ls) (hp2 : Sl bv w vp2 y.ps) (hr2 : -9223372036854775808 ≤ y.n ∧ y.n ≤ 9223372036854775807) :
    Calls Tryd.prog 10 #[.int .u8 (blocks.toNat : Int), v1, .agg #[.int .i64 x.what, .int .i64 x.n, vb, vl, vp], .int .u8 (sb.toNat : Int), .agg #[.int .i64 y.what, .int .i64 y.n, vb2, vl2, vp2]] w (LawEnd w) := by
  have hwh := Lib.hid hw
  have h1h := Lib.hid h1
  have hbh := Lib.hid hb
  have hvh := Lib.hid hv
  have hph := Lib.hid hp
  have hbh2 := Lib.hid hb2
  have hvh2 := Lib.hid hv2
  have hph2 := Lib.hid hp2
  obtain ⟨a1, c1, rfl, -⟩ := h1
  obtain ⟨ab, cb, rfl, -⟩ := hb
  obtain ⟨al, cl, rfl, -⟩ := hv.get
  obtain ⟨ap, cp, rfl, -⟩ := hp
  obtain ⟨ab2, cb2, rfl, -⟩ := hb2
  obtain ⟨al2, cl2, rfl, -⟩ := hv2.get
  obtain ⟨ap2, cp2, rfl, -⟩ := hp2
  clear hv hw hv2
  obtain ⟨t1, t2, t3, t4⟩ := rem27 blocks
  have hm := Lib.hid (show blocks.toNat % 27 < 27 from Nat.mod_lt _ (by decide))
  generalize blocks.toNat % 27 = m at *
  obtain ⟨u1, u2, u3⟩ := rem31 sb
  have hsn := Lib.hid (show sb.toNat % 31 < 31 from Nat.mod_lt _ (by decide))
  generalize sb.toNat % 31 = sn at *
  have eb := Lib.hid (((Ext.refl w).alloc (.cells #[.int .i64 x.what, .int .i64 x.n, .slice ab x.bs.length cb, .slice al x.ls.length cl, .slice ap x.ps.length cp] 61)).alloc (.cells #[.int .i64 y.what, .int .i64 y.n, .slice ab2 y.bs.length cb2, .slice al2 y.ls.length cl2, .slice ap2 y.ps.length cp2] 61))
  have hB2 := Lib.hid (heap_alloc_new (w.alloc (.cells #[.int .i64 x.what, .int .i64 x.n, .slice ab x.bs.length cb, .slice al x.ls.length cl, .slice ap x.ps.length cp] 61)) (.cells #[.int .i64 y.what, .int .i64 y.n, .slice ab2 y.bs.length cb2, .slice al2 y.ls.length cl2, .slice ap2 y.ps.length cp2] 61))
  have hB := Lib.hid (((Ext.refl (w.alloc (.cells #[.int .i64 x.what, .int .i64 x.n, .slice ab x.bs.length cb, .slice al x.ls.length cl, .slice ap x.ps.length cp] 61))).alloc (.cells #[.int .i64 y.what, .int .i64 y.n, .slice ab2 y.bs.length cb2, .slice al2 y.ls.length cl2, .slice ap2 y.ps.length cp2] 61)).heap (heap_alloc_new w (.cells #[.int .i64 x.what, .int .i64 x.n, .slice ab x.bs.length cb, .slice al x.ls.length cl, .slice ap x.ps.length cp] 61)))
  have haw := awake10_any _ (hwh.out.ext eb.out)
  rw [World.size_alloc] at hB2
  obtain ⟨wb, hwb⟩ : ∃ W, W = (w.alloc (.cells #[.int .i64 x.what, .int .i64 x.n, .slice ab x.bs.length cb, .slice al x.ls.length cl, .slice ap x.ps.length cp] 61)).alloc (.cells #[.int .i64 y.what, .int .i64 y.n, .slice ab2 y.bs.length cb2, .slice al2 y.ls.length cl2, .slice ap2 y.ps.length cp2] 61) := ⟨_, rfl⟩
  rw [← hwb] at haw hB hB2 eb
  go_enter Tryd.func10, Tryd.ntmps10
  go_upto_region 1 with fail
  rw [← hwb]
  obtain ⟨B, hBe⟩ : ∃ n, n = w.heap.size := ⟨_, rfl⟩
  rw [← hBe] at hB hB2 ⊢
  have hBl := Lib.hid (show w.heap.size ≤ B from by omega)
  clear hwb hBe
  go_upto_region 2 with (go_at_call 23; refine haw.mono ?_; rintro e w1 ⟨rfl, e1⟩)
  have e1h := Lib.hid (eb.out.trans e1)
  have hBr := Lib.hid (show ∀ W, Ext w1 W → W.rangeAt B 0 [.int .i64 x.what, .int .i64 x.n, .slice ab x.bs.length cb, .slice al x.ls.length cl, .slice ap x.ps.length cp] from fun W e j u hu => by
    rw [cell_of_row _ _ _ _ _ _ ((e1.trans e).heap hB.out), Nat.zero_add, ← Array.getElem?_toList]
    exact hu)
  have hBr2 := Lib.hid (show ∀ W, Ext w1 W → W.rangeAt (B + 1) 0 [.int .i64 y.what, .int .i64 y.n, .slice ab2 y.bs.length cb2, .slice al2 y.ls.length cl2, .slice ap2 y.ps.length cp2] from fun W e j u hu => by
    rw [cell_of_row _ _ _ _ _ _ ((e1.trans e).heap hB2.out), Nat.zero_add, ← Array.getElem?_toList]
    exact hu)
  clear haw e1
  go_upto_region 3 with (first
    | (refine wpList_load_mid rfl 61 (.tmp 7) rfl B 0 rfl [.int .i64 x.what, .int .i64 x.n, .slice ab x.bs.length cb, .slice al x.ls.length cl, .slice ap x.ps.length cp] _ (hBr.out _ (Ext.refl w1)) Tryd.underlying61 rfl info_wop' ?_)
    | (refine wpList_load_mid rfl 61 (.tmp 9) rfl (B + 1) 0 rfl [.int .i64 y.what, .int .i64 y.n, .slice ab2 y.bs.length cb2, .slice al2 y.ls.length cl2, .slice ap2 y.ps.length cp2] _ (hBr2.out _ (Ext.refl w1)) Tryd.underlying61 rfl info_wop' ?_)
    | (refine wpList_appendOps2 rfl (.tmp 28) (.tmp 29) rfl w1 x _ _ _ (hbh.out.ext e1h.out) (hvh.out.ext e1h.out) (hph.out.ext e1h.out) hr y _ _ _ (hbh2.out.ext e1h.out) (hvh2.out.ext e1h.out) (hph2.out.ext e1h.out) hr2 _ l (h1h.out.ext e1h.out) hn1 rfl rfl ?_; intro v2 w2 ho2 e2)
    | (go_at_call 31; refine (fewW_any _ _ _ ho2).mono ?_; rintro e w2' ⟨rfl, rfl⟩))
  have c0 : w2.cell? ⟨B, 0, none⟩ = some (.int .i64 x.what) := hBr.out _ e2 0 _ rfl
  have c02 : w2.cell? ⟨B + 1, 0, none⟩ = some (.int .i64 y.what) := hBr2.out _ e2 0 _ rfl
  have e2h := Lib.hid (e1h.out.trans e2)
  have e12' := Lib.hid e2
  cases hf : fewW (x :: y :: l)
  · go_wp2
    go_ret
    exact ⟨rfl, e2h.out⟩
  obtain ⟨hx20, hyl⟩ := fewW_cons hf
  have hy20 := Lib.hid (okW_ls (hyl y List.mem_cons_self))
  have hx20 := Lib.hid (okW_ls hx20)
  have hl20 := Lib.hid (show ∀ z ∈ l, z.ls.length ≤ 20 from fun z hz => okW_ls (hyl z (List.mem_cons_of_mem _ hz)))
  clear hf ho2 e2 hyl
  go_cut [53] (fun a wd => ∃ b : Bool, a = .bool b ∧ wd = w2 ∧ (b = false → goodW x ∧ goodW y))
  case first =>
    rcases wop_cases x with ⟨p1, gx⟩ | ⟨p1, p2, gx⟩ | ⟨p1, p2⟩
    · rcases wop_cases y with ⟨q1, gy⟩ | ⟨q1, q2, gy⟩ | ⟨q1, q2⟩
      all_goals
        go_wp2
        go_meet
        first | exact ⟨false, rfl, rfl, fun _ => ⟨gx, gy⟩⟩ | exact ⟨true, rfl, rfl, fun h => by cases h⟩
    · rcases wop_cases y with ⟨q1, gy⟩ | ⟨q1, q2, gy⟩ | ⟨q1, q2⟩
      all_goals
        go_wp2
        go_meet
        first | exact ⟨false, rfl, rfl, fun _ => ⟨gx, gy⟩⟩ | exact ⟨true, rfl, rfl, fun h => by cases h⟩
    · go_wp2
      go_meet
      exact ⟨true, rfl, rfl, fun h => by cases h⟩
  case rest =>
    obtain ⟨bad, rfl, hwc, hgood⟩ := hcut
    obtain rfl : w2 = wc := hwc.symm
    cases bad
    rotate_left
    · go_wp2
      go_ret
      exact ⟨rfl, e2h.out⟩
    obtain ⟨gx, gy⟩ := hgood rfl
    have gxh := Lib.hid gx
    have gyh := Lib.hid gy
    clear gx gy c0 c02 hgood
    have hwk := walked_any (n := 4 + m) (by omega) (by have := hm.out; omega) _ l w2 (h1h.out.ext e2h.out) hl20.out (hwh.out.ext e2h.out)
    have hwk2 := Lib.hid (fun W (e : Ext w2 W) => walked_any (n := 4 + m) (by omega) (by have := hm.out; omega) _ l W (h1h.out.ext (e2h.out.trans e)) hl20.out (hwh.out.ext (e2h.out.trans e)))
    rw [show ((4 + m : Nat) : Int) = 4 + (m : Int) by omega] at hwk hwk2
    obtain ⟨rs, hlw, -⟩ := wk_lw (n := 4 + m) (by omega) (by have := hm.out; omega) 0 l
    have hlwh := Lib.hid hlw
    have hg4 := Lib.hid hlw.sane
    have hst := Lib.hid (show (wk (4 + m) l).d.st.length ≤ 100000 from by rw [hlw.st]; exact Nat.zero_le _)
    have hscu := Lib.hid (hlw.found.2.2.2)
    clear hlw
    generalize wk (4 + m) l = g at *
    have hfr := Lib.hid (fails_round hlwh.out (opOf x) sn)
    have hap := Lib.hid (fun W F p q (l : LogM W F q p ⟨faults (List.replicate sn false ++ [true]) g.d, g.h, g.u⟩) (hh : ¬ F 0) (e : Ext w W) => ldo_any (.pointer (some ⟨p, 0, none⟩)) x gxh.out l (hg4.out.disk rfl) (show (faults (List.replicate sn false ++ [true]) g.d).st.length ≤ 100000 from hst.out) (hwh.out.ext e) hh (hbh.out.ext e) (hvh.out.ext e) (by have := hx20.out; omega) (hph.out.ext e))
    generalize opL (opOf x) ⟨faults (List.replicate sn false ++ [true]) g.d, g.h, g.u⟩ = r at *
    obtain ⟨E, g2⟩ := r
    dsimp only at hfr hap
    go_upto_region 7 with (go_at_call 32; refine hwk.mono ?_; rintro e w3 ⟨r, rfl, p, q, rfl, e3, l3⟩)
    have l3h := Lib.hid l3.bound
    have e23 := Lib.hid e3
    have e3h := Lib.hid (e2h.out.trans e3)
    clear hwk e3 l3
    go_upto_region 10 with (go_at_call 32; refine (hwk2.out w3 e23.out).mono ?_; rintro e w4 ⟨r, rfl, p', q', rfl, e4, l4⟩)
    have l4h := Lib.hid l4.bound
    have e34 := Lib.hid e4
    have e4h := Lib.hid (e3h.out.trans e4)
    clear hwk2 e4 l4
    obtain ⟨N, hN⟩ : ∃ N, N = sn + 1 := ⟨_, rfl⟩
    have g1 : IntKind.i64.wrap ((sn : Int) + 1) = (N : Int) := by rw [hN]; exact wrap_le (by omega) (by have := hsn.out; omega)
    have hmk := fun W => make_bools N (by have := hsn.out; omega) W
    have hnew := heap_alloc_new w4 (.cells (brow N) 4)
    have k1 : (w4.alloc (.cells (brow N) 4)).cell? ⟨w4.heap.size, sn, none⟩ = some (.bool false) := by rw [cell_of_row _ _ _ _ _ _ hnew]; exact brow_get _ _ (by omega)
    have k2 : (w4.alloc (.cells (brow N) 4)).frozen? ⟨w4.heap.size, sn, none⟩ = false := frozen_row hnew sn
    have k3 : (sn : Int) < (N : Int) := by omega
    have k4 : sn < N := by omega
    obtain ⟨e45, hsl⟩ := plan_sl w4 sn
    rw [← hN] at e45 hsl
    have e45h := Lib.hid e45
    have hslh := Lib.hid (hsl (by have := hsn.out; omega))
    clear hnew hN e45 hsl
    go_upto_region 12 with fail
    generalize w4.alloc (.cells ((brow N).setIfInBounds sn (.bool true)) 4) = w5 at *
    have hRc := lrecords_m ((l3h.out.ext e34.out).ext e45h.out) hg4.out (hwh.out.ext (e4h.out.trans e45h.out))
    rw [hscu.out] at hRc
    clear k1 k2 hmk
    go_upto_region 13 with (go_at_call 33; refine hRc.mono ?_; rintro e w6 ⟨v19, rfl, o19, e6⟩)
    have e46 := Lib.hid (e45h.out.trans e6)
    have e6h := Lib.hid (e4h.out.trans e46.out)
    have e56 := Lib.hid e6
    have e26 := Lib.hid ((e23.out.trans e34.out).trans e46.out)
    obtain ⟨F, hFe⟩ : ∃ F : Nat → Prop, F = fun k => (w2.heap.size ≤ k ∧ k < w3.heap.size) ∨ w6.heap.size ≤ k := ⟨_, rfl⟩
    have hs34 := Lib.hid (show w2.heap.size ≤ w3.heap.size ∧ w3.heap.size ≤ w4.heap.size ∧ w4.heap.size ≤ w6.heap.size ∧ w4.heap.size ≤ w5.heap.size ∧ w5.heap.size ≤ w6.heap.size from ⟨e23.out.size, e34.out.size, e46.out.size, e45h.out.size, e56.out.size⟩)
    have hFo := Lib.hid (show ∀ k, F k → w2.heap.size ≤ k from fun k hk => by rw [hFe] at hk; have := hs34.out; omega)
    have hFt := Lib.hid (show ∀ k, w3.heap.size ≤ k → k < w6.heap.size → ¬ F k from fun k h1 h2 hk => by rw [hFe] at hk; omega)
    have hEx2 := Lib.hid (show ∀ W, Chg F w6 W → Ext w2 W from fun W c => e26.out.chg c hFo.out)
    have hnh := Lib.hid (show ¬ F 0 from fun h => not_from (hwh.out.ext e2h.out) (hFo.out _ h))
    have hgr := Lib.hid (show ∀ W : World, w6.heap.size ≤ W.heap.size → ∀ j, grow F W j → F j from fun W h j hj => hj.elim id fun h2 => by rw [hFe]; exact .inr (Nat.le_trans h h2))
    have l6 := Lib.hid (show LogM w6 F q p g from ((l3h.out.ext e34.out).ext e46.out).mono fun k hk => by rw [hFe]; exact .inl hk)
    have hwas := Lib.hid (show StayLL F w6 v19 rs from stay_ownLL o19 (fun k hk h => by have h1 := o19.own_lt k hk; rw [hFe] at h; have := hs34.out; omega) (fun k hk hl h => by rw [hFe] at h; have h1 : w5.heap.size ≤ k := hk; have := hs34.out; omega))
    obtain ⟨a19, c19, rfl, -, -, -, -⟩ := o19.get
    have l4w := Lib.hid (show LogM w6 (fun k => w3.heap.size ≤ k ∧ k < w4.heap.size) q' p' g from (l4h.out.ext e46.out).mono fun k hk => hk)
    have hft1 := lfaults_m l6.out _ _ (by simp; have := hsn.out; omega) (hslh.out.ext e56.out)
    clear hFe hRc o19 e6 l3h l4h hslh
    go_upto_region 14 with (go_at_call 38; refine hft1.mono ?_; rintro e w7 ⟨rfl, c7, l7⟩)
    have c67 := Lib.hid c7
    have l7h := Lib.hid (l7.mono (hgr.out _ (Nat.le_refl _)))
    have hap7 := hap.out _ F p q l7h.out hnh.out (e2h.out.trans (hEx2.out _ c7))
    have hr7 := Lib.hid (hBr.out w7 (e12'.out.trans (hEx2.out _ c7)))
    clear hft1 c7 l7 hap
    go_upto_region 15 with (first
      | (refine wpList_load_mid rfl 61 _ rfl B 0 rfl [.int .i64 x.what, .int .i64 x.n, .slice ab x.bs.length cb, .slice al x.ls.length cl, .slice ap x.ps.length cp] _ hr7.out Tryd.underlying61 rfl info_wop' ?_)
      | (go_at_call 35; refine hap7.mono ?_; rintro e w8 ⟨rfl, c8, l8⟩))
    have c68 := Lib.hid (c67.out.trans c8)
    have l8h := Lib.hid (l8.mono (hgr.out _ c67.out.size))
    have hft2 := lfaults_m l8h.out (.slice none 0 0) [] (Nat.zero_le _) (Sl.nil _)
    clear hap7 c8 l8
    go_upto_region 16 with (go_at_call 38; refine hft2.mono ?_; rintro e w9 ⟨rfl, c9, l9⟩)
    have c69 := Lib.hid (c68.out.trans c9)
    have l9h := Lib.hid (l9.mono (hgr.out _ c68.out.size))
    have e9h := Lib.hid (e2h.out.trans (hEx2.out _ c69.out))
    clear hft2 c9 l9
    rcases hfr.out with hE | ⟨hE, hgh, hgu, hgn, hlw9⟩
    · subst hE
      go_wp2
      go_ret
      exact ⟨rfl, e9h.out⟩
    have d0 : (E == 0) = false := by rw [beq_eq_false_iff_ne]; exact hE
    rw [hgh, hgu] at l9h
    obtain ⟨f1, f2, f3, -⟩ := hlw9.found
    dsimp only at f1 f2 f3
    have hst9 := Lib.hid (show (faults [] g2.d).st.length = 0 from by have h := hlw9.st; dsimp only at h; rw [h]; rfl)
    have hsn9 := Lib.hid hlw9.sane
    obtain ⟨rs', hts⟩ := twin_same hlw9 hlwh.out rfl rfl (hgn.symm.trans rfl) (opOf y)
    have htsh := Lib.hid hts
    have hop := lopen_l l9h.out (hwh.out.ext e9h.out)
    dsimp only at hop
    rw [f1, f2, f3] at hop
    clear hts f1 f2 f3 hlw9 hE hgh hgu hgn hfr
    generalize faults [] g2.d = d9 at *
    have hst10 := Lib.hid (show d9.st.length ≤ 100000 from by rw [hst9.out]; exact Nat.zero_le _)
    have hap2 := Lib.hid (fun W F (l : LogM W F q p ⟨d9, g.h, g.u⟩) (hh : ¬ F 0) (e : Ext w W) => ldo_any (.pointer (some ⟨p, 0, none⟩)) y gyh.out l hsn9.out hst10.out (hwh.out.ext e) hh (hbh2.out.ext e) (hvh2.out.ext e) (by have := hy20.out; omega) (hph2.out.ext e))
    have hap3 := Lib.hid (fun W F vd (l : LogM W F q' p' g) (hh : ¬ F 0) (e : Ext w W) => ldo_any vd y gyh.out l hg4.out hst.out (hwh.out.ext e) hh (hbh2.out.ext e) (hvh2.out.ext e) (by have := hy20.out; omega) (hph2.out.ext e))
    generalize opL (opOf y) ⟨d9, g.h, g.u⟩ = r1 at *
    generalize opL (opOf y) g = r2 at *
    obtain ⟨E1, k1⟩ := r1
    obtain ⟨E2, k2⟩ := r2
    dsimp only at hap2 hap3 htsh
    go_upto_region 19 with (go_at_call 27; refine hop.mono ?_; rintro e w10 ⟨r, rfl, e10, ⟨h0, -⟩ | ⟨-, q2, rfl, hq2, l10⟩⟩; exact absurd rfl h0)
    have l10h := Lib.hid l10
    have e910 := Lib.hid e10
    have hsq : seqL rs rs = true := seqL_true.2 rfl
    have hsc : RowKit.Hid (scan (⟨d9, g.h, g.u⟩ : Lg).u = rs) := Lib.hid hscu.out
    have hRc9 := Lib.hid (fun W (e : Ext w9 W) => lrecords_m (l9h.out.ext e) hsn9.out (hwh.out.ext (e9h.out.trans e)))
    have hRc10 := Lib.hid (fun W (e : Ext w10 W) => lrecords_m (l10h.out.ext e) hsn9.out (hwh.out.ext ((e9h.out.trans e910.out).trans e)))
    rw [show scan (⟨d9, g.h, g.u⟩ : Lg).u = rs from hscu.out] at hRc9 hRc10
    have hw10 := Lib.hid (hwas.out _ (c69.out.ext e910.out))
    have hstg := Lib.hid (show ∀ W, Ext w10 W → Calls Tryd.prog 39 #[.pointer (some ⟨p, 0, none⟩)] W fun e w' => e = .returned (.int .i64 0) ∧ W = w' from fun W e => by
      obtain ⟨G, hG, -⟩ := (l9h.out.ext (e910.out.trans e)).disk
      have h := staged_any hG
      rw [show (⟨d9, g.h, g.u⟩ : Lg).d.st.length = 0 from hst9.out] at h
      exact h)
    clear hop l10 e10 hq2
    go_upto_region 21 with (first
      | (go_at_call_of 33 (Value.pointer (some ⟨q, 0, none⟩)); refine (hRc9.out w10 e910.out).mono ?_; rintro e w11 ⟨v11, rfl, o11, e11⟩)
      | (go_at_call_of 21 v11; refine (lists_any _ _ _ _ w11 o11.ll (hw10.out.ext e11)).mono ?_; rintro e w12 ⟨rfl, e12⟩)
      | (go_at_call_of 33 (Value.pointer (some ⟨q2, 0, none⟩)); refine (hRc10.out w12 (e11.trans e12)).mono ?_; rintro e w13 ⟨v13, rfl, o13, e13⟩)
      | (go_at_call_of 21 v13; refine (lists_any _ _ _ _ w13 o13.ll (hw10.out.ext ((e11.trans e12).trans e13))).mono ?_; rintro e w14 ⟨rfl, e14⟩)
      | (go_at_call 39; refine (hstg.out _ (((e11.trans e12).trans e13).trans e14)).mono ?_; rintro e w15 ⟨rfl, rfl⟩))
    have e914 := Lib.hid ((((e910.out.trans e11).trans e12).trans e13).trans e14)
    have c614 := Lib.hid (c69.out.ext e914.out)
    have l14h := Lib.hid (l9h.out.ext e914.out)
    have hap14 := hap2.out w14 F l14h.out hnh.out (e9h.out.trans e914.out)
    have r14 := Lib.hid (hBr2.out w14 (e12'.out.trans (hEx2.out _ c614.out)))
    clear hRc9 hRc10 hw10 hstg o11 o13 e11 e12 e13 e14
    go_upto_region 22 with (first
      | (refine wpList_load_mid rfl 61 _ rfl (B + 1) 0 rfl [.int .i64 y.what, .int .i64 y.n, .slice ab2 y.bs.length cb2, .slice al2 y.ls.length cl2, .slice ap2 y.ps.length cp2] _ r14.out Tryd.underlying61 rfl info_wop' ?_)
      | (go_at_call 35; refine hap14.mono ?_; rintro e w15 ⟨rfl, c15, l15⟩))
    have c615 := Lib.hid (c614.out.trans c15)
    have l15h := Lib.hid ((l15.mono (hgr.out _ c614.out.size)).bound)
    have t15 := Lib.hid (l4w.out.chg c615.out (fun k _ hk => hFt.out k hk.1 (by have := hs34.out; omega)))
    have e215 := Lib.hid (hEx2.out _ c615.out)
    have hs15 := Lib.hid (show w6.heap.size ≤ w15.heap.size from c615.out.size)
    have hdo := Lib.hid (show ∀ W vd, Ext w15 W → Calls Tryd.prog 35 #[vd, .pointer (some ⟨q', 0, none⟩), .agg #[.int .i64 y.what, .int .i64 y.n, .slice ab2 y.bs.length cb2, .slice al2 y.ls.length cl2, .slice ap2 y.ps.length cp2]] W fun e w' => e = .returned (.int .i64 E2) ∧ Ext w2 w' ∧ LogM w' (fun k => F k ∧ k < w15.heap.size) q p k1 ∧ LogM w' (fun k => (w3.heap.size ≤ k ∧ k < w4.heap.size) ∨ W.heap.size ≤ k) q' p' k2 from fun W vd e => by
      have hF2 : ∀ k, ((w3.heap.size ≤ k ∧ k < w4.heap.size) ∨ W.heap.size ≤ k) → w2.heap.size ≤ k := fun k hk => by have := hs34.out; have := e.size; have := hs15.out; omega
      refine (hap3.out W (fun k => (w3.heap.size ≤ k ∧ k < w4.heap.size) ∨ W.heap.size ≤ k) vd ((t15.out.ext e).mono fun k hk => .inl hk) (fun h => not_from (hwh.out.ext e2h.out) (hF2 _ h)) (e2h.out.trans (e215.out.trans e))).mono fun e' w' ⟨h1, h2, h3⟩ => ⟨h1, (e215.out.trans e).chg h2 hF2, (l15h.out.ext e).chg h2 (fun k _ hk h => ?_), h3.mono fun k hk => hk.elim id .inr⟩
      rcases h with h | h
      · exact hFt.out k h.1 (by have := hs34.out; omega) hk.1
      · have h4 := hk.2
        have h5 := e.size
        omega)
    have hS := Lib.hid (show ∀ W, Ext w2 W → (W.cell? ⟨B + 1, 0, none⟩ = some (.int .i64 y.what) ∧ W.cell? ⟨B + 1, 1, none⟩ = some (.int .i64 y.n) ∧ W.cell? ⟨B + 1, 2, none⟩ = some (.slice ab2 y.bs.length cb2) ∧ W.cell? ⟨B + 1, 3, none⟩ = some (.slice al2 y.ls.length cl2) ∧ W.cell? ⟨B + 1, 4, none⟩ = some (.slice ap2 y.ps.length cp2)) from fun W e => by
      have h := hBr2.out W (e12'.out.trans e)
      exact ⟨h 0 _ rfl, h 1 _ rfl, h 2 _ rfl, h 3 _ rfl, h 4 _ rfl⟩)
    have e15r := Lib.hid ((Ext.refl w15).drew)
    clear hap14 c15 l15
    go_region_held3 (fun W => W.cell? ⟨B + 1, 0, none⟩ = some (.int .i64 y.what) ∧ W.cell? ⟨B + 1, 1, none⟩ = some (.int .i64 y.n) ∧ W.cell? ⟨B + 1, 2, none⟩ = some (.slice ab2 y.bs.length cb2) ∧ W.cell? ⟨B + 1, 3, none⟩ = some (.slice al2 y.ls.length cl2) ∧ W.cell? ⟨B + 1, 4, none⟩ = some (.slice ap2 y.ps.length cp2))
      ((refine hS.out _ ?_; first | exact e17 | exact (e215.out.trans e15r.out).trans e16 | exact e215.out.trans e15r.out))
      (first
        | (go_at_call 40; refine (new_any 1 _).mono ?_; rintro e w16 ⟨vn, rfl, pn, rfl, hdn, e16⟩)
        | (go_at_call 35; refine (hdo.out w16 _ (e15r.out.trans e16)).mono ?_; rintro e w17 ⟨rfl, e17, l17, t17⟩))
    all_goals
      obtain ⟨s1, s2, s3, s4, s5, s6, s7⟩ := htsh.out
      subst s1
      have l17h := Lib.hid l17
      have t17h := Lib.hid t17
      have e17h := Lib.hid (e2h.out.trans e17)
      have hRa := Lib.hid (lrecords_m l17h.out s4 (hwh.out.ext e17h.out))
      have hRb := Lib.hid (fun W (e : Ext w17 W) => lrecords_m (t17h.out.ext e) s5 (hwh.out.ext (e17h.out.trans e)))
      rw [s6] at hRa
      rw [s7] at hRb
      have hUa := Lib.hid (fun W (e : Ext w17 W) => lused_m (l17h.out.ext e))
      have hUb := Lib.hid (fun W (e : Ext w17 W) => lused_m (t17h.out.ext e))
      have hGa := Lib.hid (fun W (e : Ext w17 W) => lgen_m (l17h.out.ext e))
      have hGb := Lib.hid (fun W (e : Ext w17 W) => lgen_m (t17h.out.ext e))
      rw [s2] at hUb hGb
      have hsq' : seqL rs' rs' = true := seqL_true.2 rfl
      clear l17 t17 e17 hdo hS s2 s3 s4 s5 s6 s7 hdn e16
      try clear hHeld
      go_wp2_with (first
        | (go_at_call_of 33 (Value.pointer (some ⟨q, 0, none⟩)); refine hRa.out.mono ?_; rintro e w18 ⟨v18, rfl, o18, e18⟩)
        | (go_at_call_of 33 (Value.pointer (some ⟨q', 0, none⟩)); refine (hRb.out w18 e18).mono ?_; rintro e w19 ⟨v19, rfl, o19, e19⟩)
        | (go_at_call 21; refine (lists_any _ _ _ _ w19 (o18.ll.ext e19) o19.ll).mono ?_; rintro e w20 ⟨rfl, e20⟩)
        | (go_at_call_of 41 (Value.pointer (some ⟨q, 0, none⟩)); refine (hUa.out _ ((e18.trans e19).trans e20)).mono ?_; rintro e w21 ⟨rfl, rfl⟩)
        | (go_at_call_of 41 (Value.pointer (some ⟨q', 0, none⟩)); refine (hUb.out _ ((e18.trans e19).trans e20)).mono ?_; rintro e w21 ⟨rfl, rfl⟩)
        | (go_at_call_of 42 (Value.pointer (some ⟨q, 0, none⟩)); refine (hGa.out _ ((e18.trans e19).trans e20)).mono ?_; rintro e w21 ⟨rfl, rfl⟩)
        | (go_at_call_of 42 (Value.pointer (some ⟨q', 0, none⟩)); refine (hGb.out _ ((e18.trans e19).trans e20)).mono ?_; rintro e w21 ⟨rfl, rfl⟩))
      go_ret
      exact ⟨rfl, e17h.out.trans ((e18.trans e19).trans e20)⟩
end Go.Proofs.YtmpjcnopakfdmaaDoor
