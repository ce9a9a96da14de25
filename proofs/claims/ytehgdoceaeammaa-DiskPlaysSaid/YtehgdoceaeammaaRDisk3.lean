/- The document's disk: lay, Sync, Crash. -/
import Derived.Test.YtehgdoceaeammaaRDisk2
namespace Go.Proofs.Ytehgdoceaeammaa
open Go.RowKit Dk

/-- only the kept bytes have turned -/
theorem RD.kset {w w' : World} {F : Nat → Prop} {q gk : Nat} {vs vp : Value} {d d' : D} (h : RD w F q gk vs vp d) (c : Chg (fun k => k = gk) w w') {cur : Array Value} (hk : w'.heap[gk]? = some (.cells cur 5 (0, 0))) (hc : cur.toList = d'.kept.map u8v) (hl : d'.kept.length = d.kept.length)
    (hs : d'.st = d.st) (hp : d'.plan = d.plan) (ho : d'.off = d.off) (hlf : d'.left = d.left) : RD w' F q gk vs vp d' :=
  ⟨by rw [hl, ho, hlf, c.block q (Array.getElem?_eq_some_iff.1 h.hd).1 h.ne]; exact h.hd, h.fq, ⟨cur, hk, hc⟩, h.fk, by rw [hs]; exact h.st.chg c fun k _ hk e => hk.2.2 e, by rw [hp]; exact h.plan.chg c fun k hk e => hk.2.2 e, by rw [hlf]; exact h.lf⟩
theorem over_len' {K b : List UInt8} {o m : Nat} (h : o + m ≤ K.length) : (over K o (b.take m)).length = K.length := over_length (by rw [List.length_take]; omega)
theorem over_step {K b : List UInt8} {o k : Nat} (hk : k < b.length) (h : o + k < K.length) : over K o (b.take (k + 1)) = (over K o (b.take k)).set (o + k) (b.getD k 0) := by
  have hl : (b.take k).length = k := by rw [List.length_take]; omega
  have e := over_snoc (l := K) (m := b.take k) (o := o) (b.getD k 0) (by rw [hl]; exact h)
  rw [hl] at e
  rw [← e, List.take_add_one, List.getD_eq_getElem?_getD, List.getElem?_eq_getElem hk]; rfl
set_option maxRecDepth 20000 in
set_option maxHeartbeats 1000000 in
theorem rlay_any {w : World} {F : Nat → Prop} {q gk : Nat} {vs vp : Value} {d : D} (h : RD w F q gk vs vp d) (ok : d.Ok) (x : Nat) (hx : x < d.n) (u : Value) (b : List UInt8) (hb : Bytes w u b) (hbl : b.length = 32) (hu : ∀ k, vblk u = some k → k ≠ gk) (m : Nat) (hm : m ≤ 32) :
    Calls Try.prog 40 #[.pointer (some ⟨q, 0, none⟩), .agg #[.int .i64 (x : Int), u], .int .i64 (m : Int)] w fun e w' => e = .returned (.tuple #[]) ∧ Chg F w w' ∧ RD w' F q gk vs vp { d with kept := over d.kept (32 * x) (b.take m) } := by
  have hlen := ok.len
  have hmost := ok.most
  obtain ⟨au, cu, rfl, hat⟩ := hb
  obtain ⟨gb, ob, rfl, -⟩ := hat.get 0 (by omega)
  have hcu := hat.le
  have hne : gb ≠ gk := hu gb rfl
  have hbB : Bytes w (.slice (some ⟨gb, ob, none⟩) b.length cu) b := ⟨_, _, rfl, hat⟩
  have hFk := h.fk
  rw [hbl]
  have e1 := (Ext.refl w).alloc (.cells #[.int .i64 (x : Int), .slice (some ⟨gb, ob, none⟩) 32 cu] 68)
  have hnew : (w.alloc (.cells #[.int .i64 (x : Int), .slice (some ⟨gb, ob, none⟩) 32 cu] 68)).heap[w.heap.size]? = some (.cells #[.int .i64 (x : Int), .slice (some ⟨gb, ob, none⟩) 32 cu] 68 (0, 0)) := heap_alloc_new _ _
  obtain ⟨cur0, hk0, hc0⟩ := h.kept
  have hgl : gk < w.heap.size := (Array.getElem?_eq_some_iff.1 hk0).1
  have h1 := h.ext e1
  have hb1 := hbB.ext e1
  generalize hw1 : w.alloc (.cells #[.int .i64 (x : Int), .slice (some ⟨gb, ob, none⟩) 32 cu] 68) = w1 at *
  have hRD0 : RD w1 F q gk vs vp { d with kept := over d.kept (32 * x) (b.take 0) } := by rw [List.take_zero, over_nil]; exact h1
  have e11 := Chg.refl (fun k => k = gk) w1
  have hh := Lib.hid hnew
  have hlenh := Lib.hid hlen
  have hblh := Lib.hid hbl
  have hw1h := Lib.hid hw1
  have hnB : ¬ w.heap.size = gk := by omega
  have hb1h := Lib.hid hb1
  clear hat hk0 hc0 h hbB hnew h1 hlen hbl hb1 hu
  go_enter Try.func40, Try.ntmps40
  go_upto_region 1 with fail
  clear hw1
  go_wp2
  go_loopw [6] (fun i wr => ∃ k : Nat, k ≤ m ∧ i = .int .i64 (k : Int) ∧ RD wr F q gk vs vp { d with kept := over d.kept (32 * x) (b.take k) } ∧ Chg (fun k => k = gk) w1 wr) (fun i _ => m - (intOf i).toNat)
  case atStart => exact ⟨0, Nat.zero_le _, rfl, hRD0, e11⟩
  case round =>
    clear hRD0 e11
    obtain ⟨k, hk, rfl, hR, ek⟩ := hrel
    by_cases hlt : k < m
    · have hkl : (over d.kept (32 * x) (b.take k)).length = d.kept.length := over_len' (by have := hlenh.out; omega)
      have hd := hR.hd
      simp only [hkl] at hd
      obtain ⟨c0, -⟩ := rhd_cells hd
      obtain ⟨cur, hkk, hcur⟩ := hR.kept
      have hs : cur.size = d.kept.length := by rw [← Array.length_toList, hcur, List.length_map]; exact hkl
      have b0 := ek.cell (show w1.cell? ⟨w.heap.size, 0, none⟩ = some (.int .i64 (x : Int)) by rw [cell_of_row _ _ _ _ _ _ hh.out]; rfl) hnB
      have b1 := ek.cell (show w1.cell? ⟨w.heap.size, 1, none⟩ = some (.slice (some ⟨gb, ob, none⟩) 32 cu) by rw [cell_of_row _ _ _ _ _ _ hh.out]; rfl) hnB
      have hbw := hb1h.out
      obtain ⟨a', c', e, hat'⟩ := hbw
      simp only [Value.slice.injEq] at e
      obtain ⟨rfl, -, rfl⟩ := e
      obtain ⟨g', o', e, cb⟩ := hat'.get k (by rw [hblh.out]; omega)
      cases e
      have cb := ek.cell cb hne
      have ff : wr.frozen? ⟨gk, 32 * x + k, none⟩ = false := by simp [World.frozen?, hkk]
      have hin : 32 * x + k < d.kept.length := by have := hlenh.out; omega
      have ck : wr.cell? ⟨gk, 32 * x + k, none⟩ = some cur[32 * x + k] := by rw [cell_of_row _ _ _ _ _ _ hkk, Array.getElem?_eq_getElem (by omega)]
      have hst := Lib.hid (over_step (K := d.kept) (b := b) (o := 32 * x) (k := k) (by rw [hblh.out]; omega) hin)
      have t1 : IntKind.i64.wrap (32 * (x : Int)) = 32 * (x : Int) := by rw [IntKind.wrap_i64]; omega
      have t2 : IntKind.i64.wrap (32 * (x : Int) + (k : Int)) = 32 * (x : Int) + (k : Int) := by rw [IntKind.wrap_i64]; omega
      have t3 : (0 : Int) ≤ 32 * (x : Int) + (k : Int) := by omega
      have t4 : 32 * (x : Int) + (k : Int) < (d.kept.length : Int) := by omega
      have t5 : (32 * (x : Int) + (k : Int)).toNat = 32 * x + k := by omega
      have t6 : (k : Int) < (m : Int) := by omega
      have t7 : (k : Int) < 32 := by omega
      have hrow := setCell_row wr gk (32 * x + k) _ _ _ (.int .u8 ((b.getD k 0).toNat : Int)) hkk
      have hrowh := Lib.hid hrow
      have hcurh := Lib.hid hcur
      have hRh := Lib.hid hR
      have hkh := Lib.hid hkl
      generalize hcx : cur[32 * x + k] = cx at ck
      clear hd hkk hcur hat' hrow hR hkl hs hcx hin
      generalize hby : b.getD k 0 = y at *
      go_wp2
      go_still_tail 15, (by kernel_rfl)
      go_wp2
      go_roundw
      case rel =>
        have c : Chg (fun k => k = gk) wr (wr.setCell ⟨gk, 32 * x + k, none⟩ (.int .u8 (y.toNat : Int))).drew := ((Chg.refl (fun k => k = gk) wr).setCell (x := ⟨gk, 32 * x + k, none⟩) (fun _ => rfl) _).drew
        have hl2 : (over d.kept (32 * x) (b.take (k + 1))).length = (over d.kept (32 * x) (b.take k)).length := by rw [hst.out, List.length_set]
        exact ⟨k + 1, by omega, by go_num, hRh.out.kset c hrowh.out (by
          rw [Array.toList_setIfInBounds, hcurh.out]
          show _ = List.map u8v (over d.kept (32 * x) (b.take (k + 1)))
          rw [hst.out, List.map_set]; rfl) hl2 rfl rfl rfl rfl, ek.trans c⟩
      case measure => simp [intOf]; omega
    · obtain rfl : k = m := by omega
      go_wp2
      go_end0
      exact ⟨rfl, (Chg.of_ext e1).trans (ek.mono fun j hj => by rw [hj]; exact hFk), hR⟩
theorem lay_ok {d : D} (h : d.Ok) (cut : Nat → Nat) (hc : ∀ i, cut i ≤ 32) {k : Nat} (hk : k ≤ d.st.length) : ({ d with kept := lay d.kept d.st cut k } : D).Ok ∧ ({ d with kept := lay d.kept d.st cut k } : D).n = d.n := by
  have hl := lay_length h.len h.at_ cut hc k hk
  have hn : ({ d with kept := lay d.kept d.st cut k } : D).n = d.n := by
    show (lay _ _ _ _).length / 32 = _
    rw [hl]; omega
  exact ⟨⟨by rw [hn]; exact hl, by rw [hn]; exact h.most, fun w hw => by rw [hn]; exact h.at_ w hw⟩, hn⟩
theorem info_staged : (Try.prog.info? 68).map (·.size) = some 2 := by kernel_rfl
/-- the k-th staged block, where it lies -/
theorem RSt.at_ {w : World} {G : Nat → Prop} {v : Value} {st : List (Nat × List UInt8)} (h : RSt w G v st) : ∃ a cap, v = .slice a st.length cap ∧ st.length ≤ 9223372036854775807 ∧ st.length ≤ cap ∧ ∀ k x, st[k]? = some x → ∃ g u, a = some ⟨g, 0, none⟩ ∧ w.rangeAt g (k * 2) [.int .i64 (x.1 : Int), u] ∧ Bytes w u x.2 ∧ ∀ k, vblk u = some k → x.2 ≠ [] → G k := by
  obtain ⟨a, cap, h1, h2, h3, h4, h5⟩ := h
  refine ⟨a, cap, h1, by unfold maxLen at h3; omega, h2, fun k x hk => ?_⟩
  obtain ⟨g, u, k1, k2, k3, k4, k5, k6⟩ := h5 k x hk
  refine ⟨g, u, k1, fun j v hv => ?_, k5, k6⟩
  match j, hv with
  | 0, hv => simp at hv; subst hv; exact k3
  | 1, hv => simp at hv; subst hv; exact k4
set_option maxRecDepth 20000 in
set_option maxHeartbeats 1000000 in
theorem rsync_any {w : World} {F : Nat → Prop} {q : Nat} {d : D} (h : RDisk w F q d) :
    Calls Try.prog 31 #[.pointer (some ⟨q, 0, none⟩)] w fun e w' => e = .returned (.int .i64 (syncE d)) ∧ Chg F w w' ∧ RDisk w' F q (sync d) := by
  obtain ⟨gk, vs, vp, h, ok⟩ := h
  have hfl := rfails_any h
  have hFp := h.fq
  have hok2 := Lib.hid (after_ok ok)
  cases hf : fl d
  · have hS : RowKit.Hid (syncE d = 0 ∧ sync d = { after d with kept := lay d.kept d.st (fun _ => 32) d.st.length, st := [] }) := Lib.hid (by unfold syncE sync; rw [hf]; exact ⟨rfl, rfl⟩)
    rw [hf] at hfl
    go_enter Try.func31, Try.ntmps31
    go_upto_region 4 with (go_at_call 39; refine hfl.mono ?_; rintro e w1 ⟨rfl, hc1, vp', hD1⟩)
    have hokS := Lib.hid (sync_ok ok)
    have hK := after_kept d
    have hE := after_st d
    have hR0 : RD w1 F q gk vs vp' { after d with kept := lay (after d).kept (after d).st (fun _ => 32) 0 } := hD1
    have hSd : RowKit.Hid (sync d = { after d with kept := lay (after d).kept (after d).st (fun _ => 32) (after d).st.length, st := [] }) := Lib.hid (by rw [hS.out.2, hK, hE])
    generalize after d = A at *
    have hR0h := Lib.hid hR0
    have e11 : Chg F w1 w1 := Chg.refl _ _
    obtain ⟨a, cap, rfl, hsm, hcap, -⟩ := hD1.st.at_
    have hCw := Lib.hid (hc1.mono fun k hk => by rw [hk]; exact hFp : Chg F w w1)
    clear hK hE hR0 hD1 hfl h hc1
    go_wp2
    go_loopw [4] (fun i wr => ∃ k : Nat, k ≤ A.st.length ∧ i = .int .i64 (k : Int) ∧ RD wr F q gk (.slice a A.st.length cap) vp' { A with kept := lay A.kept A.st (fun _ => 32) k } ∧ Chg F w1 wr) (fun i _ => A.st.length - (intOf i).toNat)
    case atStart => exact ⟨0, Nat.zero_le _, rfl, hR0h.out, e11⟩
    case round =>
      clear e11
      obtain ⟨k, hk, rfl, hR, ek⟩ := hrel
      have hd := hR.hd
      obtain ⟨c0, c1, c2, c3, c4, ff⟩ := rhd_cells hd
      by_cases hlt : k < A.st.length
      · obtain ⟨x, hx⟩ : ∃ x, A.st[k]? = some x := ⟨_, List.getElem?_eq_getElem hlt⟩
        have hxd : A.st.getD k (0, []) = x := by rw [List.getD_eq_getElem?_getD, hx]; rfl
        obtain ⟨hx1, hx2⟩ := hok2.out.at_ x (List.mem_of_getElem? hx)
        obtain ⟨a', cap', e, -, -, hst⟩ := hR.st.at_
        cases e
        obtain ⟨g, u, rfl, hrg, hbu, hgu⟩ := hst k x hx
        obtain ⟨lok, ln⟩ := lay_ok hok2.out (fun _ => 32) (fun _ => Nat.le_refl _) hk
        have hstep : RowKit.Hid (lay A.kept A.st (fun _ => 32) (k + 1) = over (lay A.kept A.st (fun _ => 32) k) (32 * x.1) (x.2.take 32)) := Lib.hid (by rw [lay, hxd])
        have hL := rlay_any hR lok x.1 (by rw [ln]; exact hx1) u x.2 hbu hx2 (fun j hj => (hgu j hj (fun e => by rw [e] at hx2; simp at hx2)).2.2) 32 (Nat.le_refl _)
        have hki : (k : Int) < (A.st.length : Int) := by omega
        clear hx hxd hst hbu hgu lok ln c0 c2 c3 c4 ff hd hx1 hx2
        obtain ⟨x1, x2⟩ := x
        simp only at hrg hL hstep
        go_wp2_with (first
          | (refine wpList_load_mid rfl 68 _ rfl g (k * 2) rfl [.int .i64 (x1 : Int), u] _ hrg Try.underlying68 rfl info_staged ?_)
          | (go_at_call 40; refine hL.mono ?_; rintro e w2 ⟨rfl, c2, h2⟩))
        go_roundw
        case rel => exact ⟨k + 1, by omega, by go_num, by rw [hstep.out]; exact h2, ek.trans c2⟩
        case measure => simp [intOf]; omega
      · obtain rfl : k = A.st.length := by omega
        have hdh := Lib.hid hd
        have hRh := Lib.hid hR
        clear hd hR c0 c2 c3 c4
        go_wp2
        go_ret
        have c := (Chg.refl (fun k => k = q) wr).setq 1 (.slice none 0 0)
        refine ⟨by rw [hS.out.1]; rfl, (hCw.out.trans ek).trans (c.mono fun k hk => by rw [hk]; exact hFp), gk, .slice none 0 0, vp', ?_, hokS.out⟩
        rw [hSd.out]
        exact hRh.out.own c rfl (rhd_set1 _ hdh.out) (.inr ⟨rfl, rfl⟩) (.inl ⟨rfl, rfl⟩) hRh.out.lf
  · have hS : RowKit.Hid (syncE d = 21 ∧ sync d = after d) := Lib.hid (by unfold syncE sync; rw [hf]; exact ⟨rfl, rfl⟩)
    rw [hf] at hfl
    go_enter Try.func31, Try.ntmps31
    go_wp2_with (go_at_call 39; refine hfl.mono ?_; rintro e w1 ⟨rfl, hc1, vp', hD1⟩)
    go_ret
    exact ⟨by rw [hS.out.1]; rfl, hc1.mono fun k hk => by rw [hk]; exact hFp, gk, _, _, by rw [hS.out.2]; exact hD1, by rw [hS.out.2]; exact hok2.out⟩
set_option maxRecDepth 20000 in
set_option maxHeartbeats 1000000 in
theorem rcrash_any {w : World} {F : Nat → Prop} {q : Nat} {d : D} (h : RDisk w F q d) (u : Value) (cuts : List UInt8) (hb : ∀ w', Chg F w w' → Bytes w' u cuts) :
    Calls Try.prog 33 #[.pointer (some ⟨q, 0, none⟩), u] w fun e w' => e = .returned (.tuple #[]) ∧ Chg F w w' ∧ RDisk w' F q (crash cuts d) := by
  obtain ⟨gk, vs, vp, h, ok⟩ := h
  have hFp := h.fq
  have hbh := Lib.hid hb
  obtain ⟨au, capu, rfl, hbu⟩ := hb w (Chg.refl _ _)
  have hul := hbu.len
  have hokh := Lib.hid ok
  have hokC := Lib.hid (crash_ok cuts ok)
  have hR0h : RowKit.Hid (RD w F q gk vs vp { d with kept := lay d.kept d.st (cutAt cuts) 0 }) := Lib.hid h
  obtain ⟨a, cap, rfl, hsm, hcap, -⟩ := h.st.at_
  have e11 : Chg F w w := Chg.refl _ _
  clear hb hbu h ok
  go_enter Try.func33, Try.ntmps33
  go_wp2
  go_loopw [4] (fun i wr => ∃ k : Nat, k ≤ d.st.length ∧ i = .int .i64 (k : Int) ∧ RD wr F q gk (.slice a d.st.length cap) vp { d with kept := lay d.kept d.st (cutAt cuts) k } ∧ Chg F w wr) (fun i _ => d.st.length - (intOf i).toNat)
  case atStart => exact ⟨0, Nat.zero_le _, rfl, hR0h.out, e11⟩
  case round =>
    clear e11
    obtain ⟨k, hk, rfl, hR, ek⟩ := hrel
    have hd := hR.hd
    obtain ⟨c0, c1, c2, c3, c4, ff⟩ := rhd_cells hd
    by_cases hlt : k < d.st.length
    · obtain ⟨x, hx⟩ : ∃ x, d.st[k]? = some x := ⟨_, List.getElem?_eq_getElem hlt⟩
      have hxd : d.st.getD k (0, []) = x := by rw [List.getD_eq_getElem?_getD, hx]; rfl
      obtain ⟨hx1, hx2⟩ := hokh.out.at_ x (List.mem_of_getElem? hx)
      obtain ⟨a', cap', e, -, -, hst⟩ := hR.st.at_
      cases e
      obtain ⟨g, v, rfl, hrg, hbu, hgu⟩ := hst k x hx
      obtain ⟨lok, ln⟩ := lay_ok hokh.out (cutAt cuts) (cutAt_le cuts) hk
      have hstep : RowKit.Hid (lay d.kept d.st (cutAt cuts) (k + 1) = over (lay d.kept d.st (cutAt cuts) k) (32 * x.1) (x.2.take (cutAt cuts k))) := Lib.hid (by rw [lay, hxd])
      have hL := rlay_any hR lok x.1 (by rw [ln]; exact hx1) v x.2 hbu hx2 (fun j hj => (hgu j hj (fun e => by rw [e] at hx2; simp at hx2)).2.2) (cutAt cuts k) (cutAt_le cuts k)
      have hki : (k : Int) < (d.st.length : Int) := by omega
      have hBc := hbh.out _ ek
      obtain ⟨au', capu', e, hBc⟩ := hBc
      cases e
      clear hx hxd hst hbu hgu lok ln c0 c2 c3 c4 ff hd hx1 hx2
      obtain ⟨x1, x2⟩ := x
      simp only at hrg hL hstep
      by_cases hkc : k < cuts.length
      · obtain ⟨gu, ou, rfl, hcc⟩ := hBc.get k hkc
        have hcv : RowKit.Hid (((cutAt cuts k : Nat) : Int) = ((cuts.getD k 0).toNat : Int) % 33) := Lib.hid (by unfold cutAt; rw [if_pos hkc]; omega)
        have hbb := (cuts.getD k 0).toNat_lt
        have hkci : (k : Int) < (cuts.length : Int) := by omega
        rw [hcv.out] at hL
        generalize cuts.getD k 0 = y at *
        have t1 : IntKind.i64.wrap (y.toNat : Int) = (y.toNat : Int) := by rw [IntKind.wrap_i64]; omega
        go_wp2_with (first
          | (refine wpList_load_mid rfl 68 _ rfl g (k * 2) rfl [.int .i64 (x1 : Int), v] _ hrg Try.underlying68 rfl info_staged ?_)
          | (go_at_call 40; refine hL.mono ?_; rintro e w2 ⟨rfl, c2, h2⟩))
        go_roundw
        case rel => exact ⟨k + 1, by omega, by go_num, by rw [hstep.out]; exact h2, ek.trans c2⟩
        case measure => simp [intOf]; omega
      · have hcv : RowKit.Hid (cutAt cuts k = 0) := Lib.hid (by unfold cutAt; rw [if_neg hkc])
        have hkci : (cuts.length : Int) ≤ (k : Int) := by omega
        rw [hcv.out] at hL hstep
        go_wp2_with (first
          | (refine wpList_load_mid rfl 68 _ rfl g (k * 2) rfl [.int .i64 (x1 : Int), v] _ hrg Try.underlying68 rfl info_staged ?_)
          | (go_at_call 40; refine hL.mono ?_; rintro e w2 ⟨rfl, c2, h2⟩))
        go_roundw
        case rel => exact ⟨k + 1, by omega, by go_num, by rw [hstep.out]; exact h2, ek.trans c2⟩
        case measure => simp [intOf]; omega
    · obtain rfl : k = d.st.length := by omega
      have hdh := Lib.hid hd
      have hRh := Lib.hid hR
      clear hd hR c0
      go_wp2
      go_end0
      have c := ((((Chg.refl (fun k => k = q) wr).setq 1 (.slice none 0 0)).setq 2 (.slice none 0 0)).setq 3 (.bool false)).setq 4 (.int .i64 0)
      refine ⟨rfl, ek.trans (c.mono fun k hk => by rw [hk]; exact hFp), gk, .slice none 0 0, .slice none 0 0, ?_, hokC.out⟩
      exact hRh.out.own c rfl (rhd_set4 0 0 rfl (rhd_set3 false (rhd_set2 _ (rhd_set1 _ hdh.out)))) (.inr ⟨rfl, rfl⟩) (.inr (.inl ⟨rfl, rfl⟩)) (by simp [crash])
end Go.Proofs.Ytehgdoceaeammaa
