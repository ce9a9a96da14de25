/- FrameGoesOn: slices of byte slices put one behind the other; the walk. -/
import Derived.Test.YtmpjcnopakfdmaaDoorFrK
namespace Go.Proofs.YtmpjcnopakfdmaaDoor
set_option linter.unusedVariables false
set_option linter.unusedSimpArgs false
open Go.RowKit Fr

/-- 'append(v, u...)', v the call's own, u any that lies below -/
theorem run_appendLLs (w : World) (ty : TypeId) (base : Nat) (v : Value) (ls : List (List UInt8)) (hown : OwnLL w base (fun k => k < base) v ls) (w0 : World) (hb : w0.heap.size = base) (e0 : Ext w0 w) (u : Value) (ms : List (List UInt8)) (hu : LL w0 u ms)
    (hlen : ls.length + ms.length ≤ 1048576) :
    ∃ v' w', (Builtin.append_ #[23, 23] ty #[v, u]).run Tryd.prog w = .ok v' w' ∧ OwnLL w' base (fun k => k < base) v' (ls ++ ms) ∧ w.grownBy w' v.ownBlock := by
  obtain ⟨vs, hr, h3⟩ := id hown
  obtain ⟨i, hi, hz0, hz1, hz2⟩ := info_parts infoLL
  have hbase : base ≤ w.heap.size := by rw [← hb]; exact e0.size
  obtain ⟨au, cu, rfl, hle, hcm, hnone, hcells⟩ := hu
  cases au with
  | none =>
    have hc := hnone rfl
    subst hc
    obtain rfl : ms = [] := List.eq_nil_of_length_eq_zero (by omega)
    refine ⟨v, w, run_append_owned_none (P := Tryd.prog) w base 23 ty 22 i 1 Tryd.underlying23 hi v _ _ hr, by rw [List.append_nil]; exact hown, ⟨rfl, rfl, rfl, Nat.le_refl _, fun _ _ _ => rfl⟩⟩
  | some ad =>
    obtain ⟨us, hul, hus⟩ : ∃ us : List Value, us.length = ms.length ∧ ∀ j l, ms[j]? = some l → ∃ x, us[j]? = some x ∧ w0.cell? (ad.add j) = some x ∧ Bytes w0 x l := by
      refine ⟨(List.range ms.length).map fun j => (w0.cell? (ad.add j)).getD undef, by simp, fun j l hj => ?_⟩
      obtain ⟨g, o, x, e, hc, hx⟩ := hcells j l hj
      cases e
      have hjl := (List.getElem?_eq_some_iff.1 hj).1
      refine ⟨x, ?_, by rw [Addr.add_lit]; exact hc, hx⟩
      rw [List.getElem?_map, List.getElem?_range hjl]
      simp only [Option.map_some]
      rw [Addr.add_lit, hc]; rfl
    have hone : ∀ j x, us[j]? = some x → ∃ l, ms[j]? = some l ∧ w0.cell? (ad.add j) = some x ∧ Bytes w0 x l := fun j x hx => by
      have hj := (List.getElem?_eq_some_iff.1 hx).1
      rw [hul] at hj
      obtain ⟨x', k1, k2, k3⟩ := hus j ms[j] (List.getElem?_eq_getElem hj)
      rw [hx] at k1; cases k1
      exact ⟨_, List.getElem?_eq_getElem hj, k2, k3⟩
    obtain ⟨v', w', q1, q2, q3, -, q5⟩ := run_append_own_at (P := Tryd.prog) w base 23 ty 22 i (.slice none 0 0) 1 24 Tryd.underlying23 hi hz0 hz1 hz2 rfl (by decide) v ls.length vs hr ad ms.length cu us (by rw [hul]; omega)
      (fun j y hy => by obtain ⟨l, _, k2, _⟩ := hone j y hy; exact e0.cell k2)
      (fun y hy => by
        obtain ⟨j, hj⟩ := List.mem_iff_getElem?.1 hy
        obtain ⟨l, _, _, a, c, rfl, _⟩ := hone j y hj
        rfl) (by unfold maxLen; omega) (by omega) hbase
    refine ⟨v', w', q1, ⟨vs ++ us, by rw [List.length_append]; exact q2, fun j l hj => ?_⟩, q3⟩
    have hvl : vs.length = ls.length := by have := hr.1; omega
    have hvo : ∀ k, k < base → v.ownBlock ≠ some k := fun k hk e => by have := (World.ownsRow.lt hr k e).1; omega
    have hvo' : ∀ k, k < base → v'.ownBlock ≠ some k := fun k hk e => by
      rcases q5 with q | q
      · rw [q] at e; exact hvo k hk e
      · rw [q] at e; cases e; omega
    by_cases hjl : j < ls.length
    · rw [List.getElem?_append_left hjl] at hj
      obtain ⟨x, k1, k2, k3, k4⟩ := h3 j l hj
      exact ⟨x, by rw [List.getElem?_append_left (by omega)]; exact k1, k2, k3.grown q3 fun k hk hl => (k4 k hk hl).2, fun k hk hl => ⟨(k4 k hk hl).1, hvo' k (k4 k hk hl).1⟩⟩
    · rw [List.getElem?_append_right (by omega)] at hj
      obtain ⟨x, k1, k2, k3⟩ := hus (j - ls.length) l hj
      have hlt : ∀ k, vblk x = some k → l ≠ [] → k < base := fun k hk hl => by rw [← hb]; exact k3.blk_lt hl k hk
      refine ⟨x, by rw [List.getElem?_append_right (by omega), hvl]; exact k1, ?_, (k3.ext e0).grown q3 fun k hk hl => hvo k (hlt k hk hl), fun k hk hl => ⟨hlt k hk hl, hvo' k (hlt k hk hl)⟩⟩
      obtain ⟨a, c, rfl, _⟩ := k3
      rfl
theorem wpList_appendLLs {ops : Array Oper} {rest : List Oper} {o : Oper} {a : Act} {w : World} {Q : Exit → Act → World → Prop} (hgd : Region.wanted o (yielded ops a.tmps) = true) (s x : Operand)
    (ho : o.op = .call { callee := .builtin .append, args := #[s, x], argTypes := #[23, 23] })
    (base : Nat) (v : Value) (ls : List (List UInt8)) (hs : a.eval s = v) (hown : OwnLL w base (fun k => k < base) v ls) (w0 : World) (hb : w0.heap.size = base) (e0 : Ext w0 w) (u : Value) (hx : a.eval x = u) (ms : List (List UInt8)) (hu : LL w0 u ms)
    (hlen : ls.length + ms.length ≤ 1048576)
    (h : ∀ v' w', OwnLL w' base (fun k => k < base) v' (ls ++ ms) → w.grownBy w' v.ownBlock → wpList Tryd.prog ops Q rest (a.put o.dst v') w') : wpList Tryd.prog ops Q (o :: rest) a w := by
  refine wpList_step fun K hK => ?_
  rw [if_pos hgd]
  obtain ⟨v', w', hr, h2, h3⟩ := run_appendLLs w o.type base v ls hown w0 hb e0 u ms hu hlen
  unfold Oper.wp execOp
  simp only [ho, resolve, invoke, builtin, Sem.run_bind, Sem.run_pure, Result.andThen_ok, List.map_toArray, List.map_cons, List.map_nil, hs, hx, hr]
  exact hK _ _ (h v' w' h2 h3)
theorem Bytes.from {w : World} {a : Option Addr} {n cap : Nat} {l : List UInt8} (h : Bytes w (.slice a n cap) l) (N : Nat) (hN : N ≤ l.length) :
    (¬ cap = N → Bytes w (.slice (Option.map (fun x => x.add N) a) (l.length - N) (cap - N)) (l.drop N)) ∧ (cap = N → Bytes w (.slice a (l.length - N) 0) (l.drop N)) := by
  have hcp := h.cp
  refine ⟨fun hc => ?_, fun hc => ?_⟩
  · by_cases hl : l.length = 0
    · have : l = [] := List.eq_nil_of_length_eq_zero hl
      subst this
      have hN0 : N = 0 := by simpa using hN
      subst hN0
      obtain ⟨a', c', e, h2, h3, h4, h5⟩ := h
      cases e
      exact ⟨Option.map (fun x => x.add 0) a, cap - 0, rfl, Nat.zero_le _, h3, fun hn => (by
        cases ha : a with
        | none => exact h4 ha
        | some y => rw [ha] at hn; cases hn), fun j hj => absurd hj (Nat.not_lt_zero _)⟩
    · obtain ⟨g, o, rfl⟩ := h.ad (by omega)
      have := h.pc N (l.length - N) (by omega)
      rw [List.take_of_length_le (by rw [List.length_drop]; omega)] at this
      rw [Option.map_some, Addr.add_lit]
      exact this
  · have hd : l.drop N = [] := List.drop_eq_nil_iff.2 (by omega)
    rw [hd, show l.length - N = 0 by omega]
    exact ⟨_, 0, rfl, Nat.le_refl _, Nat.zero_le _, fun _ => rfl, fun j hj => absurd hj (Nat.not_lt_zero _)⟩
theorem OwnLL.empty {w : World} {base g : Nat} {G : Nat → Prop} (hg : g = w.heap.size) (hb : base ≤ w.heap.size) : OwnLL (w.alloc (.cells #[] 22)) base G (.slice (some ⟨g, 0, none⟩) 0 0) [] := by
  subst hg
  exact ⟨[], World.ownsRow_made w #[] 0 hb (by simp [maxLen]) rfl, fun j l h => by simp at h⟩
set_option maxRecDepth 20000 in
set_option maxHeartbeats 2000000 in
theorem frameGoesOn_any (v0 : Value) (s : List UInt8) (v1 : Value) (ls : List (List UInt8)) (w : World) (hw : Halves w) (h0 : Bytes w v0 s) (h1 : LL w v1 ls) (hlen : ls.length ≤ 1048576) :
    Calls Tryd.prog 6 #[v0, v1] w (LawEnd w) := by
  have haw := awake9_any w hw
  have hwh := Lib.hid hw
  have h0h := Lib.hid h0
  have h1h := Lib.hid h1
  obtain ⟨a0, c0, rfl, -⟩ := id h0
  have hc0 := Lib.hid h0.cp.2.1
  obtain ⟨a1, c1, rfl, -⟩ := h1.get
  clear h0 h1
  obtain ⟨big, hbig⟩ : ∃ big, big = (!fewF ls || !(decide (errAll ls = 0)) || decide (700 < s.length)) := ⟨_, rfl⟩
  have hbh := Lib.hid hbig
  clear hbig
  go_enter Tryd.func6, Tryd.ntmps6
  go_upto_region 3 with (first
    | (go_at_call 12; refine haw.mono ?_; rintro e w1 ⟨rfl, e1⟩)
    | (go_at_call 13; refine (few09_any _ _ _ (h1h.out.ext e1)).mono ?_; rintro e w1' ⟨rfl, rfl⟩))
  have e1h := Lib.hid e1
  have hq1 := all_any _ _ w1 (hwh.out.ext e1) (h1h.out.ext e1) (by omega)
  clear haw
  go_upto_region 4 with (go_at_call 16; refine hq1.mono ?_; rintro e w2 ⟨r, rfl, x1, rfl, e2, hx1⟩)
  have y1 := allB_of hx1
  obtain ⟨a5, c5, rfl, -⟩ := id y1
  have y1h := Lib.hid y1
  have e2h := Lib.hid (e1h.out.trans e2)
  clear hq1 y1 hx1 e1
  have hlenh := Lib.hid hlen
  clear hlen
  go_cut [6, 8, 36] (fun f e t wd => f = .bool (fewF ls) ∧ e = .int .i64 (errAll ls) ∧ t = .bool big ∧ wd = w2)
  case first =>
    cases hf : fewF ls
    · have hb := Lib.hid (show big = true from by rw [hbh.out, hf]; rfl)
      have hfh := Lib.hid hf
      clear hbh
      go_wp2
      go_meet
      exact ⟨by rw [hfh.out], rfl, by rw [hb.out], rfl⟩
    · have hfh := Lib.hid hf
      by_cases he : errAll ls = 0
      · have hb := Lib.hid (show big = decide ((700 : Int) < (s.length : Int)) from by rw [hbh.out, hf, decide_eq_true he, Bool.eq_iff_iff]; simp; omega)
        have heh := Lib.hid he
        have q : (errAll ls != 0) = false := by simp [he]
        clear hbh he
        go_wp2
        go_meet
        exact ⟨by rw [hfh.out], rfl, by rw [hb.out], rfl⟩
      · have hb := Lib.hid (show big = true from by rw [hbh.out, hf, decide_eq_false he]; rfl)
        have q : (errAll ls != 0) = true := by simp [he]
        clear hbh he
        go_wp2
        go_meet
        exact ⟨by rw [hfh.out], rfl, by rw [hb.out], rfl⟩
  case rest =>
    obtain ⟨rfl, rfl, rfl, rfl⟩ := hcut
    obtain ⟨w2, rfl⟩ : ∃ W, W = wc := ⟨_, rfl⟩
    cases hb : big
    case true =>
      go_wp2
      go_ret
      exact ⟨rfl, e2h.out⟩
    have hbt := hbh.out.symm
    rw [hb] at hbt
    simp only [Bool.or_eq_false_iff, Bool.not_eq_false', decide_eq_false_iff_not, decide_eq_true_eq] at hbt
    obtain ⟨⟨b1, b2⟩, b3⟩ := hbt
    have hbl := Lib.hid (allB_len b1)
    have hls := Lib.hid (fewF_ok b1).1
    have hok := Lib.hid (errAll_ok.1 b2)
    have hA := Lib.hid (show allB ls = all ls from if_pos b2)
    have hsl := Lib.hid (show s.length ≤ 700 from by omega)
    have hMo := Lib.hid (scan_oks s)
    have hMs := Lib.hid (scan_size s)
    have hMt := Lib.hid (scan_take s)
    have hMd := Lib.hid (scan_drop s)
    have hq2 := scan_any _ _ w2 (hwh.out.ext e2h.out) (h0h.out.ext e2h.out) (by have := hsl.out; omega)
    clear hbh b1 b2 b3 hb
    generalize hM : scan s = M at *
    have hMh := Lib.hid hM
    clear hM
    go_upto_region 7 with (go_at_call 18; refine hq2.mono ?_; clear hq2; rintro e w3 ⟨r, rfl, x3, rfl, o3, e3⟩)
    have y3 := Lib.hid o3.ll
    have e3h := Lib.hid (e2h.out.trans e3)
    obtain ⟨a3, c3, rfl, -⟩ := o3.get
    obtain ⟨N, hN⟩ : ∃ N, N = Fr.size M := ⟨_, rfl⟩
    rw [← hN]
    have hNh := Lib.hid hN
    have hNs : N ≤ s.length := by rw [hN]; exact hMs.out
    have hml := Lib.hid (show M.length ≤ 1000 from by
      have key : ∀ ls : List (List UInt8), ls.length ≤ Fr.size ls := fun ls => by
        induction ls with
        | nil => exact Nat.le_refl _
        | cons a ls ih => rw [List.length_cons, show Fr.size (a :: ls) = 6 + a.length + Fr.size ls from rfl]; omega
      have := key M
      have := hMs.out
      have := hsl.out
      omega)
    have hq3 := all_any _ _ w3 (hwh.out.ext e3h.out) y3.out (by have := hml.out; omega)
    have hM0 := errAll_ok.2 hMo.out
    rw [hM0] at hq3
    have d1 : decide ((N : Int) < 0) = false := by rw [decide_eq_false_iff_not]; omega
    have d2 : decide ((s.length : Int) < (N : Int)) = false := by rw [decide_eq_false_iff_not]; omega
    have d3 : (N : Int) ≤ (c0 : Int) := by have := hc0.out; omega
    clear o3 hN hM0
    go_upto_region 10 with (go_at_call 16; refine hq3.mono ?_; rintro e w4 ⟨r, rfl, x4, rfl, e4, ⟨-, hx4⟩ | ⟨hx4, -⟩⟩; rotate_left; exact absurd rfl hx4)
    have y4 := Lib.hid hx4.bytes
    have e4h := Lib.hid (e3h.out.trans e4)
    have hin := Lib.hid (show Bytes w4 (.slice a0 N c0) (all M) from by
      have := ((h0h.out.ext e4h.out)).ini N hNs
      rwa [hNh.out, hMt.out, ← hNh.out] at this)
    have hsm := same9_any _ _ _ _ w4 y4.out hin.out
    rw [seq_self] at hsm
    clear hq3 hx4
    go_upto_region 12 with (go_at_call 20; refine hsm.mono ?_; rintro e w4' ⟨rfl, rfl⟩)
    have hall := Lib.hid (show ([] ++ all M) ++ allB ls = all (M ++ ls) from by rw [hA.out, all_append, List.nil_append])
    have hml4 := Lib.hid (show (all M).length ≤ 700 from by rw [all_length]; exact Nat.le_trans hMs.out hsl.out)
    go_upto_region 13 with (first
      | (at_builtin; refine wpList_appendB rfl (.tmp 66) (.tmp 69) rfl w4.heap.size _ [] rfl (OwnB.empty rfl (Nat.le_refl _)) _ (all M) rfl (hin.out.ext ((Ext.refl w4).alloc _)) (by have := hml4.out; simp; omega) ((Ext.refl w4).alloc _).size ?_; intro v5 w5 o5 g5; have e5 := ((Ext.refl w4).alloc (.cells #[] 5)).grown g5 fun k hk => by cases hk; exact Nat.le_refl _)
      | (at_builtin; go_must (refine wpList_appendB rfl (.tmp 70) (.tmp 71) rfl w4.heap.size _ ([] ++ all M) rfl o5 _ (allB ls) rfl ((((y1h.out.ext e3).ext e4)).ext e5) (by have := hml4.out; have := hbl.out; simp; omega) e5.size ?_); intro v6 w6 o6 g6; have e6 := e5.own o5 g6))
    have e6h := Lib.hid (e4h.out.trans e6)
    rw [hall.out] at o6
    have hL6 := Lib.hid (show (all (M ++ ls)).length ≤ 3000 from by rw [← hall.out]; have := hml4.out; have := hbl.out; simp; omega)
    have hsc := scan_any _ _ w6 (hwh.out.ext e6h.out) o6.bytes (by have := hL6.out; omega)
    have hokA : Fr.oks (M ++ ls) = true := by unfold Fr.oks; rw [List.all_append, Bool.and_eq_true]; exact ⟨hMo.out, hok.out⟩
    have hscA : scan (all (M ++ ls)) = M ++ ls := by
      have := scan_all (M ++ ls) [] hokA
      rwa [List.append_nil, scan_nil, List.append_nil] at this
    rw [hscA, show Fr.size (M ++ ls) = (all (M ++ ls)).length from (all_length _).symm] at hsc
    obtain ⟨a6, c6, rfl, -⟩ := id o6.bytes
    have y3b := Lib.hid ((y3.out.ext e4).ext e6)
    clear hokA hscA o5 o6 g5 g6 e5
    go_upto_region 14 with (go_at_call 18; refine hsc.mono ?_; rintro e w7 ⟨r, rfl, x7, rfl, o7, e7⟩)
    have y7 := Lib.hid o7.ll
    have e7h := Lib.hid (e6h.out.trans e7)
    have hdr := Lib.hid (show scan (s.drop N) = [] from by rw [hNh.out]; exact hMd.out)
    have hdl := Lib.hid (show (s.drop N).length = s.length - N from List.length_drop)
    clear hsc o7
    have d5 : (N : Int) ≤ (s.length : Int) := by omega
    have hfr := ((h0h.out.ext e7h.out)).from N hNs
    have hB := Lib.hid hfr.1
    have hA2 := Lib.hid hfr.2
    have hdl3 := Lib.hid (show (s.drop N).length ≤ 1000000 from by rw [hdl.out]; have := hsl.out; omega)
    have hw7 := Lib.hid (hwh.out.ext e7h.out)
    clear hfr
    go_cut [0, 17] (fun z t wd => z = .slice a0 s.length c0 ∧ t = .int .i64 0 ∧ Ext w7 wd)
    case first =>
      go_wp2_with (go_at_call 18; refine (scan_any _ (s.drop N) w7 hw7.out (by with_reducible first | exact hB.out (by assumption) | exact hA2.out (by assumption)) hdl3.out).mono ?_; rintro e w8 ⟨r, rfl, x8, rfl, o8, e8⟩)
      all_goals go_meet
      all_goals exact ⟨by first | rfl | rw [show c0 = N by assumption], by rw [hdr.out]; rfl, by assumption⟩
    case rest =>
      obtain ⟨rfl, rfl, e8⟩ := hcut
      obtain ⟨w8, rfl⟩ : ∃ W, W = wc := ⟨_, rfl⟩
      have y9 := Lib.hid ((y3b.out.ext e7).ext e8)
      have l9 := Lib.hid ((h1h.out.ext e7h.out).ext e8)
      have y10 := Lib.hid (y7.out.ext e8)
      have e8h := Lib.hid (e7h.out.trans e8)
      have hl9 := Lib.hid (show M.length + ls.length ≤ 3000 from by have := hml.out; have := hls.out; omega)
      go_wp2_with (first
        | (at_builtin; refine wpList_appendLLs (by kernel_rfl) (.tmp 98) (.tmp 99) rfl w8.heap.size _ [] rfl (OwnLL.empty rfl (Nat.le_refl _)) w8 rfl ((Ext.refl w8).alloc _) _ rfl M y9.out (by have := hl9.out; simp; omega) ?_; intro v4 w9 o4 g4; have e9 := ((Ext.refl w8).alloc (.cells #[] 22)).grown g4 fun k hk => by cases hk; exact Nat.le_refl _)
        | (at_builtin; go_must (refine wpList_appendLLs (by kernel_rfl) (.tmp 100) (.tmp 101) rfl w8.heap.size _ ([] ++ M) rfl o4 w8 rfl e9 _ rfl ls l9.out (by have := hl9.out; simp; omega) ?_); intro v5 w10 o5 g5; have e10 := e9.grown g5 fun k hk => (o4.own_lt k hk).1)
        | (go_at_call 21; refine (lists_any _ _ (M ++ ls) _ _ (y10.out.ext e10) o5.ll).mono ?_; rintro e w11 ⟨rfl, e11⟩))
      go_ret
      exact ⟨congrArg (fun b => Ending.returned (Value.bool b)) (seqL_true.2 rfl), e8h.out.trans (e10.trans e11)⟩
end Go.Proofs.YtmpjcnopakfdmaaDoor
