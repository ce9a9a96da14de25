/- TreeKeeps, walked. -/
import Derived.Test.YtmdepmohfnficaaDoorKpV
import Derived.Test.YtmdepmohfnficaaDoorKpB
import Derived.Deep.RegionHeld3
namespace Go.Proofs.YtmdepmohfnficaaDoor
set_option linter.unusedVariables false
set_option linter.unusedSimpArgs false
open Go.RowKit Rk Tr Kp

def toPr (p : Kv.Pr) : Pr := ⟨p.n, p.v⟩
theorem prsK_prs {w : World} {v : Value} {l : List Kv.Pr} (h : PrsK w v l) : Prs w v (l.map toPr) := by
  obtain ⟨a, cap, h1, h2, h3, h4, h5⟩ := h
  refine ⟨a, cap, by rw [List.length_map]; exact h1, by rw [List.length_map]; exact h2, h3, h4, fun j x hj => ?_⟩
  rw [List.getElem?_map] at hj
  cases hq : l[j]? with
  | none => rw [hq] at hj; cases hj
  | some y =>
    rw [hq] at hj
    cases hj
    obtain ⟨g, o, cs, k1, k2, k3, k4, k5⟩ := h5 j y hq
    exact ⟨g, o, cs, k1, k2, k3, k4, k5⟩
theorem tells_tl {L : List Kv.Pr} {a : List Rec} (h : Tells L a) (ha : Ok a) : Tl (L.map toPr) a := by
  refine ⟨ha, fun p => ?_, ?_⟩
  · rw [List.mem_map]
    constructor
    · rintro ⟨q, hq, rfl⟩
      obtain ⟨r, hr, rfl⟩ := (h.mem q).1 hq
      exact ⟨r, hr, rfl⟩
    · rintro ⟨r, hr, rfl⟩
      exact ⟨_, (h.mem _).2 ⟨r, hr, rfl⟩, rfl⟩
  · rw [List.length_map]
    have h1 : L.Nodup := h.srt.imp fun h e => Kv.lt_ne h (congrArg Kv.Pr.n e)
    have h2 : (a.map fun r => (⟨r.name, encS r⟩ : Kv.Pr)).Nodup := by
      have := ha.nodup
      unfold names List.Nodup at this
      rw [List.pairwise_map] at this
      unfold List.Nodup
      rw [List.pairwise_map]
      exact this.imp fun h e => h (congrArg Kv.Pr.n e)
    have := ((List.perm_ext_iff_of_nodup h1 h2).2 fun p => by
      rw [h.mem, List.mem_map]
      exact ⟨fun ⟨r, hr, e⟩ => ⟨r, hr, e.symm⟩, fun ⟨r, hr, e⟩ => ⟨r, hr, e.symm⟩⟩).length_eq
    rw [this, List.length_map]
theorem tl_small {ps : List Pr} {a : List Rec} (h : Tl ps a) : ∀ p ∈ ps, p.n.length ≤ 1000 ∧ p.v.length ≤ 1000 := fun p hp => by
  obtain ⟨r, hr, rfl⟩ := (h.mem p).1 hp
  have hrr := h.ok.right r hr
  have R := (right_iff _).1 hrr
  have hi := R.is
  unfold isI at hi
  simp only [Bool.and_eq_true] at hi
  have := pok_len hi.1
  have := R.parl
  have := R.user
  have := R.serv
  have := R.url
  refine ⟨by show r.name.length ≤ 1000; omega, ?_⟩
  show (encS r).length ≤ 1000
  unfold encS
  rw [if_pos hrr, enc_length]; omega
theorem diff_none {a b : List Rec} (h : ∀ r, r ∈ a ↔ r ∈ b) : IsDiff [] a b := ⟨List.Pairwise.nil, fun c => by rw [raw_none h]⟩
theorem eqB_self' {α : Type} (a : α) : eqB a a = true := eqB_self a
/-- the document's tree, as the law lays it -/
theorem box_tr {W : World} {F : Nat → Prop} {v : Value} {l : List Rec} (h : OwnR W F v l) : TrM 34 (W.alloc (.cells #[.int .i64 0, v] 34)) (fun _ => True) W.heap.size 0 l :=
  ⟨v, heap_alloc_new W _, trivial, (h.ext ((Ext.refl W).alloc _)).mono fun _ _ => trivial⟩
attribute [local irreducible] rcells ocells fewI runL encS req
set_option maxRecDepth 20000 in
set_option maxHeartbeats 4000000 in
theorem treeKeeps_any (z : Int) (v1 : Value) (l1 : List Top) (v2 : Value) (l2 : List Top) (w : World) (hw : Pres w) (h1 : TOps w v1 l1) (h2 : TOps w v2 l2) :
    Calls Tryd.prog 12 #[.int .i64 z, v1, v2] w fun e w' => e = .returned (.bool true) ∧ Ext w w' := by
  have hwh := Lib.hid hw
  have h1h := Lib.hid h1
  have h2h := Lib.hid h2
  have hsh := Lib.hid (Rw.shape h2)
  obtain ⟨a1, c1, rfl, -⟩ := Rw.shape h1
  obtain ⟨a2, c2, rfl, hlm, -⟩ := Rw.shape h2
  have hA := awake14_any w hw
  clear hw h1 h2
  go_enter Tryd.func12, Tryd.ntmps12
  go_upto_region 2 with (go_at_call 20; refine hA.mono ?_; rintro e W1 ⟨rfl, e1⟩)
  have hf1 := fewT_any _ l1 W1 (h1h.out.ext e1)
  clear hA
  go_upto_region 3 with (go_at_call 21; refine hf1.mono ?_; rintro e W2 ⟨rfl, e2⟩)
  have e02 := e1.trans e2
  have hf2 := fewT_any _ l2 W2 (h2h.out.ext e02)
  clear hf1 e1 e2
  go_upto_region 4 with (go_at_call 21; refine hf2.mono ?_; rintro e W3 ⟨rfl, e3⟩)
  have e03 := e02.trans e3
  clear hf2 e02 e3
  cases k1 : fewT l1
  · go_wp2
    go_ret
    exact ⟨rfl, e03⟩
  cases k2 : fewT l2
  · go_wp2
    go_ret
    exact ⟨rfl, e03⟩
  by_cases h30 : (30 : Int) < (l2.length : Int)
  · go_wp2
    go_ret
    exact ⟨rfl, e03⟩
  have hT := walked_any z _ l1 W3 (h1h.out.ext e03) (hwh.out.ext e03)
  go_upto_region 7 with (go_at_call 22; refine hT.mono ?_; rintro e W4 ⟨p, rfl, t4⟩)
  have hSt := Lib.hid (St.run l1 (St.nil (roomN_le z)))
  obtain ⟨L, hL⟩ : ∃ L, L = runL (roomN z) [] l1 := ⟨_, rfl⟩
  rw [← hL] at t4 hSt
  obtain ⟨room, hroom⟩ : ∃ r, r = roomN z := ⟨_, rfl⟩
  rw [← hroom] at t4 hSt
  have hroomh := Lib.hid hroom
  clear hL hT k1 k2 h30 hroom
  have hl := Lib.hid hSt.out.small
  have hc := copy_any t4.1 (by have := hl.out; omega)
  have e04 := e03.trans t4.2
  have tp := t4.1.lt
  have hz3 := e03.size
  clear t4 e03
  go_upto_region 10 with (go_at_call 23; refine hc.mono ?_; rintro e W5 ⟨_, rfl, q, rfl, tq, e5⟩)
  have tp := tp.ext e5
  have tq := tq.lt
  have e05 := e04.trans e5
  have hz5 := e5.size
  have hz4 := e04.size
  have hN := new_any 0 W5
  clear hc e5 e04
  go_upto_region 11 with (go_at_call 36; refine hN.mono ?_; rintro e W6 ⟨_, rfl, rfl, tn, e6⟩)
  have tp := Lib.hid (tp.ext e6)
  have tn := Lib.hid tn
  have g0 := Lib.hid (Gr.start (tq.ext e6))
  have hz6 := e6.size
  have e06 := Lib.hid (e05.trans e6)
  obtain ⟨n, hn⟩ : ∃ n, n = W5.heap.size := ⟨_, rfl⟩
  rw [← hn] at tn ⊢
  have hnh := Lib.hid hn
  generalize roomN 0 = rn at *
  clear hN e6 tq e05 hn
  go_wp2
  go_loopw [13] (fun i wr => ∃ k : Nat, k ≤ l2.length ∧ i = .int .i64 (k : Int) ∧ RowKit.Hid (Gr W6 wr (fun k => W4.heap.size ≤ k ∧ k < W5.heap.size) q room (runL room L (l2.take k)))) (fun i _ => l2.length - (intOf i).toNat)
  case atStart => exact ⟨0, Nat.zero_le _, rfl, Lib.hid (by rw [show runL room L (l2.take 0) = L by unfold runL; rfl]; exact g0.out)⟩
  case round =>
    obtain ⟨k, hk, rfl, hg⟩ := hrel
    have e0r := e06.out.chg hg.out.2 (fun j hj => by have := hj.1; omega)
    by_cases hlt : k < l2.length
    · obtain ⟨x, hx⟩ := some_at hlt
      obtain ⟨a', c', hq, -, hgh⟩ := hsh.out
      cases hq
      obtain ⟨g, o, cs, rfl, hr, rfl, hf⟩ := hgh k x hx
      have hki : (k : Int) < (l2.length : Int) := by omega
      have hw : IntKind.i64.wrap ((k : Int) + 1) = (k : Int) + 1 := by rw [IntKind.wrap_i64]; omega
      have hr2 : wr.rangeAt g (o + k * 11) (orow x) := fun i u hu => e0r.cell (hr i u hu)
      have hd := do_any x hg.out.1 (St.run (l2.take k) hSt.out) hf (hwh.out.ext e0r)
      have hst := Lib.hid (runL_step room hx L)
      clear hr hx hf hgh hsh g0 e0r
      go_wp2_with (first
        | (refine wpList_load_top (by rfl) _ rfl g (o + k * 11) rfl x hr2 ?_)
        | (go_at_call 26; refine hd.mono ?_; rintro e w2 ⟨u, rfl, -, ⟨a2, c2, rfl⟩, h2, g2⟩))
      go_roundw
      case rel => exact ⟨k + 1, by omega, by go_num, Lib.hid (by rw [hst.out]; exact hg.out.step h2 g2)⟩
      case measure => simp [intOf]; omega
    · obtain rfl : k = l2.length := by omega
      rw [List.take_length] at hg
      have hStC := Lib.hid (St.run l2 hSt.out)
      obtain ⟨C, hC⟩ : ∃ C, C = runL room L l2 := ⟨_, rfl⟩
      rw [← hC] at hg hStC
      obtain ⟨gq, gc⟩ := hg.out
      have tp2 := tp.out.chg gc (fun k hk _ h => by have := hk.2; have := h.1; omega)
      have tn2 := tn.out.chg gc (fun k hk _ h => by have := hnh.out; have := h.2; omega)
      have hlC := Lib.hid (show C.length ≤ 64 from hStC.out.small)
      have hCroom := Lib.hid (show C.length ≤ room from hStC.out.len)
      have okL := Lib.hid hSt.out.ok
      have okC := Lib.hid hStC.out.ok
      have hP := Lib.hid (hwh.out.ext e0r)
      have tP := Lib.hid (fun W (e : Ext wr W) => tp2.ext e)
      have tQ := Lib.hid (fun W (e : Ext wr W) => gq.ext e)
      have tN := Lib.hid (fun W (e : Ext wr W) => tn2.ext e)
      clear hC hg g0 tp tn gq gc tp2 tn2 hSt hStC hwh h1h h2h hsh e06 hlt hk
      obtain ⟨d, hd⟩ := exists_diff okL.out.nodup okC.out.nodup
      obtain ⟨d1, hd1⟩ := exists_diff (a := []) (b := L) List.nodup_nil okL.out.nodup
      obtain ⟨d3, hd3⟩ := exists_diff (a := []) (b := C) List.nodup_nil okC.out.nodup
      have ld := Lib.hid (show d.length ≤ 128 by
        rw [hd.len okL.out.nodup okC.out.nodup]
        have := raw_len L C
        have := hl.out
        have := hlC.out
        omega)
      have ld1 := Lib.hid (show d1.length ≤ 64 by
        rw [hd1.len List.nodup_nil okL.out.nodup]
        have := raw_len [] L
        rw [List.length_nil] at this
        have := hl.out
        omega)
      have ld3 := Lib.hid (show d3.length ≤ 64 by
        rw [hd3.len List.nodup_nil okC.out.nodup]
        have := raw_len [] C
        rw [List.length_nil] at this
        have := hlC.out
        omega)
      have T1 := Lib.hid (diff_after hd1 tells_nil List.nodup_nil okL.out.nodup)
      have T2 := Lib.hid (diff_after hd T1.out okL.out.nodup okC.out.nodup)
      have T3 := Lib.hid ((diff_after hd3 tells_nil List.nodup_nil okC.out.nodup).one T2.out)
      obtain ⟨P1, hP1⟩ : ∃ P, P = Kv.after [] d1 := ⟨_, rfl⟩
      obtain ⟨P2, hP2⟩ : ∃ P, P = Kv.after P1 d := ⟨_, rfl⟩
      rw [← hP1] at T1 T2 T3
      rw [← hP2] at T2 T3
      have l1h := Lib.hid (show P1.length ≤ 64 by rw [hP1]; have := Kv.after_len d1 []; have := ld1.out; simp at *; omega)
      have hP1h := Lib.hid hP1
      have hP2h := Lib.hid hP2
      clear hP1 hP2
      have hdh := Lib.hid hd
      have hd1h := Lib.hid hd1
      have hd3h := Lib.hid hd3
      clear hd hd1 hd3
      have eW := Ext.refl wr
      have A1 := all_any (tP.out wr eW) (by have := hl.out; omega)
      go_upto_region 18 with (go_at_call 25; refine A1.mono ?_; rintro e W7 ⟨v7, rfl, o7, ⟨a7, c7, rfl⟩, e7⟩)
      have w7 := Lib.hid (box_tr o7)
      have e8 := e7.alloc (.cells #[.int .i64 0, .slice a7 L.length c7] 34)
      generalize W7.alloc (.cells #[.int .i64 0, .slice a7 L.length c7] 34) = W8 at *
      generalize W7.heap.size = pw at *
      have A2 := all_any (tQ.out W8 e8) (by have := hlC.out; omega)
      clear A1 o7 e7 eW
      go_upto_region 19 with (go_at_call 25; refine A2.mono ?_; rintro e W9 ⟨v9, rfl, o9, ⟨a9, c9, rfl⟩, e9⟩)
      have x9 := Lib.hid (box_tr o9)
      have e910 := e9.alloc (.cells #[.int .i64 0, .slice a9 C.length c9] 34)
      have w10 := Lib.hid (w7.out.ext e910)
      have e10 := e8.trans e910
      generalize W9.alloc (.cells #[.int .i64 0, .slice a9 C.length c9] 34) = W10 at *
      generalize W9.heap.size = px at *
      have D1 := diff_any (tP.out W10 e10) (tQ.out W10 e10) okL.out.nodup okC.out.nodup hdh.out (by have := hl.out; omega) (by have := hlC.out; omega) (hP.out.ext e10)
      clear A2 o9 e9 e910 e8 w7
      go_upto_region 20 with (go_at_call 48; refine D1.mono ?_; rintro e W11 ⟨u11, rfl, o11, e11⟩)
      obtain ⟨a11, c11, rfl⟩ := o11.shapeN
      have cd := Lib.hid (o11.rs (by decide) chc_len)
      have w11 := w10.out.ext e11
      have x11 := x9.out.ext e11
      have x11h := Lib.hid x11
      have e011 := e10.trans e11
      have D2 := refDiff_any w11 x11 okL.out okC.out hdh.out (by have := hl.out; omega) (by have := hlC.out; omega)
      clear D1 o11 e11 e10 w10 x9 w11 x11
      have hlC' := Lib.hid (show C.length ≤ 1000 by have := hlC.out; omega)
      have hl' := Lib.hid (show L.length ≤ 1000 by have := hl.out; omega)
      go_upto_region 22 with (first
        | (go_at_call 50; refine D2.mono ?_; rintro e W12 ⟨u12, rfl, c12, e12⟩; have H3 := refChs_any _ _ d d W12 (cd.out.ext e12) c12; rw [eqB_self'] at H3)
        | (go_at_call 49; refine H3.mono ?_; rintro e W13 ⟨rfl, e13⟩; have e013 := (e011.trans e12).trans e13; have D4 := diff_any (tQ.out W13 e013) (tQ.out W13 e013) okC.out.nodup okC.out.nodup (diff_none fun _ => Iff.rfl) hlC'.out hlC'.out (hP.out.ext e013))
        | (go_at_call 48; refine D4.mono ?_; rintro e W14 ⟨u14, rfl, o14, e14⟩; obtain ⟨a14, c14, rfl⟩ := o14.shapeN))
      have e014 := e013.trans e14
      have x14 := Lib.hid (x11h.out.ext ((e12.trans e13).trans e14))
      have cd14 := Lib.hid (cd.out.ext ((e12.trans e13).trans e14))
      have D5 := diff_any (tN.out W14 e014) (tP.out W14 e014) List.nodup_nil okL.out.nodup hd1h.out (by simp) hl'.out (hP.out.ext e014)
      clear D2 H3 D4 c12 o14 e12 e13 e14 cd x11h e011 e013
      go_upto_region 23 with (first
        | (go_at_call 48; refine D5.mono ?_; rintro e W15 ⟨u15, rfl, o15, e15⟩; have H6 := refAfter_any _ _ [] d1 W15 (Rs.nil W15) (o15.rs (by decide) chc_len) (by have := ld1.out; simp; omega) Kv.srt_nil; rw [← hP1h.out] at H6)
        | (go_at_call 51; refine H6.mono ?_; rintro e W16 ⟨u16, rfl, k16, e16⟩))
      have e016 := (e014.trans e15).trans e16
      have x16 := Lib.hid (x14.out.ext (e15.trans e16))
      have H7 := refAfter_any _ _ P1 d W16 k16 (cd14.out.ext (e15.trans e16)) (by have := ld.out; have := l1h.out; omega) T1.out.srt
      rw [← hP2h.out] at H7
      clear D5 H6 o15 e15 x14 e014 cd14
      obtain ⟨a16, c16, rfl, -⟩ := k16.shape
      go_upto_region 24 with (go_at_call 51; refine H7.mono ?_; rintro e W17 ⟨u17, rfl, k17, e17⟩)
      have e017 := e016.trans e17
      have x17 := Lib.hid (x16.out.ext e17)
      have k17h := Lib.hid k17
      obtain ⟨a17, c17, rfl, -⟩ := k17.shape
      have D8 := diff_any (tN.out W17 e017) (tQ.out W17 e017) List.nodup_nil okC.out.nodup hd3h.out (by simp) hlC'.out (hP.out.ext e017)
      clear H7 k16 k17 e16 e17 e016 x16
      go_upto_region 26 with (first
        | (go_at_call 48; refine D8.mono ?_; rintro e W18 ⟨u18, rfl, o18, e18⟩; have H9 := refAfter_any _ _ [] d3 W18 (Rs.nil W18) (o18.rs (by decide) chc_len) (by have := ld3.out; simp; omega) Kv.srt_nil; rw [T3.out] at H9)
        | (go_at_call 51; refine H9.mono ?_; rintro e W19 ⟨u19, rfl, k19, e19⟩; have H10 := refPrs_any _ _ P2 P2 W19 (k17h.out.ext (e18.trans e19)) k19; rw [eqB_self'] at H10)
        | (go_at_call 52; refine H10.mono ?_; rintro e W20 ⟨rfl, e20⟩))
      have e1820 := (e18.trans e19).trans e20
      have e020 := e017.trans e1820
      have x20 := Lib.hid (x17.out.ext e1820)
      have tl := Lib.hid (tells_tl T2.out okC.out)
      have k20 := prsK_prs (k17h.out.ext e1820)
      have hLd := load_any z _ (P2.map toPr) W20 k20 (tl_small tl.out) (hP.out.ext e020)
      obtain ⟨U, hU1, hU2, hU3, hU4⟩ := load_tells tl.out hCroom.out
      rw [← hroomh.out, hU1] at hLd
      have hLd2 : Calls Tryd.prog 46 #[.int .i64 z, .slice a17 P2.length c17] W20 fun e w' => ∃ p : Nat, e = .returned (.tuple #[.pointer (some ⟨p, 0, none⟩), .int .i64 0]) ∧ TrB W20 w' p room U := hLd.mono fun e w' h => by
        rcases h with ⟨t, p, h1, h2, h3⟩ | ⟨h, -⟩
        · cases h1; exact ⟨p, h2, h3⟩
        · cases h
      have hU2h := Lib.hid hU2
      have hU3h := Lib.hid hU3
      have hU4h := Lib.hid hU4
      clear hU2 hU3 hU4 D8 H9 H10 o18 k19 e18 e19 e20 e1820 e017 x17 k17h hLd hU1 k20
      go_upto_region 27 with (go_at_call 46; refine hLd2.mono ?_; rintro e W21 ⟨pk, rfl, t21⟩)
      have eD := (Ext.refl W21).drew
      have e0D := (e020.trans t21.2).trans eD
      obtain ⟨ax, cx, -, cX, -⟩ := (x20.out.ext t21.2).parts
      have hX := Lib.hid (show ∀ W, Ext W21 W → W.cell? ⟨px, 1, none⟩ = some (.slice ax C.length cx) from fun W e => e.cell cX)
      have hUC := Lib.hid (hU4h.out)
      have hA := all_any (t21.1.ext eD) (by rw [hU4h.out]; exact hlC'.out)
      have hDk := Lib.hid (show ∀ W, Ext W21.drew W → Calls Tryd.prog 48 #[.pointer (some ⟨pk, 0, none⟩), .pointer (some ⟨q, 0, none⟩)] W (Ret fun u w' => OwnC w' (fun j => W.heap.size ≤ j) u [] ∧ Ext W w') from fun W e => diff_any (t21.1.ext (eD.trans e)) (tQ.out W (e0D.trans e)) hU2h.out.nodup okC.out.nodup (diff_none hU3h.out) (by rw [hU4h.out]; exact hlC'.out) hlC'.out (hP.out.ext (e0D.trans e)))
      have hDc := Lib.hid (show ∀ W, Ext W21.drew W → Calls Tryd.prog 48 #[.pointer (some ⟨q, 0, none⟩), .pointer (some ⟨pk, 0, none⟩)] W (Ret fun u w' => OwnC w' (fun j => W.heap.size ≤ j) u [] ∧ Ext W w') from fun W e => diff_any (tQ.out W (e0D.trans e)) (t21.1.ext (eD.trans e)) okC.out.nodup hU2h.out.nodup (diff_none fun r => (hU3h.out r).symm) hlC'.out (by rw [hU4h.out]; exact hlC'.out) (hP.out.ext (e0D.trans e)))
      have e0Dh := Lib.hid (e0r.trans e0D)
      rw [hU4h.out] at *
      clear cX t21 x20 e020 e0r e0D tP tQ tN hP tl T1 T2 T3 hdh hd1h hd3h hP1h hP2h hUC hU2h hU3h hU4h
      go_region_held3 (fun W => W.cell? ⟨px, 1, none⟩ = some (.slice ax C.length cx))
        ((refine hX.out _ ?_; first | exact ((eD.trans e22).trans e23).trans e24 | exact (eD.trans e22).trans e23 | exact eD.trans e22 | exact eD))
        (first
          | (go_at_call 25; refine hA.mono ?_; rintro e W22 ⟨v22, rfl, o22, ⟨a22, c22, rfl⟩, e22⟩)
          | (go_at_call 48; first
              | ((with_reducible refine (hDk.out W22 e22).mono ?_); rintro e W23 ⟨u23, rfl, o23, e23⟩; obtain ⟨a23, c23, rfl⟩ := o23.shapeN)
              | ((with_reducible refine (hDc.out W23 (e22.trans e23)).mono ?_); rintro e W24 ⟨u24, rfl, o24, e24⟩; obtain ⟨a24, c24, rfl⟩ := o24.shapeN)))
      all_goals go_wp2
      all_goals go_ret
      all_goals exact ⟨rfl, ((e0Dh.out.trans e22).trans e23).trans e24⟩
end Go.Proofs.YtmdepmohfnficaaDoor
