/- TreeCopies, walked. -/
import Derived.Test.YtmdepmohfnficaaDoorGTs
namespace Go.Proofs.YtmdepmohfnficaaDoor
set_option linter.unusedVariables false
set_option linter.unusedSimpArgs false
open Go.RowKit Rk Tr

/-- a tree that goes on from W0 in blocks of G, and in new ones -/
def Gr (W0 w : World) (G : Nat → Prop) (p room : Nat) (l : List Rec) : Prop := TrM 96 w (fun k => G k ∨ W0.heap.size ≤ k) p room l ∧ Chg G W0 w
theorem Gr.start {W0 : World} {G : Nat → Prop} {p room : Nat} {l : List Rec} (h : TrM 96 W0 G p room l) : Gr W0 W0 G p room l := ⟨h.mono fun _ => Or.inl, Chg.refl _ _⟩
theorem Gr.step {W0 w w' : World} {G : Nat → Prop} {p room : Nat} {l l' : List Rec} (h : Gr W0 w G p room l) (k : TrM 96 w' (fun k => (G k ∨ W0.heap.size ≤ k) ∨ w.heap.size ≤ k) p room l') (c : Chg (fun k => G k ∨ W0.heap.size ≤ k) w w') : Gr W0 w' G p room l' :=
  ⟨k.mono fun j hj => hj.elim id fun h' => .inr (Nat.le_trans h.2.size h'), h.2.then c fun i hi h => h.elim id fun h => by omega⟩
theorem Gr.ext {W0 w w' : World} {G : Nat → Prop} {p room : Nat} {l : List Rec} (h : Gr W0 w G p room l) (e : Ext w w') : Gr W0 w' G p room l := ⟨h.1.ext e, h.2.ext e⟩
theorem recsB_self (l : List Rec) : recsB l l = true := decide_eq_true rfl
theorem records_same (v u : Value) (l : List Rec) (w : World) (hb : Recs w v l) (hc : Recs w u l) :
    Calls Tryd.prog 24 #[v, u] w fun e w' => e = .returned (.bool true) ∧ Ext w w' := by
  have := records_any v u l l w hb hc
  rw [recsB_self] at this
  exact this
attribute [local irreducible] rcells ocells fewI runL
set_option maxRecDepth 20000 in
set_option maxHeartbeats 4000000 in
theorem treeCopies_any (z : Int) (v1 : Value) (l1 : List Top) (v2 : Value) (l2 : List Top) (w : World) (hw : Pres w) (h1 : TOps w v1 l1) (h2 : TOps w v2 l2) :
    Calls Tryd.prog 4 #[.int .i64 z, v1, v2] w fun e w' => e = .returned (.bool true) ∧ Ext w w' := by
  have hwh := Lib.hid hw
  have h1h := Lib.hid h1
  have h2h := Lib.hid h2
  have hsh := Lib.hid (Rw.shape h2)
  obtain ⟨a1, c1, rfl, -⟩ := Rw.shape h1
  obtain ⟨a2, c2, rfl, hlm, -⟩ := Rw.shape h2
  have hA := awake14_any w hw
  clear hw h1 h2
  go_enter Tryd.func4, Tryd.ntmps4
  go_upto_region 2 with (go_at_call 20; refine hA.mono ?_; rintro e W1 ⟨rfl, e1⟩)
  have hf1 := fewT_any _ l1 W1 (h1h.out.ext e1)
  clear hA
  go_upto_region 3 with (go_at_call 21; refine hf1.mono ?_; rintro e W2 ⟨rfl, e2⟩)
  have e02 := e1.trans e2
  have hf2 := fewT_any _ l2 W2 (h2h.out.ext e02)
  clear hf1 e1 e2
  go_upto_region 4 with (go_at_call 21; refine hf2.mono ?_; rintro e W3 ⟨rfl, e3⟩)
  have e03 := e02.trans e3
  clear hf2 e02 e3
  cases k1 : fewT l1
  · go_wp2
    go_ret
    exact ⟨rfl, e03⟩
  cases k2 : fewT l2
  · go_wp2
    go_ret
    exact ⟨rfl, e03⟩
  have hT := walked_any z _ l1 W3 (h1h.out.ext e03) (hwh.out.ext e03)
  go_upto_region 7 with (go_at_call 22; refine hT.mono ?_; rintro e W4 ⟨p, rfl, t4⟩)
  have hSt := Lib.hid (St.run l1 (St.nil (roomN_le z)))
  obtain ⟨L, hL⟩ : ∃ L, L = runL (roomN z) [] l1 := ⟨_, rfl⟩
  rw [← hL] at t4 hSt
  generalize roomN z = room at *
  clear hL hT k1 k2
  have hl := Lib.hid hSt.out.small
  have hc := copy_any t4.1 (by have := hl.out; omega)
  have e04 := e03.trans t4.2
  have tp := t4.1.lt
  have hz3 := e03.size
  clear t4 e03
  go_upto_region 10 with (go_at_call 23; refine hc.mono ?_; rintro e W5 ⟨_, rfl, q, rfl, tq, e5⟩)
  have tp := tp.ext e5
  have tq := tq.lt
  have e05 := e04.trans e5
  have hz5 := e5.size
  have hz4 := e04.size
  have A1 := all_any tq (by have := hl.out; omega)
  have hTP := Lib.hid (fun W (e : Ext W5 W) => all_any (tp.ext e) (by have := hl.out; omega))
  clear hc e5 e04
  go_upto_region 12 with (first
    | (go_at_call 25; first | ((with_reducible refine A1.mono ?_); rintro e W6 ⟨v6, rfl, o6, ⟨a6, c6, rfl⟩, e6⟩; have A2 := hTP.out W6 e6) | ((with_reducible refine A2.mono ?_); rintro e W7 ⟨v7, rfl, o7, ⟨a7, c7, rfl⟩, e7⟩; have R1 := records_same _ _ _ W7 (o6.ext e7).recs o7.recs))
    | (go_at_call 24; refine R1.mono ?_; rintro e W8 ⟨rfl, e8⟩; have e58 := (e6.trans e7).trans e8))
  have A3 := hTP.out W8 e58
  clear A1 A2 R1 e6 e7 e8 o6 o7
  go_upto_region 13 with (go_at_call 25; refine A3.mono ?_; rintro e W9 ⟨v9, rfl, o9, ⟨a9, c9, rfl⟩, e9⟩)
  have e59 := e58.trans e9
  have tp := Lib.hid (tp.ext e59)
  have tq := tq.ext e59
  have o9 := Lib.hid o9.lt
  have hz9 := e59.size
  have hz8 := e58.size
  have hz10 := e9.size
  have e09 := Lib.hid (e05.trans e59)
  clear A3 hTP e58 e9 e59 e05
  have g0 := Lib.hid (Gr.start tq)
  clear tq
  go_wp2
  go_loopw [13] (fun i wr => ∃ k : Nat, k ≤ l2.length ∧ i = .int .i64 (k : Int) ∧ RowKit.Hid (Gr W9 wr (fun k => W4.heap.size ≤ k ∧ k < W5.heap.size) q room (runL room L (l2.take k)))) (fun i _ => l2.length - (intOf i).toNat)
  case atStart => exact ⟨0, Nat.zero_le _, rfl, Lib.hid (by rw [show runL room L (l2.take 0) = L by unfold runL; rfl]; exact g0.out)⟩
  case round =>
    obtain ⟨k, hk, rfl, hg⟩ := hrel
    have e0r := e09.out.chg hg.out.2 (fun j hj => by have := hj.1; omega)
    by_cases hlt : k < l2.length
    · obtain ⟨x, hx⟩ := some_at hlt
      obtain ⟨a', c', hq, -, hgh⟩ := hsh.out
      cases hq
      obtain ⟨g, o, cs, rfl, hr, rfl, hf⟩ := hgh k x hx
      have hki : (k : Int) < (l2.length : Int) := by omega
      have hw : IntKind.i64.wrap ((k : Int) + 1) = (k : Int) + 1 := by rw [IntKind.wrap_i64]; omega
      have hr2 : wr.rangeAt g (o + k * 11) (orow x) := fun i u hu => e0r.cell (hr i u hu)
      have hd := do_any x hg.out.1 (St.run (l2.take k) hSt.out) hf (hwh.out.ext e0r)
      have hst := Lib.hid (runL_step room hx L)
      clear hr hx hf hgh hsh g0 e0r
      go_wp2_with (first
        | (refine wpList_load_top (by rfl) _ rfl g (o + k * 11) rfl x hr2 ?_)
        | (go_at_call 26; refine hd.mono ?_; rintro e w2 ⟨u, rfl, -, ⟨a2, c2, rfl⟩, h2, g2⟩))
      go_roundw
      case rel => exact ⟨k + 1, by omega, by go_num, Lib.hid (by rw [hst.out]; exact hg.out.step h2 g2)⟩
      case measure => simp [intOf]; omega
    · obtain rfl : k = l2.length := by omega
      rw [List.take_length] at hg
      obtain ⟨gq, gc⟩ := hg.out
      have tp2 := tp.out.chg gc (fun k hk _ h => by have := hk.2; have := h.1; omega)
      have o92 := o9.out.chg gc (fun g cur _ hk h => by have := hk.1; have := h.2; omega)
      have gq := gq.lt
      have hzr := gc.size
      have A4 := all_any tp2 (by have := hl.out; omega)
      clear hg g0 tp o9 e09 gc
      go_upto_region 19 with (first
        | (go_at_call 25; refine A4.mono ?_; rintro e W10 ⟨v10, rfl, o10, ⟨a10, c10, rfl⟩, e10⟩; have R2 := records_same _ _ _ W10 o10.recs (o92.ext e10).recs)
        | (go_at_call 24; refine R2.mono ?_; rintro e W11 ⟨rfl, e11⟩; have er11 := e10.trans e11))
      have tp := Lib.hid (Gr.start (tp2.ext er11))
      have gq := Lib.hid (gq.ext er11)
      have e011 := Lib.hid (e0r.trans er11)
      have hz11 := er11.size
      clear A4 R2 tp2 o92 e10 e11 er11 o10 e0r
      have hL2 := Lib.hid (show (runL room L l2).length ≤ 64 from (St.run l2 hSt.out).small)
      go_wp2
      go_loopw [14] (fun i wr => ∃ k : Nat, k ≤ l2.length ∧ i = .int .i64 (k : Int) ∧ RowKit.Hid (Gr W11 wr (fun k => w.heap.size ≤ k ∧ k < W4.heap.size) p room (runL room L (l2.take k)))) (fun i _ => l2.length - (intOf i).toNat)
      case atStart => exact ⟨0, Nat.zero_le _, rfl, Lib.hid (by rw [show runL room L (l2.take 0) = L by unfold runL; rfl]; exact ⟨tp.out.1.mono fun k hk => hk.imp (fun h => ⟨by omega, h.2⟩) id, tp.out.2.mono fun k h => ⟨by omega, h.2⟩⟩)⟩
      case round =>
        obtain ⟨k, hk, rfl, hg⟩ := hrel
        have e0r := e011.out.chg hg.out.2 (fun j hj => by have := hj.1; omega)
        by_cases hlt : k < l2.length
        · obtain ⟨x, hx⟩ := some_at hlt
          obtain ⟨a', c', hq, -, hgh⟩ := hsh.out
          cases hq
          obtain ⟨g, o, cs, rfl, hr, rfl, hf⟩ := hgh k x hx
          have hki : (k : Int) < (l2.length : Int) := by omega
          have hw : IntKind.i64.wrap ((k : Int) + 1) = (k : Int) + 1 := by rw [IntKind.wrap_i64]; omega
          have hr2 : wr.rangeAt g (o + k * 11) (orow x) := fun i u hu => e0r.cell (hr i u hu)
          have hd := do_any x hg.out.1 (St.run (l2.take k) hSt.out) hf (hwh.out.ext e0r)
          have hst := Lib.hid (runL_step room hx L)
          clear hr hx hf hgh hsh e0r
          go_wp2_with (first
            | (refine wpList_load_top (by rfl) _ rfl g (o + k * 11) rfl x hr2 ?_)
            | (go_at_call 26; refine hd.mono ?_; rintro e w2 ⟨u, rfl, -, ⟨a2, c2, rfl⟩, h2, g2⟩))
          go_roundw
          case rel => exact ⟨k + 1, by omega, by go_num, Lib.hid (by rw [hst.out]; exact hg.out.step h2 g2)⟩
          case measure => simp [intOf]; omega
        · obtain rfl : k = l2.length := by omega
          rw [List.take_length] at hg
          obtain ⟨gp, gc⟩ := hg.out
          have gq2 := gq.out.chg gc (fun k hk _ h => by have := hk.1; have := h.2; omega)
          have hTP := Lib.hid (fun W (e : Ext wr W) => all_any (gq2.ext e) (by have := hL2.out; omega))
          have A5 := all_any gp (by have := hL2.out; omega)
          clear hg tp e011 gc gp gq gq2
          go_wp2_with (first
            | (go_at_call 25; first | ((with_reducible refine A5.mono ?_); rintro e W12 ⟨v12, rfl, o12, ⟨a12, c12, rfl⟩, e12⟩; have A6 := hTP.out W12 e12) | ((with_reducible refine A6.mono ?_); rintro e W13 ⟨v13, rfl, o13, ⟨a13, c13, rfl⟩, e13⟩; have R3 := records_same _ _ _ W13 (o12.ext e13).recs o13.recs))
            | (go_at_call 24; refine R3.mono ?_; rintro e W14 ⟨rfl, e14⟩))
          go_ret
          exact ⟨rfl, ((e0r.trans e12).trans e13).trans e14⟩
end Go.Proofs.YtmdepmohfnficaaDoor
