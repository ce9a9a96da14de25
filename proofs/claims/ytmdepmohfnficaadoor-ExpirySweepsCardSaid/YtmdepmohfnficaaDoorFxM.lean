/- ExpiryClean, walked. -/
import Derived.Test.YtmdepmohfnficaaDoorFxL
namespace Go.Proofs.YtmdepmohfnficaaDoor
set_option linter.unusedVariables false
set_option linter.unusedSimpArgs false
open Go.RowKit Rk Tr

theorem Chg.cellC {P : Nat → Prop} {w w' : World} (c : Chg P w w') {a : Addr} {v : Value} (h : w.cell? a = some v) (hn : ¬ P a.block) : w'.cell? a = some v := (World.cell?_of_block (c.block a.block (World.block_lt_of_cell? w a h) hn)).trans h
theorem Chg.heapC {P : Nat → Prop} {w w' : World} (c : Chg P w w') {k : Nat} {v : Obj} (h : w.heap[k]? = some v) (hn : ¬ P k) : w'.heap[k]? = some v := (c.block k (Array.getElem?_eq_some_iff.1 h).1 hn).trans h
theorem Chg.next {G H : Nat → Prop} {a b c : World} (h : Chg G a b) (k : Chg H b c) (hH : ∀ j, H j → j < a.heap.size → G j) : Chg G a c :=
  ⟨k.os.trans h.os, k.tape.trans h.tape, k.output.trans h.output, Nat.le_trans h.size k.size, fun i hi hp => (k.block i (Nat.lt_of_lt_of_le hi h.size) (fun hh => hp (hH i hh hi))).trans (h.block i hi hp)⟩
theorem Own.based {E : TypeId} {w : World} {base n cap : Nat} {a : Option Addr} {l : List (List UInt8)} (h : Own sv E w base (.slice a n cap) l) {j : Nat} {x : List UInt8} (hx : l[j]? = some x) : ∃ g o, a = some ⟨g, o, none⟩ ∧ base ≤ g ∧ w.cell? ⟨g, o + j, none⟩ = some (sv x) := by
  obtain ⟨a', cap', e, hs, hb⟩ := h.shape
  cases e
  obtain ⟨g, o, rfl, hc⟩ := hs.cells j x hx
  exact ⟨g, o, rfl, hb g rfl, hc⟩
attribute [local irreducible] pcA rcells liveI holdsI offI aliveI deadI topI sweepI bldL rightP tmI
set_option linter.unusedSimpArgs false in
set_option maxRecDepth 20000 in
set_option maxHeartbeats 4000000 in
theorem expiryClean_any (v1 : Value) (l1 : List Rec) (f : Nat → Int) (now : Int) (w : World) (hw : Pres w) (h1 : Recs w v1 l1) :
    Calls Tryd.prog 10 #[v1, .agg (pcA f), .int .i64 now] w fun e w' => e = .returned (.bool true) ∧ Ext w w' := by
  have hg := heap_alloc_new w (.cells (pcA f) 25)
  have e1 := (Ext.refl w).alloc (.cells (pcA f) 25)
  have h1h := Lib.hid h1
  have hwh := Lib.hid hw
  obtain ⟨a1, c1, rfl, -⟩ := Rw.shape h1
  clear hw h1
  go_enter Tryd.func10, Tryd.ntmps10
  go_upto_region 1 with fail
  generalize w.alloc (.cells (pcA f) 25) = W1 at *
  generalize w.heap.size = B0 at *
  have e1h := Lib.hid e1
  have hgh := Lib.hid hg
  clear e1 hg
  go_upto_region 3 with (first
    | (go_at_call 13; refine (awake15_any _).mono ?_; rintro e W2 ⟨rfl, e2⟩; have hg2 := Lib.hid (e2.heap hgh.out))
    | (refine wpList_load_rowG (by rfl) 25 _ rfl B0 rfl 25 (pcA f) (0, 0) _ hg2.out Tryd.underlying25 rfl (pc_sz f) ?_)
    | (go_at_call 14; refine (refRightP_any f _).mono ?_; rintro e W3 ⟨rfl, e3⟩))
  have e13 := e1h.out.trans (e2.trans e3)
  have hg3 := Lib.hid (e3.heap hg2.out)
  have hB := (built_any _ l1 W3 (h1h.out.ext e13) (hwh.out.ext e13)).mono (R' := fun e w' => ∃ p q b, e = .returned (.tuple #[.pointer (some ⟨p, 0, none⟩), .pointer (some ⟨q, 0, none⟩), .bool b]) ∧ RowKit.Hid ((b = true ∧ Tw W3 w' p q 64 (bldL [] l1)) ∨ (b = false ∧ Ext W3 w'))) fun e w' h => by
    obtain ⟨p, q, ⟨rfl, h⟩ | ⟨rfl, h⟩⟩ := h
    · exact ⟨p, q, true, rfl, Lib.hid (.inl ⟨rfl, h⟩)⟩
    · exact ⟨p, q, false, rfl, Lib.hid (.inr ⟨rfl, h⟩)⟩
  have e13h := Lib.hid e13
  clear e1h hgh e2 hg2 e3 e13 hwh
  go_upto_region 4 with (go_at_call 15; refine hB.mono ?_; rintro e W4 ⟨p, q, b, rfl, hTw⟩)
  clear hB
  obtain ⟨hb, hTT⟩ | ⟨hb, e4⟩ := hTw.out
  rotate_left
  · subst hb
    have e04 := Lib.hid (e13h.out.trans e4)
    clear e4 hTw
    go_wp2
    go_ret
    exact ⟨rfl, e04.out⟩
  subst hb
  obtain ⟨F, G, tp, tq, hF, hG, hFG, e34⟩ := hTT
  have e04 := Lib.hid (e13h.out.trans e34)
  have hg4 := Lib.hid (e34.heap hg3.out)
  have z34 := e34.size
  have zB0 := (Array.getElem?_eq_some_iff.1 hg3.out).1
  have hFh := Lib.hid (fun k hk => (show W3.heap.size ≤ k from hF k hk))
  clear hTw e34 hF hG hFG hg3
  cases hrp : rightP f
  · go_wp2
    go_ret
    exact ⟨rfl, e04.out⟩
  cases ht : tmI now
  · go_wp2_with (go_at_call 16; refine (time_any _ _).mono ?_; rintro e w' ⟨rfl, rfl⟩)
    go_ret
    exact ⟨rfl, e04.out⟩
  have hSt := Lib.hid (St.bld l1 (St.nil (Nat.le_refl 64)))
  have ht' := Lib.hid ht
  generalize bldL [] l1 = L at *
  obtain ⟨aq, cq, -, hq1, rq⟩ := tq.parts
  obtain ⟨a', cap', hq, hlm, hget⟩ := Rw.shape rq
  cases hq
  have hgeth := Lib.hid hget
  have hq1h := Lib.hid hq1
  have tph := Lib.hid tp.lt
  have z34h := Lib.hid z34
  have zBh := Lib.hid zB0
  clear hget hq1 rq tp tq h1h z34 zB0
  go_upto_region 7 with (go_at_call 16; refine (time_any _ _).mono ?_; rintro e w' ⟨rfl, rfl⟩)
  clear ht hrp
  go_wp2
  go_loopw [12, 13] (fun out i wr => ∃ (k : Nat) (A : List (List UInt8)), k ≤ L.length ∧ i = .int .i64 (k : Int) ∧ RowKit.Hid (∀ n ∈ A, aliveI L f now n = true) ∧ A.length ≤ k ∧ (∃ a1 c1, out = .slice a1 A.length c1) ∧ RowKit.Hid (Own sv 9 wr W4.heap.size out A) ∧ Ext W4 wr) (fun _ i _ => L.length - (intOf i).toNat)
  case atStart => exact ⟨0, [], Nat.zero_le _, rfl, Lib.hid (fun n hn => by simp at hn), Nat.le_refl _, ⟨none, 0, rfl⟩, Lib.hid (Own.nil _ _ _), Ext.refl _⟩
  case round =>
    obtain ⟨k, A, hk, rfl, hA, hAk, ⟨a2, c2, rfl⟩, ho, ek⟩ := hrel
    have cq1 := ek.cell hq1h.out
    by_cases hlt : k < L.length
    · obtain ⟨x, hx⟩ := some_at hlt
      obtain ⟨g, o, cs, rfl, hr, rfl, hf⟩ := hgeth.out k x hx
      have hki : (k : Int) < (L.length : Int) := by omega
      have hw : IntKind.i64.wrap ((k : Int) + 1) = (k : Int) + 1 := by have := hSt.out.small; rw [IntKind.wrap_i64]; omega
      have hL64 := Lib.hid hSt.out.small
      have hAl0 := fun W (e : Ext wr W) => alive_any f x.name now (tph.out.ext (ek.trans e)) hSt.out.ok hSt.out.small ht'.out
      have hS := Lib.hid (fun W (e : Ext wr W) => (⟨pol_range ((ek.trans e).heap hg4.out), e.cell cq1, (ek.trans e).cell (hr 1 _ (prow_cells x).2.1)⟩ : W.rangeAt B0 0 (pcA f).toList ∧ W.cell? ⟨q, 1, none⟩ = some (.slice (some ⟨g, o, none⟩) L.length cq) ∧ W.cell? ⟨g, o + k * 10 + 1, none⟩ = some (.string (str x.name))))
      have hnx := Lib.hid (fun W (e : Ext wr W) => ((ek.trans e).cell (hr 1 _ (prow_cells x).2.1) : W.cell? ⟨g, o + k * 10 + 1, none⟩ = some (.string (str x.name))))
      clear hr hf hx
      go_upto_region 10 with fail
      cases hal : aliveI L f now x.name
      · rw [hal] at hAl0
        have hAl := Lib.hid hAl0
        clear hal hAl0 hnx
        -- BEGIN DEAD
        refine wp_region_held_drew (S := (fun W => W.rangeAt B0 0 (pcA f).toList ∧ W.cell? ⟨q, 1, none⟩ = some (.slice (some ⟨g, o, none⟩) L.length cq) ∧ W.cell? ⟨g, o + k * 10 + 1, none⟩ = some (.string (str x.name)))) (by kernel_rfl) ?_ (fun hHeld => ?_)
        · (refine hS.out _ ?_; (repeat (first | exact Ext.refl _ | with_reducible assumption | refine Ext.drew ?_ | refine Ext.alloc ?_ _ | refine Ext.trans ?_ (by assumption))))
        refine wpAnyH_take (i := 0) (oi := ⟨some 53, _, _, _, _, _⟩) (v := ?_) rfl (by kernel_rfl) (by kernel_rfl) (by kernel_rfl) (fun _ _ _ h => h) (Or.inl ⟨by kernel_rfl, ?_⟩) (by assumption) ?_
        rotate_left
        · (intro w hSw; (try dsimp only at hSw); go_simp; try with_reducible rfl)
        try simp only [Act.put, List.setIfInBounds_toArray, List.set_cons_zero, List.set_cons_succ]
        refine wpAnyH_take (i := 1) (oi := ⟨some 54, _, _, _, _, _⟩) (v := .agg (pcA f)) rfl (by kernel_rfl) (by kernel_rfl) (by kernel_rfl) (fun _ _ _ h => h) (yieldsIf_load_pol (by kernel_rfl) _ rfl B0 rfl f (fun _ h => h.1)) (by assumption) ?_
        try simp only [Act.put, List.setIfInBounds_toArray, List.set_cons_zero, List.set_cons_succ]
        refine wpAnyH_take (i := 2) (oi := ⟨some 55, _, _, _, _, _⟩) (v := ?_) rfl (by kernel_rfl) (by kernel_rfl) (by kernel_rfl) (fun _ _ _ h => h) (Or.inl ⟨by kernel_rfl, ?_⟩) (by assumption) ?_
        rotate_left
        · (intro w hSw; (try dsimp only at hSw); go_simp; try with_reducible rfl)
        try simp only [Act.put, List.setIfInBounds_toArray, List.set_cons_zero, List.set_cons_succ]
        refine wpAnyH_take (i := 3) (oi := ⟨some 56, _, _, _, _, _⟩) (v := ?_) rfl (by kernel_rfl) (by kernel_rfl) (by kernel_rfl) (fun _ _ _ h => h) (Or.inl ⟨by kernel_rfl, ?_⟩) (by assumption) ?_
        rotate_left
        · (intro w hSw; (try dsimp only at hSw); go_simp; try with_reducible rfl)
        try simp only [Act.put, List.setIfInBounds_toArray, List.set_cons_zero, List.set_cons_succ]
        refine wpAnyH_take (i := 4) (oi := ⟨some 57, _, _, _, _, _⟩) (v := ?_) rfl (by kernel_rfl) (by kernel_rfl) (by kernel_rfl) (fun _ _ _ h => h) (Or.inl ⟨by kernel_rfl, ?_⟩) (by assumption) ?_
        rotate_left
        · (intro w hSw; (try dsimp only at hSw); go_simp; try with_reducible rfl)
        try simp only [Act.put, List.setIfInBounds_toArray, List.set_cons_zero, List.set_cons_succ]
        refine wpAnyH_take (i := 5) (oi := ⟨some 58, _, _, _, _, _⟩) (v := ?_) rfl (by kernel_rfl) (by kernel_rfl) (by kernel_rfl) (fun _ _ _ h => h) (Or.inl ⟨by kernel_rfl, ?_⟩) (by assumption) ?_
        rotate_left
        · (intro w hSw; (try dsimp only at hSw); go_simp; try with_reducible rfl)
        try simp only [Act.put, List.setIfInBounds_toArray, List.set_cons_zero, List.set_cons_succ]
        refine wpAnyH_take (i := 6) (oi := ⟨some 59, _, _, _, _, _⟩) (v := ?_) rfl (by kernel_rfl) (by kernel_rfl) (by kernel_rfl) (fun _ _ _ h => h) (Or.inl ⟨by kernel_rfl, ?_⟩) (by assumption) ?_
        rotate_left
        · (intro w hSw; (try dsimp only at hSw); go_simp; try with_reducible rfl)
        try simp only [Act.put, List.setIfInBounds_toArray, List.set_cons_zero, List.set_cons_succ]
        refine wpAnyH_take (i := 7) (oi := ⟨some 60, _, _, _, _, _⟩) (v := ?_) rfl (by kernel_rfl) (by kernel_rfl) (by kernel_rfl) (fun _ _ _ h => h) (Or.inl ⟨by kernel_rfl, ?_⟩) (by assumption) ?_
        rotate_left
        · (intro w hSw; (try dsimp only at hSw); go_simp; try with_reducible rfl)
        try simp only [Act.put, List.setIfInBounds_toArray, List.set_cons_zero, List.set_cons_succ]
        refine wpAnyH_take (i := 8) (oi := ⟨some 61, _, _, _, _, _⟩) (v := ?_) rfl (by kernel_rfl) (by kernel_rfl) (by kernel_rfl) (fun _ _ _ h => h) (Or.inl ⟨by kernel_rfl, ?_⟩) (by assumption) ?_
        rotate_left
        · (intro w hSw; (try dsimp only at hSw); go_simp; try with_reducible rfl)
        try simp only [Act.put, List.setIfInBounds_toArray, List.set_cons_zero, List.set_cons_succ]
        refine wpAnyH_take (i := 9) (oi := ⟨some 62, _, _, _, _, _⟩) (v := ?_) rfl (by kernel_rfl) (by kernel_rfl) (by kernel_rfl) (fun _ _ _ h => h) (Or.inl ⟨by kernel_rfl, ?_⟩) (by assumption) ?_
        rotate_left
        · (intro w hSw; (try dsimp only at hSw); go_simp; try with_reducible rfl)
        try simp only [Act.put, List.setIfInBounds_toArray, List.set_cons_zero, List.set_cons_succ]
        refine wpAnyH_take (i := 10) (oi := ⟨some 63, _, _, _, _, _⟩) (v := ?_) rfl (by kernel_rfl) (by kernel_rfl) (by kernel_rfl) (fun _ _ _ h => h) (Or.inl ⟨by kernel_rfl, ?_⟩) (by assumption) ?_
        rotate_left
        · (intro w hSw; (try dsimp only at hSw); go_simp; try with_reducible rfl)
        try simp only [Act.put, List.setIfInBounds_toArray, List.set_cons_zero, List.set_cons_succ]
        refine wpAnyH_ready (rs := [11]) (by kernel_rfl) (by simp) ?_
        refine AllReadyH.cons rfl (fun K hK => ?_) ?_
        · go_simp
          (go_at_call 18; refine (hAl.out _ (by (repeat (first | exact Ext.refl _ | with_reducible assumption | refine Ext.drew ?_ | refine Ext.alloc ?_ _ | refine Ext.trans ?_ (by assumption))))).mono ?_; rintro e WA ⟨rfl, eA⟩)
          go_wp2_with fail
          clear hHeld
          refine hK.out _ _ ?_ (fun hHeld => ?_)
          · (refine hS.out _ ?_; (repeat (first | exact Ext.refl _ | with_reducible assumption | refine Ext.drew ?_ | refine Ext.alloc ?_ _ | refine Ext.trans ?_ (by assumption))))
          clear hK K
          try simp only [Act.put, List.setIfInBounds_toArray, List.set_cons_zero, List.set_cons_succ]
          refine wpAnyH_done (by kernel_rfl) ?_ _
          have eW := (by (repeat (first | exact Ext.refl _ | with_reducible assumption | refine Ext.drew ?_ | refine Ext.alloc ?_ _ | refine Ext.trans ?_ (by assumption))) : Ext wr WA)
          clear hHeld
          go_wp2
          go_roundw
          case rel => exact ⟨k + 1, A, by omega, by go_num, hA, by omega, ⟨_, _, rfl⟩, Lib.hid (ho.out.ext eW), ek.trans eW⟩
          case measure => simp [intOf]; omega
        exact AllReadyH.nil
        -- END DEAD
      · have hA2 := Lib.hid (fun n (hn : n ∈ A ++ [x.name]) => (by
          rcases List.mem_append.1 hn with h | h
          · exact hA.out n h
          · rw [List.mem_singleton] at h; rw [h]; exact hal : aliveI L f now n = true))
        rw [hal] at hAl0
        have hAl := Lib.hid hAl0
        clear hal hAl0 hA
        -- BEGIN LIVES
        refine wp_region_held_drew (S := (fun W => W.rangeAt B0 0 (pcA f).toList ∧ W.cell? ⟨q, 1, none⟩ = some (.slice (some ⟨g, o, none⟩) L.length cq) ∧ W.cell? ⟨g, o + k * 10 + 1, none⟩ = some (.string (str x.name)))) (by kernel_rfl) ?_ (fun hHeld => ?_)
        · (refine hS.out _ ?_; (repeat (first | exact Ext.refl _ | with_reducible assumption | refine Ext.drew ?_ | refine Ext.alloc ?_ _ | refine Ext.trans ?_ (by assumption))))
        refine wpAnyH_take (i := 0) (oi := ⟨some 53, _, _, _, _, _⟩) (v := ?_) rfl (by kernel_rfl) (by kernel_rfl) (by kernel_rfl) (fun _ _ _ h => h) (Or.inl ⟨by kernel_rfl, ?_⟩) (by assumption) ?_
        rotate_left
        · (intro w hSw; (try dsimp only at hSw); go_simp; try with_reducible rfl)
        try simp only [Act.put, List.setIfInBounds_toArray, List.set_cons_zero, List.set_cons_succ]
        refine wpAnyH_take (i := 1) (oi := ⟨some 54, _, _, _, _, _⟩) (v := .agg (pcA f)) rfl (by kernel_rfl) (by kernel_rfl) (by kernel_rfl) (fun _ _ _ h => h) (yieldsIf_load_pol (by kernel_rfl) _ rfl B0 rfl f (fun _ h => h.1)) (by assumption) ?_
        try simp only [Act.put, List.setIfInBounds_toArray, List.set_cons_zero, List.set_cons_succ]
        refine wpAnyH_take (i := 2) (oi := ⟨some 55, _, _, _, _, _⟩) (v := ?_) rfl (by kernel_rfl) (by kernel_rfl) (by kernel_rfl) (fun _ _ _ h => h) (Or.inl ⟨by kernel_rfl, ?_⟩) (by assumption) ?_
        rotate_left
        · (intro w hSw; (try dsimp only at hSw); go_simp; try with_reducible rfl)
        try simp only [Act.put, List.setIfInBounds_toArray, List.set_cons_zero, List.set_cons_succ]
        refine wpAnyH_take (i := 3) (oi := ⟨some 56, _, _, _, _, _⟩) (v := ?_) rfl (by kernel_rfl) (by kernel_rfl) (by kernel_rfl) (fun _ _ _ h => h) (Or.inl ⟨by kernel_rfl, ?_⟩) (by assumption) ?_
        rotate_left
        · (intro w hSw; (try dsimp only at hSw); go_simp; try with_reducible rfl)
        try simp only [Act.put, List.setIfInBounds_toArray, List.set_cons_zero, List.set_cons_succ]
        refine wpAnyH_take (i := 4) (oi := ⟨some 57, _, _, _, _, _⟩) (v := ?_) rfl (by kernel_rfl) (by kernel_rfl) (by kernel_rfl) (fun _ _ _ h => h) (Or.inl ⟨by kernel_rfl, ?_⟩) (by assumption) ?_
        rotate_left
        · (intro w hSw; (try dsimp only at hSw); go_simp; try with_reducible rfl)
        try simp only [Act.put, List.setIfInBounds_toArray, List.set_cons_zero, List.set_cons_succ]
        refine wpAnyH_take (i := 5) (oi := ⟨some 58, _, _, _, _, _⟩) (v := ?_) rfl (by kernel_rfl) (by kernel_rfl) (by kernel_rfl) (fun _ _ _ h => h) (Or.inl ⟨by kernel_rfl, ?_⟩) (by assumption) ?_
        rotate_left
        · (intro w hSw; (try dsimp only at hSw); go_simp; try with_reducible rfl)
        try simp only [Act.put, List.setIfInBounds_toArray, List.set_cons_zero, List.set_cons_succ]
        refine wpAnyH_take (i := 6) (oi := ⟨some 59, _, _, _, _, _⟩) (v := ?_) rfl (by kernel_rfl) (by kernel_rfl) (by kernel_rfl) (fun _ _ _ h => h) (Or.inl ⟨by kernel_rfl, ?_⟩) (by assumption) ?_
        rotate_left
        · (intro w hSw; (try dsimp only at hSw); go_simp; try with_reducible rfl)
        try simp only [Act.put, List.setIfInBounds_toArray, List.set_cons_zero, List.set_cons_succ]
        refine wpAnyH_take (i := 7) (oi := ⟨some 60, _, _, _, _, _⟩) (v := ?_) rfl (by kernel_rfl) (by kernel_rfl) (by kernel_rfl) (fun _ _ _ h => h) (Or.inl ⟨by kernel_rfl, ?_⟩) (by assumption) ?_
        rotate_left
        · (intro w hSw; (try dsimp only at hSw); go_simp; try with_reducible rfl)
        try simp only [Act.put, List.setIfInBounds_toArray, List.set_cons_zero, List.set_cons_succ]
        refine wpAnyH_take (i := 8) (oi := ⟨some 61, _, _, _, _, _⟩) (v := ?_) rfl (by kernel_rfl) (by kernel_rfl) (by kernel_rfl) (fun _ _ _ h => h) (Or.inl ⟨by kernel_rfl, ?_⟩) (by assumption) ?_
        rotate_left
        · (intro w hSw; (try dsimp only at hSw); go_simp; try with_reducible rfl)
        try simp only [Act.put, List.setIfInBounds_toArray, List.set_cons_zero, List.set_cons_succ]
        refine wpAnyH_take (i := 9) (oi := ⟨some 62, _, _, _, _, _⟩) (v := ?_) rfl (by kernel_rfl) (by kernel_rfl) (by kernel_rfl) (fun _ _ _ h => h) (Or.inl ⟨by kernel_rfl, ?_⟩) (by assumption) ?_
        rotate_left
        · (intro w hSw; (try dsimp only at hSw); go_simp; try with_reducible rfl)
        try simp only [Act.put, List.setIfInBounds_toArray, List.set_cons_zero, List.set_cons_succ]
        refine wpAnyH_take (i := 10) (oi := ⟨some 63, _, _, _, _, _⟩) (v := ?_) rfl (by kernel_rfl) (by kernel_rfl) (by kernel_rfl) (fun _ _ _ h => h) (Or.inl ⟨by kernel_rfl, ?_⟩) (by assumption) ?_
        rotate_left
        · (intro w hSw; (try dsimp only at hSw); go_simp; try with_reducible rfl)
        try simp only [Act.put, List.setIfInBounds_toArray, List.set_cons_zero, List.set_cons_succ]
        refine wpAnyH_ready (rs := [11]) (by kernel_rfl) (by simp) ?_
        refine AllReadyH.cons rfl (fun K hK => ?_) ?_
        · go_simp
          (go_at_call 18; refine (hAl.out _ (by (repeat (first | exact Ext.refl _ | with_reducible assumption | refine Ext.drew ?_ | refine Ext.alloc ?_ _ | refine Ext.trans ?_ (by assumption))))).mono ?_; rintro e WA ⟨rfl, eA⟩)
          go_wp2_with fail
          clear hHeld
          refine hK.out _ _ ?_ (fun hHeld => ?_)
          · (refine hS.out _ ?_; (repeat (first | exact Ext.refl _ | with_reducible assumption | refine Ext.drew ?_ | refine Ext.alloc ?_ _ | refine Ext.trans ?_ (by assumption))))
          clear hK K
          try simp only [Act.put, List.setIfInBounds_toArray, List.set_cons_zero, List.set_cons_succ]
          refine wpAnyH_done (by kernel_rfl) ?_ _
          have eW := (by (repeat (first | exact Ext.refl _ | with_reducible assumption | refine Ext.drew ?_ | refine Ext.alloc ?_ _ | refine Ext.trans ?_ (by assumption))) : Ext wr WA)
          clear hHeld
          have nW := hnx.out WA eW
          have cW := eW.cell cq1
          have ekW := ek.trans eW
          have hoW := Lib.hid (ho.out.ext eW)
          have hsz := Lib.hid ekW.size
          clear hS hnx hAl eW
          go_wp2_with (refine wpList_appendS (enc := sv) Tryd.underlying39 info_strS rfl (fun _ => rfl) rfl _ _ rfl W4.heap.size (.slice a2 A.length c2) A rfl (hoW.out.alloc _) _ [x.name] rfl (Sl.lit rfl rfl rfl (by decide) (by decide)) (by have := hL64.out; simp only [List.length_singleton]; omega) (by have := hL64.out; simp only [List.length_singleton]; omega) (Nat.le_trans hsz.out ((Ext.refl WA).alloc _).size) ?_; intro v3 w3 o3 g3; obtain ⟨a3, cap3, rfl⟩ := o3.shapeN)
          rw [List.length_append, List.length_singleton] at o3
          have e4w := Lib.hid ((ekW.alloc (.cells #[.string (str x.name)] 9)).grown g3 fun k hk => hoW.out.lt k hk)
          go_roundw
          case rel => exact ⟨k + 1, A ++ [x.name], by omega, by go_num, hA2, by rw [List.length_append, List.length_singleton]; omega, ⟨a3, cap3, by rw [List.length_append]; rfl⟩, Lib.hid o3, e4w.out⟩
          case measure => simp [intOf]; omega
        exact AllReadyH.nil
        -- END LIVES
    · obtain rfl : k = L.length := by omega
      have hAc := Lib.hid (fun j n (hj : A[j]? = some n) => (let ⟨g, o, h1, h2, h3⟩ := ho.out.based hj; ⟨g, o, h1, h2, World.block_lt_of_cell? _ _ h3, h3⟩ : ∃ g o, a2 = some ⟨g, o, none⟩ ∧ W4.heap.size ≤ g ∧ g < wr.heap.size ∧ wr.cell? ⟨g, o + j, none⟩ = some (sv n)))
      have tpA := Lib.hid (tph.out.ext ek)
      have hgA := Lib.hid (ek.heap hg4.out)
      have e0A := Lib.hid (e04.out.trans ek)
      have zA := Lib.hid ek.size
      have hA64 := Lib.hid (Nat.le_trans hAk hSt.out.small)
      have hg4l := Lib.hid (show B0 < W3.heap.size from zBh.out)
      obtain ⟨WA, rfl⟩ : ∃ W, W = wr := ⟨_, rfl⟩
      clear ho tph hg4 ek hgeth hlt hk hAk
      obtain ⟨F0, hF0⟩ : ∃ F0 : Nat → Prop, F0 = fun k => F k ∧ k < W4.heap.size := ⟨_, rfl⟩
      have hF0a := Lib.hid (show ∀ k, F0 k → W3.heap.size ≤ k ∧ k < W4.heap.size from fun k hk => by rw [hF0] at hk; exact ⟨hFh.out k hk.1, hk.2⟩)
      rw [← hF0] at tpA
      clear hF0
      go_upto_block 2 with fail
      clear cq1
      go_cut [9] (fun b wd => b = .pointer (some ⟨p, 0, none⟩) ∧ ∃ (l : List Rec) (G' : Nat → Prop), RowKit.Hid (TrM 96 wd G' p 64 l ∧ St 64 l ∧ sweepI l f now = [] ∧ ∀ n ∈ A, aliveI l f now n = true) ∧ RowKit.Hid (Chg F0 WA wd))
      case first =>
        go_wp2
        go_loopw [14] (fun i wr => ∃ (r : Nat) (l : List Rec) (Fr : Nat → Prop), r ≤ 64 ∧ i = .int .i64 (r : Int) ∧ RowKit.Hid (St 64 l ∧ l.length + r ≤ 64 ∧ ∀ n ∈ A, aliveI l f now n = true) ∧ RowKit.Hid (TrM 96 wr Fr p 64 l ∧ ∀ k, Fr k → F0 k ∨ WA.heap.size ≤ k) ∧ RowKit.Hid (Chg F0 WA wr)) (fun i _ => 64 - (intOf i).toNat)
        case atStart => exact ⟨0, L, F0, by omega, rfl, Lib.hid ⟨hSt.out, hSt.out.small, hA.out⟩, Lib.hid ⟨tpA.out, fun k hk => .inl hk⟩, Lib.hid (Chg.refl _ _)⟩
        case round =>
          obtain ⟨r, l, Fr, hr, rfl, hl, hT, hc⟩ := hrel
          clear tpA
          by_cases hr64 : r < 64
          · have hri : (r : Int) < 64 := by omega
            have hw : IntKind.i64.wrap ((r : Int) + 1) = (r : Int) + 1 := by rw [IntKind.wrap_i64]; omega
            have hgr := Lib.hid (hc.out.heapC hgA.out (fun h => by have := (hF0a.out _ h).1; have := hg4l.out; omega))
            have hSw := sweep_any f now hT.out.1 hl.out.1.ok hl.out.1.small ht'.out
            go_upto_region 16 with (first
              | (refine wpList_load_rowG (by rfl) 25 _ rfl B0 rfl 25 (pcA f) (0, 0) _ hgr.out Tryd.underlying25 rfl (pc_sz f) ?_)
              | (go_at_call 29; refine hSw.mono ?_; rintro e Ws ⟨_, rfl, oS, eS⟩))
            obtain ⟨aS, cS, rfl, -, -⟩ := oS.shape
            obtain ⟨S, hS⟩ : ∃ S, S = sweepI l f now := ⟨_, rfl⟩
            rw [← hS] at oS ⊢
            have oSh := Lib.hid oS
            have hcs := Lib.hid (hc.out.ext eS)
            have tS := Lib.hid (hT.out.1.lt.ext eS)
            have hFs := Lib.hid (fun k (hk : Fr k ∧ k < wr.heap.size) => hT.out.2 k hk.1)
            have zS := Lib.hid eS.size
            have zr := Lib.hid hc.out.size
            have hSh := Lib.hid hS
            clear hSw oS eS hT hc hgr hS
            by_cases h0 : S = []
            · have h0h := Lib.hid (hSh.out.symm.trans h0)
              subst h0
              go_wp2
              go_meet
              exact ⟨rfl, l, _, Lib.hid ⟨tS.out, hl.out.1, h0h.out, hl.out.2.2⟩, hcs⟩
            · have hn0 : ((S.length : Int) == 0) = false := by
                rw [beq_eq_false_iff_ne]
                intro h
                exact h0 (List.eq_nil_of_length_eq_zero (by omega))
              have h0h := Lib.hid h0
              have hS64 := Lib.hid (show S.length ≤ 64 by rw [hSh.out]; exact Nat.le_trans (sweepI_len _ _ _) hl.out.1.small)
              clear h0
              obtain ⟨Fs, hFs0⟩ : ∃ Fs : Nat → Prop, Fs = fun k => Fr k ∧ k < wr.heap.size := ⟨_, rfl⟩
              have hFs2 := Lib.hid (show ∀ k, Fs k → (F0 k ∨ WA.heap.size ≤ k) ∧ k < wr.heap.size from fun k hk => by rw [hFs0] at hk; exact ⟨hFs.out k hk, hk.2⟩)
              rw [← hFs0] at tS
              clear hFs hFs0
              have hSc := Lib.hid (fun j n (hj : S[j]? = some n) => oSh.out.based hj)
              obtain ⟨Wq, rfl⟩ : ∃ W, W = wr := ⟨_, rfl⟩
              go_wp2
              go_loopw [16] (fun i ws => ∃ j : Nat, j ≤ S.length ∧ i = .int .i64 (j : Int) ∧ RowKit.Hid (TrM 96 ws (fun k => Fs k ∨ Ws.heap.size ≤ k) p 64 (dropsL l (S.take j))) ∧ RowKit.Hid (Chg Fs Ws ws)) (fun i _ => S.length - (intOf i).toNat)
              case atStart => exact ⟨0, Nat.zero_le _, rfl, Lib.hid (tS.out.mono fun k hk => .inl hk), Lib.hid (Chg.refl _ _)⟩
              case round =>
                obtain ⟨j, hj, rfl, hTj, hcj⟩ := hrel
                by_cases hjt : j < S.length
                · obtain ⟨m, hm⟩ := some_at hjt
                  obtain ⟨g9, q9, rfl, hg9, p0⟩ := hSc.out j m hm
                  unfold sv at p0
                  have hji : (j : Int) < (S.length : Int) := by omega
                  have hw2 : IntKind.i64.wrap ((j : Int) + 1) = (j : Int) + 1 := by have := hS64.out; rw [IntKind.wrap_i64]; omega
                  have pj := hcj.out.cellC p0 (fun h => by have := (hFs2.out _ h).2; simp only at this; omega)
                  have hkD := Ok.drops (S.take j) hl.out.1.ok
                  have hlD := Nat.le_trans (dropsL_len (S.take j) l) hl.out.1.len
                  have hD := drop_any m hTj.out hkD (by omega) (by have := (St.mk hkD hlD (Nat.le_refl 64)).bel m; omega)
                  have hst := Lib.hid (dropsL_step hm l)
                  have hm2 := hm
                  rw [hSh.out] at hm2
                  obtain ⟨x, hx, hxm⟩ := sweep_stands hl.out.1.ok hm2
                  rw [← hSh.out] at hx
                  obtain ⟨i, hi⟩ := List.getElem?_of_mem hx
                  have hb0 := (List.getElem?_eq_some_iff.1 (below_head hkD hi)).1
                  rw [hxm] at hb0
                  generalize below (dropsL l (S.take j)) m = P at *
                  have hP0 : ((P.length : Int) == 0) = false := by rw [beq_eq_false_iff_ne]; omega
                  clear hm hm2 hx hxm hi hb0 hkD hlD p0
                  go_upto_region 21 with (go_at_call 32; refine hD.mono ?_; rintro e W7 ⟨_, rfl, -, ⟨a7, c7, rfl⟩, t7, g7⟩)
                  have zj := hcj.out.size
                  have t8 := Lib.hid (t7.mono (G := fun k => Fs k ∨ Ws.heap.size ≤ k) fun k hk => by rcases hk with hk | hk; exact hk; exact .inr (Nat.le_trans zj hk))
                  have g8 := Lib.hid (hcj.out.next g7 fun k hk hlt => by rcases hk with hk | hk; exact hk; omega)
                  clear hD t7 g7 pj zj
                  go_wp2
                  go_roundw
                  case rel => exact ⟨j + 1, by omega, by go_num, Lib.hid (by rw [hst.out]; exact t8.out), g8⟩
                  case measure => simp [intOf]; omega
                · obtain rfl : j = S.length := by omega
                  have hT2 := hTj.out
                  rw [List.take_length, hSh.out] at hT2
                  have hne : sweepI l f now ≠ [] := by rw [← hSh.out]; exact h0h.out
                  have hls := drops_less hl.out.1.ok hne
                  have hln := dropsL_len (sweepI l f now) l
                  have hrel2 := Lib.hid (show St 64 (dropsL l (sweepI l f now)) ∧ (dropsL l (sweepI l f now)).length + (r + 1) ≤ 64 ∧ ∀ n ∈ A, aliveI (dropsL l (sweepI l f now)) f now n = true from
                    ⟨⟨Ok.drops _ hl.out.1.ok, Nat.le_trans hln hl.out.1.len, Nat.le_refl 64⟩, by have := hl.out.2.1; omega, fun n hn => alive_drops hl.out.1.ok (hl.out.2.2 n hn)⟩)
                  have hT3 := Lib.hid hT2
                  have hc2 := Lib.hid (hcs.out.next hcj.out fun k hk hlt => by rcases (hFs2.out k hk).1 with h | h; exact h; omega)
                  clear hT2 hne hls hln
                  go_wp2
                  go_roundw
                  case rel => exact ⟨r + 1, dropsL l (sweepI l f now), _, by omega, by go_num, hrel2, Lib.hid ⟨hT3.out, fun k hk => by
                    rcases hk with hk | hk
                    · exact (hFs2.out k hk).1
                    · exact .inr (by have := zS.out; have := zr.out; omega)⟩, hc2⟩
                  case measure => simp [intOf]; omega
          · obtain rfl : r = 64 := by omega
            have hl0 : l = [] := List.eq_nil_of_length_eq_zero (by have := hl.out.2.1; omega)
            subst hl0
            go_wp2
            go_meet
            exact ⟨rfl, [], _, Lib.hid ⟨hT.out.1, hl.out.1, List.eq_nil_of_length_eq_zero (Nat.le_zero.1 (sweepI_len [] f now)), hl.out.2.2⟩, hc⟩
      case rest =>
        obtain ⟨rfl, l, G', hl, hc⟩ := hcut
        have e0c := Lib.hid (e0A.out.chg hc.out fun k hk => by have := (hF0a.out k hk).1; have := e13h.out.size; omega)
        have hgc := Lib.hid (hc.out.heapC hgA.out (fun h => by have := (hF0a.out _ h).1; have := hg4l.out; omega))
        have hAw := Lib.hid (show ∀ j n, A[j]? = some n → ∃ g o, a2 = some ⟨g, o, none⟩ ∧ wc.cell? ⟨g, o + j, none⟩ = some (sv n) from fun j n hj => by
          obtain ⟨g, o, h1, h2, h3, h4⟩ := hAc.out j n hj
          exact ⟨g, o, h1, hc.out.cellC h4 (fun h => by have := (hF0a.out _ h).2; simp only at this; omega)⟩)
        obtain ⟨Wc, rfl⟩ : ∃ W, W = wc := ⟨_, rfl⟩
        clear hAc hc tpA hgA e0A hA
        go_wp2
        go_loopw [18] (fun i wr => ∃ k : Nat, k ≤ A.length ∧ i = .int .i64 (k : Int) ∧ Ext Wc wr) (fun i _ => A.length - (intOf i).toNat)
        case atStart => exact ⟨0, Nat.zero_le _, rfl, Ext.refl _⟩
        case round =>
          obtain ⟨k, hk, rfl, ek⟩ := hrel
          by_cases hlt : k < A.length
          · obtain ⟨m, hm⟩ := some_at hlt
            obtain ⟨g, o, rfl, p0⟩ := hAw.out k m hm
            unfold sv at p0
            have hki : (k : Int) < (A.length : Int) := by omega
            have hw : IntKind.i64.wrap ((k : Int) + 1) = (k : Int) + 1 := by have := hA64.out; rw [IntKind.wrap_i64]; omega
            have hAl := Lib.hid (fun W (e : Ext wr W) => (by
              have h := alive_any f m now (hl.out.1.ext (ek.trans e)) hl.out.2.1.ok hl.out.2.1.small ht'.out
              rwa [hl.out.2.2.2 m (List.mem_of_getElem? hm)] at h : Calls Tryd.prog 18 #[.pointer (some ⟨p, 0, none⟩), .agg (pcA f), .string (str m), .int .i64 now] W fun e w' => e = .returned (.bool true) ∧ Ext W w'))
            have hS := Lib.hid (fun W (e : Ext wr W) => (⟨pol_range ((ek.trans e).heap hgc.out), (ek.trans e).cell p0⟩ : W.rangeAt B0 0 (pcA f).toList ∧ W.cell? ⟨g, o + k, none⟩ = some (.string (str m))))
            clear p0 hm
            go_upto_region 26 with fail
            -- BEGIN LAST
            refine wp_region_held_drew (S := (fun W => W.rangeAt B0 0 (pcA f).toList ∧ W.cell? ⟨g, o + k, none⟩ = some (.string (str m)))) (by kernel_rfl) ?_ (fun hHeld => ?_)
            · (refine hS.out _ ?_; (repeat (first | exact Ext.refl _ | with_reducible assumption | refine Ext.drew ?_ | refine Ext.alloc ?_ _ | refine Ext.trans ?_ (by assumption))))
            refine wpAnyH_take (i := 0) (oi := ⟨some 108, _, _, _, _, _⟩) (v := ?_) rfl (by kernel_rfl) (by kernel_rfl) (by kernel_rfl) (fun _ _ _ h => h) (Or.inl ⟨by kernel_rfl, ?_⟩) (by assumption) ?_
            rotate_left
            · (intro w hSw; (try dsimp only at hSw); go_simp; try with_reducible rfl)
            try simp only [Act.put, List.setIfInBounds_toArray, List.set_cons_zero, List.set_cons_succ]
            refine wpAnyH_take (i := 1) (oi := ⟨some 109, _, _, _, _, _⟩) (v := .agg (pcA f)) rfl (by kernel_rfl) (by kernel_rfl) (by kernel_rfl) (fun _ _ _ h => h) (yieldsIf_load_pol (by kernel_rfl) _ rfl B0 rfl f (fun _ h => h.1)) (by assumption) ?_
            try simp only [Act.put, List.setIfInBounds_toArray, List.set_cons_zero, List.set_cons_succ]
            refine wpAnyH_take (i := 2) (oi := ⟨some 110, _, _, _, _, _⟩) (v := ?_) rfl (by kernel_rfl) (by kernel_rfl) (by kernel_rfl) (fun _ _ _ h => h) (Or.inl ⟨by kernel_rfl, ?_⟩) (by assumption) ?_
            rotate_left
            · (intro w hSw; (try dsimp only at hSw); go_simp; try with_reducible rfl)
            try simp only [Act.put, List.setIfInBounds_toArray, List.set_cons_zero, List.set_cons_succ]
            refine wpAnyH_take (i := 3) (oi := ⟨some 111, _, _, _, _, _⟩) (v := ?_) rfl (by kernel_rfl) (by kernel_rfl) (by kernel_rfl) (fun _ _ _ h => h) (Or.inl ⟨by kernel_rfl, ?_⟩) (by assumption) ?_
            rotate_left
            · (intro w hSw; (try dsimp only at hSw); go_simp; try with_reducible rfl)
            try simp only [Act.put, List.setIfInBounds_toArray, List.set_cons_zero, List.set_cons_succ]
            refine wpAnyH_take (i := 4) (oi := ⟨some 112, _, _, _, _, _⟩) (v := ?_) rfl (by kernel_rfl) (by kernel_rfl) (by kernel_rfl) (fun _ _ _ h => h) (Or.inl ⟨by kernel_rfl, ?_⟩) (by assumption) ?_
            rotate_left
            · (intro w hSw; (try dsimp only at hSw); go_simp; try with_reducible rfl)
            try simp only [Act.put, List.setIfInBounds_toArray, List.set_cons_zero, List.set_cons_succ]
            refine wpAnyH_take (i := 5) (oi := ⟨some 113, _, _, _, _, _⟩) (v := ?_) rfl (by kernel_rfl) (by kernel_rfl) (by kernel_rfl) (fun _ _ _ h => h) (Or.inl ⟨by kernel_rfl, ?_⟩) (by assumption) ?_
            rotate_left
            · (intro w hSw; (try dsimp only at hSw); go_simp; try with_reducible rfl)
            try simp only [Act.put, List.setIfInBounds_toArray, List.set_cons_zero, List.set_cons_succ]
            refine wpAnyH_take (i := 6) (oi := ⟨some 114, _, _, _, _, _⟩) (v := ?_) rfl (by kernel_rfl) (by kernel_rfl) (by kernel_rfl) (fun _ _ _ h => h) (Or.inl ⟨by kernel_rfl, ?_⟩) (by assumption) ?_
            rotate_left
            · (intro w hSw; (try dsimp only at hSw); go_simp; try with_reducible rfl)
            try simp only [Act.put, List.setIfInBounds_toArray, List.set_cons_zero, List.set_cons_succ]
            refine wpAnyH_ready (rs := [7]) (by kernel_rfl) (by simp) ?_
            refine AllReadyH.cons rfl (fun K hK => ?_) ?_
            · go_simp
              (go_at_call 18; refine (hAl.out _ (by (repeat (first | exact Ext.refl _ | with_reducible assumption | refine Ext.drew ?_ | refine Ext.alloc ?_ _ | refine Ext.trans ?_ (by assumption))))).mono ?_; rintro e WA ⟨rfl, eA⟩)
              go_wp2_with fail
              clear hHeld
              refine hK.out _ _ ?_ (fun hHeld => ?_)
              · (refine hS.out _ ?_; (repeat (first | exact Ext.refl _ | with_reducible assumption | refine Ext.drew ?_ | refine Ext.alloc ?_ _ | refine Ext.trans ?_ (by assumption))))
              clear hK K
              try simp only [Act.put, List.setIfInBounds_toArray, List.set_cons_zero, List.set_cons_succ]
              refine wpAnyH_take (i := 8) (oi := ⟨some 116, _, _, _, _, _⟩) (v := ?_) rfl (by kernel_rfl) (by kernel_rfl) (by kernel_rfl) (fun _ _ _ h => h) (Or.inl ⟨by kernel_rfl, ?_⟩) (by assumption) ?_
              rotate_left
              · (intro w hSw; (try dsimp only at hSw); go_simp; try with_reducible rfl)
              try simp only [Act.put, List.setIfInBounds_toArray, List.set_cons_zero, List.set_cons_succ]
              refine wpAnyH_done (by kernel_rfl) ?_ _
              have eW := (by (repeat (first | exact Ext.refl _ | with_reducible assumption | refine Ext.drew ?_ | refine Ext.alloc ?_ _ | refine Ext.trans ?_ (by assumption))) : Ext wr WA)
              clear hHeld
              go_wp2
              go_roundw
              case rel => exact ⟨k + 1, by omega, by go_num, ek.trans eW⟩
              case measure => simp [intOf]; omega
            exact AllReadyH.nil
            -- END LAST
          · obtain rfl : k = A.length := by omega
            have hSw := sweep_any f now (hl.out.1.ext ek) hl.out.2.1.ok hl.out.2.1.small ht'.out
            rw [hl.out.2.2.1] at hSw
            have hgk := Lib.hid (ek.heap hgc.out)
            go_wp2_with (first
              | (refine wpList_load_rowG (by rfl) 25 _ rfl B0 rfl 25 (pcA f) (0, 0) _ hgk.out Tryd.underlying25 rfl (pc_sz f) ?_)
              | (go_at_call 29; refine hSw.mono ?_; rintro e W9 ⟨_, rfl, o9, e9⟩; obtain ⟨_, _, rfl, -, -⟩ := o9.shape; go_wp2_with fail))
            go_ret
            exact ⟨rfl, e0c.out.trans (ek.trans e9)⟩
end Go.Proofs.YtmdepmohfnficaaDoor
