/- The document's expiry: Sweep. -/
import Derived.Test.YtmdepmohfnficaaDoorFxO
namespace Go.Proofs.YtmdepmohfnficaaDoor
set_option linter.unusedVariables false
set_option linter.unusedSimpArgs false
open Go.RowKit Rk Tr

namespace Tr
theorem any_step {T : List (List UInt8)} {p : List UInt8 → Bool} {j : Nat} {m : List UInt8} (h : T[j]? = some m) : (T.take (j + 1)).any p = ((T.take j).any p || p m) := by
  rw [List.take_add_one, h, List.any_append]; simp
end Tr
attribute [local irreducible] pcA rcells liveI rightP deadI topI sweepI
set_option linter.unusedSimpArgs false in
set_option maxRecDepth 20000 in
set_option maxHeartbeats 4000000 in
theorem refSweep_any {F : Nat → Prop} {p room : Nat} {l : List Rec} (f : Nat → Int) (now : Int) {w : World} (h : TrM 34 w F p room l) (hok : Ok l) (hl : l.length ≤ 64) (ht : tmI now = true) (hrp : rightP f = true) :
    Calls Tryd.prog 30 #[.pointer (some ⟨p, 0, none⟩), .agg (pcA f), .int .i64 now] w (Ret fun u w' => Own sv 9 w' w.heap.size u (sweepI l f now) ∧ Ext w w') := by
  have hg := heap_alloc_new w (.cells (pcA f) 25)
  have e1 := (Ext.refl w).alloc (.cells (pcA f) 25)
  have hP := Lib.hid (fun W (e : Ext w W) n => refPath_any n (h.ext e) hok (by omega))
  have hDe := Lib.hid (fun W (e : Ext w W) n hi => refDead_any f now n (h.ext e) hok hl ht hrp hi)
  have hps := Lib.hid (fun k x (hx : l[k]? = some x) => path_step hok (ix_at hok.nodup hx) hx)
  have hpi := Lib.hid (fun n m (hm : m ∈ path l n) => (let ⟨k, hk⟩ := List.getElem?_of_mem hm; (path_at hok hk).1 : isIn l m = true))
  have hpl := Lib.hid (fun n => Nat.le_trans (path_le hok n) hl)
  have hS : RowKit.Hid (sweepI l f now = (l.filter fun r => topI l f now r.name).map (·.name)) := Lib.hid (by unfold sweepI; rfl)
  have hT : RowKit.Hid (∀ n, topI l f now n = (deadI l f now n && !((path l n).tail.any (deadI l f now)))) := Lib.hid fun n => by unfold topI; rfl
  obtain ⟨aq, cq, -, hq1, rq⟩ := h.parts
  obtain ⟨a', cap', hq, hlm, hget⟩ := Rw.shape rq
  cases hq
  have hgeth := Lib.hid hget
  have hq1h := Lib.hid hq1
  clear hget hq1 rq h hok ht hrp
  go_enter Tryd.func30, Tryd.ntmps30
  go_upto_region 2 with fail
  generalize w.alloc (.cells (pcA f) 25) = w1 at *
  have hgh := Lib.hid hg
  have e1h := Lib.hid e1
  clear hg e1
  go_wp2
  go_loopw [7, 8] (fun out i wr => ∃ (k : Nat) (S : List (List UInt8)), k ≤ l.length ∧ i = .int .i64 (k : Int) ∧ RowKit.Hid (S = ((l.take k).filter fun r => topI l f now r.name).map (·.name)) ∧ (∃ a1 c1, out = .slice a1 S.length c1) ∧ RowKit.Hid (Own sv 9 wr w1.heap.size out S) ∧ Ext w1 wr) (fun _ i _ => l.length - (intOf i).toNat)
  case atStart => exact ⟨0, [], Nat.zero_le _, rfl, Lib.hid rfl, ⟨none, 0, rfl⟩, Lib.hid (Own.nil _ _ _), Ext.refl _⟩
  case round =>
    obtain ⟨k, S, hk, rfl, hSk, ⟨a1, c1', rfl⟩, ho, ek⟩ := hrel
    have cq1 := (e1h.out.trans ek).cell hq1h.out
    by_cases hlt : k < l.length
    · obtain ⟨x, hx⟩ := some_at hlt
      obtain ⟨g, o, cs, rfl, hrr, rfl, -⟩ := hgeth.out k x hx
      have hki : (k : Int) < (l.length : Int) := by omega
      have hw : IntKind.i64.wrap ((k : Int) + 1) = (k : Int) + 1 := by rw [IntKind.wrap_i64]; omega
      have n1 := (e1h.out.trans ek).cell (hrr 1 _ (prow_cells x).2.1)
      have hst := Lib.hid (sweep_step (f := f) (now := now) hx)
      have hSl := Lib.hid (show S.length ≤ 64 from by rw [hSk.out]; have := sweep_len l f now k; omega)
      have hp1 := hps.out k x hx
      have hTx := hT.out x.name
      have hPx := hP.out wr (e1h.out.trans ek) x.name
      have hpi1 := hpi.out x.name
      have hpl1 := hpl.out x.name
      obtain ⟨P, hPe⟩ : ∃ P, P = path l x.name := ⟨_, rfl⟩
      obtain ⟨T, hTl⟩ : ∃ T, T = path l x.par := ⟨_, rfl⟩
      rw [← hTl, ← hPe] at hp1
      rw [← hPe] at hPx hpi1 hpl1 hTx
      rw [hp1, List.tail_cons] at hTx
      have hTxh := Lib.hid hTx
      have hpih := Lib.hid hpi1
      have hPl := Lib.hid (show P.length = T.length + 1 by rw [hp1]; rfl)
      have hT64 := Lib.hid (show T.length ≤ 64 by have := hPl.out; omega)
      have hPlu := Lib.hid hpl1
      have hPT := Lib.hid (show ∀ j m, T[j]? = some m → P[j + 1]? = some m from fun j m h => by rw [hp1]; exact h)
      have hmx := Lib.hid (show x.name ∈ P from by rw [hp1]; exact List.mem_cons_self ..)
      have hP0 := Lib.hid (show P[0]? = some x.name from by rw [hp1]; rfl)
      clear hrr hx hp1 hTl hTx hpi1 hpl1 hPe
      go_upto_region 6 with (go_at_call 45; refine hPx.mono ?_; rintro e w6 ⟨_, rfl, o6, e6⟩; obtain ⟨a9, c9, rfl, s6, -⟩ := o6.shape)
      have e16 := Lib.hid (ek.trans e6)
      have ho6 := Lib.hid (ho.out.ext e6)
      have hc6 := Lib.hid s6.cells
      obtain ⟨g9, q9, rfl, p0⟩ := hc6.out 0 x.name hP0.out
      unfold sv at p0
      rw [Nat.add_zero] at p0
      have i0 : 0 < P.length := by have := hPl.out; omega
      clear hPx o6 s6 e6 ho cq1 n1
      have hDW := Lib.hid (fun W (e : Ext w6 W) n hn => hDe.out W ((e1h.out.trans e16.out).trans e) n (hpih.out n hn))
      go_cut [10] (fun a wd => a = .bool (deadI l f now x.name) ∧ Ext w6 wd)
      case first =>
        have hS := Lib.hid (fun W (e : Ext w6 W) => (⟨pol_range ((e16.out.trans e).heap hgh.out), e.cell p0⟩ : W.rangeAt w.heap.size 0 (pcA f).toList ∧ W.cell? ⟨g9, q9, none⟩ = some (.string (str x.name))))
        have hDd := Lib.hid (fun W (e : Ext w6 W) => hDW.out W e x.name hmx.out)
        -- BEGIN HEAD
        refine wp_region_held_drew (S := (fun W => W.rangeAt w.heap.size 0 (pcA f).toList ∧ W.cell? ⟨g9, q9, none⟩ = some (.string (str x.name)))) (by kernel_rfl) ?_ (fun hHeld => ?_)
        · (refine hS.out _ ?_; (repeat (first | exact Ext.refl _ | with_reducible assumption | refine Ext.drew ?_ | refine Ext.alloc ?_ _ | refine Ext.trans ?_ (by assumption))))
        refine wpAnyH_take (i := 0) (oi := ⟨some 32, _, _, _, _, _⟩) (v := ?_) rfl (by kernel_rfl) (by kernel_rfl) (by kernel_rfl) (fun _ _ _ h => h) (Or.inl ⟨by kernel_rfl, ?_⟩) (by assumption) ?_
        rotate_left
        · (intro w hSw; (try dsimp only at hSw); go_simp; try with_reducible rfl)
        try simp only [Act.put, List.setIfInBounds_toArray, List.set_cons_zero, List.set_cons_succ]
        refine wpAnyH_take (i := 1) (oi := ⟨some 33, _, _, _, _, _⟩) (v := .agg (pcA f)) rfl (by kernel_rfl) (by kernel_rfl) (by kernel_rfl) (fun _ _ _ h => h) (yieldsIf_load_pol (by kernel_rfl) _ rfl w.heap.size rfl f (fun _ h => h.1)) (by assumption) ?_
        try simp only [Act.put, List.setIfInBounds_toArray, List.set_cons_zero, List.set_cons_succ]
        refine wpAnyH_take (i := 2) (oi := ⟨some 34, _, _, _, _, _⟩) (v := ?_) rfl (by kernel_rfl) (by kernel_rfl) (by kernel_rfl) (fun _ _ _ h => h) (Or.inl ⟨by kernel_rfl, ?_⟩) (by assumption) ?_
        rotate_left
        · (intro w hSw; (try dsimp only at hSw); go_simp; try with_reducible rfl)
        try simp only [Act.put, List.setIfInBounds_toArray, List.set_cons_zero, List.set_cons_succ]
        refine wpAnyH_take (i := 3) (oi := ⟨some 35, _, _, _, _, _⟩) (v := ?_) rfl (by kernel_rfl) (by kernel_rfl) (by kernel_rfl) (fun _ _ _ h => h) (Or.inl ⟨by kernel_rfl, ?_⟩) (by assumption) ?_
        rotate_left
        · (intro w hSw; (try dsimp only at hSw); go_simp; try with_reducible rfl)
        try simp only [Act.put, List.setIfInBounds_toArray, List.set_cons_zero, List.set_cons_succ]
        refine wpAnyH_take (i := 4) (oi := ⟨some 36, _, _, _, _, _⟩) (v := ?_) rfl (by kernel_rfl) (by kernel_rfl) (by kernel_rfl) (fun _ _ _ h => h) (Or.inl ⟨by kernel_rfl, ?_⟩) (by assumption) ?_
        rotate_left
        · (intro w hSw; (try dsimp only at hSw); go_simp; try with_reducible rfl)
        try simp only [Act.put, List.setIfInBounds_toArray, List.set_cons_zero, List.set_cons_succ]
        refine wpAnyH_take (i := 5) (oi := ⟨some 37, _, _, _, _, _⟩) (v := ?_) rfl (by kernel_rfl) (by kernel_rfl) (by kernel_rfl) (fun _ _ _ h => h) (Or.inl ⟨by kernel_rfl, ?_⟩) (by assumption) ?_
        rotate_left
        · (intro w hSw; (try dsimp only at hSw); go_simp; try with_reducible rfl)
        try simp only [Act.put, List.setIfInBounds_toArray, List.set_cons_zero, List.set_cons_succ]
        refine wpAnyH_ready (rs := [6]) (by kernel_rfl) (by simp) ?_
        refine AllReadyH.cons rfl (fun K hK => ?_) ?_
        · go_simp
          (go_at_call 67; refine (hDd.out _ (by (repeat (first | exact Ext.refl _ | with_reducible assumption | refine Ext.drew ?_ | refine Ext.alloc ?_ _ | refine Ext.trans ?_ (by assumption))))).mono ?_; rintro e WA ⟨rfl, eA⟩)
          go_wp2_with fail
          clear hHeld
          refine hK.out _ _ ?_ (fun hHeld => ?_)
          · (refine hS.out _ ?_; (repeat (first | exact Ext.refl _ | with_reducible assumption | refine Ext.drew ?_ | refine Ext.alloc ?_ _ | refine Ext.trans ?_ (by assumption))))
          clear hK K
          try simp only [Act.put, List.setIfInBounds_toArray, List.set_cons_zero, List.set_cons_succ]
          refine wpAnyH_take (i := 7) (oi := ⟨some 10, _, _, _, _, _⟩) (v := ?_) rfl (by kernel_rfl) (by kernel_rfl) (by kernel_rfl) (fun _ _ _ h => h) (Or.inl ⟨by kernel_rfl, ?_⟩) (by assumption) ?_
          rotate_left
          · (intro w hSw; (try dsimp only at hSw); go_simp; try with_reducible rfl)
          try simp only [Act.put, List.setIfInBounds_toArray, List.set_cons_zero, List.set_cons_succ]
          refine wpAnyH_done (by kernel_rfl) ?_ _
          have eW := (by (repeat (first | exact Ext.refl _ | with_reducible assumption | refine Ext.drew ?_ | refine Ext.alloc ?_ _ | refine Ext.trans ?_ (by assumption))) : Ext w6 WA)
          clear hHeld
          go_wp2
          go_meet
          exact ⟨rfl, eW⟩
        exact AllReadyH.nil
        -- END HEAD
      case rest =>
        obtain ⟨rfl, e7⟩ := hcut
        obtain ⟨w7, rfl⟩ : ∃ W, W = wc := ⟨_, rfl⟩
        have e67 := Lib.hid e7
        have e17 := Lib.hid (e16.out.trans e7)
        have ho7 := Lib.hid (ho6.out.ext e7)
        clear e7 ho6
        go_wp2
        go_loopw [10, 11] (fun a i wr => ∃ (j : Nat) (b : Bool), 1 ≤ j ∧ j ≤ P.length ∧ i = .int .i64 (j : Int) ∧ a = .bool b ∧ RowKit.Hid (b = (deadI l f now x.name && !((T.take (j - 1)).any (deadI l f now)))) ∧ Ext w7 wr) (fun _ i _ => P.length - (intOf i).toNat)
        case atStart => exact ⟨1, _, Nat.le_refl _, by have := hPl.out; omega, rfl, rfl, Lib.hid (by simp), Ext.refl _⟩
        case round =>
          obtain ⟨j, b, hj1, hj, rfl, rfl, hb, ej⟩ := hrel
          obtain ⟨wq, rfl⟩ : ∃ W, W = wr := ⟨_, rfl⟩
          by_cases hjl : j < P.length
          · obtain ⟨m, hm⟩ := some_at (show j - 1 < T.length by have := hPl.out; omega)
            have hmP := hPT.out _ m hm
            rw [show j - 1 + 1 = j by omega] at hmP
            obtain ⟨g', q', e', pj⟩ := hc6.out j m hmP
            cases e'
            unfold sv at pj
            have hji : (j : Int) < (P.length : Int) := by omega
            have hwj : IntKind.i64.wrap ((j : Int) + 1) = (j : Int) + 1 := by have := hPlu.out; rw [IntKind.wrap_i64]; omega
            have hnx := Lib.hid (any_step (p := deadI l f now) hm)
            have e6q := Lib.hid (e67.out.trans ej)
            have hS := Lib.hid (fun W (e : Ext wq W) => (⟨pol_range (((e16.out.trans e6q.out).trans e).heap hgh.out), (e6q.out.trans e).cell pj⟩ : W.rangeAt w.heap.size 0 (pcA f).toList ∧ W.cell? ⟨g9, q9 + j, none⟩ = some (.string (str m))))
            have hDd := Lib.hid (fun W (e : Ext wq W) => hDW.out W (e6q.out.trans e) m (List.mem_of_getElem? hmP))
            clear pj hmP hm
            go_upto_region 10 with fail
            go_cut [12] (fun a wd => a = .bool (deadI l f now m) ∧ Ext wq wd)
            case first =>
              -- BEGIN NEXT
              refine wp_region_held_drew (S := (fun W => W.rangeAt w.heap.size 0 (pcA f).toList ∧ W.cell? ⟨g9, q9 + j, none⟩ = some (.string (str m)))) (by kernel_rfl) ?_ (fun hHeld => ?_)
              · (refine hS.out _ ?_; (repeat (first | exact Ext.refl _ | with_reducible assumption | refine Ext.drew ?_ | refine Ext.alloc ?_ _ | refine Ext.trans ?_ (by assumption))))
              refine wpAnyH_take (i := 0) (oi := ⟨some 45, _, _, _, _, _⟩) (v := ?_) rfl (by kernel_rfl) (by kernel_rfl) (by kernel_rfl) (fun _ _ _ h => h) (Or.inl ⟨by kernel_rfl, ?_⟩) (by assumption) ?_
              rotate_left
              · (intro w hSw; (try dsimp only at hSw); go_simp; try with_reducible rfl)
              try simp only [Act.put, List.setIfInBounds_toArray, List.set_cons_zero, List.set_cons_succ]
              refine wpAnyH_take (i := 1) (oi := ⟨some 46, _, _, _, _, _⟩) (v := .agg (pcA f)) rfl (by kernel_rfl) (by kernel_rfl) (by kernel_rfl) (fun _ _ _ h => h) (yieldsIf_load_pol (by kernel_rfl) _ rfl w.heap.size rfl f (fun _ h => h.1)) (by assumption) ?_
              try simp only [Act.put, List.setIfInBounds_toArray, List.set_cons_zero, List.set_cons_succ]
              refine wpAnyH_take (i := 2) (oi := ⟨some 47, _, _, _, _, _⟩) (v := ?_) rfl (by kernel_rfl) (by kernel_rfl) (by kernel_rfl) (fun _ _ _ h => h) (Or.inl ⟨by kernel_rfl, ?_⟩) (by assumption) ?_
              rotate_left
              · (intro w hSw; (try dsimp only at hSw); go_simp; try with_reducible rfl)
              try simp only [Act.put, List.setIfInBounds_toArray, List.set_cons_zero, List.set_cons_succ]
              refine wpAnyH_take (i := 3) (oi := ⟨some 48, _, _, _, _, _⟩) (v := ?_) rfl (by kernel_rfl) (by kernel_rfl) (by kernel_rfl) (fun _ _ _ h => h) (Or.inl ⟨by kernel_rfl, ?_⟩) (by assumption) ?_
              rotate_left
              · (intro w hSw; (try dsimp only at hSw); go_simp; try with_reducible rfl)
              try simp only [Act.put, List.setIfInBounds_toArray, List.set_cons_zero, List.set_cons_succ]
              refine wpAnyH_take (i := 4) (oi := ⟨some 49, _, _, _, _, _⟩) (v := ?_) rfl (by kernel_rfl) (by kernel_rfl) (by kernel_rfl) (fun _ _ _ h => h) (Or.inl ⟨by kernel_rfl, ?_⟩) (by assumption) ?_
              rotate_left
              · (intro w hSw; (try dsimp only at hSw); go_simp; try with_reducible rfl)
              try simp only [Act.put, List.setIfInBounds_toArray, List.set_cons_zero, List.set_cons_succ]
              refine wpAnyH_take (i := 5) (oi := ⟨some 50, _, _, _, _, _⟩) (v := ?_) rfl (by kernel_rfl) (by kernel_rfl) (by kernel_rfl) (fun _ _ _ h => h) (Or.inl ⟨by kernel_rfl, ?_⟩) (by assumption) ?_
              rotate_left
              · (intro w hSw; (try dsimp only at hSw); go_simp; try with_reducible rfl)
              try simp only [Act.put, List.setIfInBounds_toArray, List.set_cons_zero, List.set_cons_succ]
              refine wpAnyH_take (i := 6) (oi := ⟨some 51, _, _, _, _, _⟩) (v := ?_) rfl (by kernel_rfl) (by kernel_rfl) (by kernel_rfl) (fun _ _ _ h => h) (Or.inl ⟨by kernel_rfl, ?_⟩) (by assumption) ?_
              rotate_left
              · (intro w hSw; (try dsimp only at hSw); go_simp; try with_reducible rfl)
              try simp only [Act.put, List.setIfInBounds_toArray, List.set_cons_zero, List.set_cons_succ]
              refine wpAnyH_ready (rs := [7]) (by kernel_rfl) (by simp) ?_
              refine AllReadyH.cons rfl (fun K hK => ?_) ?_
              · go_simp
                (go_at_call 67; refine (hDd.out _ (by (repeat (first | exact Ext.refl _ | with_reducible assumption | refine Ext.drew ?_ | refine Ext.alloc ?_ _ | refine Ext.trans ?_ (by assumption))))).mono ?_; rintro e WA ⟨rfl, eA⟩)
                go_wp2_with fail
                clear hHeld
                refine hK.out _ _ ?_ (fun hHeld => ?_)
                · (refine hS.out _ ?_; (repeat (first | exact Ext.refl _ | with_reducible assumption | refine Ext.drew ?_ | refine Ext.alloc ?_ _ | refine Ext.trans ?_ (by assumption))))
                clear hK K
                try simp only [Act.put, List.setIfInBounds_toArray, List.set_cons_zero, List.set_cons_succ]
                refine wpAnyH_take (i := 8) (oi := ⟨some 12, _, _, _, _, _⟩) (v := ?_) rfl (by kernel_rfl) (by kernel_rfl) (by kernel_rfl) (fun _ _ _ h => h) (Or.inl ⟨by kernel_rfl, ?_⟩) (by assumption) ?_
                rotate_left
                · (intro w hSw; (try dsimp only at hSw); go_simp; try with_reducible rfl)
                try simp only [Act.put, List.setIfInBounds_toArray, List.set_cons_zero, List.set_cons_succ]
                refine wpAnyH_done (by kernel_rfl) ?_ _
                have eW := (by (repeat (first | exact Ext.refl _ | with_reducible assumption | refine Ext.drew ?_ | refine Ext.alloc ?_ _ | refine Ext.trans ?_ (by assumption))) : Ext wq WA)
                clear hHeld
                go_wp2
                go_meet
                exact ⟨rfl, eW⟩
              exact AllReadyH.nil
              -- END NEXT
            case rest =>
              obtain ⟨rfl, e8⟩ := hcut
              cases b
              · have hb2 := Lib.hid (show false = (deadI l f now x.name && !((T.take (j + 1 - 1)).any (deadI l f now))) from by
                  have h1 := hb.out
                  have h2 := hnx.out
                  rw [show j - 1 + 1 = j + 1 - 1 by omega] at h2
                  rw [h2]
                  cases hq : deadI l f now x.name
                  · rfl
                  · rw [hq] at h1
                    cases hq2 : (T.take (j - 1)).any (deadI l f now)
                    · rw [hq2] at h1; cases h1
                    · rfl)
                clear hb hnx
                go_wp2
                go_roundw
                case rel => exact ⟨j + 1, false, by omega, by omega, by go_num, rfl, hb2, ej.trans e8⟩
                case measure => simp [intOf]; omega
              · have hb2 := Lib.hid (show (!deadI l f now m) = (deadI l f now x.name && !((T.take (j + 1 - 1)).any (deadI l f now))) from by
                  have h1 := hb.out
                  have h2 := hnx.out
                  rw [show j - 1 + 1 = j + 1 - 1 by omega] at h2
                  rw [h2]
                  cases hq : deadI l f now x.name
                  · rw [hq] at h1; cases h1
                  · rw [hq] at h1
                    cases hq2 : (T.take (j - 1)).any (deadI l f now)
                    · rfl
                    · rw [hq2] at h1; cases h1)
                clear hb hnx
                go_wp2
                go_roundw
                case rel => exact ⟨j + 1, _, by omega, by omega, by go_num, rfl, hb2, ej.trans e8⟩
                case measure => simp [intOf]; omega
          · obtain rfl : j = P.length := by omega
            have hbt : b = topI l f now x.name := by
              rw [hTxh.out, hb.out, List.take_of_length_le (by have := hPl.out; omega)]
            have e1q := Lib.hid (e17.out.trans ej)
            have hsz := Lib.hid e1q.out.size
            have hoq := Lib.hid (ho7.out.ext ej)
            have p0q := (e67.out.trans ej).cell p0
            subst hbt
            clear hb hjl
            cases ht : topI l f now x.name
            · have hS2 := Lib.hid (show S = ((l.take (k + 1)).filter fun r => topI l f now r.name).map (·.name) from by rw [hst.out, ht, hSk.out]; simp)
              clear hst hSk
              go_wp2
              go_roundw
              case rel => exact ⟨k + 1, S, by omega, by go_num, hS2, ⟨_, _, rfl⟩, hoq, e1q.out⟩
              case measure => simp [intOf]; omega
            · have hS2 := Lib.hid (show S ++ [x.name] = ((l.take (k + 1)).filter fun r => topI l f now r.name).map (·.name) from by rw [hst.out, ht, hSk.out]; simp)
              clear hst hSk
              go_wp2_with (refine wpList_appendS (enc := sv) Tryd.underlying39 info_strS rfl (fun _ => rfl) rfl _ _ rfl w1.heap.size (.slice a1 S.length c1') S rfl (hoq.out.alloc _) _ [x.name] rfl (Sl.lit rfl rfl rfl (by decide) (by decide)) (by have := hSl.out; simp only [List.length_singleton]; omega) (by have := hSl.out; simp only [List.length_singleton]; omega) (Nat.le_trans hsz.out ((Ext.refl wq).alloc _).size) ?_; intro v3 w3 o3 g3; obtain ⟨a3, cap3, rfl⟩ := o3.shapeN)
              rw [List.length_append, List.length_singleton] at o3
              have e4w := Lib.hid ((e1q.out.alloc (.cells #[.string (str x.name)] 9)).grown g3 fun k hk => hoq.out.lt k hk)
              go_roundw
              case rel => exact ⟨k + 1, S ++ [x.name], by omega, by go_num, hS2, ⟨a3, cap3, by rw [List.length_append]; rfl⟩, Lib.hid o3, e4w.out⟩
              case measure => simp [intOf]; omega
    · obtain rfl : k = l.length := by omega
      have hS2 := hSk.out
      rw [List.take_length, ← hS.out] at hS2
      have hS2h := Lib.hid hS2
      have e0k := Lib.hid (e1h.out.trans ek)
      clear hSk hS2
      go_wp2
      go_ret
      exact Ret.mk ⟨by rw [← hS2h.out]; exact ho.out.le e1h.out.size, e0k.out⟩
end Go.Proofs.YtmdepmohfnficaaDoor
