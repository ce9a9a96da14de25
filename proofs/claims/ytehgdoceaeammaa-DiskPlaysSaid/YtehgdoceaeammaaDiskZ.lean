/- DiskPlays, walked. -/
import Derived.Test.YtehgdoceaeammaaRDisk6
import Derived.Deep.RegionHeld3
import Derived.Deep.DeepCutAuto
import Derived.Deep.CutBlock
namespace Go.Proofs.Ytehgdoceaeammaa
open Go.RowKit Dk

theorem box_chg {w w' : World} {F : Nat → Prop} {B : Nat} {C : Array Value} {t : TypeId} (c : Chg F w w') (h : w.heap[B]? = some (.cells C t (0, 0))) (hB : ¬ F B) : w'.heap[B]? = some (.cells C t (0, 0)) := by
  rw [c.block B (Array.getElem?_eq_some_iff.1 h).1 hB]; exact h
theorem same_self (u v : Value) (a : List UInt8) (w : World) (ha : Bytes w u a) (hb : Bytes w v a) :
    Calls Try.prog 23 #[u, v] w fun e w' => e = .returned (.bool true) ∧ w = w' := by
  have := same_any u v a a w ha hb
  rwa [seq_self] at this
theorem rfaults_end {w w1 : World} {F : Nat → Prop} {q : Nat} {d : D} (h : RDisk w F q d) (e1 : Ext w w1) {v' : Value} {l : List Bool} (ho : Own bv 4 w1 w.heap.size v' l) : Chg F w (w1.setCell ⟨q, 2, none⟩ v') ∧ RDisk (w1.setCell ⟨q, 2, none⟩ v') (grow F w) q (faults l d) := by
  obtain ⟨gk, vs, vp, h, ok⟩ := h
  have hq := (Array.getElem?_eq_some_iff.1 h.hd).1
  obtain ⟨cur, k1, -⟩ := h.kept
  have hgk := (Array.getElem?_eq_some_iff.1 k1).1
  have h1 := (h.ext e1).mono (G := grow F w) fun _ => Or.inl
  have c := (Chg.refl (fun k => k = q) w1).setq 2 v'
  refine ⟨(Chg.of_ext (p := F) e1).trans (c.mono fun k hk => by rw [hk]; exact h.fq), gk, vs, v', ?_, faults_ok l ok⟩
  exact h1.own c rfl (rhd_set2 _ h1.hd) (.inl ⟨rfl, rfl⟩) (.inr ((OwnO.of_own ho).mono fun k hk => ⟨.inr hk, by omega, by omega⟩)) h1.lf
theorem rhd_all {w : World} {F : Nat → Prop} {q : Nat} {d : D} (h : RDisk w F q d) : ∃ gk vs vp, w.cell? ⟨q, 0, none⟩ = some (.slice (some ⟨gk, 0, none⟩) d.kept.length d.kept.length) ∧ w.cell? ⟨q, 1, none⟩ = some vs ∧ w.cell? ⟨q, 2, none⟩ = some vp ∧ w.cell? ⟨q, 3, none⟩ = some (.bool d.off) ∧ w.frozen? ⟨q, 2, none⟩ = false ∧ (∃ a cap, vs = .slice a d.st.length cap) ∧ (∃ a cap, vp = .slice a d.plan.length cap) ∧ Bytes w (.slice (some ⟨gk, 0, none⟩) d.kept.length d.kept.length) d.kept := by
  obtain ⟨gk, vs, vp, h, ok⟩ := h
  obtain ⟨c0, c1, c2, c3, -, ff⟩ := rhd_cells h.hd
  obtain ⟨a, cap, e, -⟩ := h.st
  obtain ⟨a', cap', e'⟩ := h.plan.shape
  obtain ⟨cur, k1, k2⟩ := h.kept
  have h1 := ok.len
  have h2 := ok.most
  refine ⟨gk, vs, vp, c0, c1, c2, c3, ff 2, ⟨a, cap, e⟩, ⟨a', cap', e'⟩, bytes_of_row (E := 5) (fr := (0, 0)) ?_ rfl (by unfold maxLen; omega)⟩
  rw [k1, ← k2, Array.toArray_toList]
attribute [local irreducible] wrB wrE mk sync syncE drop crash faults stop beh rdB doE doB
set_option maxRecDepth 100000 in
set_option maxHeartbeats 8000000 in
theorem diskPlays_any (n : Int) (vl : Value) (l : List Dop) (at_ : Int) (w : World) (_ : -9223372036854775808 ≤ n) (_ : n ≤ 9223372036854775807) (hl : Ops w vl l) (_ : -9223372036854775808 ≤ at_) (_ : at_ ≤ 9223372036854775807) :
    Calls Try.prog 7 #[.int .i64 n, vl, .int .i64 at_] w fun e w' => e = .returned (.bool true) ∧ Ext w w' := by
  have hl0 := hl
  obtain ⟨al, cl, rfl, hget⟩ := hl.get
  clear hl
  have hgh := Lib.hid hget
  clear hget
  go_enter Try.func7, Try.ntmps7
  go_upto_region 3 with (first
    | (go_at_call 9; refine (awake_any _).mono ?_; rintro e wA ⟨rfl, eA⟩)
    | (go_at_call 15; refine (few_any _ l _ (hl0.ext eA)).mono ?_; rintro e w' ⟨rfl, rfl⟩))
  by_cases hf : fewO l = true
  · rw [hf]
    by_cases hn : n ≤ 40
    · have dn : decide ((40 : Int) < n) = false := by rw [decide_eq_false_iff_not]; omega
      obtain ⟨hl40, hsm⟩ := few_facts hf
      have hsh := Lib.hid hsm
      have hN := new_any n wA
      have hN2 := fun W => rnew_any n W
      clear hsm
      go_upto_region 7 with (first
        | (go_at_call 10; refine hN.mono ?_; rintro e w1 ⟨v1, rfl, p, rfl, h1, e1⟩)
        | (go_at_call 29; refine (hN2 _).mono ?_; rintro e w2 ⟨v2, rfl, q, rfl, h2, e2⟩))
      have hP : Pr w w2 (fun k => wA.heap.size ≤ k ∧ k < w1.heap.size) (fun k => w1.heap.size ≤ k ∧ k < w2.heap.size) p q (mk (clamp n)) (mk (clamp n)) :=
        ⟨eA.trans (e1.trans e2), h1.ext e2, h2, fun k hk => ⟨Nat.le_trans eA.size hk.1, Nat.lt_of_lt_of_le hk.2 e2.size⟩, fun k hk => ⟨Nat.le_trans (Nat.le_trans eA.size e1.size) hk.1, hk.2⟩, fun k h1 h2 => by have := h1.2; have := h2.1; omega⟩
      have hb0 : RowKit.Hid (beh n (l.take 0) = mk (clamp n)) := Lib.hid (by unfold beh; rfl)
      have hPh := Lib.hid hP
      clear hN hN2 h1 h2 e1 e2 eA hP hl0
      go_wp2
      go_loopw [11] (fun i wr => ∃ k : Nat, k ≤ l.length ∧ i = .int .i64 (k : Int) ∧ ∃ F1 F2, Pr w wr F1 F2 p q (beh n (l.take k)) (beh n (l.take k))) (fun i _ => l.length - (intOf i).toNat)
      case atStart => exact ⟨0, Nat.zero_le _, rfl, _, _, by rw [hb0.out]; exact hPh.out⟩
      case round =>
        clear hPh
        obtain ⟨k, hk, rfl, F1, F2, hd⟩ := hrel
        by_cases hlt : k < l.length
        · obtain ⟨g, o, rfl, vb, vp, hr, hb, hp, r1, r2⟩ := hgh.out k hlt
          have hb' := hb
          obtain ⟨av, cv, rfl, -⟩ := hb'
          have hp' := hp
          obtain ⟨ap, cp, rfl, -⟩ := hp'
          have hki : (k : Int) < (l.length : Int) := by omega
          have hq := hsh.out k hlt
          have hnx := Lib.hid (beh_take (n := n) hlt)
          have hrw : wr.rangeAt g (o + k * 4) [.int .i64 l[k].what, .int .i64 l[k].place, .slice av l[k].bs.length cv, .slice ap l[k].ps.length cp] := fun j u hu => hd.e.cell (hr j u hu)
          have hl1 := beh_len n (l.take k)
          rw [List.length_take] at hl1
          generalize l[k] = x at *
          generalize beh n (l.take k) = dk at *
          clear hr
          have eB := (Ext.refl wr).alloc (.cells #[.int .i64 x.what, .int .i64 x.place, .slice av x.bs.length cv, .slice ap x.ps.length cp] 49)
          have hdB := hd.ext eB
          have hbox := heap_alloc_new wr (.cells #[.int .i64 x.what, .int .i64 x.place, .slice av x.bs.length cv, .slice ap x.ps.length cp] 49)
          have hB1 : ¬ F1 wr.heap.size := fun h => by have := (hd.a1 _ h).2; omega
          have hB2 : ¬ F2 wr.heap.size := fun h => by have := (hd.b1 _ h).2; omega
          have hbx : (wr.alloc (.cells #[.int .i64 x.what, .int .i64 x.place, .slice av x.bs.length cv, .slice ap x.ps.length cp] 49)).rangeAt wr.heap.size 0 [.int .i64 x.what, .int .i64 x.place, .slice av x.bs.length cv, .slice ap x.ps.length cp] := fun j u hu => by
            rw [cell_of_row _ _ _ _ _ _ hbox, Nat.zero_add, ← hu]; simp
          have hD := do_F hdB.a (by omega) x _ _ (fun w' c => hb.ext (hdB.e.chg c fun k hk => (hd.a1 k hk).1)) (hp.ext hdB.e) (by omega) r1 r2
          have hbs : wr.heap.size < (wr.alloc (.cells #[.int .i64 x.what, .int .i64 x.place, .slice av x.bs.length cv, .slice ap x.ps.length cp] 49)).heap.size := (Array.getElem?_eq_some_iff.1 hbox).1
          have hdBh := Lib.hid hdB
          clear hd hdB eB
          go_upto_block 2 with (first
            | (refine wpList_load_mid rfl 49 _ rfl g (o + k * 4) rfl [.int .i64 x.what, .int .i64 x.place, .slice av x.bs.length cv, .slice ap x.ps.length cp] _ hrw Try.underlying49 rfl info_op ?_)
            | (refine wpList_store_new wr rfl 49 _ _ rfl #[.int .i64 x.what, .int .i64 x.place, .slice av x.bs.length cv, .slice ap x.ps.length cp] _ rfl rfl rfl 4 info_op rfl rfl rfl ?_)
            | (refine wpList_load_mid rfl 49 _ rfl wr.heap.size 0 rfl [.int .i64 x.what, .int .i64 x.place, .slice av x.bs.length cv, .slice ap x.ps.length cp] _ hbx Try.underlying49 rfl info_op ?_)
            | (go_at_call 27; refine hD.mono ?_; rintro e w3 ⟨rfl, c3, h3⟩; have hbox3 := box_chg c3 hbox hB1; have i0 := cell_of_row _ wr.heap.size 0 _ _ _ hbox3; simp only [List.getElem?_toArray, List.getElem?_cons_zero] at i0))
          have hP3 := hdBh.out.one c3 h3
          have i1 := cell_of_row _ wr.heap.size 1 _ _ _ hbox3
          have i2 := cell_of_row _ wr.heap.size 2 _ _ _ hbox3
          have i3 := cell_of_row _ wr.heap.size 3 _ _ _ hbox3
          simp only [List.getElem?_toArray, List.getElem?_cons_zero, List.getElem?_cons_succ] at i1 i2 i3
          have hbox3h := Lib.hid hbox3
          have hP3h := Lib.hid hP3
          have hbb : ∀ w', Chg F2 w3 w' → Bytes w' (.slice av x.bs.length cv) x.bs := fun w' c => hb.ext (hP3h.out.e.chg c fun k hk => (hP3h.out.b1 k hk).1)
          have hpp : Sl bv w3 (.slice ap x.ps.length cp) x.ps := hp.ext hP3h.out.e
          have hB2h := Lib.hid hB2
          clear c3 h3 hbox hbx hrw hdBh hbs hD hP3 hbox3 hb hp hB1 hB2
          generalize wr.heap.size = B at *
          go_cut [14] (fun f wd => f = .int .i64 (doE x dk) ∧ RDisk wd (grow F2 w3) q (doB x dk) ∧ Chg F2 w3 wd)
          case first =>
            have hR := hP3h.out.b
            obtain ⟨gk, vs, vpq, k0, k1, k2, k3, kf, -, ⟨ap2, cp2, rfl⟩, -⟩ := rhd_all hR
            have hRh := Lib.hid hR
            clear hR
            rcases do_cases x dk with ⟨q1, e1, e2⟩ | ⟨q1, e1, e2⟩ | ⟨q1, e1, e2⟩ | ⟨q1, e1, e2⟩ | ⟨q1, e1, e2⟩ | ⟨q1, e1, e2⟩ | ⟨q1, q2, q3, q4, q5, q6, e1, e2⟩
            · have e1h := Lib.hid e1
              have e2h := Lib.hid e2
              have t1 : (x.what == 1) = true := by rw [q1]; rfl
              clear e1 e2 q1 i0 k0 k1 k2 k3 kf i3
              have hW := rwrite_any hRh.out (by omega) x.place _ x.bs hbb
              go_wp2_with (go_at_call 30; refine hW.mono ?_; rintro e w4 ⟨rfl, c4, h4⟩)
              go_meet
              case rel => exact ⟨by rw [e1h.out], by rw [e2h.out]; exact h4, c4⟩
            · have e1h := Lib.hid e1
              have e2h := Lib.hid e2
              have t1 : (x.what == 1) = false := by rw [q1]; rfl
              have t2 : (x.what == 2) = true := by rw [q1]; rfl
              clear e1 e2 q1 i0 k0 k1 k2 k3 kf i3
              have hW := rsync_any hRh.out
              go_wp2_with (go_at_call 31; refine hW.mono ?_; rintro e w4 ⟨rfl, c4, h4⟩)
              go_meet
              case rel => exact ⟨by rw [e1h.out], by rw [e2h.out]; exact h4.mono fun _ => Or.inl, c4⟩
            · have e1h := Lib.hid e1
              have e2h := Lib.hid e2
              have t1 : (x.what == 1) = false := by rw [q1]; rfl
              have t2 : (x.what == 2) = false := by rw [q1]; rfl
              have t3 : (x.what == 3) = true := by rw [q1]; rfl
              clear e1 e2 q1 i0 k0 k1 k2 k3 kf i3
              have hW := rdrop_any hRh.out
              go_wp2_with (go_at_call 32; refine hW.mono ?_; rintro e w4 ⟨rfl, c4, h4⟩)
              go_meet
              case rel => exact ⟨by rw [e1h.out], by rw [e2h.out]; exact h4.mono fun _ => Or.inl, c4⟩
            · have e1h := Lib.hid e1
              have e2h := Lib.hid e2
              have t1 : (x.what == 1) = false := by rw [q1]; rfl
              have t2 : (x.what == 2) = false := by rw [q1]; rfl
              have t3 : (x.what == 3) = false := by rw [q1]; rfl
              have t4 : (x.what == 4) = true := by rw [q1]; rfl
              clear e1 e2 q1 i0 k0 k1 k2 k3 kf i3
              have hW := rcrash_any hRh.out _ x.bs hbb
              go_wp2_with (go_at_call 33; refine hW.mono ?_; rintro e w4 ⟨rfl, c4, h4⟩)
              go_meet
              case rel => exact ⟨by rw [e1h.out], by rw [e2h.out]; exact h4.mono fun _ => Or.inl, c4⟩
            · have e1h := Lib.hid e1
              have e2h := Lib.hid e2
              have t1 : (x.what == 1) = false := by rw [q1]; rfl
              have t2 : (x.what == 2) = false := by rw [q1]; rfl
              have t3 : (x.what == 3) = false := by rw [q1]; rfl
              have t4 : (x.what == 4) = false := by rw [q1]; rfl
              have t5 : (x.what == 5) = true := by rw [q1]; rfl
              clear e1 e2 q1 i0 k0 k1 k3
              have eA := (Ext.refl w3).alloc (.cells #[] 4)
              have ho : Own bv 4 (w3.alloc (.cells #[] 4)) w3.heap.size (.slice (some ⟨w3.heap.size, 0, none⟩) 0 0) [] := Own.empty rfl (Nat.le_refl _)
              have hzz := eA.size
              have i3A := eA.cell i3
              go_wp2_with (at_builtin; refine wpList_appendS (z := .bool false) (bytes := 1) Try.underlying38 (by kernel_rfl) rfl bv_one rfl _ _ rfl w3.heap.size _ [] rfl ho _ x.ps rfl (hpp.ext eA) (by simp; omega) (by simp; omega) hzz ?_; intro v4 w4 g1 g2; have e4 := Ext.owns eA ho g2; obtain ⟨a4, c4, rfl, -⟩ := g1.shape; have k2' := e4.cell k2; have kf' : w4.frozen? ⟨q, 2, none⟩ = false := (Below.frozen (p := ⟨q, 2, none⟩) e4 (World.block_lt_of_cell? w3 _ k2)).trans kf)
              go_meet
              case rel =>
                obtain ⟨h4, h5⟩ := rfaults_end hRh.out e4 g1
                exact ⟨by rw [e1h.out], by rw [e2h.out]; exact h5, h4⟩
            · have e1h := Lib.hid e1
              have e2h := Lib.hid e2
              have t1 : (x.what == 1) = false := by rw [q1]; rfl
              have t2 : (x.what == 2) = false := by rw [q1]; rfl
              have t3 : (x.what == 3) = false := by rw [q1]; rfl
              have t4 : (x.what == 4) = false := by rw [q1]; rfl
              have t5 : (x.what == 5) = false := by rw [q1]; rfl
              have t6 : (x.what == 6) = true := by rw [q1]; rfl
              clear e1 e2 q1 i0 k0 k1 k2 k3 kf i3
              have hW := rstop_any hRh.out x.place r1 r2
              go_wp2_with (go_at_call 34; refine hW.mono ?_; rintro e w4 ⟨rfl, c4, h4⟩)
              go_meet
              case rel => exact ⟨by rw [e1h.out], by rw [e2h.out]; exact h4.mono fun _ => Or.inl, c4⟩
            · have e1h := Lib.hid e1
              have e2h := Lib.hid e2
              clear e1 e2 i0 k0 k1 k2 k3 kf i3
              have c4 : Chg F2 w3 w3 := Chg.refl _ _
              go_wp2
              go_meet
              case rel => exact ⟨by rw [e1h.out], by rw [e2h.out]; exact hRh.out.mono fun _ => Or.inl, c4⟩
          case rest =>
            obtain ⟨rfl, hb4, c4⟩ := hcut
            have hP4 := hP3h.out.two c4 hb4
            have hbox4 := box_chg c4 hbox3h.out hB2h.out
            have j1 := cell_of_row _ B 1 _ _ _ hbox4
            simp only [List.getElem?_toArray, List.getElem?_cons_zero, List.getElem?_cons_succ] at j1
            obtain ⟨gk, vs, vpq, k0, k1, k2, k3, -, ⟨aS, cS, rfl⟩, -, hkb⟩ := rhd_all hP4.b
            have hPh := Lib.hid hP4
            have ee := bne_self_eq_false (doE x dk)
            clear i0 i1 i2 i3 hbb hpp hb4 c4 hbox4 hbox3h hB2h hP3h k2 hP4
            generalize doE x dk = E at *
            generalize doB x dk = d2 at *
            have hoff : ((!d2.off) == d2.off) = false := by cases d2.off <;> rfl
            have hOn := fun W (e : Ext wc W) => on_any (hPh.out.a.ext e)
            have hSt := fun W (e : Ext wc W) => staged_any (hPh.out.a.ext e)
            have hRd := fun W (i : Int) (e : Ext wc W) => read_any (hPh.out.a.ext e) i
            have hRr := fun W (i : Int) (e : Ext wc W) => rread_any (hPh.out.b.ext e) i
            have hBy := fun W (e : Ext wc W) => bytes_any (hPh.out.a.ext e)
            have hl2 := bne_self_eq_false (d2.st.length : Int)
            have hS := fun W (e : Ext wc W) => (show W.cell? ⟨q, 0, none⟩ = some (.slice (some ⟨gk, 0, none⟩) d2.kept.length d2.kept.length) ∧ W.cell? ⟨q, 1, none⟩ = some (.slice aS d2.st.length cS) ∧ W.cell? ⟨q, 3, none⟩ = some (.bool d2.off) ∧ W.cell? ⟨B, 1, none⟩ = some (.int .i64 x.place) from ⟨e.cell k0, e.cell k1, e.cell k3, e.cell j1⟩)
            have hSh := Lib.hid hS
            clear hS k0 k1 k3 j1
            go_upto_region 28 with fail
            go_region_held3 (fun W => W.cell? ⟨q, 0, none⟩ = some (.slice (some ⟨gk, 0, none⟩) d2.kept.length d2.kept.length) ∧ W.cell? ⟨q, 1, none⟩ = some (.slice aS d2.st.length cS) ∧ W.cell? ⟨q, 3, none⟩ = some (.bool d2.off) ∧ W.cell? ⟨B, 1, none⟩ = some (.int .i64 x.place)) ((refine hSh.out _ ?_; (repeat (first | exact Ext.refl _ | with_reducible assumption | refine Ext.drew ?_ | refine Ext.alloc ?_ _ | refine Ext.trans ?_ (by assumption)))))
              (first
                | (go_at_call 17; refine (hOn _ (by (repeat (first | exact Ext.refl _ | with_reducible assumption | refine Ext.drew ?_ | refine Ext.alloc ?_ _ | refine Ext.trans ?_ (by assumption))))).mono ?_; rintro e w' ⟨rfl, rfl⟩)
                | (go_at_call 12; refine (hSt _ (by (repeat (first | exact Ext.refl _ | with_reducible assumption | refine Ext.drew ?_ | refine Ext.alloc ?_ _ | refine Ext.trans ?_ (by assumption))))).mono ?_; rintro e w' ⟨rfl, rfl⟩)
                | (go_at_call 14; refine (hRd _ _ (by (repeat (first | exact Ext.refl _ | with_reducible assumption | refine Ext.drew ?_ | refine Ext.alloc ?_ _ | refine Ext.trans ?_ (by assumption))))).mono ?_; rintro e w5 ⟨v5, rfl, hb5, e5⟩)
                | (go_at_call 35; refine (hRr _ _ (by (repeat (first | exact Ext.refl _ | with_reducible assumption | refine Ext.drew ?_ | refine Ext.alloc ?_ _ | refine Ext.trans ?_ (by assumption))))).mono ?_; rintro e w6 ⟨v6, rfl, hb6, rfl⟩)
                | (go_at_call 20; refine (hBy _ (by (repeat (first | exact Ext.refl _ | with_reducible assumption | refine Ext.drew ?_ | refine Ext.alloc ?_ _ | refine Ext.trans ?_ (by assumption))))).mono ?_; rintro e w7 ⟨v7, rfl, hb7, e7⟩)
                | (go_at_call 23; refine (same_self _ _ _ _ (by first | assumption | (refine Bytes.ext (by assumption) ?_; (repeat (first | exact Ext.refl _ | with_reducible assumption | refine Ext.drew ?_ | refine Ext.alloc ?_ _ | refine Ext.trans ?_ (by assumption))))) (by first | assumption | (refine Bytes.ext (by assumption) ?_; (repeat (first | exact Ext.refl _ | with_reducible assumption | refine Ext.drew ?_ | refine Ext.alloc ?_ _ | refine Ext.trans ?_ (by assumption)))))).mono ?_; rintro e w' ⟨rfl, rfl⟩))
            all_goals
              clear hOn hSt hRd hRr hBy hSh hoff hl2 ee hkb
              go_wp2
              go_roundw
              case rel => exact ⟨k + 1, by omega, by go_num, _, _, by rw [hnx.out]; exact hPh.out.ext (by (repeat (first | exact Ext.refl _ | with_reducible assumption | refine Ext.drew ?_ | refine Ext.alloc ?_ _ | refine Ext.trans ?_ (by assumption))))⟩
              case measure => simp [intOf]; omega
        · obtain rfl : k = l.length := by omega
          rw [List.take_length] at hd
          generalize beh n l = d2 at *
          have hL1 := len_any hd.a
          have hL2 := rLen_any hd.b
          have hE := hd.e
          clear hd
          go_wp2_with (first
            | (go_at_call 22; refine hL1.mono ?_; rintro e w' ⟨rfl, rfl⟩)
            | (go_at_call 26; refine hL2.mono ?_; rintro e w' ⟨rfl, rfl⟩))
          go_ret
          exact ⟨rfl, hE⟩
    · have dn : decide ((40 : Int) < n) = true := by rw [decide_eq_true_iff]; omega
      go_wp2
      go_ret
      exact ⟨rfl, eA⟩
  · have hf' : fewO l = false := by simpa using hf
    rw [hf']
    go_wp2
    go_ret
    exact ⟨rfl, eA⟩
end Go.Proofs.Ytehgdoceaeammaa
