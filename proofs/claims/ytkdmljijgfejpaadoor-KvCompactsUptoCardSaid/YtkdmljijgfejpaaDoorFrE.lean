/- Package frame: Scan. -/
import Derived.Test.YtkdmljijgfejpaaDoorFrD
import Derived.RangeFuncBox
namespace Go.Proofs.YtkdmljijgfejpaaDoor
set_option linter.unusedVariables false
set_option linter.unusedSimpArgs false
open Go.RowKit Go.Shelf Fr
attribute [local go_sem] Oper.semAt_some

theorem each_any (a : Option Addr) (n c : Nat) (w : World) : Calls Tryd.prog 67 #[.slice a n c] w fun e w' => e = .returned (.func (.func 80) #[] #[.pointer (some ⟨w.heap.size, 0, none⟩)]) ∧ w' = w.alloc (.cells #[.slice a n c] 23) := by
  go_enter Tryd.func67, Tryd.ntmps67
  go_wp2
  go_ret
  exact ⟨rfl, rfl⟩
/-- 'append(v, x)' inside a fence -/
theorem wpListIn_appendLL {F : Fence} {n : Nat} {ops : Array Oper} {rest : List Oper} {o : Oper} {a : Act} {w : World} {Q : Exit → Act → World → Prop} (hgd : o.guard = none) (s x : Operand)
    (ho : o.op = .call { callee := .builtin .append, args := #[s, x], argTypes := #[74, 74] })
    (base : Nat) (G : Nat → Prop) (v : Value) (ls : List (List UInt8)) (hs : a.eval s = v) (hown : OwnLL w base G v ls) (g c : Nat) (hx : a.eval x = .slice (some ⟨g, 0, none⟩) 1 c) (u : Value) (l : List UInt8) (hc : w.cell? ⟨g, 0, none⟩ = some u) (h1 : u.oneCell' = true) (hb : Bytes w u l)
    (hu : ∀ k, vblk u = some k → l ≠ [] → G k ∧ v.ownBlock ≠ some k) (hlen : ls.length ≤ 1048576) (hbase : base ≤ w.heap.size)
    (h : ∀ v' w', OwnLL w' base G v' (ls ++ [l]) → w.grownBy w' v.ownBlock → wpListIn F n Tryd.prog ops Q rest (a.put o.dst v') w') : wpListIn F n Tryd.prog ops Q (o :: rest) a w := by
  refine wpListIn_plain hgd fun K hK => ?_
  obtain ⟨v', w', hr, h2, h3⟩ := run_appendLL w o.type base G v ls hown g c u l hc h1 hb hu hlen hbase
  unfold Oper.wpIn
  refine ⟨?_, ?_⟩
  · simp [Oper.about, ho, resolve, Target.leads, Sem.run_pure]
  · rw [Oper.semAt_plain F _ _ (by rw [ho]; intro c hc'; cases hc')]
    simp [execOp, ho, resolve, invoke, builtin, hs, hx, hr, Result.andThen]
    exact hK _ _ (h v' w' h2 h3)
theorem OwnLL.not_u8 {W : World} {base : Nat} {G : Nat → Prop} {v : Value} {ls : List (List UInt8)} {g : Nat} (h : OwnLL W base G v ls) (hu : U8B W g) : v.ownBlock ≠ some g := by
  obtain ⟨vs, ⟨_, h2⟩, _⟩ := h
  rcases h2 with ⟨rfl, _⟩ | ⟨g', cap, cur, rfl, _, hh, _⟩
  · simp [Value.ownBlock]
  · intro e
    obtain rfl : g' = g := by simpa [Value.ownBlock] using e
    obtain ⟨c2, fr, h3⟩ := hu
    rw [hh] at h3
    cases h3
theorem OwnLL.keeps {W W' : World} {base : Nat} {G : Nat → Prop} {v : Value} {ls : List (List UInt8)} (h : OwnLL W base G v ls) (hg : W.grownBy W' v.ownBlock) : KeepsOthers W W' := by
  obtain ⟨vs, ⟨_, h2⟩, _⟩ := h
  refine KeepsOthers.of_grownBy hg fun j o ej hj => ?_
  rcases h2 with ⟨rfl, _⟩ | ⟨g', cap, cur, rfl, _, hh, _⟩
  · simp [Value.ownBlock] at ej
  · obtain rfl : g' = j := by simpa [Value.ownBlock] using ej
    rw [hh] at hj; cases hj; rfl
theorem OwnLL.down {W : World} {base base' : Nat} {G G' : Nat → Prop} {v : Value} {ls : List (List UInt8)} (h : OwnLL W base G v ls) (hb : base' ≤ base) (hG : ∀ k, G k → G' k) : OwnLL W base' G' v ls := by
  obtain ⟨vs, ⟨h1, h2⟩, h3⟩ := h
  refine ⟨vs, ⟨h1, ?_⟩, fun j l hj => ?_⟩
  · rcases h2 with h | ⟨g, cap, cur, e, hg, r⟩
    · exact .inl h
    · exact .inr ⟨g, cap, cur, e, by omega, r⟩
  · obtain ⟨x, k1, k2, k3, k4⟩ := h3 j l hj
    exact ⟨x, k1, k2, k3, fun k hk hl => ⟨hG k (k4 k hk hl).1, (k4 k hk hl).2⟩⟩
set_option maxHeartbeats 2000000 in
theorem scan_any (v : Value) (s : List UInt8) (w : World) (hw : Halves w) (hs : Bytes w v s) (hsl : s.length ≤ 1000000) :
    Calls Tryd.prog 54 #[v] w (Ret fun r w' => ∃ x, r = .tuple #[x, .int .i64 (size (scan s) : Int)] ∧ OwnLL w' w.heap.size (fun k => w.heap.size ≤ k) x (scan s) ∧ Ext w w') := by
  obtain ⟨W0, hW0⟩ : ∃ W, W = ((w.alloc (.cells #[.slice none 0 0] 74)).alloc (.cells #[.int .i64 0] 3)).alloc (.cells #[v] 23) := ⟨_, rfl⟩
  have hz0 : W0.heap.size = w.heap.size + 3 := by rw [hW0]; simp
  have e0 : Ext w W0 := by rw [hW0]; exact (((Ext.refl w).alloc _).alloc _).alloc _
  have hb1 : W0.heap[w.heap.size]? = some (.cells #[.slice none 0 0] 74) := by
    rw [hW0]
    exact ((Ext.refl _).alloc _ |>.heap ((Ext.refl _).alloc _ |>.heap (World.alloc_heap_new w _)))
  have hb2 : W0.heap[w.heap.size + 1]? = some (.cells #[.int .i64 0] 3) := by
    rw [hW0]
    have := World.alloc_heap_new (w.alloc (.cells #[.slice none 0 0] 74)) (.cells #[.int .i64 0] 3)
    rw [World.size_alloc] at this
    exact (Ext.refl _).alloc _ |>.heap this
  have hb3 : W0.heap[w.heap.size + 2]? = some (.cells #[v] 23) := by
    rw [hW0]
    have := World.alloc_heap_new ((w.alloc (.cells #[.slice none 0 0] 74)).alloc (.cells #[.int .i64 0] 3)) (.cells #[v] 23)
    rw [World.size_alloc, World.size_alloc] at this
    exact this
  have hseq := each1_any (3 - 1) (w.heap.size + 1 + 1) (fun k => w.heap.size ≤ k ∧ k ≠ w.heap.size + 1 + 1) v s W0 (hw.ext e0) hb3 (hs.ext e0) (fun h => h.2 rfl)
    (fun k hk hne => by
      have := hs.blk_lt hne k hk
      exact ⟨by omega, fun h => by omega⟩)
    (by
      have h0 := World.block_lt_of_cell? w _ (hw 0#32)
      simp only at h0
      exact ⟨fun h => by omega, by omega⟩)
  obtain ⟨a0, cap0, rfl, -⟩ := id hs
  refine (callsIn_wide (n := 3)).1 ?_
  refine callsIn_of_wp_marks Tryd.func54 rfl trivial ?_ rfl
  simp only [Tryd.ntmps54, List.size_toArray, List.length_cons, List.length_nil, Nat.reduceAdd, Nat.reduceSub, Array.replicate_succ, Array.replicate_zero, List.push_toArray, List.append_toArray, List.nil_append, List.cons_append]
  refine wpIn_wide.2 ?_
  have hW0h := Lib.hid hW0
  have e0h := Lib.hid e0
  have hsq := Lib.hid hseq
  have hb1h := Lib.hid hb1
  have hb2h := Lib.hid hb2
  have hb3h := Lib.hid hb3
  clear hW0 e0 hseq hb1 hb2 hb3
  go_upto_block 0 with (go_at_call 67; refine (each_any _ _ _ _).mono ?_; rintro e w' ⟨rfl, rfl⟩; go_wp2_with fail)
  rw [← hW0h.out]
  refine (wpIn_wide (n := 3)).1 ?_
  refine wpIn_rangeFunc_cell (F := Fence.wide) rfl (by decide) (gf := 80) (lb := #[.pointer (some ⟨w.heap.size + 1 + 1, 0, none⟩)]) rfl trivial (enters_of Tryd.func80 (by kernel_rfl) rfl) (C := w.heap.size + 1 + 1) (by omega) hsq.out ⟨by omega, by omega⟩ ⟨by omega, by omega⟩ rfl
    (fun pre W => ∃ vo, Boxed W w.heap.size 74 vo ∧ Boxed W (w.heap.size + 1) 3 (.int .i64 (size (pre.map (·.2)) : Int)) ∧ OwnLL W (w.heap.size + 5) (fun k => w.heap.size + 5 ≤ k) vo (pre.map (·.2)) ∧ size (pre.map (·.2)) ≤ s.length ∧ w.heap.size + 3 ≤ W.heap.size ∧ Ext w W)
    ?hI ?h0
    (fun x => { tmps := #[.slice a0 s.length cap0, undef, .slice none 0 0, .int .i64 0, .pointer (some ⟨w.heap.size, 0, none⟩), .pointer (some ⟨w.heap.size + 1, 0, none⟩), x.1, .slice a0 s.length cap0, .func (.func 80) #[] #[.pointer (some ⟨w.heap.size + 1 + 1, 0, none⟩)], x.1, undef, undef, undef, undef, undef, undef, undef, undef, undef, undef, undef], defers := [] }) ?assign ?body ?done
  case hI =>
    rintro pre A B' ⟨vo, bo, bn, ho, hsz, hz, hE⟩ hc
    have h1 : ∀ k, (k = w.heap.size ∨ k = w.heap.size + 1) → k < A.heap.size → B'.heap[k]? = A.heap[k]? := fun k hk hl => hc.block k hl (by omega)
    refine ⟨vo, (h1 _ (.inl rfl) bo.lt).trans bo, (h1 _ (.inr rfl) bn.lt).trans bn, ho.chg hc (fun k hk _ => by omega) (fun k hk _ => by omega), hsz, Nat.le_trans hz hc.size, hE.chg hc fun k hk => by omega⟩
  case h0 => exact ⟨.slice none 0 0, hb1h.out, hb2h.out, OwnLL.nil _ _ _, Nat.zero_le _, by omega, e0h.out⟩
  case assign =>
    intro l x W K hK
    gi_wp2
    exact hK
  case body =>
    rintro l pre ⟨x1, x2⟩ V W ⟨vo, bo, bn, ho, hsz, hz, hE⟩ ⟨g, cap, hx1, hg, ⟨hbx, hu8⟩, hok, t, hst⟩ hVW hlt
    dsimp only at hx1 hbx hu8 hok hst ⊢
    subst hx1
    have hbW := hbx.chgV hVW fun k hk _ => by have e : k = g := (by cases hk; rfl); omega
    have huW := hu8.chg hVW (show ¬ g = W0.heap.size + 1 by omega)
    have hpos := (Fr.ok_iff.1 hok).1
    have hgl := hbW.block_lt hpos
    have h4 := (Fr.ok_iff.1 hok).2
    have hlen : size (pre.map (·.2)) + (6 + x2.length) ≤ s.length := by
      have := congrArg List.length hst
      rw [List.length_append, Fr.all_length, Fr.size_append, show Fr.size [x2] = 6 + x2.length + 0 from rfl] at this
      omega
    have hsw := size_any (x2.length : Int) (by omega) (by omega)
    have hpl : (pre.map (·.2)).length ≤ 1000000 := by
      have key : ∀ ls : List (List UInt8), ls.length ≤ size ls := fun ls => by
        induction ls with
        | nil => exact Nat.le_refl _
        | cons a ls ih => rw [List.length_cons, show Fr.size (a :: ls) = 6 + a.length + Fr.size ls from rfl]; omega
      have := key (pre.map (·.2))
      omega
    have hne := ho.not_u8 huW
    have hol := ho.own_lt
    have hoh := Lib.hid ho
    have hbWh := Lib.hid hbW
    have hEh := Lib.hid hE
    have hlenh := Lib.hid hlen
    have hplh := Lib.hid hpl
    have hokh := Lib.hid hok
    have c1 := bo.cell
    have f1 := bo.frozen
    have c2 := bn.cell
    have f2 := bn.frozen
    have hap := Lib.hid (show ∀ W2 v2, OwnLL W2 (w.heap.size + 5) (fun k => w.heap.size + 5 ≤ k) v2 (pre.map (·.2) ++ [x2]) → (W.alloc (.cells #[.slice (some ⟨g, 6, none⟩) x2.length cap] 23)).grownBy W2 vo.ownBlock →
        (∃ a2 cap2, v2 = .slice a2 (pre.length + 1) cap2) ∧ W2.cell? ⟨w.heap.size, 0, none⟩ = some vo ∧ W2.frozen? ⟨w.heap.size, 0, none⟩ = false ∧
        Boxed (W2.setCell ⟨w.heap.size, 0, none⟩ v2) (w.heap.size + 1) 3 (.int .i64 (size (pre.map (·.2)) : Int)) ∧
        ∀ W3, W3 = (W2.setCell ⟨w.heap.size, 0, none⟩ v2).drew.setCell ⟨w.heap.size + 1, 0, none⟩ (.int .i64 ((size (pre.map (·.2)) : Int) + ((x2.length : Int) + 6))) →
          KeepsOthers W W3 ∧ Chg (fun k => w.heap.size ≤ k ∧ k ≠ w.heap.size + 1 + 1) W W3 ∧ ∃ vo, Boxed W3 w.heap.size 74 vo ∧ Boxed W3 (w.heap.size + 1) 3 (.int .i64 (size ((pre ++ [((.slice (some ⟨g, 6, none⟩) x2.length cap : Value), x2)]).map (·.2)) : Int)) ∧ OwnLL W3 (w.heap.size + 5) (fun k => w.heap.size + 5 ≤ k) vo ((pre ++ [((.slice (some ⟨g, 6, none⟩) x2.length cap : Value), x2)]).map (·.2)) ∧ size ((pre ++ [((.slice (some ⟨g, 6, none⟩) x2.length cap : Value), x2)]).map (·.2)) ≤ s.length ∧ w.heap.size + 3 ≤ W3.heap.size ∧ Ext w W3 from by
      intro W2 v2 o2 g2
      have c0 : Chg (fun k => w.heap.size + 5 ≤ k) W (W.alloc (.cells #[.slice (some ⟨g, 6, none⟩) x2.length cap] 23)) := Chg.of_ext ((Ext.refl W).alloc _)
      have c1 : Chg (fun k => w.heap.size + 5 ≤ k) W W2 := c0.grown g2 fun k hk _ => (hol k hk).1
      have b1 : Boxed W2 w.heap.size 74 vo := (c1.block _ bo.lt (by omega)).trans bo
      have b2 : Boxed W2 (w.heap.size + 1) 3 (.int .i64 (size (pre.map (·.2)) : Int)) := (c1.block _ bn.lt (by omega)).trans bn
      obtain ⟨a2, cap2, q1, -⟩ := o2.get
      rw [List.length_append, List.length_map] at q1
      have c2 : Chg (fun k => k = w.heap.size) W2 (W2.setCell ⟨w.heap.size, 0, none⟩ v2) := (Chg.refl (fun k => k = w.heap.size) W2).setCell (fun _ => rfl) _
      have b3 : Boxed (W2.setCell ⟨w.heap.size, 0, none⟩ v2) (w.heap.size + 1) 3 (.int .i64 (size (pre.map (·.2)) : Int)) := (c2.block _ b2.lt (by omega)).trans b2
      refine ⟨⟨a2, cap2, q1⟩, b1.cell, b1.frozen, b3, ?_⟩
      rintro W3 rfl
      have c3 : Chg (fun k => k = w.heap.size + 1) (W2.setCell ⟨w.heap.size, 0, none⟩ v2) ((W2.setCell ⟨w.heap.size, 0, none⟩ v2).drew.setCell ⟨w.heap.size + 1, 0, none⟩ (.int .i64 ((size (pre.map (·.2)) : Int) + ((x2.length : Int) + 6)))) := (Chg.refl (fun k => k = w.heap.size + 1) _).drew.setCell (fun _ => rfl) _
      have b4 : Boxed (W2.setCell ⟨w.heap.size, 0, none⟩ v2) w.heap.size 74 v2 := b1.set v2
      have o3 := (o2.chg c2 (fun k hk _ => by omega) (fun k hk _ => by omega)).chg c3 (fun k hk _ => by omega) (fun k hk _ => by omega)
      have cAll : Chg (fun k => w.heap.size ≤ k ∧ k ≠ w.heap.size + 1 + 1) W ((W2.setCell ⟨w.heap.size, 0, none⟩ v2).drew.setCell ⟨w.heap.size + 1, 0, none⟩ (.int .i64 ((size (pre.map (·.2)) : Int) + ((x2.length : Int) + 6)))) :=
        ((c1.mono fun k hk => by omega).trans (c2.mono fun k hk => by omega)).trans (c3.mono fun k hk => by omega)
      have hsz2 : size ((pre ++ [((.slice (some ⟨g, 6, none⟩) x2.length cap : Value), x2)]).map (·.2)) = size (pre.map (·.2)) + (6 + x2.length) := by
        rw [List.map_append, Fr.size_append]; rfl
      refine ⟨((ho.ext ((Ext.refl W).alloc _)).keeps g2 |> (KeepsOthers.alloc W _).trans).trans ((KeepsOthers.setCell _ _ _).trans ((KeepsOthers.drew _).trans (KeepsOthers.setCell _ _ _))), cAll, v2, (c3.block _ b4.lt (by omega)).trans b4, ?_, ?_, ?_, ?_, ?_⟩
      · rw [hsz2]
        have := Boxed.set (.int .i64 ((size (pre.map (·.2)) : Int) + ((x2.length : Int) + 6))) (show Boxed (W2.setCell ⟨w.heap.size, 0, none⟩ v2).drew (w.heap.size + 1) 3 _ from b3)
        rw [show ((size (pre.map (·.2)) + (6 + x2.length) : Nat) : Int) = (size (pre.map (·.2)) : Int) + ((x2.length : Int) + 6) by omega]
        exact this
      · rw [List.map_append]; exact o3
      · rw [hsz2]; exact hlen
      · exact Nat.le_trans hz cAll.size
      · exact hE.chg cAll fun k hk => hk.1)
    have hwr : IntKind.i64.wrap ((size (pre.map (·.2)) : Int) + ((x2.length : Int) + 6)) = (size (pre.map (·.2)) : Int) + ((x2.length : Int) + 6) := by rw [IntKind.wrap_i64]; omega
    have hdep : 1 ≤ 3 - 1 - 1 := by decide
    clear ho hbW hbx hE hlen hok hst hpl hu8 huW
    gi_wp2_with (gi_at_builtin; go_must (refine wpListIn_appendLL rfl _ _ rfl (w.heap.size + 5) (fun k => w.heap.size + 5 ≤ k) vo _ rfl (hoh.out.ext ((Ext.refl W).alloc _)) _ _ rfl _ x2 (cell_one_new _ _ _ 0 _ rfl) rfl (hbWh.out.ext ((Ext.refl W).alloc _)) (fun k hk _ => by have e : k = g := (by cases hk; rfl); subst e; exact ⟨by omega, hne⟩) (by have := hplh.out; omega) (by simp; omega) ?_); intro v2 W2 o2 g2; obtain ⟨⟨a2, cap2, rfl⟩, d1, d2, d3, hfin⟩ := hap.out _ _ o2 g2; have d4 := d3.cell; have d5 := d3.frozen; gi_wp2_with fail)
    gi_region_with (refine ⟨trivial, ?_⟩; refine (CallsIn.inRound l (callsIn_wide.2 (hsw _))).mono ?_; rintro e w' ⟨rfl, rfl⟩)
    all_goals gi_wp2
    all_goals exact hfin _ rfl
  case done =>
    rintro xs W hS ⟨vo, bo, bn, ho, hsz, hz, hE⟩ hK
    obtain ⟨a2, cap2, rfl, -⟩ := ho.get
    have hoh := Lib.hid ho
    have hEh := Lib.hid hE
    have hKh := Lib.hid hK
    have c1 := bo.cell
    have c2 := bn.cell
    clear ho hE hK
    rw [hS] at *
    gi_wp2
    go_wp2
    go_region
    go_wp2
    have hKd : W.drew.heap[w.heap.size + 3]? = some (.deferred (some [])) := by have := hKh.out; rw [hz0] at this; exact this
    have hcp : Chg (fun k => k = w.heap.size + 3) W (W.drew.putObj (w.heap.size + 3) (.deferred none)) := ((Chg.refl (fun k => k = w.heap.size + 3) W).drew).putObj rfl _
    have o9 := (hoh.out.chg hcp (fun k hk hl => by omega) (fun k hk hl => by omega)).down (base' := w.heap.size) (G' := fun k => w.heap.size ≤ k) (by omega) (fun k hk => by omega)
    refine ⟨by simp, .inl ⟨_, _, rfl, run_takeDeferred hKd, ?_⟩⟩
    exact ⟨_, results_tmp2 rfl _ _ _, Ret.mk ⟨_, rfl, o9, hEh.out.chg hcp fun k hk => by omega⟩⟩
end Go.Proofs.YtkdmljijgfejpaaDoor
