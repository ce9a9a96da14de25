/- The document's log: Append. -/
import Derived.Test.YtmpjcnopakfdmaaDoorGZp
import Derived.Test.YtmpjcnopakfdmaaDoorWlO
import Derived.Test.YtmpjcnopakfdmaaDoorLast
namespace Go.Proofs.YtmpjcnopakfdmaaDoor
set_option linter.unusedVariables false
set_option linter.unusedSimpArgs false
open Go.RowKit Dk Wl Fr

theorem plan_app {g : Lg} {rs : List (List UInt8)} {b : List UInt8} (s : Sane g) (hu : g.u = all rs) (h1 : errOf b = 0) : opL (.app b) g = if 32 * areaN g.d.n < size (rs ++ [b]) ∨ 262144 ≤ g.h.gen + 1 then (5, g) else putL ⟨g.h.gen + 1, g.h.area, size (rs ++ [b])⟩ (all (rs ++ [b])) (g.h.used / 32) g := by
  have hsz : size (rs ++ [b]) = g.h.used + (6 + b.length) := by
    rw [size_append, ← all_length rs, ← hu, s.used]; rfl
  have hal : all (rs ++ [b]) = g.u ++ frm b := by rw [all_append, ← hu]; show _ ++ (frm b ++ []) = _; rw [List.append_nil]
  rw [hsz, hal]
  have hopL : opL (.app b) g = match planL (.app b) g.d.n g.h g.u with | .inl e => (e, g) | .inr (h', u', i0) => putL h' u' i0 g := rfl
  rcases planL_app b g.d.n g.h g.u with ⟨h0, -⟩ | ⟨-, hf, hq⟩ | ⟨-, hf, hq⟩
  · exact absurd h1 h0
  · rw [hopL, hq, if_pos hf]
  · rw [hopL, hq, if_neg hf]
/-- 'append(v, u)' of one list, as an operation of a drawn region -/
theorem step_appendLLy {ops : Array Oper} {o : Oper} {a : Act} {w : World} {K : Act → World → Prop} {Q : Exit → Act → World → Prop} {E : Prop} (hgd : o.guard = none) (s x : Operand)
    (ho : o.op = .call { callee := .builtin .append, args := #[s, x], argTypes := #[23, 23] })
    (base : Nat) (G : Nat → Prop) (v : Value) (ls : List (List UInt8)) (hs : a.eval s = v) (hown : OwnLL w base G v ls) (g c : Nat) (hx : a.eval x = .slice (some ⟨g, 0, none⟩) 1 c) (u : Value) (l : List UInt8) (hc : w.cell? ⟨g, 0, none⟩ = some u) (h1 : u.oneCell' = true) (hb : Bytes w u l)
    (hu : ∀ k, vblk u = some k → l ≠ [] → G k ∧ v.ownBlock ≠ some k) (hlen : ls.length ≤ 1048000) (hbase : base ≤ w.heap.size)
    (h : ∀ v' w', OwnLL w' base G v' (ls ++ [l]) → w.grownBy w' v.ownBlock → K (a.put o.dst v') w') : if Region.wanted o (yielded ops a.tmps) = true then Oper.wp Tryd.prog o a w K Q else E := by
  have hw : Region.wanted o (yielded ops a.tmps) = true := by simp [Region.wanted, hgd]
  rw [if_pos hw]
  obtain ⟨v', w', hr, h2, h3, -⟩ := run_appendLLx w o.type base G v ls hown ⟨g, 0, none⟩ c [u] [l] rfl
    (fun j y hy => by
      match j, hy with
      | 0, hy => simp at hy; subst hy; simpa [Addr.add] using hc)
    (fun j y m hy hm => by
      match j, hy, hm with
      | 0, hy, hm => simp at hy hm; subst hy; subst hm; exact ⟨h1, hb, hu⟩) (by simp; omega) hbase
  unfold Oper.wp execOp
  simp only [ho, resolve, invoke, builtin, Sem.run_bind, Sem.run_pure, Result.andThen_ok, List.map_toArray, List.map_cons, List.map_nil, hs, hx]
  rw [show ([l] : List (List UInt8)).length = 1 from rfl] at hr
  simp only [hr, Result.andThen_ok]
  exact h v' w' h2 h3
/-- the one list that is appended: its row is new -/
theorem OwnB.newLL {W W' : World} {base : Nat} {G G' : Nat → Prop} {v u : Value} {ls : List (List UInt8)} {l : List UInt8} (o : OwnB W base u l) (e : Ext W W') (hG : ∀ k, base ≤ k → G k) (ho : OwnLL W' base G' v ls) : u.oneCell' = true ∧ Bytes W' u l ∧ ∀ k, vblk u = some k → l ≠ [] → G k ∧ v.ownBlock ≠ some k := by
  refine ⟨?_, o.bytes.ext e, fun k hk hl => ?_⟩
  · obtain ⟨a, c, rfl, -⟩ := o.bytes; rfl
  · have hpos := List.length_pos_iff.2 hl
    obtain ⟨g, cap, rfl, h2, -⟩ := o.cells hpos
    cases hk
    exact ⟨hG _ h2, ho.not_u8 (o.u8.ext e)⟩
theorem OwnLL.freshE {w : World} {G : Nat → Prop} {n : Nat} (h : n = w.heap.size) : OwnLL (w.alloc (.cells #[] 22)) w.heap.size G (.slice (some ⟨n, 0, none⟩) 0 0) [] := by subst h; exact OwnLL.fresh w G
theorem size_ofE {a w : World} (e : Ext a w) : a.heap.size ≤ w.heap.size := e.size
/-- lists that are owned stay, when other bytes that are owned grow -/
theorem OwnLL.grownX {W W' : World} {base base2 : Nat} {G : Nat → Prop} {v v2 : Value} {ls : List (List UInt8)} {l2 : List UInt8} (h : OwnLL W base G v ls) (o : OwnB W base2 v2 l2) (hg : W.grownBy W' v2.ownBlock) (hG : ∀ k, G k → k < base2) : OwnLL W' base G v ls := by
  have hu : ∀ k, v2.ownBlock = some k → U8B W k := fun k hk => by
    obtain ⟨h1, h2⟩ := o
    rcases h2 with ⟨rfl, -⟩ | ⟨g, cap, cur, rfl, hb, hh, -⟩
    · cases hk
    · cases hk; exact ⟨cur, _, hh⟩
  exact h.chgO (F := fun k => v2.ownBlock = some k) ((Chg.refl _ W).grown hg fun k hk _ => hk) (fun k hk h' => h.not_u8 (hu k h') hk) fun k hk _ h' => by
    have := o.lt k h'
    have := hG k hk
    omega
theorem OwnB.grownX {W W' : World} {base : Nat} {v : Value} {l : List UInt8} {row : Option Nat} (h : OwnB W base v l) (hg : W.grownBy W' row) (hr : ∀ k, row = some k → v.ownBlock ≠ some k) : OwnB W' base v l := by
  have c : Chg (fun k => row = some k) W W' := (Chg.refl _ W).grown hg fun k hk _ => hk
  obtain ⟨h1, h⟩ := h
  refine ⟨h1, ?_⟩
  rcases h with ⟨rfl, h0⟩ | ⟨g, cap, cur, rfl, hb, hh, r⟩
  · exact .inl ⟨rfl, h0⟩
  · exact .inr ⟨g, cap, cur, rfl, hb, by rw [c.block g (Array.getElem?_eq_some_iff.1 hh).1 (fun e => hr g e rfl)]; exact hh, r⟩
set_option maxRecDepth 20000 in
set_option maxHeartbeats 2000000 in
theorem rlogAppend_any {w : World} {A F : Nat → Prop} {q p : Nat} {g : Lg} {vb : Value} {rs : List (List UInt8)} {b : List UInt8} (m : RLogM w A F q p g rs) (hA : ∀ k, A k → k < w.heap.size) (s : Sane g) (hok : g.d.Ok) (hst : g.d.st.length ≤ 100000) (hu : g.u = all rs) (he : errAll rs = 0) (hb : Bytes w vb b) (hn : rs.length ≤ 900000) :
    Calls Tryd.prog 44 #[.pointer (some ⟨q, 0, none⟩), vb] w fun e w' => e = .returned (.int .i64 (opL (.app b) g).1) ∧ Chg F w w' ∧ RLogM w' A (grow F w) q p (opL (.app b) g).2 (if (opL (.app b) g).1 = 0 then rs ++ [b] else rs) := by
  have hmh := Lib.hid m
  obtain ⟨G, vl, hD, hGF, hGs, hq, hnq, hl, hr⟩ := m
  have hra := rput_any vb b w hb
  obtain ⟨al, cl, rfl, -⟩ := id hb
  have hbh := Lib.hid hb
  obtain ⟨X, hX⟩ : ∃ X, X = opL (.app b) g := ⟨_, rfl⟩
  rw [← hX]
  refine gen_post ?_
  intro Q0 hQ0
  by_cases h1 : errOf b = 0
  · rw [h1] at hra
    have hXp := hX.trans (plan_app s hu h1)
    have hAe := errAll_append rs [b] he
    have hE : errAll (rs ++ [b]) = 0 := by rw [hAe]; show (if errOf b = 0 then (0 : Int) else errOf b) = 0; rw [if_pos h1]
    have hfr : g.h.used ≤ (all (rs ++ [b])).length := by rw [all_length, size_append, ← all_length rs, ← hu, s.used]; omega
    have ha := s.fine.area
    have hput := Lib.hid (fun W v (e : Ext w W) (ho : OwnLL W w.heap.size (fun k => ¬ G k ∧ k ≠ q ∧ ¬ A k) v (rs ++ [b])) => rlogPut_m (A := A) (a := g.h.area) (fr := g.h.used) hD hGF hGs hq hnq hl hA hr s hok hst e ha ho (by simp; omega) hE hfr X hXp)
    have hrP := Lib.hid ((hr w (Chg.refl _ _)).mono (P' := fun k => ¬ G k ∧ k ≠ q ∧ ¬ A k) fun k _ hk => ⟨hk.1, hk.2.1, hk.2.2.1⟩)
    have hl2 := Lib.hid hl
    have hbl : b.length ≤ 140737488355328 := by have h2 := h1; unfold errOf at h2; split at h2 <;> first | omega | (split at h2 <;> omega)
    have hGh := Lib.hid (show (∀ k, G k → k < w.heap.size) ∧ q < w.heap.size ∧ (∀ k, A k → k < w.heap.size) from ⟨hGs, hl.lt, hA⟩)
    clear hXp hX hmh hr hD hGF hGs hq hnq hA s hok hst hb h1 ha hl hu he hAe hE hfr
    go_enter Tryd.func44, Tryd.ntmps44
    go_upto_region 4 with (go_at_call 15; refine hra.mono ?_; rintro e w1 ⟨r, rfl, x, rfl, e1, ⟨-, hx⟩ | ⟨hx, -⟩⟩; rotate_left; exact absurd rfl hx)
    have hl3 := hl2.out.ext e1
    obtain ⟨-, -, c2, c3, c4⟩ := hl3.cells
    have hS := Lib.hid (show ∀ W, Ext w1.drew W → (W.cell? ⟨q, 2, none⟩ = some (.int .i64 (g.h.area : Int)) ∧ W.cell? ⟨q, 3, none⟩ = some (.int .i64 (g.h.used : Int)) ∧ W.cell? ⟨q, 4, none⟩ = some vl) from fun W e => ⟨e.cell c2, e.cell c3, e.cell c4⟩)
    have e11 : Ext w w1.drew := e1.drew
    have b1 := ((hrP.out.ext e11).mono (P' := fun k => (¬ G k ∧ k ≠ q ∧ ¬ A k) ∧ k < w1.drew.heap.size) fun k h1 h2 => ⟨h2, h1⟩)
    have bb := Lib.hid (hbh.out.ext e11)
    have hsz : w.heap.size ≤ w1.drew.heap.size := e11.size
    have hnl : ([] : List (List UInt8)).length + rs.length ≤ 1048576 := by simp; omega
    have hnb : ([] : List UInt8).length + b.length ≤ 140737488355328 := by simp; omega
    clear hx e1 hra hl3 hrP
    have hGn := Lib.hid (show ∀ k, w1.drew.heap.size ≤ k → ¬ G k ∧ k ≠ q ∧ ¬ A k from fun k hk => ⟨fun h => by have := hGh.out.1 k h; omega, by have := hGh.out.2.1; omega, fun h => by have := hGh.out.2.2 k h; omega⟩)
    -- BEGIN APP
    refine wp_region_last2 (S := (fun W => W.cell? ⟨q, 2, none⟩ = some (.int .i64 (g.h.area : Int)) ∧ W.cell? ⟨q, 3, none⟩ = some (.int .i64 (g.h.used : Int)) ∧ W.cell? ⟨q, 4, none⟩ = some vl)) (by kernel_rfl) (by kernel_rfl) (by kernel_rfl) (by kernel_rfl) (by kernel_rfl) ?_ (fun hHeld => ?_)
    · exact hS.out _ (Ext.refl _)
    generalize w1.drew = D at *
    simp only [List.pop_toArray, List.dropLast_cons_cons, List.dropLast_singleton]
    refine wpAnyH_take (i := 0) (oi := ⟨some 15, _, _, _, _, _⟩) (v := ?_) rfl (by kernel_rfl) (by kernel_rfl) (by kernel_rfl) (fun _ _ _ h => h) (Or.inl ⟨by kernel_rfl, ?_⟩) hHeld ?_
    rotate_left
    · (intro w hSw; (try dsimp only at hSw); go_simp; try with_reducible rfl)
    try simp only [Act.put, List.setIfInBounds_toArray, List.set_cons_zero, List.set_cons_succ]
    refine wpAnyH_take (i := 1) (oi := ⟨some 16, _, _, _, _, _⟩) (v := ?_) rfl (by kernel_rfl) (by kernel_rfl) (by kernel_rfl) (fun _ _ _ h => h) (Or.inl ⟨by kernel_rfl, ?_⟩) hHeld ?_
    rotate_left
    · (intro w hSw; (try dsimp only at hSw); go_simp; try with_reducible rfl)
    try simp only [Act.put, List.setIfInBounds_toArray, List.set_cons_zero, List.set_cons_succ]
    refine wpAnyH_take (i := 2) (oi := ⟨some 17, _, _, _, _, _⟩) (v := ?_) rfl (by kernel_rfl) (by kernel_rfl) (by kernel_rfl) (fun _ _ _ h => h) (Or.inl ⟨by kernel_rfl, ?_⟩) hHeld ?_
    rotate_left
    · (intro w hSw; (try dsimp only at hSw); go_simp; try with_reducible rfl)
    try simp only [Act.put, List.setIfInBounds_toArray, List.set_cons_zero, List.set_cons_succ]
    refine wpAnyH_take (i := 3) (oi := ⟨some 18, _, _, _, _, _⟩) (v := ?_) rfl (by kernel_rfl) (by kernel_rfl) (by kernel_rfl) (fun _ _ _ h => h) (Or.inl ⟨by kernel_rfl, ?_⟩) hHeld ?_
    rotate_left
    · (intro w hSw; (try dsimp only at hSw); go_simp; try with_reducible rfl)
    try simp only [Act.put, List.setIfInBounds_toArray, List.set_cons_zero, List.set_cons_succ]
    refine wpAnyH_take (i := 4) (oi := ⟨some 19, _, _, _, _, _⟩) (v := ?_) rfl (by kernel_rfl) (by kernel_rfl) (by kernel_rfl) (fun _ _ _ h => h) (Or.inl ⟨by kernel_rfl, ?_⟩) hHeld ?_
    rotate_left
    · (intro w hSw; (try dsimp only at hSw); go_simp; try with_reducible rfl)
    try simp only [Act.put, List.setIfInBounds_toArray, List.set_cons_zero, List.set_cons_succ]
    refine wpAnyH_take (i := 6) (oi := ⟨some 21, _, _, _, _, _⟩) (v := ?_) rfl (by kernel_rfl) (by kernel_rfl) (by kernel_rfl) (fun _ _ _ h => h) (Or.inl ⟨by kernel_rfl, ?_⟩) hHeld ?_
    rotate_left
    · (intro w hSw; (try dsimp only at hSw); go_simp; try with_reducible rfl)
    try simp only [Act.put, List.setIfInBounds_toArray, List.set_cons_zero, List.set_cons_succ]
    refine wpAnyH_take (i := 7) (oi := ⟨some 22, _, _, _, _, _⟩) (v := ?_) rfl (by kernel_rfl) (by kernel_rfl) (by kernel_rfl) (fun _ _ _ h => h) (Or.inl ⟨by kernel_rfl, ?_⟩) hHeld ?_
    rotate_left
    · (intro w hSw; (try dsimp only at hSw); go_simp; try with_reducible rfl)
    try simp only [Act.put, List.setIfInBounds_toArray, List.set_cons_zero, List.set_cons_succ]
    refine wpAnyH_take (i := 8) (oi := ⟨some 23, _, _, _, _, _⟩) (v := ?_) rfl (by kernel_rfl) (by kernel_rfl) (by kernel_rfl) (fun _ _ _ h => h) (Or.inl ⟨by kernel_rfl, ?_⟩) hHeld ?_
    rotate_left
    · (intro w hSw; (try dsimp only at hSw); go_simp; try with_reducible rfl)
    try simp only [Act.put, List.setIfInBounds_toArray, List.set_cons_zero, List.set_cons_succ]
    refine wpAnyH_take (i := 9) (oi := ⟨some 24, _, _, _, _, _⟩) (v := ?_) rfl (by kernel_rfl) (by kernel_rfl) (by kernel_rfl) (fun _ _ _ h => h) (Or.inl ⟨by kernel_rfl, ?_⟩) hHeld ?_
    rotate_left
    · (intro w hSw; (try dsimp only at hSw); go_simp; try with_reducible rfl)
    try simp only [Act.put, List.setIfInBounds_toArray, List.set_cons_zero, List.set_cons_succ]
    refine wpAnyH_take (i := 12) (oi := ⟨some 27, _, _, _, _, _⟩) (v := ?_) rfl (by kernel_rfl) (by kernel_rfl) (by kernel_rfl) (fun _ _ _ h => h) (Or.inl ⟨by kernel_rfl, ?_⟩) hHeld ?_
    rotate_left
    · (intro w hSw; (try dsimp only at hSw); go_simp; try with_reducible rfl)
    try simp only [Act.put, List.setIfInBounds_toArray, List.set_cons_zero, List.set_cons_succ]
    refine wpAnyH_take (i := 16) (oi := ⟨some 31, _, _, _, _, _⟩) (v := ?_) rfl (by kernel_rfl) (by kernel_rfl) (by kernel_rfl) (fun _ _ _ h => h) (Or.inl ⟨by kernel_rfl, ?_⟩) hHeld ?_
    rotate_left
    · (intro w hSw; (try dsimp only at hSw); go_simp; try with_reducible rfl)
    try simp only [Act.put, List.setIfInBounds_toArray, List.set_cons_zero, List.set_cons_succ]
    refine wpAnyH_take (i := 17) (oi := ⟨some 32, _, _, _, _, _⟩) (v := ?_) rfl (by kernel_rfl) (by kernel_rfl) (by kernel_rfl) (fun _ _ _ h => h) (Or.inl ⟨by kernel_rfl, ?_⟩) hHeld ?_
    rotate_left
    · (intro w hSw; (try dsimp only at hSw); go_simp; try with_reducible rfl)
    try simp only [Act.put, List.setIfInBounds_toArray, List.set_cons_zero, List.set_cons_succ]
    refine wpAnyH_take (i := 18) (oi := ⟨some 33, _, _, _, _, _⟩) (v := ?_) rfl (by kernel_rfl) (by kernel_rfl) (by kernel_rfl) (fun _ _ _ h => h) (Or.inl ⟨by kernel_rfl, ?_⟩) hHeld ?_
    rotate_left
    · (intro w hSw; (try dsimp only at hSw); go_simp; try with_reducible rfl)
    try simp only [Act.put, List.setIfInBounds_toArray, List.set_cons_zero, List.set_cons_succ]
    refine wpAnyH_take (i := 19) (oi := ⟨some 34, _, _, _, _, _⟩) (v := ?_) rfl (by kernel_rfl) (by kernel_rfl) (by kernel_rfl) (fun _ _ _ h => h) (Or.inl ⟨by kernel_rfl, ?_⟩) hHeld ?_
    rotate_left
    · (intro w hSw; (try dsimp only at hSw); go_simp; try with_reducible rfl)
    try simp only [Act.put, List.setIfInBounds_toArray, List.set_cons_zero, List.set_cons_succ]
    refine wpAnyH_ready (rs := [5, 11]) (by kernel_rfl) (by simp) ?_
    refine AllReadyH.cons (o := ⟨some 20, _, _, _, _, _⟩) rfl (fun K hK => ?_) ?_
    · go_simp
      clear hHeld
      refine hK.out _ _ ?_ (fun hHeld => ?_)
      · (refine hS.out _ ?_; (repeat (first | exact Ext.refl _ | with_reducible assumption | refine Ext.drew ?_ | refine Ext.alloc ?_ _ | refine Ext.trans ?_ (by assumption))))
      clear hK K
      try simp only [Act.put, List.setIfInBounds_toArray, List.set_cons_zero, List.set_cons_succ]
      refine wpAnyH_ready (rs := [10, 11]) (by kernel_rfl) (by simp) ?_
      refine AllReadyH.cons (o := ⟨some 25, _, _, _, _, _⟩) rfl (fun K hK => ?_) ?_
      · (refine step_appendP rfl (.tmp 20) (.tmp 24) rfl D.heap.size (fun k => (¬ G k ∧ k ≠ q ∧ ¬ A k) ∧ k < D.heap.size) (.slice (some ⟨D.heap.size, 0, none⟩) 0 0) [] rfl ?_ D rfl (by (repeat (first | exact Ext.refl _ | with_reducible assumption | refine Ext.drew ?_ | refine Ext.alloc ?_ _ | refine Ext.trans ?_ (by assumption)))) vl rfl rs b1 hnl ?_)
        · exact ((OwnLL.freshE (w := D) (by first | rfl | exact (World.size_alloc _ _).symm)).down (size_ofE (a := D) (by (repeat (first | exact Ext.refl _ | with_reducible assumption | refine Ext.drew ?_ | refine Ext.alloc ?_ _ | refine Ext.trans ?_ (by assumption))))) (fun _ h => h)).ext (by (repeat (first | exact Ext.refl _ | with_reducible assumption | refine Ext.drew ?_ | refine Ext.alloc ?_ _ | refine Ext.trans ?_ (by assumption))))
        intro v25 w10 o25 g25
        have o25 : OwnLL w10 D.heap.size (fun k => (¬ G k ∧ k ≠ q ∧ ¬ A k) ∧ k < D.heap.size) v25 rs := o25
        have e10 : Ext D w10 := Ext.grown (by (repeat (first | exact Ext.refl _ | with_reducible assumption | refine Ext.drew ?_ | refine Ext.alloc ?_ _ | refine Ext.trans ?_ (by assumption)))) g25 (fun k hk => by have h1 : some (D.heap.size) = some k := hk; have h2 := Option.some.inj h1; omega)
        clear hHeld
        refine hK.out _ _ ?_ (fun hHeld => ?_)
        · (refine hS.out _ ?_; (repeat (first | exact Ext.refl _ | with_reducible assumption | refine Ext.drew ?_ | refine Ext.alloc ?_ _ | refine Ext.trans ?_ (by assumption))))
        clear hK K
        try simp only [Act.put, List.setIfInBounds_toArray, List.set_cons_zero, List.set_cons_succ]
        refine wpAnyH_ready (rs := [11]) (by kernel_rfl) (by simp) ?_
        refine AllReadyH.cons (o := ⟨some 26, _, _, _, _, _⟩) rfl (fun K hK => ?_) ?_
        · go_simp
          clear hHeld
          have o26 : OwnB (w10.alloc (.cells #[] 5)) D.heap.size (.slice (some ⟨w10.heap.size, 0, none⟩) 0 0) [] := OwnB.empty (by first | rfl | exact (World.size_alloc _ _).symm) (size_ofE (a := D) (by (repeat (first | exact Ext.refl _ | with_reducible assumption | refine Ext.drew ?_ | refine Ext.alloc ?_ _ | refine Ext.trans ?_ (by assumption)))))
          have o25 := o25.ext (by (repeat (first | exact Ext.refl _ | with_reducible assumption | refine Ext.drew ?_ | refine Ext.alloc ?_ _ | refine Ext.trans ?_ (by assumption))) : Ext _ (w10.alloc (.cells #[] 5)))
          refine hK.out _ _ ?_ (fun hHeld => ?_)
          · (refine hS.out _ ?_; (repeat (first | exact Ext.refl _ | with_reducible assumption | refine Ext.drew ?_ | refine Ext.alloc ?_ _ | refine Ext.trans ?_ (by assumption))))
          clear hK K
          try simp only [Act.put, List.setIfInBounds_toArray, List.set_cons_zero, List.set_cons_succ]
          refine wpAnyH_ready (rs := [13]) (by kernel_rfl) (by simp) ?_
          refine AllReadyH.cons (o := ⟨some 28, _, _, _, _, _⟩) rfl (fun K hK => ?_) ?_
          · refine step_appendB rfl (.tmp 26) (.tmp 27) rfl D.heap.size (.slice (some ⟨w10.heap.size, 0, none⟩) 0 0) [] rfl ?_ (.slice al b.length cl) b rfl (bb.out.ext (by (repeat (first | exact Ext.refl _ | with_reducible assumption | refine Ext.drew ?_ | refine Ext.alloc ?_ _ | refine Ext.trans ?_ (by assumption))))) hnb (size_ofE (a := D) (by (repeat (first | exact Ext.refl _ | with_reducible assumption | refine Ext.drew ?_ | refine Ext.alloc ?_ _ | refine Ext.trans ?_ (by assumption))))) ?_
            · exact o26
            intro v28 w13 o28 g28
            have e13 : Ext D w13 := Ext.grown (by (repeat (first | exact Ext.refl _ | with_reducible assumption | refine Ext.drew ?_ | refine Ext.alloc ?_ _ | refine Ext.trans ?_ (by assumption)))) g28 (o26.lt)
            have o25b := (o25.grownX o26 g28 (fun k hk => hk.2)).down (Nat.le_refl _) (fun k hk => hk.1)
            have o28 : OwnB w13 D.heap.size v28 b := o28
            obtain ⟨a28, c28, rfl, -⟩ := id o28.bytes
            clear hHeld
            refine hK.out _ _ ?_ (fun hHeld => ?_)
            · (refine hS.out _ ?_; (repeat (first | exact Ext.refl _ | with_reducible assumption | refine Ext.drew ?_ | refine Ext.alloc ?_ _ | refine Ext.trans ?_ (by assumption))))
            clear hK K
            try simp only [Act.put, List.setIfInBounds_toArray, List.set_cons_zero, List.set_cons_succ]
            refine wpAnyH_ready (rs := [14]) (by kernel_rfl) (by simp) ?_
            refine AllReadyH.cons (o := ⟨some 29, _, _, _, _, _⟩) rfl (fun K hK => ?_) ?_
            · go_simp
              clear hHeld
              refine hK.out _ _ ?_ (fun hHeld => ?_)
              · (refine hS.out _ ?_; (repeat (first | exact Ext.refl _ | with_reducible assumption | refine Ext.drew ?_ | refine Ext.alloc ?_ _ | refine Ext.trans ?_ (by assumption))))
              clear hK K
              try simp only [Act.put, List.setIfInBounds_toArray, List.set_cons_zero, List.set_cons_succ]
              refine wpAnyH_ready (rs := [15]) (by kernel_rfl) (by simp) ?_
              refine AllReadyH.cons (o := ⟨some 30, _, _, _, _, _⟩) rfl (fun K hK => ?_) ?_
              · have o25c := o25b.ext ((Ext.refl w13).alloc (.cells #[.slice a28 b.length c28] 22))
                obtain ⟨n1, n2, n3⟩ := OwnB.newLL (G := fun k => ¬ G k ∧ k ≠ q ∧ ¬ A k) (l := b) o28 ((Ext.refl w13).alloc (.cells #[.slice a28 b.length c28] 22)) hGn.out o25c
                refine step_appendLLy rfl (.tmp 25) (.tmp 29) rfl D.heap.size (fun k => ¬ G k ∧ k ≠ q ∧ ¬ A k) v25 rs rfl o25c w13.heap.size 1 rfl (.slice a28 b.length c28) b ?_ n1 n2 n3 (by omega) (size_ofE (a := D) (by (repeat (first | exact Ext.refl _ | with_reducible assumption | refine Ext.drew ?_ | refine Ext.alloc ?_ _ | refine Ext.trans ?_ (by assumption))))) ?_
                · simp [World.cell?_alloc_new]
                intro v30 w15 o15 g30
                have e15 : Ext D w15 := Ext.grown (by (repeat (first | exact Ext.refl _ | with_reducible assumption | refine Ext.drew ?_ | refine Ext.alloc ?_ _ | refine Ext.trans ?_ (by assumption)))) g30 (fun k hk => (o25c.own_lt k hk).1)
                clear hHeld
                refine hK.out _ _ ?_ (fun hHeld => ?_)
                · (refine hS.out _ ?_; (repeat (first | exact Ext.refl _ | with_reducible assumption | refine Ext.drew ?_ | refine Ext.alloc ?_ _ | refine Ext.trans ?_ (by assumption))))
                clear hK K
                try simp only [Act.put, List.setIfInBounds_toArray, List.set_cons_zero, List.set_cons_succ]
                refine wpAnyH_done (by kernel_rfl) ?_ _
                refine then_last (o := ⟨some 35, _, _, _, _, _⟩) rfl (fun K hK => ?_)
                go_simp
                go_at_call 66
                refine (hput.out _ _ (e11.trans e15) (o15.down hsz fun _ h => h)).mono ?_
                rintro e w6 ⟨rfl, c6, l6⟩
                go_wp2_with fail
                refine hK.out _ _ ?_
                clear hK K
                try simp only [Act.put, List.setIfInBounds_toArray, List.set_cons_zero, List.set_cons_succ]
                refine then_last (o := ⟨some 4, _, _, _, _, _⟩) rfl (fun K hK => ?_)
                go_simp
                refine hK.out _ _ ?_
                clear hK K
                try simp only [Act.put, List.setIfInBounds_toArray, List.set_cons_zero, List.set_cons_succ]
                go_wp2
                exact hQ0.out _ _ ⟨rfl, c6, l6⟩
              exact AllReadyH.nil
            exact AllReadyH.nil
          exact AllReadyH.nil
        exact AllReadyH.nil
      refine AllReadyH.cons (o := ⟨some 26, _, _, _, _, _⟩) rfl (fun K hK => ?_) ?_
      · go_simp
        clear hHeld
        have o26 : OwnB ((D.alloc (.cells #[] 22)).alloc (.cells #[] 5)) D.heap.size (.slice (some ⟨D.heap.size + 1, 0, none⟩) 0 0) [] := OwnB.empty (by first | rfl | exact (World.size_alloc _ _).symm) (size_ofE (a := D) (by (repeat (first | exact Ext.refl _ | with_reducible assumption | refine Ext.drew ?_ | refine Ext.alloc ?_ _ | refine Ext.trans ?_ (by assumption)))))
        refine hK.out _ _ ?_ (fun hHeld => ?_)
        · (refine hS.out _ ?_; (repeat (first | exact Ext.refl _ | with_reducible assumption | refine Ext.drew ?_ | refine Ext.alloc ?_ _ | refine Ext.trans ?_ (by assumption))))
        clear hK K
        try simp only [Act.put, List.setIfInBounds_toArray, List.set_cons_zero, List.set_cons_succ]
        refine wpAnyH_ready (rs := [10]) (by kernel_rfl) (by simp) ?_
        refine AllReadyH.cons (o := ⟨some 25, _, _, _, _, _⟩) rfl (fun K hK => ?_) ?_
        · (refine step_appendP rfl (.tmp 20) (.tmp 24) rfl D.heap.size (fun k => (¬ G k ∧ k ≠ q ∧ ¬ A k) ∧ k < D.heap.size) (.slice (some ⟨D.heap.size, 0, none⟩) 0 0) [] rfl ?_ D rfl (by (repeat (first | exact Ext.refl _ | with_reducible assumption | refine Ext.drew ?_ | refine Ext.alloc ?_ _ | refine Ext.trans ?_ (by assumption)))) vl rfl rs b1 hnl ?_)
          · exact ((OwnLL.freshE (w := D) (by first | rfl | exact (World.size_alloc _ _).symm)).down (size_ofE (a := D) (by (repeat (first | exact Ext.refl _ | with_reducible assumption | refine Ext.drew ?_ | refine Ext.alloc ?_ _ | refine Ext.trans ?_ (by assumption))))) (fun _ h => h)).ext (by (repeat (first | exact Ext.refl _ | with_reducible assumption | refine Ext.drew ?_ | refine Ext.alloc ?_ _ | refine Ext.trans ?_ (by assumption))))
          intro v25 w10 o25 g25
          have o25 : OwnLL w10 D.heap.size (fun k => (¬ G k ∧ k ≠ q ∧ ¬ A k) ∧ k < D.heap.size) v25 rs := o25
          have e10 : Ext D w10 := Ext.grown (by (repeat (first | exact Ext.refl _ | with_reducible assumption | refine Ext.drew ?_ | refine Ext.alloc ?_ _ | refine Ext.trans ?_ (by assumption)))) g25 (fun k hk => by have h1 : some (D.heap.size) = some k := hk; have h2 := Option.some.inj h1; omega)
          have o26 := o26.grownX g25 (fun k hk e => by have h1 : some (D.heap.size) = some (D.heap.size + 1) := hk.trans e.symm; have h2 := Option.some.inj h1; omega)
          clear hHeld
          refine hK.out _ _ ?_ (fun hHeld => ?_)
          · (refine hS.out _ ?_; (repeat (first | exact Ext.refl _ | with_reducible assumption | refine Ext.drew ?_ | refine Ext.alloc ?_ _ | refine Ext.trans ?_ (by assumption))))
          clear hK K
          try simp only [Act.put, List.setIfInBounds_toArray, List.set_cons_zero, List.set_cons_succ]
          refine wpAnyH_ready (rs := [13]) (by kernel_rfl) (by simp) ?_
          refine AllReadyH.cons (o := ⟨some 28, _, _, _, _, _⟩) rfl (fun K hK => ?_) ?_
          · refine step_appendB rfl (.tmp 26) (.tmp 27) rfl D.heap.size (.slice (some ⟨D.heap.size + 1, 0, none⟩) 0 0) [] rfl ?_ (.slice al b.length cl) b rfl (bb.out.ext (by (repeat (first | exact Ext.refl _ | with_reducible assumption | refine Ext.drew ?_ | refine Ext.alloc ?_ _ | refine Ext.trans ?_ (by assumption))))) hnb (size_ofE (a := D) (by (repeat (first | exact Ext.refl _ | with_reducible assumption | refine Ext.drew ?_ | refine Ext.alloc ?_ _ | refine Ext.trans ?_ (by assumption))))) ?_
            · exact o26
            intro v28 w13 o28 g28
            have e13 : Ext D w13 := Ext.grown (by (repeat (first | exact Ext.refl _ | with_reducible assumption | refine Ext.drew ?_ | refine Ext.alloc ?_ _ | refine Ext.trans ?_ (by assumption)))) g28 (o26.lt)
            have o25b := (o25.grownX o26 g28 (fun k hk => hk.2)).down (Nat.le_refl _) (fun k hk => hk.1)
            have o28 : OwnB w13 D.heap.size v28 b := o28
            obtain ⟨a28, c28, rfl, -⟩ := id o28.bytes
            clear hHeld
            refine hK.out _ _ ?_ (fun hHeld => ?_)
            · (refine hS.out _ ?_; (repeat (first | exact Ext.refl _ | with_reducible assumption | refine Ext.drew ?_ | refine Ext.alloc ?_ _ | refine Ext.trans ?_ (by assumption))))
            clear hK K
            try simp only [Act.put, List.setIfInBounds_toArray, List.set_cons_zero, List.set_cons_succ]
            refine wpAnyH_ready (rs := [14]) (by kernel_rfl) (by simp) ?_
            refine AllReadyH.cons (o := ⟨some 29, _, _, _, _, _⟩) rfl (fun K hK => ?_) ?_
            · go_simp
              clear hHeld
              refine hK.out _ _ ?_ (fun hHeld => ?_)
              · (refine hS.out _ ?_; (repeat (first | exact Ext.refl _ | with_reducible assumption | refine Ext.drew ?_ | refine Ext.alloc ?_ _ | refine Ext.trans ?_ (by assumption))))
              clear hK K
              try simp only [Act.put, List.setIfInBounds_toArray, List.set_cons_zero, List.set_cons_succ]
              refine wpAnyH_ready (rs := [15]) (by kernel_rfl) (by simp) ?_
              refine AllReadyH.cons (o := ⟨some 30, _, _, _, _, _⟩) rfl (fun K hK => ?_) ?_
              · have o25c := o25b.ext ((Ext.refl w13).alloc (.cells #[.slice a28 b.length c28] 22))
                obtain ⟨n1, n2, n3⟩ := OwnB.newLL (G := fun k => ¬ G k ∧ k ≠ q ∧ ¬ A k) (l := b) o28 ((Ext.refl w13).alloc (.cells #[.slice a28 b.length c28] 22)) hGn.out o25c
                refine step_appendLLy rfl (.tmp 25) (.tmp 29) rfl D.heap.size (fun k => ¬ G k ∧ k ≠ q ∧ ¬ A k) v25 rs rfl o25c w13.heap.size 1 rfl (.slice a28 b.length c28) b ?_ n1 n2 n3 (by omega) (size_ofE (a := D) (by (repeat (first | exact Ext.refl _ | with_reducible assumption | refine Ext.drew ?_ | refine Ext.alloc ?_ _ | refine Ext.trans ?_ (by assumption))))) ?_
                · simp [World.cell?_alloc_new]
                intro v30 w15 o15 g30
                have e15 : Ext D w15 := Ext.grown (by (repeat (first | exact Ext.refl _ | with_reducible assumption | refine Ext.drew ?_ | refine Ext.alloc ?_ _ | refine Ext.trans ?_ (by assumption)))) g30 (fun k hk => (o25c.own_lt k hk).1)
                clear hHeld
                refine hK.out _ _ ?_ (fun hHeld => ?_)
                · (refine hS.out _ ?_; (repeat (first | exact Ext.refl _ | with_reducible assumption | refine Ext.drew ?_ | refine Ext.alloc ?_ _ | refine Ext.trans ?_ (by assumption))))
                clear hK K
                try simp only [Act.put, List.setIfInBounds_toArray, List.set_cons_zero, List.set_cons_succ]
                refine wpAnyH_done (by kernel_rfl) ?_ _
                refine then_last (o := ⟨some 35, _, _, _, _, _⟩) rfl (fun K hK => ?_)
                go_simp
                go_at_call 66
                refine (hput.out _ _ (e11.trans e15) (o15.down hsz fun _ h => h)).mono ?_
                rintro e w6 ⟨rfl, c6, l6⟩
                go_wp2_with fail
                refine hK.out _ _ ?_
                clear hK K
                try simp only [Act.put, List.setIfInBounds_toArray, List.set_cons_zero, List.set_cons_succ]
                refine then_last (o := ⟨some 4, _, _, _, _, _⟩) rfl (fun K hK => ?_)
                go_simp
                refine hK.out _ _ ?_
                clear hK K
                try simp only [Act.put, List.setIfInBounds_toArray, List.set_cons_zero, List.set_cons_succ]
                go_wp2
                exact hQ0.out _ _ ⟨rfl, c6, l6⟩
              exact AllReadyH.nil
            exact AllReadyH.nil
          exact AllReadyH.nil
        exact AllReadyH.nil
      exact AllReadyH.nil
    refine AllReadyH.cons (o := ⟨some 26, _, _, _, _, _⟩) rfl (fun K hK => ?_) ?_
    · go_simp
      clear hHeld
      have o26 : OwnB (D.alloc (.cells #[] 5)) D.heap.size (.slice (some ⟨D.heap.size, 0, none⟩) 0 0) [] := OwnB.empty (by first | rfl | exact (World.size_alloc _ _).symm) (size_ofE (a := D) (by (repeat (first | exact Ext.refl _ | with_reducible assumption | refine Ext.drew ?_ | refine Ext.alloc ?_ _ | refine Ext.trans ?_ (by assumption)))))
      refine hK.out _ _ ?_ (fun hHeld => ?_)
      · (refine hS.out _ ?_; (repeat (first | exact Ext.refl _ | with_reducible assumption | refine Ext.drew ?_ | refine Ext.alloc ?_ _ | refine Ext.trans ?_ (by assumption))))
      clear hK K
      try simp only [Act.put, List.setIfInBounds_toArray, List.set_cons_zero, List.set_cons_succ]
      refine wpAnyH_ready (rs := [5]) (by kernel_rfl) (by simp) ?_
      refine AllReadyH.cons (o := ⟨some 20, _, _, _, _, _⟩) rfl (fun K hK => ?_) ?_
      · go_simp
        clear hHeld
        have o26 := o26.ext (by (repeat (first | exact Ext.refl _ | with_reducible assumption | refine Ext.drew ?_ | refine Ext.alloc ?_ _ | refine Ext.trans ?_ (by assumption))) : Ext _ ((D.alloc (.cells #[] 5)).alloc (.cells #[] 22)))
        refine hK.out _ _ ?_ (fun hHeld => ?_)
        · (refine hS.out _ ?_; (repeat (first | exact Ext.refl _ | with_reducible assumption | refine Ext.drew ?_ | refine Ext.alloc ?_ _ | refine Ext.trans ?_ (by assumption))))
        clear hK K
        try simp only [Act.put, List.setIfInBounds_toArray, List.set_cons_zero, List.set_cons_succ]
        refine wpAnyH_ready (rs := [10]) (by kernel_rfl) (by simp) ?_
        refine AllReadyH.cons (o := ⟨some 25, _, _, _, _, _⟩) rfl (fun K hK => ?_) ?_
        · (refine step_appendP rfl (.tmp 20) (.tmp 24) rfl D.heap.size (fun k => (¬ G k ∧ k ≠ q ∧ ¬ A k) ∧ k < D.heap.size) (.slice (some ⟨D.heap.size + 1, 0, none⟩) 0 0) [] rfl ?_ D rfl (by (repeat (first | exact Ext.refl _ | with_reducible assumption | refine Ext.drew ?_ | refine Ext.alloc ?_ _ | refine Ext.trans ?_ (by assumption)))) vl rfl rs b1 hnl ?_)
          · exact ((OwnLL.freshE (w := (D.alloc (.cells #[] 5))) (by first | rfl | exact (World.size_alloc _ _).symm)).down (size_ofE (a := D) (by (repeat (first | exact Ext.refl _ | with_reducible assumption | refine Ext.drew ?_ | refine Ext.alloc ?_ _ | refine Ext.trans ?_ (by assumption))))) (fun _ h => h)).ext (by (repeat (first | exact Ext.refl _ | with_reducible assumption | refine Ext.drew ?_ | refine Ext.alloc ?_ _ | refine Ext.trans ?_ (by assumption))))
          intro v25 w10 o25 g25
          have o25 : OwnLL w10 D.heap.size (fun k => (¬ G k ∧ k ≠ q ∧ ¬ A k) ∧ k < D.heap.size) v25 rs := o25
          have e10 : Ext D w10 := Ext.grown (by (repeat (first | exact Ext.refl _ | with_reducible assumption | refine Ext.drew ?_ | refine Ext.alloc ?_ _ | refine Ext.trans ?_ (by assumption)))) g25 (fun k hk => by have h1 : some (D.heap.size + 1) = some k := hk; have h2 := Option.some.inj h1; omega)
          have o26 := o26.grownX g25 (fun k hk e => by have h1 : some (D.heap.size + 1) = some (D.heap.size) := hk.trans e.symm; have h2 := Option.some.inj h1; omega)
          clear hHeld
          refine hK.out _ _ ?_ (fun hHeld => ?_)
          · (refine hS.out _ ?_; (repeat (first | exact Ext.refl _ | with_reducible assumption | refine Ext.drew ?_ | refine Ext.alloc ?_ _ | refine Ext.trans ?_ (by assumption))))
          clear hK K
          try simp only [Act.put, List.setIfInBounds_toArray, List.set_cons_zero, List.set_cons_succ]
          refine wpAnyH_ready (rs := [13]) (by kernel_rfl) (by simp) ?_
          refine AllReadyH.cons (o := ⟨some 28, _, _, _, _, _⟩) rfl (fun K hK => ?_) ?_
          · refine step_appendB rfl (.tmp 26) (.tmp 27) rfl D.heap.size (.slice (some ⟨D.heap.size, 0, none⟩) 0 0) [] rfl ?_ (.slice al b.length cl) b rfl (bb.out.ext (by (repeat (first | exact Ext.refl _ | with_reducible assumption | refine Ext.drew ?_ | refine Ext.alloc ?_ _ | refine Ext.trans ?_ (by assumption))))) hnb (size_ofE (a := D) (by (repeat (first | exact Ext.refl _ | with_reducible assumption | refine Ext.drew ?_ | refine Ext.alloc ?_ _ | refine Ext.trans ?_ (by assumption))))) ?_
            · exact o26
            intro v28 w13 o28 g28
            have e13 : Ext D w13 := Ext.grown (by (repeat (first | exact Ext.refl _ | with_reducible assumption | refine Ext.drew ?_ | refine Ext.alloc ?_ _ | refine Ext.trans ?_ (by assumption)))) g28 (o26.lt)
            have o25b := (o25.grownX o26 g28 (fun k hk => hk.2)).down (Nat.le_refl _) (fun k hk => hk.1)
            have o28 : OwnB w13 D.heap.size v28 b := o28
            obtain ⟨a28, c28, rfl, -⟩ := id o28.bytes
            clear hHeld
            refine hK.out _ _ ?_ (fun hHeld => ?_)
            · (refine hS.out _ ?_; (repeat (first | exact Ext.refl _ | with_reducible assumption | refine Ext.drew ?_ | refine Ext.alloc ?_ _ | refine Ext.trans ?_ (by assumption))))
            clear hK K
            try simp only [Act.put, List.setIfInBounds_toArray, List.set_cons_zero, List.set_cons_succ]
            refine wpAnyH_ready (rs := [14]) (by kernel_rfl) (by simp) ?_
            refine AllReadyH.cons (o := ⟨some 29, _, _, _, _, _⟩) rfl (fun K hK => ?_) ?_
            · go_simp
              clear hHeld
              refine hK.out _ _ ?_ (fun hHeld => ?_)
              · (refine hS.out _ ?_; (repeat (first | exact Ext.refl _ | with_reducible assumption | refine Ext.drew ?_ | refine Ext.alloc ?_ _ | refine Ext.trans ?_ (by assumption))))
              clear hK K
              try simp only [Act.put, List.setIfInBounds_toArray, List.set_cons_zero, List.set_cons_succ]
              refine wpAnyH_ready (rs := [15]) (by kernel_rfl) (by simp) ?_
              refine AllReadyH.cons (o := ⟨some 30, _, _, _, _, _⟩) rfl (fun K hK => ?_) ?_
              · have o25c := o25b.ext ((Ext.refl w13).alloc (.cells #[.slice a28 b.length c28] 22))
                obtain ⟨n1, n2, n3⟩ := OwnB.newLL (G := fun k => ¬ G k ∧ k ≠ q ∧ ¬ A k) (l := b) o28 ((Ext.refl w13).alloc (.cells #[.slice a28 b.length c28] 22)) hGn.out o25c
                refine step_appendLLy rfl (.tmp 25) (.tmp 29) rfl D.heap.size (fun k => ¬ G k ∧ k ≠ q ∧ ¬ A k) v25 rs rfl o25c w13.heap.size 1 rfl (.slice a28 b.length c28) b ?_ n1 n2 n3 (by omega) (size_ofE (a := D) (by (repeat (first | exact Ext.refl _ | with_reducible assumption | refine Ext.drew ?_ | refine Ext.alloc ?_ _ | refine Ext.trans ?_ (by assumption))))) ?_
                · simp [World.cell?_alloc_new]
                intro v30 w15 o15 g30
                have e15 : Ext D w15 := Ext.grown (by (repeat (first | exact Ext.refl _ | with_reducible assumption | refine Ext.drew ?_ | refine Ext.alloc ?_ _ | refine Ext.trans ?_ (by assumption)))) g30 (fun k hk => (o25c.own_lt k hk).1)
                clear hHeld
                refine hK.out _ _ ?_ (fun hHeld => ?_)
                · (refine hS.out _ ?_; (repeat (first | exact Ext.refl _ | with_reducible assumption | refine Ext.drew ?_ | refine Ext.alloc ?_ _ | refine Ext.trans ?_ (by assumption))))
                clear hK K
                try simp only [Act.put, List.setIfInBounds_toArray, List.set_cons_zero, List.set_cons_succ]
                refine wpAnyH_done (by kernel_rfl) ?_ _
                refine then_last (o := ⟨some 35, _, _, _, _, _⟩) rfl (fun K hK => ?_)
                go_simp
                go_at_call 66
                refine (hput.out _ _ (e11.trans e15) (o15.down hsz fun _ h => h)).mono ?_
                rintro e w6 ⟨rfl, c6, l6⟩
                go_wp2_with fail
                refine hK.out _ _ ?_
                clear hK K
                try simp only [Act.put, List.setIfInBounds_toArray, List.set_cons_zero, List.set_cons_succ]
                refine then_last (o := ⟨some 4, _, _, _, _, _⟩) rfl (fun K hK => ?_)
                go_simp
                refine hK.out _ _ ?_
                clear hK K
                try simp only [Act.put, List.setIfInBounds_toArray, List.set_cons_zero, List.set_cons_succ]
                go_wp2
                exact hQ0.out _ _ ⟨rfl, c6, l6⟩
              exact AllReadyH.nil
            exact AllReadyH.nil
          exact AllReadyH.nil
        exact AllReadyH.nil
      exact AllReadyH.nil
    exact AllReadyH.nil
    -- END APP
  · have d1 : (errOf b != 0) = true := by rw [bne_iff_ne]; exact h1
    have hXe : X = (errOf b, g) := by
      rw [hX]
      show (match planL (.app b) g.d.n g.h g.u with | .inl e => (e, g) | .inr (h', u', i0) => putL h' u' i0 g) = _
      rcases planL_app b g.d.n g.h g.u with ⟨-, hq⟩ | ⟨h0, -⟩ | ⟨h0, -⟩
      · rw [hq]
      · exact absurd h0 h1
      · exact absurd h0 h1
    have h1h := Lib.hid h1
    have hXh := Lib.hid hXe
    clear h1 hXe hX hr hD hGF hGs hq hnq hA s hok hst hb hl hu he
    generalize errOf b = E at *
    go_enter Tryd.func44, Tryd.ntmps44
    go_wp2_with (go_at_call 15; refine hra.mono ?_; rintro e w1 ⟨r, rfl, x, rfl, e1, ⟨hx, -⟩ | ⟨-, rfl⟩⟩; exact absurd hx h1h.out)
    refine hQ0.out _ _ ?_
    rw [hXh.out]
    exact ⟨rfl, Chg.of_ext e1, by rw [if_neg h1h.out]; exact hmh.out.ext e1⟩
end Go.Proofs.YtmpjcnopakfdmaaDoor
