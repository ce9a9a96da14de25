/- The log: what put calls: a part's write, a head's write, a sync. -/
import Derived.Test.YtkdmljijgfejpaaDoorWlC
import Derived.RangeFuncBox
namespace Go.Proofs.YtkdmljijgfejpaaDoor
set_option linter.unusedVariables false
set_option linter.unusedSimpArgs false
open Go.RowKit Dk Wl Fr

theorem Boxed.ofExt {W W' : World} {B : Nat} {t : TypeId} {v : Value} (h : Boxed W B t v) (e : Ext W W') : Boxed W' B t v := e.heap h
theorem Boxed.chg {W W' : World} {B : Nat} {t : TypeId} {v : Value} {F : Nat → Prop} (h : Boxed W B t v) (c : Chg F W W') (hF : ¬ F B) : Boxed W' B t v := (c.block B h.lt hF).trans h
theorem Aft.drew {F : Nat → Prop} {w w' : World} {p : Nat} {d : D} (h : Aft F w.drew w' p d) : Aft F w w' p d := ⟨((Chg.refl F w).drew).trans h.1, h.2⟩
set_option maxRecDepth 20000 in
set_option maxHeartbeats 1000000 in
theorem put1_any {w : World} {F : Nat → Prop} {q p B4 Ba Bp : Nat} {h : H} {vu v : Value} {d : D} {i : Nat} {b : List UInt8} (hB4 : Boxed w B4 68 (.pointer (some ⟨q, 0, none⟩))) (hBa : Boxed w Ba 3 (.int .i64 (i : Int))) (hBp : Boxed w Bp 23 v)
    (l : LogAt w q p h vu) (hD : Disk w F p d) (hst : d.st.length ≤ 1048576) (hb : ∀ w', Chg F w w' → Bytes w' v b) :
    Calls Tryd.prog 70 #[.pointer (some ⟨B4, 0, none⟩), .pointer (some ⟨Ba, 0, none⟩), .pointer (some ⟨Bp, 0, none⟩)] w fun e w' => e = .returned (.int .i64 (wrE (i : Int) b d)) ∧ Aft F w w' p (wrB (i : Int) b d) := by
  have c4 := hB4.cell
  have ca := hBa.cell
  have cp := hBp.cell
  obtain ⟨c0, -⟩ := l.cells
  have hwr := Lib.hid (write_any (hD.ext (Ext.refl w).drew) hst (i : Int) v b (fun w' c => hb w' (((Chg.refl F w).drew).trans c)))
  obtain ⟨av, cv, rfl, -⟩ := hb w (Chg.refl F w)
  clear hB4 hBa hBp l hD hb hst
  go_enter Tryd.func70, Tryd.ntmps70
  go_wp2
  go_region_with (go_at_call 71; refine hwr.out.mono ?_; rintro e w2 ⟨rfl, a2⟩)
  all_goals go_wp2
  all_goals go_ret
  all_goals exact ⟨rfl, a2.drew⟩
set_option maxRecDepth 20000 in
set_option maxHeartbeats 1000000 in
theorem put2_any {w : World} {F : Nat → Prop} {q p B4 B5 : Nat} {h h' : H} {vu : Value} {d : D} (hB4 : Boxed w B4 68 (.pointer (some ⟨q, 0, none⟩))) (hB5 : w.heap[B5]? = some (.cells (harr h') 97 (0, 0))) (hf : h'.Fine)
    (l : LogAt w q p h vu) (hD : Disk w F p d) (hF : ∀ k, F k → k < w.heap.size) (hst : d.st.length ≤ 1048576) (hw : Halves w) (hn4 : ¬ F B4) (hnq : ¬ F q) (hn5 : ¬ F B5) :
    Calls Tryd.prog 73 #[.pointer (some ⟨B4, 0, none⟩), .pointer (some ⟨B5, 0, none⟩)] w fun e w' => e = .returned (.int .i64 (wrE ((h'.gen % 2 : Nat) : Int) (hb h') d)) ∧ Aft F w w' p (wrB ((h'.gen % 2 : Nat) : Int) (hb h') d) := by
  have c4 := hB4.cell
  obtain ⟨c0, -⟩ := l.cells
  have f0 := cell_at hB5 0 (u := .int .i64 (h'.gen : Int)) rfl
  have f1 := cell_at hB5 1 (u := .int .i64 (h'.area : Int)) rfl
  have f2 := cell_at hB5 2 (u := .int .i64 (h'.used : Int)) rfl
  have hbk := Lib.hid (hblock_any h' hf w.drew (hw.ext (Ext.refl w).drew))
  obtain ⟨R, hR⟩ : ∃ R, R = h'.gen % 2 := ⟨_, rfl⟩
  have tm : Int.tmod (h'.gen : Int) 2 = (R : Int) := by rw [Int.tmod_eq_emod_of_nonneg (by omega)]; omega
  have hbu : hagg h' = .agg #[.int .i64 (h'.gen : Int), .int .i64 (h'.area : Int), .int .i64 (h'.used : Int)] := rfl
  rw [hbu] at hbk
  have hwr := Lib.hid (show ∀ W v (e : Ext w.drew W) (o : OwnB W w.drew.heap.size v (hb h')), _ from fun W v e o => write_any (hD.ext ((Ext.refl w).drew.trans e)) hst (R : Int) v (hb h') (fun w' c => (o.chg (F := F) c (fun k hk hFk => by have := hF k hFk; have : w.drew.heap.size = w.heap.size := rfl; omega)).bytes))
  rw [← hR]
  generalize hb h' = HB at *
  obtain ⟨G, A, U⟩ := h'
  dsimp only at *
  clear hB4 hB5 l hD hF hst hw hf hbu hR
  go_enter Tryd.func73, Tryd.ntmps73
  go_wp2
  have hS := Lib.hid (show ∀ W, Chg F w W → (W.cell? ⟨B4, 0, none⟩ = some (.pointer (some ⟨q, 0, none⟩)) ∧ W.cell? ⟨q, 0, none⟩ = some (.pointer (some ⟨p, 0, none⟩)) ∧ W.cell? ⟨B5, 0, none⟩ = some (.int .i64 (G : Int)) ∧ W.cell? ⟨B5, 1, none⟩ = some (.int .i64 (A : Int)) ∧ W.cell? ⟨B5, 2, none⟩ = some (.int .i64 (U : Int))) from fun W e => ⟨e.cell c4 hn4, e.cell c0 hnq, e.cell f0 hn5, e.cell f1 hn5, e.cell f2 hn5⟩)
  clear c4 c0 f0 f1 f2
  go_region_held3 (fun W => W.cell? ⟨B4, 0, none⟩ = some (.pointer (some ⟨q, 0, none⟩)) ∧ W.cell? ⟨q, 0, none⟩ = some (.pointer (some ⟨p, 0, none⟩)) ∧ W.cell? ⟨B5, 0, none⟩ = some (.int .i64 (G : Int)) ∧ W.cell? ⟨B5, 1, none⟩ = some (.int .i64 (A : Int)) ∧ W.cell? ⟨B5, 2, none⟩ = some (.int .i64 (U : Int)))
    ((refine hS.out _ ?_; first | exact (Chg.of_ext ((Ext.refl w).drew.trans e2)).trans a3.1 | exact Chg.of_ext ((Ext.refl w).drew.trans e2) | exact Chg.of_ext (Ext.refl w).drew))
    (first
      | (go_at_call 65; refine hbk.out.mono ?_; rintro e w2 ⟨v2, rfl, o2, e2⟩)
      | (go_at_call 71; refine (hwr.out _ _ e2 o2).mono ?_; rintro e w3 ⟨rfl, a3⟩))
  all_goals go_wp2
  all_goals go_ret
  all_goals exact ⟨rfl, (Chg.of_ext ((Ext.refl w).drew.trans e2)).trans a3.1, a3.2.mono fun k hk => hk.imp id fun h => Nat.le_trans (show w.heap.size ≤ w2.heap.size from e2.size) h⟩
end Go.Proofs.YtkdmljijgfejpaaDoor
