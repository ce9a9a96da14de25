/- Package frame: the iterator over the records that stand in bytes. -/
import Derived.Test.YtkdmljijgfejpaaDoorFrC
import Derived.Test.YtkdmljijgfejpaaDoorRange
import Derived.Deep.DeepCutAuto
import Derived.Deep.CutBlock
import Derived.Deep.RegionWith
import Derived.Deep.RegionHeld3
import Derived.StillTailTactics
import Derived.OwnWalkIn
import Derived.TacticsInMore
import Derived.LoopNIn
import Derived.LoopIn
import Derived.Shelf.RegionOpen
namespace Go.Proofs.YtkdmljijgfejpaaDoor
set_option linter.unusedVariables false
set_option linter.unusedSimpArgs false
open Go.RowKit Fr

/-- a record as it is handed on: the slice, its bytes -/
def Hd (base : Nat) (s : List UInt8) (pre : List (Value × List UInt8)) (x : Value × List UInt8) (W : World) : Prop :=
  ∃ g cap, x.1 = .slice (some ⟨g, 6, none⟩) x.2.length cap ∧ base ≤ g ∧ (Bytes W x.1 x.2 ∧ U8B W g) ∧ Fr.ok x.2 = true ∧ ∃ t, s = Fr.all (pre.map (·.2) ++ [x.2]) ++ t
theorem Bytes.block_lt {w : World} {g o n cap : Nat} {l : List UInt8} (h : Bytes w (.slice (some ⟨g, o, none⟩) n cap) l) (hl : 0 < l.length) : g < w.heap.size := by
  have := h.gt 0 hl
  exact World.block_lt_of_cell? w _ this
theorem cell_at {w : World} {g : Nat} {C : Array Value} {E : TypeId} {fr : Nat × Nat} (h : w.heap[g]? = some (.cells C E fr)) (i : Nat) {u : Value} (hu : C[i]? = some u) : w.cell? ⟨g, i, none⟩ = some u := (cell_of_row w g i C E fr h).trans hu
theorem Halves.chg {w w' : World} {F : Nat → Prop} (h : Halves w) (c : Chg F w w') (hF : ¬ F 1) : Halves w' := fun x => by
  have h1 := h x
  have hlt := World.block_lt_of_cell? w _ h1
  exact (World.cell?_of_block (c.block _ hlt hF)).trans h1
/-- what is left to tell, and the record that stands first -/
def At (s : List UInt8) (base C : Nat) (v0 : Value) (pre : List (Value × List UInt8)) (rest : List UInt8) (vb x : Value) (W : World) : Prop :=
  s = Fr.all (pre.map (·.2)) ++ rest ∧ Fr.oks (pre.map (·.2)) = true ∧ W.heap[C]? = some (.cells #[vb] 23) ∧ Bytes W vb rest ∧ (∀ k, vblk vb = some k → vblk v0 = some k) ∧ Halves W ∧
  ((fits rest = false ∧ x = .slice none 0 0) ∨ (fits rest = true ∧ ∃ g cap, x = .slice (some ⟨g, 6, none⟩) (nAt rest) cap ∧ base ≤ g ∧ (Bytes W x (rec1 rest) ∧ U8B W g)))
/-- how many bytes the slice has that a cell holds -/
def lenC (W : World) (C : Nat) : Nat := match W.cell? ⟨C, 0, none⟩ with
  | some (.slice _ n _) => n
  | _ => 0
set_option maxHeartbeats 2000000 in
theorem each1_any (n : Nat) (C : Nat) (M : Nat → Prop) (v0 : Value) (s : List UInt8) (w : World) (hw : Halves w) (hC : w.heap[C]? = some (.cells #[v0] 23)) (hs : Bytes w v0 s) (hMC : ¬ M C) (hMb : ∀ k, vblk v0 = some k → s ≠ [] → k ≠ C ∧ ¬ M k) (hMh : ¬ M 1 ∧ C ≠ 1) :
    SeqCell Fence.wide n Tryd.prog 80 #[.pointer (some ⟨C, 0, none⟩)] (fun x : Value × List UInt8 => x.1) C M (fun base => Hd base s) (fun xs => xs.map (·.2) = Fr.scan s) w := by
  intro l J W hW hJ hY h0
  have hC1 := hW.heap hC
  have hs1 := hs.ext hW
  have hw1 := hw.ext hW
  have hc1 := cell_at hC1 0 (u := v0) rfl
  have hf := first_any v0 s W hw1 hs1
  have hsz := hW.size
  refine callsIn_wide.2 ?_
  have hJh := Lib.hid hJ
  have hYh := Lib.hid hY
  have h0h := Lib.hid h0
  have hC1h := Lib.hid hC1
  have hs1h := Lib.hid hs1
  have hw1h := Lib.hid hw1
  clear hJ hY h0 hC hs hw hs1 hw1 hC1
  obtain ⟨B, hB⟩ : ∃ B, B = W.heap.size := ⟨_, rfl⟩
  rw [← hB] at hYh
  go_enter Tryd.func80, Tryd.ntmps80
  go_upto_block 0 with (go_at_call 81; refine hf.mono ?_; rintro e W1 ⟨x, rfl, e1, hx⟩; go_wp2_with fail)
  have hA0 := Lib.hid (show At s B C v0 [] s v0 x W1 from ⟨rfl, rfl, e1.heap hC1h.out, hs1h.out.ext e1, fun k hk => hk, hw1h.out.ext e1, hx.imp id fun ⟨q1, g, cap, q2, q3, q4⟩ => ⟨q1, g, cap, q2, by omega, q4⟩⟩)
  have hJ0 := Lib.hid (hJh.out _ _ _ h0h.out (Chg.of_ext e1))
  clear hf hx h0h hC1h hs1h hw1h hc1
  go_wp2
  go_loopw [3] (fun x wr => ∃ (pre : List (Value × List UInt8)) (rest : List UInt8) (vb : Value), RowKit.Hid (At s B C v0 pre rest vb x wr) ∧ RowKit.Hid (J pre wr)) (fun _ wr => lenC wr C)
  case atStart => exact ⟨[], s, v0, hA0, hJ0⟩
  case round =>
    obtain ⟨pre, rest, vb, hA, hJr⟩ := hrel
    obtain ⟨wq, rfl⟩ : ∃ W, W = wr := ⟨_, rfl⟩
    obtain ⟨q1, q2, q3, q4, q5, q6, ⟨q7, rfl⟩ | ⟨q7, g, cap, rfl, q8, q9⟩⟩ := hA.out
    · have hE := Lib.hid (show pre.map (·.2) = Fr.scan s from by
        rw [q1, Fr.scan_all _ _ q2, Fr.scan_no q7, List.append_nil])
      clear q1 q2 q3 q4 q5 q6 q7
      go_wp2
      go_end0
      exact ⟨⟨_, rfl⟩, pre, hE.out, hJr.out⟩
    · have hf6 := (Fr.fits_iff.1 q7).2.2.2.1
      obtain ⟨ab, capb, rfl, -⟩ := id q4
      obtain ⟨gb, ob, rfl⟩ := q4.ad (by omega)
      have hcb := q4.cp.2.1
      have hok := Fr.rec1_ok q7
      have hrl := Fr.rec1_length q7
      have hpos := (Fr.ok_iff.1 hok).1
      have hsp := Fr.fits_split q7
      obtain ⟨fn, tmps, assign, body, hy, hR⟩ := hYh.out pre (.slice (some ⟨g, 6, none⟩) (nAt rest) cap, rec1 rest) wq hJr.out ⟨g, cap, by rw [hrl], q8, q9, hok, rest.drop (6 + nAt rest), by rw [Fr.all_append, q1]; show _ ++ rest = _ ++ (frm (rec1 rest) ++ []) ++ _; rw [List.append_nil, List.append_assoc, ← hsp]⟩
      dsimp only at hy
      have hRh := Lib.hid hR
      have q1h := Lib.hid q1
      have q2h := Lib.hid q2
      have q3h := Lib.hid q3
      have q4h := Lib.hid q4
      have q5h := Lib.hid q5
      have q6h := Lib.hid q6
      have q7h := Lib.hid q7
      have hokh := Lib.hid hok
      have hrlh := Lib.hid hrl
      have hsph := Lib.hid hsp
      clear hR q1 q2 q3 q4 q5 q6 q7 hok hrl hsp
      go_upto_region 1 with fail
      refine (wpIn_wide (n := n)).1 ?_
      gi_wp2
      refine ⟨fun h => (by cases h), hRh.out.mono ?_⟩
      rintro e W2 ⟨rfl, hJ2, hk2⟩
      have hJ2h := Lib.hid hJ2
      have hk2h := Lib.hid hk2
      clear hy hRh hJ2 hk2 hJr
      have hC2 := Lib.hid (show W2.heap[C]? = some (.cells #[.slice (some ⟨gb, ob, none⟩) rest.length capb] 23) from (hk2h.out.block C (Array.getElem?_eq_some_iff.1 q3h.out).1 hMC).trans q3h.out)
      have c2 := cell_at hC2.out 0 (u := .slice (some ⟨gb, ob, none⟩) rest.length capb) rfl
      gi_wp2
      go_upto_block 1 with fail
      have hml := Lib.hid (show nAt rest ≤ 4000 from (Fr.fits_iff.1 q7h.out).2.2.1)
      generalize hm : nAt rest = m at *
      have hmh := Lib.hid hm
      clear hm
      have hsz := size_any (m : Int) (by omega) (by have := hml.out; omega)
      have f1 : W2.frozen? ⟨C, 0, none⟩ = false := by simp [World.frozen?, hC2.out]
      have s1 : (0 : Int) ≤ (m : Int) + 6 := by omega
      have s2 : (m : Int) + 6 ≤ (rest.length : Int) := by omega
      have hsne := Lib.hid (show s ≠ [] from by rw [q1h.out]; exact List.append_ne_nil_of_right_ne_nil _ (fun e => by rw [e] at hf6; simp at hf6))
      have hrd := Lib.hid (show ∀ o' n c, n = rest.length - (m + 6) → c = capb - (m + 6) → (capb ≠ m + 6 → o' = ob + (m + 6)) →
          (W2.setCell ⟨C, 0, none⟩ (.slice (some ⟨gb, o', none⟩) n c)).heap[C]? = some (.cells #[.slice (some ⟨gb, o', none⟩) n c] 23) ∧ Bytes (W2.setCell ⟨C, 0, none⟩ (.slice (some ⟨gb, o', none⟩) n c)) (.slice (some ⟨gb, o', none⟩) n c) (rest.drop (6 + m)) ∧ vblk (.slice (some ⟨gb, o', none⟩) n c) = some gb from fun o' n c hn hc ho => by
        refine ⟨by rw [setCell_row W2 C 0 _ _ _ _ hC2.out]; rfl, ?_, rfl⟩
        have hM2 : Bytes W2 (.slice (some ⟨gb, ob, none⟩) rest.length capb) rest := q4h.out.chgV hk2h.out fun k hk _ => (hMb k (q5h.out k hk) hsne.out).2
        have hM3 : Bytes (W2.setCell ⟨C, 0, none⟩ (.slice (some ⟨gb, o', none⟩) n c)) (.slice (some ⟨gb, ob, none⟩) rest.length capb) rest := hM2.chgV (F := fun k => k = C) ((Chg.refl (fun k => k = C) W2).setCell (fun _ => rfl) _) fun k hk _ => (hMb k (q5h.out k hk) hsne.out).1
        have hp := hM3.pc (6 + m) (rest.length - (6 + m)) (by omega)
        have hdl : (rest.drop (6 + m)).take (rest.length - (6 + m)) = rest.drop (6 + m) := List.take_of_length_le (by rw [List.length_drop]; omega)
        rw [hdl] at hp
        clear hM3
        generalize W2.setCell ⟨C, 0, none⟩ _ = W3 at *
        subst hn; subst hc
        by_cases hc : capb = m + 6
        · have hn : rest.drop (6 + m) = [] := List.drop_eq_nil_iff.2 (by omega)
          rw [hn, show rest.length - (m + 6) = 0 by omega, show capb - (m + 6) = 0 by omega]
          exact ⟨_, _, rfl, Nat.le_refl _, Nat.zero_le _, fun h => (by cases h), fun j hj => absurd hj (Nat.not_lt_zero _)⟩
        · rw [ho hc, Nat.add_comm m 6]; exact hp)
      go_cut [19] (fun v wd => ∃ vb', vb' = v ∧ wd.heap[C]? = some (.cells #[vb'] 23) ∧ Bytes wd vb' (rest.drop (6 + m)) ∧ vblk vb' = some gb ∧ Chg (fun k => k = C) W2 wd)
      case first =>
        go_upto_region 3 with fail
        have e6 : ((m : Int) + 6).toNat = m + 6 := by omega
        by_cases hcm : capb = m + 6
        · have hcmh := Lib.hid hcm
          go_region_with (go_at_call 68; refine (hsz _).mono ?_; rintro e w' ⟨rfl, rfl⟩)
          all_goals go_wp2
          all_goals go_meet
          all_goals first
            | (have hq := hrd.out ob 0 0 (by have := hcmh.out; omega) (by have := hcmh.out; omega) (fun h => absurd hcmh.out h); exact ⟨_, rfl, hq.1, hq.2.1.ext (Ext.refl _).drew, hq.2.2, ((Chg.refl (fun k => k = C) W2).setCell (fun _ => rfl) _).drew⟩)
            | (have hq := hrd.out ob (rest.length - (m + 6)) 0 rfl (by have := hcmh.out; omega) (fun h => absurd hcmh.out h); exact ⟨_, rfl, hq.1, hq.2.1.ext (Ext.refl _).drew, hq.2.2, ((Chg.refl (fun k => k = C) W2).setCell (fun _ => rfl) _).drew⟩)
        · go_region_with (go_at_call 68; refine (hsz _).mono ?_; rintro e w' ⟨rfl, rfl⟩)
          all_goals go_wp2
          all_goals go_meet
          all_goals (have hq := hrd.out (ob + (m + 6)) _ _ rfl rfl (fun _ => rfl); exact ⟨_, rfl, hq.1, hq.2.1.ext (Ext.refl _).drew, hq.2.2, ((Chg.refl (fun k => k = C) W2).setCell (fun _ => rfl) _).drew⟩)
      case rest =>
        obtain ⟨vb2, rfl, r1, r2, r3, r4⟩ := hcut
        obtain ⟨W3, rfl⟩ : ∃ W, W = wc := ⟨_, rfl⟩
        have r5 := cell_at r1 0 (u := vb2) rfl
        have hH3 : Halves W3 := (q6h.out.chg hk2h.out hMh.1).chg (F := fun k => k = C) r4 (fun h => hMh.2 h.symm)
        have hf3 := first_any vb2 _ W3 hH3 r2
        have r1h := Lib.hid r1
        have r2h := Lib.hid r2
        have r3h := Lib.hid r3
        have r4h := Lib.hid r4
        have hz3 := Lib.hid (show B ≤ W3.heap.size from by have h1 := hk2h.out.size; have h2 := r4.size; have h3 : g < wq.heap.size := (World.block_lt_of_cell? _ _ (q9.1.gt 0 (Fr.ok_iff.1 hokh.out).1)); omega)
        have hH3h := Lib.hid hH3
        have hl0 := Lib.hid (show lenC wq C = rest.length from by unfold lenC; rw [cell_at q3h.out 0 (u := .slice (some ⟨gb, ob, none⟩) rest.length capb) rfl])
        have hl3 := Lib.hid (show lenC W3 C = rest.length - (6 + m) from by
          obtain ⟨a3, c3, e3, -⟩ := r2
          unfold lenC; rw [r5, e3, List.length_drop])
        clear r1 r2 r3 r4 hH3 c2 hrd
        go_wp2_with (go_at_call 81; refine hf3.mono ?_; rintro e W4 ⟨x4, rfl, e4, hx4⟩; go_wp2_with fail)
        go_roundw
        case rel =>
          refine ⟨pre ++ [(.slice (some ⟨g, 6, none⟩) m cap, rec1 rest)], rest.drop (6 + m), vb2, Lib.hid ⟨?_, ?_, e4.heap r1h.out, r2h.out.ext e4, fun k hk => by rw [r3h.out] at hk; cases hk; exact q5h.out gb rfl, hH3h.out.ext e4, hx4.imp id fun ⟨t1, g', cap', t2, t3, t4⟩ => ⟨t1, g', cap', t2, by have := hz3.out; omega, t4⟩⟩, Lib.hid (hJh.out _ _ _ (hJh.out _ _ _ hJ2h.out r4h.out) (Chg.of_ext e4))⟩
          · rw [List.map_append, Fr.all_append, q1h.out, List.append_assoc]
            congr 1
            have := hsph.out
            show rest = (frm (rec1 rest) ++ []) ++ _
            rw [List.append_nil]; exact this
          · rw [List.map_append]
            unfold Fr.oks
            rw [List.all_append, Bool.and_eq_true]
            exact ⟨q2h.out, by simp [hokh.out]⟩
        case measure =>
          have h4 : lenC W4 C = lenC W3 C := by unfold lenC; rw [e4.cell r5, r5]
          rw [h4, hl3.out, hl0.out]
          have := hml.out
          omega
end Go.Proofs.YtkdmljijgfejpaaDoor
