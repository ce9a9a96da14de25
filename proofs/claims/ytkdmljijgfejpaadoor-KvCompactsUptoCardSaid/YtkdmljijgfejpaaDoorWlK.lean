/- The log in memory: Replace. -/
import Derived.Test.YtkdmljijgfejpaaDoorWlJ
namespace Go.Proofs.YtkdmljijgfejpaaDoor
set_option linter.unusedVariables false
set_option linter.unusedSimpArgs false
open Go.RowKit Dk Wl Fr

set_option maxRecDepth 20000 in
set_option maxHeartbeats 4000000 in
theorem lreplace_any {w : World} {F : Nat → Prop} {q p : Nat} {g : Lg} {vl : Value} {ls : List (List UInt8)} (l : LogM w F q p g) (s : Sane g) (hst : g.d.st.length ≤ 100000) (hw : Halves w) (hh : ¬ F 1) (hb : LL w vl ls) (hn : ls.length ≤ 30000000000) :
    Calls Tryd.prog 41 #[.pointer (some ⟨q, 0, none⟩), vl] w fun e w' => e = .returned (.int .i64 (opL (.rep ls) g).1) ∧ Chg F w w' ∧ LogM w' (grow F w) q p (opL (.rep ls) g).2 := by
  have hok := l.ok
  have hlh := Lib.hid l
  obtain ⟨G, vu, hD, hGF, hGs, hq, hnq, hl, hu, hv⟩ := l
  have hpa := all_any vl ls w hw hb hn
  obtain ⟨al, cl, rfl, -⟩ := hb.get
  have hDh := Lib.hid hD
  have hlA := Lib.hid hl
  have huh := Lib.hid hu
  have hvh := Lib.hid hv
  have hwh := Lib.hid hw
  have hsh := Lib.hid s
  have hGh := Lib.hid (show (∀ k, G k → F k) ∧ (∀ k, G k → k < w.heap.size) ∧ F q ∧ ¬ G q from ⟨hGF, hGs, hq, hnq⟩)
  have hhh := Lib.hid hh
  have hokh := Lib.hid hok
  have hsth := Lib.hid hst
  have hpl := Lib.hid (planL_rep ls g.d.n g.h g.u)
  have hopL := Lib.hid (show opL (.rep ls) g = match planL (.rep ls) g.d.n g.h g.u with | .inl e => (e, g) | .inr (h', u', i0) => putL h' u' i0 g from rfl)
  clear hD hl hu hv hw hGF hGs hq hnq hh hok hst hb hn
  have hmh := Lib.hid (show areaN g.d.n ≤ 256 from by have := hsh.out.n512; unfold areaN; omega)
  obtain ⟨R, hR⟩ : ∃ R, R = 32 * areaN g.d.n := ⟨_, rfl⟩
  have hRh := Lib.hid hR
  clear hR
  by_cases h1 : errAll ls = 0
  · rw [h1] at hpa
    obtain ⟨f, hf⟩ : ∃ f, f = all ls := ⟨_, rfl⟩
    have hfl := Lib.hid (show f.length = size ls from by rw [hf, all_length])
    rw [← hf] at hpa
    have hfh := Lib.hid hf
    have h1h := Lib.hid h1
    clear hf h1
    go_enter Tryd.func41, Tryd.ntmps41
    go_upto_block 0 with (go_at_call 58; refine hpa.mono ?_; rintro e w1 ⟨r, rfl, x, rfl, e1, ⟨-, hx⟩ | ⟨hx, -⟩⟩; rotate_left; exact absurd rfl hx)
    have hxo := Lib.hid hx
    obtain ⟨ax, cx, rfl, -⟩ := hx.bytes
    have e1h := Lib.hid e1
    have hl1 := hlA.out.ext e1
    have c1 := hl1.cells.2.1
    have hrm := lroom_any hl1 (hDh.out.ext e1) hsh.out.n4 hsh.out.n512
    rw [← hRh.out] at hrm
    clear hpa hx e1
    rcases hpl.out with ⟨h0, -⟩ | ⟨-, hfull, hq⟩ | ⟨-, hno, hq⟩
    · exact absurd h1h.out h0
    · have hres := Lib.hid (show opL (.rep ls) g = (5, g) from by rw [hopL.out, hq])
      by_cases hA : R < f.length
      · have d1 : decide (R < f.length) = true := by rw [decide_eq_true_iff]; omega
        clear hl1 hfull hq hpl hopL hA
        go_wp2_with (go_at_call 59; refine hrm.mono ?_; rintro e w2 ⟨rfl, rfl⟩)
        go_ret
        rw [hres.out]
        exact ⟨rfl, Chg.of_ext e1h.out, (hlh.out.ext e1h.out).mono fun k hk => .inl hk⟩
      · have d1 : decide (R < f.length) = false := by rw [decide_eq_false_iff_not]; omega
        have hg := hsh.out.fine.gen
        have g1 : IntKind.i64.wrap ((g.h.gen : Int) + 1) = (g.h.gen : Int) + 1 := wrap_le (by omega) (by omega)
        have d2 : decide ((262144 : Int) ≤ (g.h.gen : Int) + 1) = true := by rw [decide_eq_true_iff]; have := hfl.out; have := hRh.out; omega
        clear hfull hq hpl hopL hA hg hl1
        go_wp2_with (go_at_call 59; refine hrm.mono ?_; rintro e w2 ⟨rfl, rfl⟩)
        go_ret
        rw [hres.out]
        exact ⟨rfl, Chg.of_ext e1h.out, (hlh.out.ext e1h.out).mono fun k hk => .inl hk⟩
    · have hres := Lib.hid (show opL (.rep ls) g = putL ⟨g.h.gen + 1, 1 - g.h.area, size ls⟩ (all ls) 0 g from by rw [hopL.out, hq])
      have hnoh := Lib.hid hno
      have d1 : decide (R < f.length) = false := by rw [decide_eq_false_iff_not]; have := hfl.out; have := hRh.out; omega
      have g1 : IntKind.i64.wrap ((g.h.gen : Int) + 1) = (g.h.gen : Int) + 1 := wrap_le (by omega) (by omega)
      have d2 : decide ((262144 : Int) ≤ (g.h.gen : Int) + 1) = false := by rw [decide_eq_false_iff_not]; omega
      have g3 : IntKind.i64.wrap ((1 : Int) - (g.h.area : Int)) = 1 - (g.h.area : Int) := by have := hsh.out.fine.area; exact wrap_le (by omega) (by omega)
      obtain ⟨-, -, c2, -⟩ := hl1.cells
      clear hq hpl hopL hno hl1
      have hput := Lib.hid (show ∀ W, Ext w1 W → Calls Tryd.prog 56 #[.pointer (some ⟨q, 0, none⟩), .agg #[.int .i64 ((g.h.gen : Int) + 1), .int .i64 (1 - (g.h.area : Int)), .int .i64 (f.length : Int)], .slice ax f.length cx, .int .i64 0] W fun e w' => e = .returned (.int .i64 (opL (.rep ls) g).1) ∧ Chg F w w' ∧ LogM w' (grow F w) q p (opL (.rep ls) g).2 from fun W e1W => by
        have eW := e1h.out.trans e1W
        have ha := hsh.out.fine.area
        have hag : hagg ⟨g.h.gen + 1, 1 - g.h.area, f.length⟩ = .agg #[.int .i64 ((g.h.gen : Int) + 1), .int .i64 (1 - (g.h.area : Int)), .int .i64 (f.length : Int)] := by
          unfold hagg
          rw [show ((1 - g.h.area : Nat) : Int) = 1 - (g.h.area : Int) by omega]
          rfl
        have hno := hnoh.out
        have hfe := hfl.out
        have hq0 := hlA.out.lt
        have ho := hxo.out.ext e1W
        have hpu := lput_m (w := W) (F := grow F w) (G := G) (q := q) (p := p) (g := g) (h' := ⟨g.h.gen + 1, 1 - g.h.area, f.length⟩) (vu := vu) (vn := .slice ax f.length cx) (u' := f) (fr := 0) (hDh.out.ext eW) (fun k hk => .inl (hGh.out.1 k hk)) (fun k hk => Nat.lt_of_lt_of_le (hGh.out.2.1 k hk) eW.size) (.inl hGh.out.2.2.1) hGh.out.2.2.2 (hlA.out.ext eW) (huh.out.ext eW) (fun k hk hl => ⟨.inl (hvh.out k hk hl).1, (hvh.out k hk hl).2⟩) hsh.out hokh.out
          ⟨by show g.h.gen + 1 < 262144; omega, by show 1 - g.h.area < 2; omega, by show f.length < 8192; have := hmh.out; have := hsh.out.n512; unfold areaN at *; omega⟩ ho.bytes (by omega) (Nat.zero_le _) (hwh.out.ext eW) hsth.out (fun h => h.elim hhh.out (fun h => by have : 1 < w.heap.size := World.block_lt_of_cell? w _ (hwh.out 0); omega)) (fun k hk hl => by
            obtain ⟨g', cap, he, h2, -⟩ := ho.cells (List.length_pos_iff.2 hl)
            rw [he] at hk
            obtain rfl : g' = k := Option.some.inj hk
            exact ⟨.inr h2, fun hg => by have := hGh.out.2.1 _ hg; omega, by omega⟩)
        rw [hag] at hpu
        refine hpu.mono fun e w' ⟨r1, r2, r3⟩ => ?_
        rw [hres.out, ← hfh.out, ← hfl.out]
        exact ⟨r1, Chg.after eW r2, r3.mono (grow_grow eW.size)⟩)
      have e11 := (Ext.refl w1).drew
      go_upto_region 6 with (go_at_call 59; refine hrm.mono ?_; rintro e w2 ⟨rfl, rfl⟩)
      go_region_with (go_at_call 56; refine (hput.out _ e11).mono ?_; rintro e w6 ⟨rfl, c6, l6⟩)
      all_goals go_wp2
      all_goals go_ret
      all_goals exact ⟨rfl, c6, l6⟩
  · have d1 : (errAll ls != 0) = true := by rw [bne_iff_ne]; exact h1
    have hres := Lib.hid (show opL (.rep ls) g = (errAll ls, g) from by
      rcases hpl.out with ⟨-, hq⟩ | ⟨h0, -⟩ | ⟨h0, -⟩
      · rw [hopL.out, hq]
      · exact absurd h0 h1
      · exact absurd h0 h1)
    have h1h := Lib.hid h1
    clear h1 hpl hopL
    generalize errAll ls = E at *
    go_enter Tryd.func41, Tryd.ntmps41
    go_wp2_with (go_at_call 58; refine hpa.mono ?_; rintro e w1 ⟨r, rfl, x, rfl, e1, ⟨hx, -⟩ | ⟨-, rfl⟩⟩; exact absurd hx h1h.out)
    go_ret
    rw [hres.out]
    exact ⟨rfl, Chg.of_ext e1, (hlh.out.ext e1).mono fun k hk => .inl hk⟩
end Go.Proofs.YtkdmljijgfejpaaDoor
