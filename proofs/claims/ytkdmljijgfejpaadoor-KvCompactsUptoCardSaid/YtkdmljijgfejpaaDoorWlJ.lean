/- The log in memory: put, with all that it leaves; Append. -/
import Derived.Test.YtkdmljijgfejpaaDoorWlG
namespace Go.Proofs.YtkdmljijgfejpaaDoor
set_option linter.unusedVariables false
set_option linter.unusedSimpArgs false
open Go.RowKit Dk Wl Fr

theorem pickV_ok (a b : Value) : pickV 0 a b = a := rfl
theorem pickV_bad (a b : Value) : pickV 21 a b = b := rfl
theorem Chg.after {F : Nat → Prop} {w w5 w6 : World} (e : Ext w w5) (c : Chg (grow F w) w5 w6) : Chg F w w6 :=
  ⟨c.os.trans e.os, c.tape.trans e.tape, c.output.trans e.output, Nat.le_trans e.size c.size, fun k hk hp => (c.block k (Nat.lt_of_lt_of_le hk e.size) (fun h => h.elim hp (fun h => by omega))).trans (e.block k hk)⟩
theorem grow_grow {F : Nat → Prop} {w w5 : World} (h : w.heap.size ≤ w5.heap.size) : ∀ k, grow (grow F w) w5 k → grow F w k := fun _ hk => hk.elim id fun h2 => .inr (Nat.le_trans h h2)
theorem lput_m {w : World} {F G : Nat → Prop} {q p : Nat} {g : Lg} {h' : H} {vu vn : Value} {u' : List UInt8} {fr : Nat} (hD : Disk w G p g.d) (hGF : ∀ k, G k → F k) (hGs : ∀ k, G k → k < w.heap.size) (hq : F q) (hnq : ¬ G q) (l : LogAt w q p g.h vu) (hu : Bytes w vu g.u) (hv : ∀ k, vblk vu = some k → g.u ≠ [] → F k ∧ ¬ G k ∧ k ≠ q)
    (s : Sane g) (hok : g.d.Ok) (hf : h'.Fine) (hn : Bytes w vn u') (hul : u'.length ≤ 32 * areaN g.d.n) (hfr : fr ≤ u'.length) (hw : Halves w) (hst : g.d.st.length ≤ 100000) (hh : ¬ F 1) (hvn : ∀ k, vblk vn = some k → u' ≠ [] → F k ∧ ¬ G k ∧ k ≠ q) :
    Calls Tryd.prog 56 #[.pointer (some ⟨q, 0, none⟩), hagg h', vn, .int .i64 (fr : Int)] w fun e w' => e = .returned (.int .i64 (putL h' u' (fr / 32) g).1) ∧ Chg F w w' ∧ LogM w' (grow F w) q p (putL h' u' (fr / 32) g).2 := by
  have hp := lput_any (h := g.h) (u := g.u) l hD s.n4 s.n512 hf hn hul hfr hw hGs hnq hok hst ⟨fun h => hh (hGF _ h), fun h => hh (h ▸ hq)⟩ (fun k hk hl => (hvn k hk hl).2)
  refine hp.mono fun e w' ⟨h1, h2, h3, h4⟩ => ⟨h1, h2.mono fun k hk => hk.elim (hGF k) fun e => e ▸ hq, ?_⟩
  have hql := l.lt
  have hnG : ∀ k, k < w.heap.size → ¬ G k → ¬ (grow G w k ∧ k < w'.heap.size) := fun k hk hg h => h.1.elim hg fun h => by omega
  have hby : ∀ v m, Bytes w v m → (∀ k, vblk v = some k → m ≠ [] → F k ∧ ¬ G k ∧ k ≠ q) → Bytes w' v m ∧ ∀ k, vblk v = some k → m ≠ [] → grow F w k ∧ ¬ (grow G w k ∧ k < w'.heap.size) ∧ k ≠ q := fun v m hm hk =>
    ⟨hm.chgV h2 fun k h1 hl h => h.elim (hk k h1 hl).2.1 (hk k h1 hl).2.2, fun k h1 hl => ⟨.inl (hk k h1 hl).1, hnG k (hm.blk_lt hl k h1) (hk k h1 hl).2.1, (hk k h1 hl).2.2⟩⟩
  have hcase : (∃ d', putL h' u' (fr / 32) g = (0, ⟨d', h', u'⟩)) ∨ (∃ d', putL h' u' (fr / 32) g = (21, ⟨d', g.h, g.u⟩)) := by
    unfold putL
    split
    · exact .inl ⟨_, rfl⟩
    · exact .inr ⟨_, rfl⟩
  have e : (⟨g.d, g.h, g.u⟩ : Lg) = g := rfl
  rw [e] at h3 h4
  rcases hcase with ⟨d', hc⟩ | ⟨d', hc⟩
  · rw [hc] at h3 h4 ⊢
    obtain ⟨b1, b2⟩ := hby vn u' hn hvn
    exact ⟨_, vn, h3.bound, fun k hk => hk.1.imp (hGF k) id, fun k hk => hk.2, .inl hq, hnG q hql hnq, h4, b1, b2⟩
  · rw [hc] at h3 h4 ⊢
    obtain ⟨b1, b2⟩ := hby vu g.u hu hv
    exact ⟨_, vu, h3.bound, fun k hk => hk.1.imp (hGF k) id, fun k hk => hk.2, .inl hq, hnG q hql hnq, h4, b1, b2⟩
set_option maxRecDepth 20000 in
set_option maxHeartbeats 4000000 in
theorem lappend_any {w : World} {F : Nat → Prop} {q p : Nat} {g : Lg} {vb : Value} {b : List UInt8} (l : LogM w F q p g) (s : Sane g) (hst : g.d.st.length ≤ 100000) (hw : Halves w) (hh : ¬ F 1) (hb : Bytes w vb b) :
    Calls Tryd.prog 40 #[.pointer (some ⟨q, 0, none⟩), vb] w fun e w' => e = .returned (.int .i64 (opL (.app b) g).1) ∧ Chg F w w' ∧ LogM w' (grow F w) q p (opL (.app b) g).2 := by
  have hok := l.ok
  have hlh := Lib.hid l
  obtain ⟨G, vu, hD, hGF, hGs, hq, hnq, hl, hu, hv⟩ := l
  have hpa := put_any vb b w hw hb
  have hDh := Lib.hid hD
  have hlA := Lib.hid hl
  have huh := Lib.hid hu
  have hvh := Lib.hid hv
  have hwh := Lib.hid hw
  have hsh := Lib.hid s
  have hGh := Lib.hid (show (∀ k, G k → F k) ∧ (∀ k, G k → k < w.heap.size) ∧ F q ∧ ¬ G q from ⟨hGF, hGs, hq, hnq⟩)
  have hhh := Lib.hid hh
  have hokh := Lib.hid hok
  have hsth := Lib.hid hst
  have hpl := Lib.hid (planL_app b g.d.n g.h g.u)
  have hopL := Lib.hid (show opL (.app b) g = match planL (.app b) g.d.n g.h g.u with | .inl e => (e, g) | .inr (h', u', i0) => putL h' u' i0 g from rfl)
  clear hD hl hu hv hw hGF hGs hq hnq hh hok hst
  have hroom := hsh.out.room
  have hm : areaN g.d.n ≤ 256 := by have := hsh.out.n512; unfold areaN; omega
  obtain ⟨R, hR⟩ : ∃ R, R = 32 * areaN g.d.n - g.h.used := ⟨_, rfl⟩
  have hRh := Lib.hid hR
  have hmh := Lib.hid hm
  have hroomh := Lib.hid hroom
  clear hR hm hroom
  by_cases h1 : errOf b = 0
  · rw [h1] at hpa
    obtain ⟨f, hf⟩ : ∃ f, f = frm b := ⟨_, rfl⟩
    have hfl := Lib.hid (show f.length = 6 + b.length from by rw [hf, frm_length])
    rw [← hf] at hpa
    have hfh := Lib.hid hf
    have h1h := Lib.hid h1
    clear hf h1
    go_enter Tryd.func40, Tryd.ntmps40
    go_upto_block 0 with (go_at_call 55; refine hpa.mono ?_; rintro e w1 ⟨r, rfl, x, rfl, e1, ⟨-, hx⟩ | ⟨hx, -⟩⟩; rotate_left; exact absurd rfl hx)
    have hxb := Lib.hid hx.bytes
    have hxo := Lib.hid (show ∀ k, vblk x = some k → f ≠ [] → w.heap.size ≤ k from fun k hk hl => by
      obtain ⟨g, cap, rfl, h2, -⟩ := hx.cells (List.length_pos_iff.2 hl)
      cases hk
      exact h2)
    obtain ⟨ax, cx, rfl, -⟩ := hx.bytes
    have e1h := Lib.hid e1
    have hl1 := hlA.out.ext e1
    have c1 := hl1.cells.2.1
    have hrm := lRoom_any hl1 (hDh.out.ext e1) hsh.out.n4 hsh.out.n512 hroomh.out
    rw [← hRh.out] at hrm
    clear hpa hx e1
    rcases hpl.out with ⟨h0, -⟩ | ⟨-, hfull, hq⟩ | ⟨-, hno, hq⟩
    · exact absurd h1h.out h0
    · have hres := Lib.hid (show opL (.app b) g = (5, g) from by rw [hopL.out, hq])
      by_cases hA : R < f.length
      · have d1 : decide (R < f.length) = true := by rw [decide_eq_true_iff]; omega
        clear hl1 hfull hq hpl hopL hA
        go_wp2_with (go_at_call 47; refine hrm.mono ?_; rintro e w2 ⟨rfl, e2⟩)
        go_ret
        rw [hres.out]
        exact ⟨rfl, Chg.of_ext (e1h.out.trans e2), (hlh.out.ext (e1h.out.trans e2)).mono fun k hk => .inl hk⟩
      · have d1 : decide (R < f.length) = false := by rw [decide_eq_false_iff_not]; omega
        have hg := hsh.out.fine.gen
        have g1 : IntKind.i64.wrap ((g.h.gen : Int) + 1) = (g.h.gen : Int) + 1 := wrap_le (by omega) (by omega)
        have d2 : decide ((262144 : Int) ≤ (g.h.gen : Int) + 1) = true := by rw [decide_eq_true_iff]; have := hfl.out; have := hRh.out; have := hroomh.out; omega
        clear hfull hq hpl hopL hA hg
        have hl1h := Lib.hid hl1
        clear hl1
        go_wp2_with (go_at_call 47; refine hrm.mono ?_; rintro e w2 ⟨rfl, e2⟩; have c2 := (hl1h.out.ext e2).cells.2.1)
        go_ret
        rw [hres.out]
        exact ⟨rfl, Chg.of_ext (e1h.out.trans e2), (hlh.out.ext (e1h.out.trans e2)).mono fun k hk => .inl hk⟩
    · have hres := Lib.hid (show opL (.app b) g = putL ⟨g.h.gen + 1, g.h.area, g.h.used + (6 + b.length)⟩ (g.u ++ frm b) (g.h.used / 32) g from by rw [hopL.out, hq])
      have hnoh := Lib.hid hno
      have d1 : decide (R < f.length) = false := by rw [decide_eq_false_iff_not]; have := hfl.out; have := hRh.out; have := hroomh.out; omega
      have g1 : IntKind.i64.wrap ((g.h.gen : Int) + 1) = (g.h.gen : Int) + 1 := wrap_le (by omega) (by omega)
      have d2 : decide ((262144 : Int) ≤ (g.h.gen : Int) + 1) = false := by rw [decide_eq_false_iff_not]; omega
      clear hq hpl hopL hno
      have hl1h := Lib.hid hl1
      clear hl1
      go_upto_region 6 with (go_at_call 47; refine hrm.mono ?_; rintro e w2 ⟨rfl, e2⟩; have c2 := (hl1h.out.ext e2).cells.2.1)
      obtain ⟨-, -, c3, c4, -⟩ := (hl1h.out.ext e2).cells
      obtain ⟨-, k2, k3, k4, -⟩ := (hl1h.out.ext (e2.alloc (.cells #[.int .i64 0, .int .i64 0, .int .i64 0] 97))).cells
      have g2 : IntKind.i64.wrap ((g.h.used : Int) + (f.length : Int)) = (g.h.used : Int) + (f.length : Int) := wrap_le (by omega) (by have := hfl.out; have := hnoh.out; have := hmh.out; omega)
      go_region
      have e3 := Lib.hid (((e1h.out.trans e2).alloc (.cells #[.int .i64 ((g.h.gen : Int) + 1), .int .i64 (g.h.area : Int), .int .i64 ((g.h.used : Int) + (f.length : Int))] 97)).drew)
      have hB7 := Lib.hid ((Ext.refl _).drew.heap (heap_alloc_new w2 (.cells #[.int .i64 ((g.h.gen : Int) + 1), .int .i64 (g.h.area : Int), .int .i64 ((g.h.used : Int) + (f.length : Int))] 97)))
      obtain ⟨B7, hB7e⟩ : ∃ n, n = w2.heap.size := ⟨_, rfl⟩
      rw [← hB7e] at hB7 ⊢
      generalize hW3 : ((w2.alloc (.cells #[.int .i64 ((g.h.gen : Int) + 1), .int .i64 (g.h.area : Int), .int .i64 ((g.h.used : Int) + (f.length : Int))] 97)).drew) = w3 at *
      have hx3 := Lib.hid (hxb.out.ext ((e2.alloc (.cells #[.int .i64 ((g.h.gen : Int) + 1), .int .i64 (g.h.area : Int), .int .i64 ((g.h.used : Int) + (f.length : Int))] 97)).drew))
      rw [hW3] at hx3
      clear hW3 hB7e c1 c2 c3 c4 k2 k3 k4 e2 hrm d1 d2 g1 g2
      obtain ⟨au, cu, hvu, -⟩ := huh.out
      have hS := Lib.hid (show ∀ W, Ext w3 W → (W.cell? ⟨B7, 0, none⟩ = some (.int .i64 ((g.h.gen : Int) + 1)) ∧ W.cell? ⟨B7, 1, none⟩ = some (.int .i64 (g.h.area : Int)) ∧ W.cell? ⟨B7, 2, none⟩ = some (.int .i64 ((g.h.used : Int) + (f.length : Int))) ∧ W.cell? ⟨q, 3, none⟩ = some (.int .i64 (g.h.used : Int)) ∧ W.cell? ⟨q, 4, none⟩ = some (.slice au g.u.length cu)) from fun W e => by
        have e5 := e.heap hB7.out
        have l5 := (hlA.out.ext (e3.out.trans e)).cells
        exact ⟨cell_at e5 0 rfl, cell_at e5 1 rfl, cell_at e5 2 rfl, l5.2.2.2.1, by rw [← hvu]; exact l5.2.2.2.2⟩)
      have hcl := Lib.hid (clone8_any vu g.u (by have := hsh.out.used; have := hroomh.out; have := hmh.out; omega))
      rw [hvu] at hcl
      have hput := Lib.hid (show ∀ W vn, Ext w W → OwnB W w.heap.size vn (g.u ++ f) → Calls Tryd.prog 56 #[.pointer (some ⟨q, 0, none⟩), .agg #[.int .i64 ((g.h.gen : Int) + 1), .int .i64 (g.h.area : Int), .int .i64 ((g.h.used : Int) + (f.length : Int))], vn, .int .i64 (g.h.used : Int)] W fun e w' => e = .returned (.int .i64 (opL (.app b) g).1) ∧ Chg F w w' ∧ LogM w' (grow F w) q p (opL (.app b) g).2 from fun W vn eW ho => by
        have hag : hagg ⟨g.h.gen + 1, g.h.area, g.h.used + f.length⟩ = .agg #[.int .i64 ((g.h.gen : Int) + 1), .int .i64 (g.h.area : Int), .int .i64 ((g.h.used : Int) + (f.length : Int))] := by simp [hagg]
        have hno := hnoh.out
        have hfe := hfl.out
        have hq0 := hlA.out.lt
        have hpu := lput_m (w := W) (F := grow F w) (G := G) (q := q) (p := p) (g := g) (h' := ⟨g.h.gen + 1, g.h.area, g.h.used + f.length⟩) (vu := vu) (vn := vn) (u' := g.u ++ f) (fr := g.h.used) (hDh.out.ext eW) (fun k hk => .inl (hGh.out.1 k hk)) (fun k hk => Nat.lt_of_lt_of_le (hGh.out.2.1 k hk) eW.size) (.inl hGh.out.2.2.1) hGh.out.2.2.2 (hlA.out.ext eW) (huh.out.ext eW) (fun k hk hl => ⟨.inl (hvh.out k hk hl).1, (hvh.out k hk hl).2⟩) hsh.out hokh.out
          ⟨by show g.h.gen + 1 < 262144; omega, hsh.out.fine.area, by show g.h.used + f.length < 8192; have := hmh.out; have := hsh.out.n512; unfold areaN at *; omega⟩ ho.bytes (by rw [List.length_append, hsh.out.used]; omega) (by rw [List.length_append, hsh.out.used]; omega) (hwh.out.ext eW) hsth.out (fun h => h.elim hhh.out (fun h => by have : 1 < w.heap.size := World.block_lt_of_cell? w _ (hwh.out 0); omega)) (fun k hk hl => by
            obtain ⟨g', cap, rfl, h2, -⟩ := ho.cells (List.length_pos_iff.2 hl)
            obtain rfl : g' = k := Option.some.inj hk
            exact ⟨.inr h2, fun hg => by have := hGh.out.2.1 _ hg; omega, by omega⟩)
        rw [hag] at hpu
        refine hpu.mono fun e w' ⟨r1, r2, r3⟩ => ?_
        rw [hres.out, ← hfh.out, ← hfl.out]
        exact ⟨r1, Chg.after eW r2, r3.mono (grow_grow eW.size)⟩)
      have hul := Lib.hid (show g.u.length + f.length ≤ 140737488355328 from by have := hsh.out.used; have := hnoh.out; have := hfl.out; have := hmh.out; omega)
      have e33 := Ext.refl w3
      go_upto_region 7 with fail
      obtain ⟨s0, s1, s2, s3, s4⟩ := hS.out w3 e33
      go_region_law (first
        | (go_simp; go_at_call 57; refine (hcl.out _ (by rw [← hvu]; exact huh.out.ext (e3.out.trans e33.drew))).mono ?_; rintro e w4 ⟨v4, rfl, o4, e4⟩; obtain ⟨r0, r1, r2, r3, r4⟩ := hS.out w4 (e33.drew.trans e4); go_wp2_with fail)
        | (refine step_appendB rfl (.tmp 58) (.tmp 59) rfl w3.heap.size v4 g.u rfl o4 (.slice ax f.length cx) f rfl (hx3.out.ext (e33.drew.trans e4)) hul.out (e33.drew.trans e4).size ?_; intro v5 w5 o5 g5; have e5 : Ext w3 w5 := (e33.drew.trans e4).grown g5 fun k hk => o4.lt k hk; obtain ⟨t0, t1, t2, t3, t4⟩ := hS.out w5 e5)
        | (go_simp; go_at_call 56; refine (hput.out _ _ (e3.out.trans e5) (o5.down e3.out.size)).mono ?_; rintro e w6 ⟨rfl, c6, l6⟩; go_wp2_with fail))
      all_goals go_wp2
      all_goals go_ret
      all_goals exact ⟨rfl, c6, l6⟩
  · have d1 : (errOf b != 0) = true := by rw [bne_iff_ne]; exact h1
    have hres := Lib.hid (show opL (.app b) g = (errOf b, g) from by
      rcases hpl.out with ⟨-, hq⟩ | ⟨h0, -⟩ | ⟨h0, -⟩
      · rw [hopL.out, hq]
      · exact absurd h0 h1
      · exact absurd h0 h1)
    have h1h := Lib.hid h1
    clear h1 hpl hopL
    generalize errOf b = E at *
    go_enter Tryd.func40, Tryd.ntmps40
    go_wp2_with (go_at_call 55; refine hpa.mono ?_; rintro e w1 ⟨r, rfl, x, rfl, e1, ⟨hx, -⟩ | ⟨-, rfl⟩⟩; exact absurd hx h1h.out)
    go_ret
    rw [hres.out]
    exact ⟨rfl, Chg.of_ext e1, (hlh.out.ext e1).mono fun k hk => .inl hk⟩
end Go.Proofs.YtkdmljijgfejpaaDoor
