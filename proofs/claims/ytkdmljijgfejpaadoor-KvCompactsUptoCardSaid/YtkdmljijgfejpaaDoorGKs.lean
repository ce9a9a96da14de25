/- A store in memory: the value at a key. -/
import Derived.Test.YtkdmljijgfejpaaDoorGKi
import Derived.Test.YtkdmljijgfejpaaDoorGKc
namespace Go.Proofs.YtkdmljijgfejpaaDoor
set_option linter.unusedVariables false
set_option linter.unusedSimpArgs false
open Go.RowKit Kv Dk Wl Fr

/-- a store in memory: its log's blocks are of G; its own block s; its map's -/
structure StK (w : World) (G F : Nat → Prop) (s q p : Nat) (m : Option Nat) (g : Lg) (L : List Pr) : Prop where
  log : LogM w G q p g
  sub : ∀ k, G k → F k ∧ k ≠ s
  bnd : ∀ k, G k → k < w.heap.size
  hs : F s
  blk : w.heap[s]? = some (.cells #[.pointer (some ⟨q, 0, none⟩), .map m] 73 (0, 0))
  map : MapV w m L
  hm : ∀ b, m = some b → F b ∧ ¬ G b ∧ b ≠ s
def StM (w : World) (F : Nat → Prop) (s p : Nat) (g : Lg) (L : List Pr) : Prop := ∃ G q m, StK w G F s q p m g L
theorem MapV.lt {w : World} {m : Option Nat} {L : List Pr} (h : MapV w m L) : ∀ b, m = some b → b < w.heap.size := fun b e => by subst e; exact KMap.lt h
section
variable {w w' : World} {G F F' : Nat → Prop} {s q p : Nat} {m : Option Nat} {g g' : Lg} {L L' : List Pr}
theorem StK.lt (h : StK w G F s q p m g L) : s < w.heap.size := (Array.getElem?_eq_some_iff.1 h.blk).1
theorem StK.ext (h : StK w G F s q p m g L) (e : Ext w w') : StK w' G F s q p m g L := ⟨h.log.ext e, h.sub, fun k hk => Nat.lt_of_lt_of_le (h.bnd k hk) e.size, h.hs, e.heap h.blk, h.map.ext e, h.hm⟩
theorem StK.mono (h : StK w G F s q p m g L) (hF : ∀ k, F k → F' k) : StK w G F' s q p m g L := ⟨h.log, fun k hk => ⟨hF k (h.sub k hk).1, (h.sub k hk).2⟩, h.bnd, hF s h.hs, h.blk, h.map, fun b hb => ⟨hF b (h.hm b hb).1, (h.hm b hb).2⟩⟩
theorem StM.ext (h : StM w F s p g L) (e : Ext w w') : StM w' F s p g L := let ⟨G, q, m, k⟩ := h; ⟨G, q, m, k.ext e⟩
theorem StM.mono (h : StM w F s p g L) (hF : ∀ k, F k → F' k) : StM w F' s p g L := let ⟨G, q, m, k⟩ := h; ⟨G, q, m, k.mono hF⟩
/-- behind a call of its log, or of its disk -/
theorem StK.op (h : StK w G F s q p m g L) (c : Chg G w w') (l : LogM w' (grow G w) q p g') : StK w' (fun k => grow G w k ∧ k < w'.heap.size) (grow F w) s q p m g' L := by
  have hl := h.lt
  refine ⟨l.bound, fun k hk => ⟨hk.1.imp (fun hk => (h.sub k hk).1) id, fun e => ?_⟩, fun k hk => hk.2, .inl h.hs, (c.block _ hl fun hk => (h.sub s hk).2 rfl).trans h.blk, h.map.chg c fun b hb => (h.hm b hb).2.1, fun b hb => ⟨.inl (h.hm b hb).1, fun hk => ?_, (h.hm b hb).2.2⟩⟩
  · subst e
    exact hk.1.elim (fun hk => (h.sub _ hk).2 rfl) fun h1 => by omega
  · have := h.map.lt b hb
    exact hk.1.elim (h.hm b hb).2.1 fun h1 => by omega
/-- behind a store of another map -/
theorem StK.set (h : StK w G F s q p m g L) {b : Nat} (k : KMap w b L') (hb : F b ∧ ¬ G b ∧ b ≠ s) : StK (w.setCell ⟨s, 1, none⟩ (.map (some b))) G F s q p (some b) g L' := by
  have c : Chg (fun k => k = s) w (w.setCell ⟨s, 1, none⟩ (.map (some b))) := (Chg.refl (fun k => k = s) w).setCell (fun _ => rfl) _
  exact ⟨h.log.chg c fun k _ hk => (h.sub k hk).2, h.sub, fun k hk => Nat.lt_of_lt_of_le (h.bnd k hk) c.size, h.hs, setCell_row w s 1 _ _ _ _ h.blk, k.chg c hb.2.2, fun b' e => by cases e; exact hb⟩
theorem StK.cells (h : StK w G F s q p m g L) : w.cell? ⟨s, 0, none⟩ = some (.pointer (some ⟨q, 0, none⟩)) ∧ w.cell? ⟨s, 1, none⟩ = some (.map m) := ⟨cell_at h.blk 0 rfl, cell_at h.blk 1 rfl⟩
theorem StK.frz (h : StK w G F s q p m g L) : w.frozen? ⟨s, 1, none⟩ = false := by simp [World.frozen?, h.blk]
theorem StM.bound (h : StM w F s p g L) : StM w (fun k => F k ∧ k < w.heap.size) s p g L :=
  let ⟨G, q, m, k⟩ := h
  ⟨G, q, m, k.log, fun j hj => ⟨⟨(k.sub j hj).1, k.bnd j hj⟩, (k.sub j hj).2⟩, k.bnd, ⟨k.hs, k.lt⟩, k.blk, k.map, fun b hb => ⟨⟨(k.hm b hb).1, k.map.lt b hb⟩, (k.hm b hb).2⟩⟩
theorem StM.srt (h : StM w F s p g L) : Srt L := let ⟨_, _, _, k⟩ := h; k.map.srt
/-- its disk -/
theorem StM.disk (h : StM w F s p g L) : ∃ G, Disk w G p g.d ∧ (∀ k, G k → F k) ∧ (∀ k, G k → k < w.heap.size) ∧ ∀ w' d', Chg G w w' → Disk w' (grow G w) p d' → StM w' (grow F w) s p ⟨d', g.h, g.u⟩ L := by
  obtain ⟨G, q, m, k⟩ := h
  obtain ⟨G1, h1, h2, h3, h4⟩ := k.log.disk
  exact ⟨G1, h1, fun j hj => (k.sub j (h2 j hj)).1, h3, fun w' d' c hd => ⟨_, _, _, k.op (c.mono h2) (h4 w' d' c hd)⟩⟩
end
theorem zero_str (W : World) : (zeroValue 9).run Tryd.prog W = .ok (.string (str [])) W := by
  have h : (Tryd.prog.info? 9).map (·.zero) = some (some (.string (str []))) := by kernel_rfl
  unfold zeroValue typeInfo
  cases hi : Tryd.prog.info? 9 with
  | none => rw [hi] at h; cases h
  | some i =>
    rw [hi] at h
    simp only [Option.map_some, Option.some.injEq] at h
    simp [hi, h]
set_option maxRecDepth 20000 in
theorem kvGet_any {w : World} {F : Nat → Prop} {s p : Nat} {g : Lg} {L : List Pr} (h : StM w F s p g L) (k : List UInt8) :
    Calls Tryd.prog 31 #[.pointer (some ⟨s, 0, none⟩), .string (str k)] w fun e w' => e = .returned (.tuple #[.string (str ((Kv.get L k).getD [])), .bool (Kv.get L k).isSome]) ∧ w = w' := by
  obtain ⟨G, q, m, h⟩ := h
  obtain ⟨c0, c1⟩ := h.cells
  have hv := h.map
  clear h
  generalize hx : (Kv.get L k).getD [] = x
  generalize hy : (Kv.get L k).isSome = y
  have hxy := Lib.hid (And.intro hx hy)
  clear hx hy
  go_enter Tryd.func31, Tryd.ntmps31
  go_wp2_with (at_lookup; refine wpList_lookupK rfl _ _ _ rfl Tryd.underlying71 Tryd.underlying9 zero_str m k rfl rfl hv ?_; rw [hxy.out.1, hxy.out.2])
  go_ret2
  exact ⟨rfl, rfl⟩
end Go.Proofs.YtkdmljijgfejpaaDoor


namespace Go.Proofs.YtkdmljijgfejpaaDoor
set_option linter.unusedVariables false
set_option linter.unusedSimpArgs false
open Go.RowKit Kv Dk Wl Fr

/-- what a Commit answers and leaves -/
def comL (cs : List Ch) (g : Lg) (L : List Pr) : Int × Lg × List Pr :=
  if encE cs = 0 ∧ cs ≠ [] then
    (if (opL (.app (encB cs)) g).1 = 5 then ((opL (.rep (snap (after L cs))) (opL (.app (encB cs)) g).2).1, (opL (.rep (snap (after L cs))) (opL (.app (encB cs)) g).2).2, if (opL (.rep (snap (after L cs))) (opL (.app (encB cs)) g).2).1 = 0 then after L cs else L)
    else ((opL (.app (encB cs)) g).1, (opL (.app (encB cs)) g).2, if (opL (.app (encB cs)) g).1 = 0 then after L cs else L))
  else (encE cs, g, L)
def SnapOk : Prop := ∀ (m : Option Nat) (L : List Pr) (W : World), MapV W m L → Oks L → L.length ≤ 40000 → Calls Tryd.prog 42 #[.map m] W (Ret fun u w' => LL w' u (snap L) ∧ Ext W w')
theorem beq_ff {x y : Int} (h : x ≠ y) : (x == y) = false := by rw [beq_eq_false_iff_ne]; exact h
theorem Chg.nextK {G H : Nat → Prop} {a b c : World} (h : Chg G a b) (k : Chg H b c) (hH : ∀ j, H j → j < a.heap.size → G j) : Chg G a c :=
  ⟨k.os.trans h.os, k.tape.trans h.tape, k.output.trans h.output, Nat.le_trans h.size k.size, fun i hi hn => (k.block i (Nat.lt_of_lt_of_le hi h.size) fun hh => hn (hH i hh hi)).trans (h.block i hi hn)⟩
/-- a map that is laid behind a store stays apart from its log -/
theorem com_fresh {w w2 : World} {G F : Nat → Prop} {s q p : Nat} {m : Option Nat} {g : Lg} {L M : List Pr} (h : StK w G F s q p m g L) (e : Ext w w2) {b : Nat} (hb : w.heap.size ≤ b) (k : KMap w2 b M) (w3 : World) (g3 : Lg) (c : Chg G w2 w3) (l : LogM w3 (grow G w2) q p g3) :
    ∃ G3, StK w3 G3 (grow F w) s q p m g3 L ∧ Chg F w w3 ∧ (grow F w b ∧ ¬ G3 b ∧ b ≠ s) ∧ KMap w3 b M := by
  have hl := h.lt
  have hkl := k.lt
  have hG : ¬ G b := fun hk => by have := h.bnd b hk; omega
  refine ⟨_, ((h.ext e).op c l).mono (grow_ext e), (Chg.of_ext e).trans (c.mono fun j hj => (h.sub j hj).1), ⟨.inr hb, fun hk => hk.1.elim hG fun h1 => by omega, by omega⟩, k.chg c hG⟩
theorem com_fresh2 {w w3 w4 : World} {G F : Nat → Prop} {s q p : Nat} {m : Option Nat} {g : Lg} {L M : List Pr} (h : StK w3 G (grow F w) s q p m g L) (d3 : Chg F w w3) (e : Ext w3 w4) {b : Nat} (hb : grow F w b ∧ ¬ G b ∧ b ≠ s) (k : KMap w3 b M) {w5 : World} {g5 : Lg} (c : Chg G w4 w5) (l : LogM w5 (grow G w4) q p g5) :
    ∃ G5, StK w5 G5 (grow F w) s q p m g5 L ∧ Chg F w w5 ∧ (grow F w b ∧ ¬ G5 b ∧ b ≠ s) ∧ KMap w5 b M := by
  have hsz := Nat.le_trans d3.size e.size
  have hkl := (k.ext e).lt
  refine ⟨_, ((h.ext e).op c l).mono fun j hj => hj.elim id fun h1 => .inr (Nat.le_trans hsz h1), (d3.ext e).nextK c fun j hj hl => (h.sub j hj).1.elim id fun h1 => by omega, ⟨hb.1, fun hk => hk.1.elim hb.2.1 fun h1 => by omega, hb.2.2⟩, (k.ext e).chg c hb.2.1⟩
theorem com_apart {w : World} {F : Nat → Prop} (hh : ¬ F 1) (hw : Halves w) : ¬ grow F w 1 := fun h => h.elim hh fun h => by
  have : 1 < w.heap.size := World.block_lt_of_cell? w _ (hw 0)
  have h2 : w.heap.size ≤ 1 := h
  omega
attribute [local irreducible] opL
set_option maxRecDepth 20000 in
set_option maxHeartbeats 4000000 in
theorem kvCommit_any {w : World} {F : Nat → Prop} {s p : Nat} {g : Lg} {L : List Pr} {v : Value} {cs : List Ch} (h : StM w F s p g L) (hs : Sane g) (hst : g.d.st.length ≤ 90000) (hw : Halves w) (hh : ¬ F 1)
    (hc : Chs w v cs) (hl : L.length + cs.length ≤ 40000) (hn : cs.length ≤ 10000) (ho : Oks L) (hS : (opL (.app (encB cs)) g).1 = 5 → SnapOk) :
    Calls Tryd.prog 18 #[.pointer (some ⟨s, 0, none⟩), v] w fun e w' => e = .returned (.int .i64 (comL cs g L).1) ∧ Chg F w w' ∧ StM w' (grow F w) s p (comL cs g L).2.1 (comL cs g L).2.2 := by
  refine gen_post ?_
  intro Q0 hQ0
  obtain ⟨G, q, m, h⟩ := h
  have hhs := Lib.hid hs
  have hhh := Lib.hid hh
  have hgl := Lib.hid (show ¬ G 1 from fun hk => hh (h.sub _ hk).1)
  have hE := kvEncode_any v cs w hc hn
  obtain ⟨ac, cc, rfl, -⟩ := id hc.shape
  have hQe := Lib.hid (fun (he : ¬ (encE cs = 0 ∧ cs ≠ [])) (w' : World) (e : Ext w w') => hQ0.out (.returned (.int .i64 (encE cs))) w' (by
    have hcm : comL cs g L = (encE cs, g, L) := by unfold comL; rw [if_neg he]
    rw [hcm]
    exact ⟨rfl, Chg.of_ext e, G, q, m, (h.ext e).mono fun k hk => .inl hk⟩))
  by_cases hE0 : encE cs = 0 ∧ cs ≠ []
  · have hfin := Lib.hid (fun (E' : Int) (g' : Lg) (L' : List Pr) (w' : World) (hcm : comL cs g L = (E', g', L')) (c : Chg F w w') (k : StM w' (grow F w) s p g' L') => hQ0.out (.returned (.int .i64 E')) w' (by rw [hcm]; exact ⟨rfl, c, k⟩))
    have hcs1 := hE0.2
    have hcm := Lib.hid (show comL cs g L = _ from by unfold comL; rw [if_pos hE0])
    have hoa := Lib.hid (after_oks cs h.map.srt ho (encE_zero.1 hE0.1).1)
    have hla := Lib.hid (Nat.le_trans (after_len cs L) hl)
    have hO : encO cs = encB cs := by unfold encO; rw [if_pos hE0.1]
    have hsp := Lib.hid (op_sane (.app (encB cs)) hs h.log.ok)
    have hlp := Lib.hid (op_len (.app (encB cs)) hs)
    have hkh := Lib.hid h
    have hch := Lib.hid hc
    have hwh := Lib.hid hw
    have hsth := Lib.hid (show g.d.st.length ≤ 100000 from by omega)
    have hst9 := Lib.hid hst
    have hA := Lib.hid (fun (W : World) (l : LogM W G q p g) (hW : Halves W) (vb : Value) (hb : Bytes W vb (encB cs)) => lappend_any l hs hsth.out hW hgl.out hb)
    obtain ⟨c0, c1⟩ := h.cells
    obtain ⟨x0, xr, rfl⟩ : ∃ x r, cs = x :: r := by
      cases cs with
      | nil => exact absurd rfl hcs1
      | cons x r => exact ⟨x, r, rfl⟩
    rw [hE0.1, hO] at hE
    clear hE0 hQe hQ0 hcs1 hO h hs hst hw hc hl hn ho hh
    obtain ⟨n, hn⟩ : ∃ n, n = (x0 :: xr).length := ⟨_, rfl⟩
    have hn0 : ((n : Int) == 0) = false := beq_ff (by rw [hn]; simp; omega)
    have hch2 := Lib.hid (show Chs w (.slice ac n cc) (x0 :: xr) from by rw [hn]; exact hch.out)
    rw [← hn] at hE ⊢
    clear hn hch
    generalize opL (.app (encB (x0 :: xr))) g = R1 at *
    obtain ⟨E1, g1⟩ := R1
    dsimp only at hsp hlp hcm hS
    by_cases h5 : E1 = 5
    · subst h5
      have hSn := Lib.hid (hS rfl)
      clear hS
      have hR := Lib.hid (fun (W : World) (G' : Nat → Prop) (l : LogM W G' q p g1) (hW : Halves W) (hg : ¬ G' 1) (vl : Value) (hv : LL W vl (snap (after L (x0 :: xr)))) => lreplace_any l hsp.out.1 (by have := hlp.out; have := hst9.out; omega) hW hg hv (by have := snap_len (after L (x0 :: xr)); have := hla.out; omega))
      generalize opL (.rep (snap (after L (x0 :: xr)))) g1 = R2 at *
      obtain ⟨E2, g2⟩ := R2
      dsimp only at hcm hR
      have hcm2 := Lib.hid (hcm.out.trans (if_pos rfl))
      clear hcm
      go_enter Tryd.func18, Tryd.ntmps18
      go_upto_region 4 with (go_at_call 9; refine hE.mono ?_; rintro e w1 ⟨r, rfl, u, rfl, oB, e1⟩)
      have hL := kvLeft_any m (.slice ac n cc) L (x0 :: xr) w1 (hkh.out.map.ext e1) (hch2.out.ext e1)
      have c1' := e1.cell c1
      go_upto_region 5 with (go_at_call 39; refine hL.mono ?_; rintro e w2 ⟨r, rfl, b, rfl, k2, hb2, e2⟩)
      have e12 := Lib.hid (e1.trans e2)
      have c0' := e12.out.cell c0
      have hb := Lib.hid (com_fresh hkh.out e12.out (Nat.le_trans e1.size hb2) k2)
      have hAp := hA.out w2 (hkh.out.log.ext e12.out) (hwh.out.ext e12.out) u (oB.bytes.ext e2)
      have k2h := Lib.hid k2
      clear hE hL hb2 oB k2 e1 e2
      go_upto_region 6 with (go_at_call 40; refine hAp.mono ?_; rintro e w3 ⟨rfl, c3, l3⟩)
      obtain ⟨G3, k3, d3, hb3, km3⟩ := hb.out w3 g1 c3 l3
      have km3' := hSn.out (some b) (after L (x0 :: xr)) w3 km3 hoa.out hla.out
      obtain ⟨c30, -⟩ := k3.cells
      have hgl3 := Lib.hid (show ¬ G3 1 from fun hk => com_apart hhh.out hwh.out (k3.sub _ hk).1)
      have k3h := Lib.hid k3
      have hw3 := Lib.hid (show Halves w3 from hwh.out.chg d3 hhh.out)
      have km3h := Lib.hid km3
      have d3h := Lib.hid d3
      have hbh := Lib.hid hb3
      have hSP := Lib.hid (fun (W : World) (e : Ext w3 W) => hSn.out (some b) (after L (x0 :: xr)) W (km3.ext e) hoa.out hla.out)
      have hRP := Lib.hid (fun (W : World) (e : Ext w3 W) (vl : Value) (hv : LL W vl (snap (after L (x0 :: xr)))) => hR.out W G3 (k3h.out.log.ext e) (hw3.out.ext e) hgl3.out vl hv)
      clear hA hAp hb c3 l3 k3 hoa hSn km3 d3 hb3 k2h c0 c0' c1 c1' hn0 hch2 km3' hR hgl3 hw3 hla e12 hst9 hsth hhs hhh hgl hsp hlp
      go_upto_region 8 with fail
      go_region_law (first
        | (go_simp; go_at_call 42; refine (hSP.out _ (by (repeat (first | exact Ext.refl _ | with_reducible assumption | refine Ext.drew ?_ | refine Ext.alloc ?_ _ | refine Ext.trans ?_ (by assumption))))).mono ?_; rintro e w4 ⟨u4, rfl, ll4, e4⟩; have c40 : w4.cell? ⟨s, 0, none⟩ = some (.pointer (some ⟨q, 0, none⟩)) := e4.cell c30; go_wp2_with fail)
        | (go_simp; go_at_call 41; refine (hRP.out _ (by (repeat (first | exact Ext.refl _ | with_reducible assumption | refine Ext.drew ?_ | refine Ext.alloc ?_ _ | refine Ext.trans ?_ (by assumption)))) _ (by first | exact ll4 | exact ll4.ext (Ext.refl _).drew)).mono ?_; rintro e w5 ⟨rfl, c5, l5⟩; go_wp2_with fail))
      all_goals
        obtain ⟨G5, k5, d5, hb5, km5⟩ := com_fresh2 k3h.out d3h.out ((Ext.refl w3).drew.trans e4) hbh.out km3h.out c5 l5
        have i50 := k5.cells.2
        have i51 := k5.frz
        have k6 := Lib.hid (k5.set km5 hb5)
        have k5h := Lib.hid k5
        by_cases h0 : E2 = 0
        · subst h0
          have hcm3 := Lib.hid (show comL (x0 :: xr) g L = (0, g2, after L (x0 :: xr)) from by rw [hcm2.out]; rfl)
          clear hcm2 c5 l5 k5
          go_wp2
          exact hfin.out _ _ _ _ hcm3.out (d5.setCell (fun _ => hkh.out.hs) _) ⟨_, _, _, k6.out⟩
        · have i0 := beq_ff h0
          have hcm3 := Lib.hid (show comL (x0 :: xr) g L = (E2, g2, L) from by rw [hcm2.out, if_neg h0])
          clear hcm2 c5 l5 k5 h0
          go_wp2
          exact hfin.out _ _ _ _ hcm3.out d5 ⟨_, _, _, k5h.out⟩
    · have hcm2 := Lib.hid (hcm.out.trans (if_neg h5))
      have i5 := beq_ff h5
      clear hS hcm hoa hsp hlp hsth hla
      by_cases h0 : E1 = 0
      · subst h0
        have hcm3 := Lib.hid (show comL (x0 :: xr) g L = (0, g1, after L (x0 :: xr)) from by rw [hcm2.out]; rfl)
        clear hcm2 i5 h5
        go_enter Tryd.func18, Tryd.ntmps18
        go_upto_region 4 with (go_at_call 9; refine hE.mono ?_; rintro e w1 ⟨r, rfl, u, rfl, oB, e1⟩)
        have hL := kvLeft_any m (.slice ac n cc) L (x0 :: xr) w1 (hkh.out.map.ext e1) (hch2.out.ext e1)
        have c1' := e1.cell c1
        go_upto_region 5 with (go_at_call 39; refine hL.mono ?_; rintro e w2 ⟨r, rfl, b, rfl, k2, hb2, e2⟩)
        have e12 := Lib.hid (e1.trans e2)
        have c0' := e12.out.cell c0
        have hb := Lib.hid (com_fresh hkh.out e12.out (Nat.le_trans e1.size hb2) k2)
        have hAp := hA.out w2 (hkh.out.log.ext e12.out) (hwh.out.ext e12.out) u (oB.bytes.ext e2)
        have k2h := Lib.hid k2
        clear hE hL hb2 oB k2 e1 e2
        go_upto_region 6 with (go_at_call 40; refine hAp.mono ?_; rintro e w3 ⟨rfl, c3, l3⟩)
        obtain ⟨G3, k3, d3, hb3, km3⟩ := hb.out w3 g1 c3 l3
        obtain ⟨c30, c31⟩ := k3.cells
        have c32 := k3.frz
        have k4 := Lib.hid (k3.set km3 hb3)
        clear hAp c3 l3
        go_wp2
        exact hfin.out _ _ _ _ hcm3.out (d3.setCell (fun _ => hkh.out.hs) _) ⟨_, _, _, k4.out⟩
      · have i0 := beq_ff h0
        have hcm3 := Lib.hid (show comL (x0 :: xr) g L = (E1, g1, L) from by rw [hcm2.out, if_neg h0])
        clear hcm2 h5 h0
        go_enter Tryd.func18, Tryd.ntmps18
        go_upto_region 4 with (go_at_call 9; refine hE.mono ?_; rintro e w1 ⟨r, rfl, u, rfl, oB, e1⟩)
        have hL := kvLeft_any m (.slice ac n cc) L (x0 :: xr) w1 (hkh.out.map.ext e1) (hch2.out.ext e1)
        have c1' := e1.cell c1
        go_upto_region 5 with (go_at_call 39; refine hL.mono ?_; rintro e w2 ⟨r, rfl, b, rfl, k2, hb2, e2⟩)
        have e12 := Lib.hid (e1.trans e2)
        have c0' := e12.out.cell c0
        have hb := Lib.hid (com_fresh hkh.out e12.out (Nat.le_trans e1.size hb2) k2)
        have hAp := hA.out w2 (hkh.out.log.ext e12.out) (hwh.out.ext e12.out) u (oB.bytes.ext e2)
        have k2h := Lib.hid k2
        clear hE hL hb2 oB k2 e1 e2
        go_upto_region 6 with (go_at_call 40; refine hAp.mono ?_; rintro e w3 ⟨rfl, c3, l3⟩)
        obtain ⟨G3, k3, d3, hb3, km3⟩ := hb.out w3 g1 c3 l3
        have k3h := Lib.hid k3
        clear hAp c3 l3 k3
        go_wp2
        exact hfin.out _ _ _ _ hcm3.out d3 ⟨_, _, _, k3h.out⟩
  · have hQ1 := Lib.hid (hQe.out hE0)
    by_cases h0 : encE cs = 0
    · obtain rfl : cs = [] := by
        by_cases hcn : cs = []
        · exact hcn
        · exact absurd ⟨h0, hcn⟩ hE0
      rw [h0] at hE hQ1
      clear hQe hE0 h hs hst hw hh hc hQ0 hS
      simp only [List.length_nil]
      go_enter Tryd.func18, Tryd.ntmps18
      go_wp2_with (go_at_call 9; refine hE.mono ?_; rintro e w1 ⟨r, rfl, u, rfl, oB, e1⟩)
      exact hQ1.out _ e1
    · have hq := Lib.hid h0
      have hq2 := beq_ff h0
      generalize encE cs = E at *
      clear hQe hE0 h hs hst hw hh hc hQ0 hS h0
      go_enter Tryd.func18, Tryd.ntmps18
      go_wp2_with (go_at_call 9; refine hE.mono ?_; rintro e w1 ⟨r, rfl, u, rfl, oB, e1⟩)
      exact hQ1.out _ e1
end Go.Proofs.YtkdmljijgfejpaaDoor


namespace Go.Proofs.YtkdmljijgfejpaaDoor
set_option linter.unusedVariables false
set_option linter.unusedSimpArgs false
open Go.RowKit Kv Dk Wl Fr

namespace Kv
theorem play_none : ∀ (ss : List (List UInt8)), ss.foldl (fun acc r => acc.bind fun l => (decL r).map (after l)) (none : Option (List Pr)) = none
  | [] => rfl
  | _ :: ss => play_none ss
theorem play_at {rs : List (List UInt8)} {L : List Pr} (h : play rs = some L) {k : Nat} (hk : k < rs.length) : ∃ l cs, play (rs.take k) = some l ∧ decL rs[k] = some cs ∧ play (rs.take (k + 1)) = some (after l cs) := by
  have e : rs = rs.take k ++ rs[k] :: rs.drop (k + 1) := by rw [List.getElem_cons_drop, List.take_append_drop]
  have e2 : rs.take (k + 1) = rs.take k ++ [rs[k]] := by rw [List.take_add_one, List.getElem?_eq_getElem hk]; rfl
  have h1 : play rs = (rs[k] :: rs.drop (k + 1)).foldl (fun acc r => acc.bind fun l => (decL r).map (after l)) (play (rs.take k)) := by
    conv => lhs; rw [e]
    rw [play_append]
  have h3 : play (rs.take (k + 1)) = (play (rs.take k)).bind fun l => (decL rs[k]).map (after l) := by rw [e2, play_append]; rfl
  cases hp : play (rs.take k) with
  | none => rw [hp, play_none] at h1; rw [h1] at h; cases h
  | some l =>
    rw [hp] at h1 h3
    rw [List.foldl_cons, Option.bind_some] at h1
    rw [Option.bind_some] at h3
    cases hd : decL rs[k] with
    | none => rw [hd, Option.map_none, play_none] at h1; rw [h1] at h; cases h
    | some cs => rw [hd, Option.map_some] at h3; exact ⟨l, cs, rfl, rfl, h3⟩
end Kv
theorem dec_yes {b : List UInt8} {cs : List Ch} (h : decL b = some cs) : decE b = 0 ∧ decO b = cs := by unfold decE decO; rw [h]; exact ⟨rfl, rfl⟩
set_option maxRecDepth 20000 in
set_option maxHeartbeats 4000000 in
theorem kvOpen_any {w : World} {F G : Nat → Prop} {p : Nat} {d : D} (hD : Disk w G p d) (hGF : ∀ k, G k → F k) (hw : Halves w) {L : List Pr} (hp : play (scan (openU d)) = some L) :
    Calls Tryd.prog 16 #[.pointer (some ⟨p, 0, none⟩)] w (Ret fun r w' => Ext w w' ∧ ((openE d ≠ 0 ∧ r = .tuple #[.pointer none, .int .i64 (openE d)]) ∨
      (openE d = 0 ∧ ∃ s, r = .tuple #[.pointer (some ⟨s, 0, none⟩), .int .i64 0] ∧ w.heap.size ≤ s ∧ StM w' (grow F w) s p ⟨d, openH d, openU d⟩ L))) := by
  have hop := lopen_m hD hGF hw
  have hok : d.Ok := by
    obtain ⟨gk, s, v, z, _, _, _, _, _, _, ok⟩ := hD
    exact ok
  by_cases hE : openE d = 0
  · have hS := Lib.hid (open_sane hok hE)
    have hwh := Lib.hid hw
    have hph := Lib.hid hp
    refine gen_post ?_
    intro Q0 hQ0
    have hQ := Lib.hid (fun (s : Nat) (w' : World) (e : Ext w w') (hs : w.heap.size ≤ s) (k : StM w' (grow F w) s p ⟨d, openH d, openU d⟩ L) => hQ0.out (.returned (.tuple #[.pointer (some ⟨s, 0, none⟩), .int .i64 0])) w' (Ret.mk ⟨e, .inr ⟨hE, s, rfl, hs, k⟩⟩))
    rw [hE] at hop
    clear hQ0 hD hGF hw hp hok hE
    go_enter Tryd.func16, Tryd.ntmps16
    go_upto_region 4 with (go_at_call 37; refine hop.mono ?_; rintro e w2 ⟨r, rfl, e2, ⟨h0, -⟩ | ⟨-, q, rfl, hq, l2⟩⟩; exact absurd rfl h0)
    have l2b := Lib.hid l2.bound
    have hqh := Lib.hid hq
    have e2h := Lib.hid e2
    clear hop l2 hq
    obtain ⟨W3, hW3⟩ : ∃ W, W = w2.alloc (.cells #[.pointer (some ⟨q, 0, none⟩), .map none] 73) := ⟨_, rfl⟩
    obtain ⟨S, hS3⟩ : ∃ S, S = w2.heap.size := ⟨_, rfl⟩
    have e3 := Lib.hid (show Ext w2 W3 from by rw [hW3]; exact (Ext.refl w2).alloc _)
    have k3 := Lib.hid (show StK W3 (fun k => grow F w k ∧ k < w2.heap.size) (grow F w) S q p none ⟨d, openH d, openU d⟩ [] from ⟨l2b.out.ext e3.out, fun k hk => ⟨hk.1, by rw [hS3]; have := hk.2; omega⟩, fun k hk => Nat.lt_of_lt_of_le hk.2 e3.out.size, .inr (by rw [hS3]; exact e2h.out.size), by rw [hW3, hS3]; exact heap_alloc_new w2 _, rfl, fun b hb => by cases hb⟩)
    have hSw := Lib.hid (show w.heap.size ≤ S from by rw [hS3]; exact e2h.out.size)
    have hS2 := Lib.hid hS3
    go_upto_region 5 with fail
    rw [← hW3, ← hS3]
    have e3w := Lib.hid (e2h.out.trans e3.out)
    have hRc := lrecords_m k3.out.log hS.out (hwh.out.ext e3w.out)
    clear hW3 hS3 e2 e3 e2h
    generalize (fun k => grow F w k ∧ k < w2.heap.size : Nat → Prop) = G0 at *
    have hrs : scan (⟨d, openH d, openU d⟩ : Lg).u = scan (openU d) := rfl
    rw [hrs] at hRc
    clear hrs
    generalize scan (openU d) = rs at *
    generalize (⟨d, openH d, openU d⟩ : Lg) = gg at *
    go_wp2_with (go_at_call 38; refine hRc.mono ?_; rintro e w4 ⟨u4, rfl, o4, e4⟩; obtain ⟨a4, c4, rfl, l41, l42, -, hg4⟩ := o4.ll)
    have hgh := Lib.hid (fun (W : World) (c : Chg (fun j => j = S) w4 W) => show LL W (.slice a4 rs.length c4) rs from (o4.chg c (fun k h1 _ h2 => by have := k3.out.lt; omega) (fun k h1 _ h2 => by have := k3.out.lt; omega)).ll)
    have hrl := Lib.hid (show (rs.length : Int) ≤ 9223372036854775807 from by unfold maxLen at l42; omega)
    have k4 := Lib.hid (k3.out.ext e4)
    have e4w := Lib.hid (e3w.out.trans e4)
    have hSl := Lib.hid (show S < w4.heap.size from k4.out.lt)
    clear hRc hg4 o4 l41 l42 l2b hqh
    go_loopw [25] (fun i wr => ∃ k : Nat, k ≤ rs.length ∧ i = .int .i64 (k : Int) ∧ ∃ m l, RowKit.Hid (StK wr G0 (grow F w) S q p m gg l) ∧ RowKit.Hid (play (rs.take k) = some l) ∧ RowKit.Hid (Chg (fun j => j = S) w4 wr)) (fun i _ => rs.length - (intOf i).toNat)
    case atStart => exact ⟨0, Nat.zero_le _, rfl, none, [], k4, Lib.hid (by rw [List.take_zero]; rfl), Lib.hid (Chg.refl _ _)⟩
    case round =>
      obtain ⟨k, hk, rfl, m, l, hK, hP, ek⟩ := hrel
      have ew := Lib.hid (show Ext w wr from e4w.out.chg ek.out fun i hi => by have := hSw.out; omega)
      by_cases hlt : k < rs.length
      · have hki : (k : Int) < (rs.length : Int) := by omega
        have hw1 : IntKind.i64.wrap ((k : Int) + 1) = (k : Int) + 1 := by rw [IntKind.wrap_i64]; have := hrl.out; omega
        obtain ⟨a5, c5, hv5, -, -, -, hg5⟩ := hgh.out wr ek.out
        cases hv5
        obtain ⟨g, o, x, rfl, hx, hb⟩ := hg5 k rs[k] (List.getElem?_eq_getElem hlt)
        clear hg5
        obtain ⟨l', cs, hp1, hp2, hp3⟩ := play_at hph.out hlt
        have hl : l' = l := Option.some.inj (hp1.symm.trans hP.out)
        subst hl
        obtain ⟨d1, d2⟩ := dec_yes hp2
        have hDc := kvDecode_any x rs[k] wr hb
        rw [d1, d2] at hDc
        have hp3h := Lib.hid hp3
        obtain ⟨ax, cx, rfl, -⟩ := id hb
        generalize rs[k] = b at *
        have c51 := hK.out.cells.2
        have f51 := hK.out.frz
        have hKm := Lib.hid (fun (W : World) (e : Ext wr W) => hK.out.ext e)
        clear hP hp1 hp2 hp3 d1 d2 hb
        go_upto_region 11 with (go_at_call 11; refine hDc.mono ?_; rintro e w5 ⟨r, rfl, u5, rfl, oC, e5⟩)
        have c52 := e5.cell c51
        have hLf := kvLeft_any m u5 l' cs w5 ((hKm.out _ e5).map) (oC.rs (by decide) chc_len)
        obtain ⟨au, cu, rfl, -⟩ := oC.shape
        clear hDc oC
        go_upto_region 12 with (go_at_call 39; refine hLf.mono ?_; rintro e w6 ⟨r, rfl, B6, rfl, m6, hB6, e6⟩; have e56 : Ext wr w6 := e5.trans e6; have c61 := e56.cell c51; have f61 := (hKm.out _ e56).frz)
        have hs5 := e5.size
        have hsw := ew.out.size
        have hB := hKm.out _ (Ext.refl wr)
        have k7 := Lib.hid ((hKm.out _ e56).set m6 ⟨.inr (by omega), fun hk => by have := hB.bnd _ hk; omega, by have := hB.lt; omega⟩)
        have c7 := Lib.hid (show Chg (fun j => j = S) w4 (w6.setCell ⟨S, 1, none⟩ (.map (some B6))) from (ek.out.ext e56).setCell (fun _ => rfl) _)
        clear hLf m6 hB hs5 hsw hB6
        go_wp2
        go_roundw
        case rel => exact ⟨k + 1, by omega, by go_num, _, _, k7, hp3h, c7⟩
        case measure => simp [intOf]; omega
      · obtain rfl : k = rs.length := by omega
        rw [List.take_length] at hP
        have hl : l = L := Option.some.inj (hP.out.symm.trans hph.out)
        subst hl
        go_wp2
        exact hQ.out _ _ ew.out hSw.out ⟨_, _, _, hK.out⟩
  · refine gen_post ?_
    intro Q0 hQ0
    have hQ := Lib.hid (fun (w' : World) (e : Ext w w') => hQ0.out (.returned (.tuple #[.pointer none, .int .i64 (openE d)])) w' (Ret.mk ⟨e, .inl ⟨hE, rfl⟩⟩))
    have hE2 := beq_ff hE
    have hEh := Lib.hid hE
    clear hQ0 hD hGF hw hp hok
    generalize openE d = E at *
    clear hE
    go_enter Tryd.func16, Tryd.ntmps16
    go_wp2_with (go_at_call 37; refine hop.mono ?_; rintro e w2 ⟨r, rfl, e2, ⟨-, rfl⟩ | ⟨h0, -⟩⟩; rotate_left; exact absurd h0 hEh.out)
    exact hQ.out _ e2
end Go.Proofs.YtkdmljijgfejpaaDoor


