/- The document's disk in memory. -/
import Derived.Test.YtmpjcnopakfdmaaDoorGDo
import Derived.Test.YtmpjcnopakfdmaaDoorLL
import Derived.BigRegion
import Derived.StillTailTactics
namespace Go.Proofs.YtmpjcnopakfdmaaDoor
set_option linter.unusedVariables false
set_option linter.unusedSimpArgs false
open Go.RowKit Dk

def rhd (n gk : Nat) (vs vp : Value) (off : Bool) (z : Nat) : Array Value := #[.slice (some ⟨gk, 0, none⟩) n n, vs, vp, .bool off, .int .i64 (z : Int)]
/-- staged blocks, all within G -/
def RSt (w : World) (G : Nat → Prop) (v : Value) (st : List (Nat × List UInt8)) : Prop :=
  ∃ a cap, v = .slice a st.length cap ∧ st.length ≤ cap ∧ cap ≤ maxLen ∧ (a = none → cap = 0) ∧
    ∀ (j : Nat) (x : Nat × List UInt8), st[j]? = some x → ∃ g u, a = some ⟨g, 0, none⟩ ∧ G g ∧ w.cell? ⟨g, j * 2, none⟩ = some (.int .i64 (x.1 : Int)) ∧ w.cell? ⟨g, j * 2 + 1, none⟩ = some u ∧ Bytes w u x.2 ∧ ∀ k, vblk u = some k → x.2 ≠ [] → G k
theorem RSt.nil (w : World) (G : Nat → Prop) : RSt w G (.slice none 0 0) [] := ⟨none, 0, rfl, Nat.le_refl _, by simp [maxLen], fun _ => rfl, fun j x h => by simp at h⟩
theorem RSt.mono {w : World} {G H : Nat → Prop} {v : Value} {st : List (Nat × List UInt8)} (h : RSt w G v st) (hG : ∀ k, G k → H k) : RSt w H v st := by
  obtain ⟨a, cap, h1, h2, h3, h4, h5⟩ := h
  refine ⟨a, cap, h1, h2, h3, h4, fun j x hj => ?_⟩
  obtain ⟨g, u, k1, k2, k3, k4, k5, k6⟩ := h5 j x hj
  exact ⟨g, u, k1, hG _ k2, k3, k4, k5, fun k h1 h2 => hG _ (k6 k h1 h2)⟩
theorem cell_chg {P : Nat → Prop} {w w' : World} (c : Chg P w w') {a : Addr} {v : Value} (h : w.cell? a = some v) (hn : ¬ P a.block) : w'.cell? a = some v := c.cell h hn
theorem RSt.chg {w w' : World} {G H : Nat → Prop} {v : Value} {st : List (Nat × List UInt8)} (h : RSt w G v st) (c : Chg H w w') (hG : ∀ k, k < w.heap.size → G k → ¬ H k) : RSt w' G v st := by
  obtain ⟨a, cap, h1, h2, h3, h4, h5⟩ := h
  refine ⟨a, cap, h1, h2, h3, h4, fun j x hj => ?_⟩
  obtain ⟨g, u, k1, k2, k3, k4, k5, k6⟩ := h5 j x hj
  have hl := World.block_lt_of_cell? w _ k3
  exact ⟨g, u, k1, k2, c.cell k3 (hG g hl k2), c.cell k4 (hG g hl k2), k5.chgV c fun k h1 h2 => hG k (k5.blk_lt h2 k h1) (k6 k h1 h2), k6⟩
theorem RSt.lt {w : World} {G : Nat → Prop} {v : Value} {st : List (Nat × List UInt8)} (h : RSt w G v st) : RSt w (fun k => G k ∧ k < w.heap.size) v st := by
  obtain ⟨a, cap, h1, h2, h3, h4, h5⟩ := h
  refine ⟨a, cap, h1, h2, h3, h4, fun j x hj => ?_⟩
  obtain ⟨g, u, k1, k2, k3, k4, k5, k6⟩ := h5 j x hj
  exact ⟨g, u, k1, ⟨k2, World.block_lt_of_cell? w _ k3⟩, k3, k4, k5, fun k h1 h2 => ⟨k6 k h1 h2, k5.blk_lt h2 k h1⟩⟩
/-- what the disk has beside its own block and its bytes' -/
def oth (F : Nat → Prop) (q gk : Nat) : Nat → Prop := fun k => F k ∧ k ≠ q ∧ k ≠ gk
structure RD (w : World) (F : Nat → Prop) (q gk : Nat) (vs vp : Value) (d : D) : Prop where
  hd : w.heap[q]? = some (.cells (rhd d.kept.length gk vs vp d.off d.left) 57 (0, 0))
  fq : F q
  kept : ∃ cur : Array Value, w.heap[gk]? = some (.cells cur 5 (0, 0)) ∧ cur.toList = d.kept.map u8v
  fk : F gk
  st : RSt w (oth F q gk) vs d.st
  plan : OwnO bv 4 w (oth F q gk) vp d.plan
  lf : d.left ≤ 9223372036854775807
theorem RD.ne {w : World} {F : Nat → Prop} {q gk : Nat} {vs vp : Value} {d : D} (h : RD w F q gk vs vp d) : q ≠ gk := by
  obtain ⟨cur, h1, _⟩ := h.kept
  exact apart h.hd h1 (by decide)
/-- the document's disk, at block q, with all it has within F -/
def RDisk (w : World) (F : Nat → Prop) (q : Nat) (d : D) : Prop := ∃ gk vs vp, RD w F q gk vs vp d ∧ d.Ok
theorem oth_mono {F G : Nat → Prop} {q gk : Nat} (h : ∀ k, F k → G k) : ∀ k, oth F q gk k → oth G q gk k := fun k hk => ⟨h k hk.1, hk.2⟩
theorem RD.mono {w : World} {F G : Nat → Prop} {q gk : Nat} {vs vp : Value} {d : D} (h : RD w F q gk vs vp d) (hF : ∀ k, F k → G k) : RD w G q gk vs vp d :=
  ⟨h.hd, hF _ h.fq, h.kept, hF _ h.fk, h.st.mono (oth_mono hF), h.plan.mono (oth_mono hF), h.lf⟩
theorem RDisk.mono {w : World} {F G : Nat → Prop} {q : Nat} {d : D} (h : RDisk w F q d) (hF : ∀ k, F k → G k) : RDisk w G q d := by
  obtain ⟨gk, vs, vp, h, ok⟩ := h
  exact ⟨gk, vs, vp, h.mono hF, ok⟩
theorem RD.chg {w w' : World} {F G : Nat → Prop} {q gk : Nat} {vs vp : Value} {d : D} (h : RD w F q gk vs vp d) (c : Chg G w w') (hG : ∀ k, F k → ¬ G k) : RD w' F q gk vs vp d := by
  obtain ⟨cur, h1, h2⟩ := h.kept
  exact ⟨by rw [c.block q (Array.getElem?_eq_some_iff.1 h.hd).1 (hG _ h.fq)]; exact h.hd, h.fq, ⟨cur, by rw [c.block gk (Array.getElem?_eq_some_iff.1 h1).1 (hG _ h.fk)]; exact h1, h2⟩, h.fk, h.st.chg c fun k _ hk => hG k hk.1, h.plan.chg c fun k hk => hG k hk.1, h.lf⟩
theorem RDisk.chg {w w' : World} {F G : Nat → Prop} {q : Nat} {d : D} (h : RDisk w F q d) (c : Chg G w w') (hG : ∀ k, F k → ¬ G k) : RDisk w' F q d := by
  obtain ⟨gk, vs, vp, h, ok⟩ := h
  exact ⟨gk, vs, vp, h.chg c hG, ok⟩
theorem RDisk.ext {w w' : World} {F : Nat → Prop} {q : Nat} {d : D} (h : RDisk w F q d) (e : Ext w w') : RDisk w' F q d := h.chg (G := fun _ => False) (Chg.of_ext e) fun _ _ => id
theorem RD.ext {w w' : World} {F : Nat → Prop} {q gk : Nat} {vs vp : Value} {d : D} (h : RD w F q gk vs vp d) (e : Ext w w') : RD w' F q gk vs vp d := h.chg (G := fun _ => False) (Chg.of_ext e) fun _ _ => id
theorem RDisk.bound {w : World} {F : Nat → Prop} {q : Nat} {d : D} (h : RDisk w F q d) : RDisk w (fun k => F k ∧ k < w.heap.size) q d := by
  obtain ⟨gk, vs, vp, h, ok⟩ := h
  obtain ⟨cur, k1, k2⟩ := h.kept
  exact ⟨gk, vs, vp, ⟨h.hd, ⟨h.fq, (Array.getElem?_eq_some_iff.1 h.hd).1⟩, ⟨cur, k1, k2⟩, ⟨h.fk, (Array.getElem?_eq_some_iff.1 k1).1⟩, h.st.lt.mono fun k hk => ⟨⟨hk.1.1, hk.2⟩, hk.1.2⟩, h.plan.lt.mono fun k hk => ⟨⟨hk.1.1, hk.2⟩, hk.1.2⟩, h.lf⟩, ok⟩
theorem rhd_cells {w : World} {q n gk : Nat} {vs vp : Value} {off : Bool} {z : Nat} (h : w.heap[q]? = some (.cells (rhd n gk vs vp off z) 57 (0, 0))) :
    w.cell? ⟨q, 0, none⟩ = some (.slice (some ⟨gk, 0, none⟩) n n) ∧ w.cell? ⟨q, 1, none⟩ = some vs ∧ w.cell? ⟨q, 2, none⟩ = some vp ∧ w.cell? ⟨q, 3, none⟩ = some (.bool off) ∧ w.cell? ⟨q, 4, none⟩ = some (.int .i64 (z : Int)) ∧ ∀ j, w.frozen? ⟨q, j, none⟩ = false :=
  ⟨by rw [cell_of_row _ _ _ _ _ _ h]; rfl, by rw [cell_of_row _ _ _ _ _ _ h]; rfl, by rw [cell_of_row _ _ _ _ _ _ h]; rfl, by rw [cell_of_row _ _ _ _ _ _ h]; rfl, by rw [cell_of_row _ _ _ _ _ _ h]; rfl, fun j => by simp [World.frozen?, h]⟩
section
variable {w : World} {q n gk : Nat} {vs vp : Value} {off : Bool} {z : Nat}
theorem rhd_set1 (u : Value) (h : w.heap[q]? = some (.cells (rhd n gk vs vp off z) 57 (0, 0))) : (w.setCell ⟨q, 1, none⟩ u).heap[q]? = some (.cells (rhd n gk u vp off z) 57 (0, 0)) := setCell_row w q 1 _ _ _ _ h
theorem rhd_set2 (u : Value) (h : w.heap[q]? = some (.cells (rhd n gk vs vp off z) 57 (0, 0))) : (w.setCell ⟨q, 2, none⟩ u).heap[q]? = some (.cells (rhd n gk vs u off z) 57 (0, 0)) := setCell_row w q 2 _ _ _ _ h
theorem rhd_set3 (b : Bool) (h : w.heap[q]? = some (.cells (rhd n gk vs vp off z) 57 (0, 0))) : (w.setCell ⟨q, 3, none⟩ (.bool b)).heap[q]? = some (.cells (rhd n gk vs vp b z) 57 (0, 0)) := setCell_row w q 3 _ _ _ _ h
theorem rhd_set4 (y : Nat) (x : Int) (hx : x = (y : Int)) (h : w.heap[q]? = some (.cells (rhd n gk vs vp off z) 57 (0, 0))) : (w.setCell ⟨q, 4, none⟩ (.int .i64 x)).heap[q]? = some (.cells (rhd n gk vs vp off y) 57 (0, 0)) := by subst hx; exact setCell_row w q 4 _ _ _ _ h
end
/-- only the disk's own block has turned -/
theorem RD.own {w w' : World} {F : Nat → Prop} {q gk : Nat} {vs vp vs' vp' : Value} {d d' : D} (h : RD w F q gk vs vp d) (c : Chg (fun k => k = q) w w') (hk : d'.kept = d.kept) (hd : w'.heap[q]? = some (.cells (rhd d.kept.length gk vs' vp' d'.off d'.left) 57 (0, 0)))
    (hs : vs' = vs ∧ d'.st = d.st ∨ vs' = .slice none 0 0 ∧ d'.st = []) (hp : vp' = vp ∧ d'.plan = d.plan ∨ OwnO bv 4 w (oth F q gk) vp' d'.plan) (hl : d'.left ≤ 9223372036854775807) : RD w' F q gk vs' vp' d' := by
  obtain ⟨cur, h1, h2⟩ := h.kept
  have hne := h.ne
  refine ⟨by rw [hk]; exact hd, h.fq, ⟨cur, by rw [c.block gk (Array.getElem?_eq_some_iff.1 h1).1 (fun e => hne e.symm)]; exact h1, by rw [hk]; exact h2⟩, h.fk, ?_, ?_, hl⟩
  · rcases hs with ⟨rfl, e⟩ | ⟨rfl, e⟩
    · rw [e]; exact h.st.chg c fun k _ hk e => hk.2.1 e
    · rw [e]; exact RSt.nil _ _
  · rcases hp with ⟨rfl, e⟩ | hp
    · rw [e]; exact h.plan.chg c fun k hk e => hk.2.1 e
    · exact hp.chg c fun k hk e => hk.2.1 e
theorem Chg.setq {q : Nat} {w w' : World} (h : Chg (fun k => k = q) w w') (j : Nat) (u : Value) : Chg (fun k => k = q) w (w'.setCell ⟨q, j, none⟩ u) := h.setCell (fun _ => rfl) u

theorem rLen_any {w : World} {F : Nat → Prop} {q : Nat} {d : D} (h : RDisk w F q d) :
    Calls Tryd.prog 58 #[.pointer (some ⟨q, 0, none⟩)] w fun e w' => e = .returned (.int .i64 (d.n : Int)) ∧ w = w' := by
  obtain ⟨gk, vs, vp, h, ok⟩ := h
  obtain ⟨c0, -⟩ := rhd_cells h.hd
  have h1 := ok.len
  have h2 := ok.most
  have hw : IntKind.i64.wrap ((d.kept.length : Int) / 32) = (d.n : Int) := by rw [IntKind.wrap_i64]; omega
  have hw2 : RowKit.Hid ((d.kept.length : Int) / 32 = (d.n : Int)) := Lib.hid (by omega)
  have hl : (d.kept.length : Int) ≤ 16384 := by omega
  clear h ok h1 hw
  go_enter Tryd.func58, Tryd.ntmps58
  go_wp2
  go_ret
  exact ⟨rfl, rfl⟩
set_option maxHeartbeats 800000 in
theorem rfails_any {w : World} {F : Nat → Prop} {q gk : Nat} {vs vp : Value} {d : D} (h : RD w F q gk vs vp d) :
    Calls Tryd.prog 89 #[.pointer (some ⟨q, 0, none⟩)] w fun e w' => e = .returned (.bool (fl d)) ∧ Chg (fun k => k = q) w w' ∧ ∃ vp', RD w' F q gk vs vp' (after d) := by
  have hD := h
  have h1 := h.hd
  have hpl0 := h.plan
  have hlf := h.lf
  obtain ⟨K, st, plan, off, left⟩ := d
  simp only at h1 hpl0 hlf
  obtain ⟨c0, c1, c2, c3, c4, ff⟩ := rhd_cells h1
  have hDh := Lib.hid hD
  have h1h := Lib.hid h1
  clear h hD h1
  cases off
  · have hg2 : left = 0 ∨ left = 1 ∨ 1 < left := by omega
    cases plan with
    | nil =>
      obtain ⟨a, cap, rfl⟩ := hpl0.shape
      simp only [List.length_nil] at c2
      clear hpl0
      rcases hg2 with rfl | rfl | hl
      · have hf : RowKit.Hid (fl ⟨K, st, [], false, 0⟩ = false ∧ after ⟨K, st, [], false, 0⟩ = ⟨K, st, [], false, 0⟩) := Lib.hid ⟨rfl, rfl⟩
        go_enter Tryd.func89, Tryd.ntmps89
        go_wp2
        go_ret
        exact ⟨by rw [hf.out.1]; rfl, Chg.refl _ _, by rw [hf.out.2]; exact ⟨_, hDh.out⟩⟩
      · have hf : RowKit.Hid (fl ⟨K, st, [], false, 1⟩ = false ∧ after ⟨K, st, [], false, 1⟩ = ⟨K, st, [], true, 0⟩) := Lib.hid ⟨rfl, rfl⟩
        go_enter Tryd.func89, Tryd.ntmps89
        go_wp2
        go_ret
        have c := ((Chg.refl (fun k => k = q) w).setq 4 (.int .i64 0)).setq 3 (.bool true)
        exact ⟨by rw [hf.out.1]; rfl, c, by rw [hf.out.2]; exact ⟨_, hDh.out.own c rfl (rhd_set3 true (rhd_set4 0 0 rfl h1h.out)) (.inl ⟨rfl, rfl⟩) (.inl ⟨rfl, rfl⟩) (by simp)⟩⟩
      · have hf : RowKit.Hid (fl ⟨K, st, [], false, left⟩ = false ∧ after ⟨K, st, [], false, left⟩ = ⟨K, st, [], false, left - 1⟩) := Lib.hid ⟨rfl, by unfold after; simp; omega⟩
        have hzb : (((left : Int) - 1) == 0) = false := by rw [beq_eq_false_iff_ne]; omega
        have hli : (0 : Int) < (left : Int) := by omega
        go_enter Tryd.func89, Tryd.ntmps89
        go_wp2
        go_ret
        have c := ((Chg.refl (fun k => k = q) w).setq 4 (.int .i64 ((left : Int) - 1))).setq 3 (.bool false)
        exact ⟨by rw [hf.out.1]; rfl, c, by rw [hf.out.2]; exact ⟨_, hDh.out.own c rfl (rhd_set3 false (rhd_set4 (left - 1) _ (by omega) h1h.out)) (.inl ⟨rfl, rfl⟩) (.inl ⟨rfl, rfl⟩) (by simp; omega)⟩⟩
    | cons x plan =>
      have hsl := hpl0.sl
      have hpl := Lib.hid hpl0
      obtain ⟨a, cap, rfl⟩ := hpl0.shape
      obtain ⟨a', cap', e, hsl⟩ := hsl
      cases e
      obtain ⟨gd, od, rfl, cd⟩ := hsl.cells 0 x rfl
      have hcl := hsl.le
      have hcm := hsl.capm
      unfold maxLen at hcm
      have hgp : gd ≠ q := by
        rcases hpl0 with ⟨h, _⟩ | ⟨g, o, cap2, cur, e, hG, hh, _⟩
        · cases h
        · cases e
          exact hG.2.1
      unfold bv at cd
      simp only [Nat.add_zero] at cd
      simp only [List.length_cons] at c2 hcl
      have hgp1 : ¬ gd = q := hgp
      have hgp2 : ¬ q = gd := fun h => hgp h.symm
      clear hsl hgp hpl0
      have hq1 : (((plan.length + 1 : Nat) : Int) == 0) = false := by rw [beq_eq_false_iff_ne]; omega
      have hq2 : ((plan.length : Int) + 1 == 0) = false := by rw [beq_eq_false_iff_ne]; omega
      rcases hg2 with rfl | rfl | hl
      · have hf : RowKit.Hid (fl ⟨K, st, x :: plan, false, 0⟩ = x ∧ after ⟨K, st, x :: plan, false, 0⟩ = ⟨K, st, plan, false, 0⟩) := Lib.hid ⟨rfl, rfl⟩
        go_enter Tryd.func89, Tryd.ntmps89
        go_wp2
        all_goals
          go_ret
          have ht := hpl.out.tail
          first | simp [sliced, ‹cap = 1›] at ht | simp [sliced, ‹¬cap = 1›, Addr.add_lit] at ht
          have c := (Chg.refl (fun k => k = q) w).setq 2
          refine ⟨by rw [hf.out.1]; rfl, c _, ?_⟩
          rw [hf.out.2]
          exact ⟨_, hDh.out.own (c _) rfl (rhd_set2 _ h1h.out) (.inl ⟨rfl, rfl⟩) (.inr ht) (by simp)⟩
      · have hf : RowKit.Hid (fl ⟨K, st, x :: plan, false, 1⟩ = x ∧ after ⟨K, st, x :: plan, false, 1⟩ = ⟨K, st, plan, true, 0⟩) := Lib.hid ⟨rfl, rfl⟩
        go_enter Tryd.func89, Tryd.ntmps89
        go_wp2
        all_goals
          go_ret
          have ht := hpl.out.tail
          first | simp [sliced, ‹cap = 1›] at ht | simp [sliced, ‹¬cap = 1›, Addr.add_lit] at ht
          have c := (((Chg.refl (fun k => k = q) w).setq 4 (.int .i64 0)).setq 3 (.bool true)).setq 2
          refine ⟨by rw [hf.out.1]; rfl, c _, ?_⟩
          rw [hf.out.2]
          exact ⟨_, hDh.out.own (c _) rfl (rhd_set2 _ (rhd_set3 true (rhd_set4 0 0 rfl h1h.out))) (.inl ⟨rfl, rfl⟩) (.inr ht) (by simp)⟩
      · have hf : RowKit.Hid (fl ⟨K, st, x :: plan, false, left⟩ = x ∧ after ⟨K, st, x :: plan, false, left⟩ = ⟨K, st, plan, false, left - 1⟩) := Lib.hid ⟨rfl, by unfold after; simp; omega⟩
        have hzb : (((left : Int) - 1) == 0) = false := by rw [beq_eq_false_iff_ne]; omega
        have hli : (0 : Int) < (left : Int) := by omega
        go_enter Tryd.func89, Tryd.ntmps89
        go_wp2
        all_goals
          go_ret
          have ht := hpl.out.tail
          first | simp [sliced, ‹cap = 1›] at ht | simp [sliced, ‹¬cap = 1›, Addr.add_lit] at ht
          have c := (((Chg.refl (fun k => k = q) w).setq 4 (.int .i64 ((left : Int) - 1))).setq 3 (.bool false)).setq 2
          refine ⟨by rw [hf.out.1]; rfl, c _, ?_⟩
          rw [hf.out.2]
          exact ⟨_, hDh.out.own (c _) rfl (rhd_set2 _ (rhd_set3 false (rhd_set4 (left - 1) _ (by omega) h1h.out))) (.inl ⟨rfl, rfl⟩) (.inr ht) (by simp; omega)⟩
  · have hf : RowKit.Hid (fl ⟨K, st, plan, true, left⟩ = true ∧ after ⟨K, st, plan, true, left⟩ = ⟨K, st, plan, true, left⟩) := Lib.hid ⟨rfl, rfl⟩
    clear hpl0
    go_enter Tryd.func89, Tryd.ntmps89
    go_wp2
    go_ret
    exact ⟨by rw [hf.out.1]; rfl, Chg.refl _ _, by rw [hf.out.2]; exact ⟨_, hDh.out⟩⟩
end Go.Proofs.YtmpjcnopakfdmaaDoor


namespace Go.Proofs.YtmpjcnopakfdmaaDoor
set_option linter.unusedVariables false
set_option linter.unusedSimpArgs false
open Go.RowKit Dk
set_option maxRecDepth 20000

theorem rdrop_any {w : World} {F : Nat → Prop} {q : Nat} {d : D} (h : RDisk w F q d) :
    Calls Tryd.prog 82 #[.pointer (some ⟨q, 0, none⟩)] w fun e w' => e = .returned (.tuple #[]) ∧ Chg F w w' ∧ RDisk w' F q (drop d) := by
  obtain ⟨gk, vs, vp, h, ok⟩ := h
  have hok := drop_ok ok
  have hDh := Lib.hid h
  have h1 := h.hd
  obtain ⟨K, st, plan, off, left⟩ := d
  simp only at h1
  obtain ⟨c0, c1, c2, c3, c4, ff⟩ := rhd_cells h1
  have h1h := Lib.hid h1
  clear h h1
  cases off
  · have hf : RowKit.Hid (drop ⟨K, st, plan, false, left⟩ = ⟨K, [], plan, false, left⟩) := Lib.hid rfl
    go_enter Tryd.func82, Tryd.ntmps82
    go_wp2
    go_end0
    have c := (Chg.refl (fun k => k = q) w).setq 1 (.slice none 0 0)
    exact ⟨rfl, c.mono fun k hk => by rw [hk]; exact hDh.out.fq, gk, _, _, by rw [hf.out]; exact hDh.out.own c rfl (rhd_set1 _ h1h.out) (.inr ⟨rfl, rfl⟩) (.inl ⟨rfl, rfl⟩) hDh.out.lf, hok⟩
  · have hf : RowKit.Hid (drop ⟨K, st, plan, true, left⟩ = ⟨K, st, plan, true, left⟩) := Lib.hid rfl
    go_enter Tryd.func82, Tryd.ntmps82
    go_wp2
    go_end0
    exact ⟨rfl, Chg.refl _ _, gk, _, _, by rw [hf.out]; exact hDh.out, hok⟩
theorem rstop_any {w : World} {F : Nat → Prop} {q : Nat} {d : D} (h : RDisk w F q d) (n : Int) (_ : -9223372036854775808 ≤ n) (hn2 : n ≤ 9223372036854775807) :
    Calls Tryd.prog 46 #[.pointer (some ⟨q, 0, none⟩), .int .i64 n] w fun e w' => e = .returned (.tuple #[]) ∧ Chg F w w' ∧ RDisk w' F q (stop n d) := by
  obtain ⟨gk, vs, vp, h, ok⟩ := h
  have hok := stop_ok n ok
  have hDh := Lib.hid h
  have h1 := h.hd
  obtain ⟨K, st, plan, off, left⟩ := d
  simp only at h1
  obtain ⟨c0, c1, c2, c3, c4, ff⟩ := rhd_cells h1
  have h1h := Lib.hid h1
  clear h h1
  have hcase : n = 0 ∨ n < 0 ∨ 0 < n := by omega
  rcases hcase with rfl | hn | hn
  · have hf : RowKit.Hid (stop 0 ⟨K, st, plan, off, left⟩ = ⟨K, st, plan, true, 0⟩) := Lib.hid (by unfold stop; simp)
    go_enter Tryd.func46, Tryd.ntmps46
    go_wp2
    go_end0
    have c := ((Chg.refl (fun k => k = q) w).setq 4 (.int .i64 0)).setq 3 (.bool true)
    exact ⟨rfl, c.mono fun k hk => by rw [hk]; exact hDh.out.fq, gk, _, _, by rw [hf.out]; exact hDh.out.own c rfl (rhd_set3 true (rhd_set4 0 0 rfl h1h.out)) (.inl ⟨rfl, rfl⟩) (.inl ⟨rfl, rfl⟩) (by simp), hok⟩
  · have hf : RowKit.Hid (stop n ⟨K, st, plan, off, left⟩ = ⟨K, st, plan, off, 0⟩) := Lib.hid (by
      unfold stop
      have e1 : n.toNat = 0 := by omega
      have e2 : (n == 0) = false := by rw [beq_eq_false_iff_ne]; omega
      simp [e1, e2])
    have hz : (n == 0) = false := by rw [beq_eq_false_iff_ne]; omega
    have hz2 : ¬ (0 : Int) ≤ n := by omega
    go_enter Tryd.func46, Tryd.ntmps46
    go_wp2
    go_end0
    have c := ((Chg.refl (fun k => k = q) w).setq 4 (.int .i64 0))
    exact ⟨rfl, c.mono fun k hk => by rw [hk]; exact hDh.out.fq, gk, _, _, by rw [hf.out]; exact hDh.out.own c rfl (rhd_set4 0 0 rfl h1h.out) (.inl ⟨rfl, rfl⟩) (.inl ⟨rfl, rfl⟩) (by simp), hok⟩
  · obtain ⟨m, rfl⟩ : ∃ m : Nat, n = m := ⟨n.toNat, by omega⟩
    have hf : RowKit.Hid (stop (m : Int) ⟨K, st, plan, off, left⟩ = ⟨K, st, plan, off, m⟩) := Lib.hid (by
      unfold stop
      have e2 : ((m : Int) == 0) = false := by rw [beq_eq_false_iff_ne]; omega
      simp [e2])
    have hz : ((m : Int) == 0) = false := by rw [beq_eq_false_iff_ne]; omega
    go_enter Tryd.func46, Tryd.ntmps46
    go_wp2
    go_end0
    have c := ((Chg.refl (fun k => k = q) w).setq 4 (.int .i64 (m : Int)))
    exact ⟨rfl, c.mono fun k hk => by rw [hk]; exact hDh.out.fq, gk, _, _, by rw [hf.out]; exact hDh.out.own c rfl (rhd_set4 m _ rfl h1h.out) (.inl ⟨rfl, rfl⟩) (.inl ⟨rfl, rfl⟩) (by simp; omega), hok⟩
def zrow (n : Nat) : Array Value := ((List.replicate n (0 : UInt8)).map u8v).toArray
theorem rmake (n : Nat) (hn : n ≤ 1048576) (W : World) : (Instr.makeSlice 22 (.int .i64 (n : Int)) (.int .i64 (n : Int))).run Tryd.prog W = .ok (.slice (some ⟨W.heap.size, 0, none⟩) n n) (W.alloc (.cells (zrow n) 5)) := by
  obtain ⟨i, hi, hz0, hz1, hz2⟩ := info_parts info_u8Z
  have h := run_make (P := Tryd.prog) W 22 5 i _ Tryd.underlying22 hi hz0 .i64 .i64 (n : Int) (n : Int) (by omega) (Int.le_refl _) (by rw [hz2]; omega) (by omega)
  rw [Int.toNat_natCast, hz1] at h
  rw [h]
  have e : madeCells (Value.cells (.int .u8 0)) (n * 1) = ((List.replicate n (0 : UInt8)).map u8v).toArray := by
    rw [Nat.mul_one]
    apply Array.ext'
    unfold madeCells
    rw [Array.toList_map, Array.toList_range, List.map_replicate]
    apply List.ext_getElem?
    intro j
    rw [List.getElem?_map, List.getElem?_replicate]
    by_cases hj : j < n
    · rw [if_pos hj, List.getElem?_range hj]
      show some _ = some _
      congr 1
      show (Value.int IntKind.u8 0).cells[j % 1]! = u8v 0
      rw [Nat.mod_one]; rfl
    · rw [if_neg hj, List.getElem?_eq_none (by simp; omega)]; rfl
  unfold zrow
  rw [← e]
theorem rnew_disk (w : World) (m : Nat) (hm : m ≤ 512) (C : Array Value) (hC : C = rhd (32 * m) w.heap.size (.slice none 0 0) (.slice none 0 0) false 0) :
    RDisk ((w.alloc (.cells (zrow (32 * m)) 5)).alloc (.cells C 57)) (fun k => w.heap.size ≤ k ∧ k < ((w.alloc (.cells (zrow (32 * m)) 5)).alloc (.cells C 57)).heap.size) (w.heap.size + 1) (mk m) := by
  subst hC
  have hs : ∀ o o', ((w.alloc o).alloc o').heap.size = w.heap.size + 2 := fun o o' => by
    show ((w.heap.push _).push _).size = _
    simp
  rw [hs]
  have hk : (mk m).kept.length = 32 * m := by unfold mk; simp
  refine ⟨w.heap.size, .slice none 0 0, .slice none 0 0, ⟨?_, ⟨by omega, by omega⟩, ⟨_, heap_alloc2_old w _ _, rfl⟩, ⟨by omega, by omega⟩, RSt.nil _ _, .inl ⟨rfl, rfl⟩, by unfold mk; simp⟩, mk_ok hm⟩
  rw [hk]
  exact heap_alloc2_new w _ _
set_option maxHeartbeats 1000000 in
theorem rnew_any (n : Int) (w : World) :
    Calls Tryd.prog 43 #[.int .i64 n] w (Ret fun v w' => ∃ q, v = .pointer (some ⟨q, 0, none⟩) ∧ RDisk w' (fun k => w.heap.size ≤ k ∧ k < w'.heap.size) q (mk (clamp n)) ∧ Ext w w') := by
  have e0 := Ext.refl w
  have hcase : (512 < n ∧ clamp n = 512) ∨ (∃ m : Nat, n = m ∧ m ≤ 512 ∧ 0 < m ∧ clamp n = m) ∨ (n ≤ 0 ∧ clamp n = 0) := by
    unfold clamp
    by_cases h1 : 512 < n
    · left; omega
    · by_cases h2 : n ≤ 0
      · right; right; omega
      · right; left; exact ⟨n.toNat, by omega, by omega, by omega, by omega⟩
  rcases hcase with ⟨h1, h2⟩ | ⟨m, rfl, h1, h0, h2⟩ | ⟨h1, h2⟩
  · rw [h2]
    have hmk : ∀ W, (Instr.makeSlice 22 (.int .i64 16384) (.int .i64 16384)).run Tryd.prog W = .ok (.slice (some ⟨W.heap.size, 0, none⟩) 16384 16384) (W.alloc (.cells (zrow (32 * 512)) 5)) := rmake (32 * 512) (by decide)
    clear h2
    go_enter Tryd.func43, Tryd.ntmps43
    go_wp2
    go_ret
    exact Ret.mk ⟨_, rfl, rnew_disk w 512 (Nat.le_refl _) _ (by rfl), (e0.alloc _).alloc _⟩
  · rw [h2]
    have hmk : ∀ W, (Instr.makeSlice 22 (.int .i64 (32 * (m : Int))) (.int .i64 (32 * (m : Int)))).run Tryd.prog W = .ok (.slice (some ⟨W.heap.size, 0, none⟩) (32 * m) (32 * m)) (W.alloc (.cells (zrow (32 * m)) 5)) := rmake (32 * m) (by omega)
    have hmi : (m : Int) ≤ 512 := by omega
    have hm0 : (0 : Int) < (m : Int) := by omega
    clear h2
    go_enter Tryd.func43, Tryd.ntmps43
    go_wp2
    go_ret
    exact Ret.mk ⟨_, rfl, rnew_disk w m h1 _ (by rfl), (e0.alloc _).alloc _⟩
  · rw [h2]
    have hmk : ∀ W, (Instr.makeSlice 22 (.int .i64 0) (.int .i64 0)).run Tryd.prog W = .ok (.slice (some ⟨W.heap.size, 0, none⟩) 0 0) (W.alloc (.cells (zrow (32 * 0)) 5)) := rmake 0 (by decide)
    clear h2
    go_enter Tryd.func43, Tryd.ntmps43
    go_wp2
    go_ret
    exact Ret.mk ⟨_, rfl, rnew_disk w 0 (Nat.zero_le _) _ (by rfl), (e0.alloc _).alloc _⟩
end Go.Proofs.YtmpjcnopakfdmaaDoor


namespace Go.Proofs.YtmpjcnopakfdmaaDoor
set_option linter.unusedVariables false
set_option linter.unusedSimpArgs false
open Go.RowKit Dk
set_option maxRecDepth 20000

/-- only the kept bytes have turned -/
theorem RD.kset {w w' : World} {F : Nat → Prop} {q gk : Nat} {vs vp : Value} {d d' : D} (h : RD w F q gk vs vp d) (c : Chg (fun k => k = gk) w w') {cur : Array Value} (hk : w'.heap[gk]? = some (.cells cur 5 (0, 0))) (hc : cur.toList = d'.kept.map u8v) (hl : d'.kept.length = d.kept.length)
    (hs : d'.st = d.st) (hp : d'.plan = d.plan) (ho : d'.off = d.off) (hlf : d'.left = d.left) : RD w' F q gk vs vp d' :=
  ⟨by rw [hl, ho, hlf, c.block q (Array.getElem?_eq_some_iff.1 h.hd).1 h.ne]; exact h.hd, h.fq, ⟨cur, hk, hc⟩, h.fk, by rw [hs]; exact h.st.chg c fun k _ hk e => hk.2.2 e, by rw [hp]; exact h.plan.chg c fun k hk e => hk.2.2 e, by rw [hlf]; exact h.lf⟩
theorem over_len' {K b : List UInt8} {o m : Nat} (h : o + m ≤ K.length) : (over K o (b.take m)).length = K.length := over_length (by rw [List.length_take]; omega)
theorem over_step {K b : List UInt8} {o k : Nat} (hk : k < b.length) (h : o + k < K.length) : over K o (b.take (k + 1)) = (over K o (b.take k)).set (o + k) (b.getD k 0) := by
  have hl : (b.take k).length = k := by rw [List.length_take]; omega
  have e := over_snoc (l := K) (m := b.take k) (o := o) (b.getD k 0) (by rw [hl]; exact h)
  rw [hl] at e
  rw [← e, List.take_add_one, List.getD_eq_getElem?_getD, List.getElem?_eq_getElem hk]; rfl
set_option maxRecDepth 20000 in
set_option maxHeartbeats 1000000 in
theorem rlay_any {w : World} {F : Nat → Prop} {q gk : Nat} {vs vp : Value} {d : D} (h : RD w F q gk vs vp d) (ok : d.Ok) (x : Nat) (hx : x < d.n) (u : Value) (b : List UInt8) (hb : Bytes w u b) (hbl : b.length = 32) (hu : ∀ k, vblk u = some k → k ≠ gk) (m : Nat) (hm : m ≤ 32) :
    Calls Tryd.prog 67 #[.pointer (some ⟨q, 0, none⟩), .agg #[.int .i64 (x : Int), u], .int .i64 (m : Int)] w fun e w' => e = .returned (.tuple #[]) ∧ Chg F w w' ∧ RD w' F q gk vs vp { d with kept := over d.kept (32 * x) (b.take m) } := by
  have hlen := ok.len
  have hmost := ok.most
  obtain ⟨au, cu, rfl, hat⟩ := hb
  obtain ⟨gb, ob, rfl, -⟩ := hat.get 0 (by omega)
  have hcu := hat.le
  have hne : gb ≠ gk := hu gb rfl
  have hbB : Bytes w (.slice (some ⟨gb, ob, none⟩) b.length cu) b := ⟨_, _, rfl, hat⟩
  have hFk := h.fk
  rw [hbl]
  have e1 := (Ext.refl w).alloc (.cells #[.int .i64 (x : Int), .slice (some ⟨gb, ob, none⟩) 32 cu] 109)
  have hnew : (w.alloc (.cells #[.int .i64 (x : Int), .slice (some ⟨gb, ob, none⟩) 32 cu] 109)).heap[w.heap.size]? = some (.cells #[.int .i64 (x : Int), .slice (some ⟨gb, ob, none⟩) 32 cu] 109 (0, 0)) := heap_alloc_new _ _
  obtain ⟨cur0, hk0, hc0⟩ := h.kept
  have hgl : gk < w.heap.size := (Array.getElem?_eq_some_iff.1 hk0).1
  have h1 := h.ext e1
  have hb1 := hbB.ext e1
  generalize hw1 : w.alloc (.cells #[.int .i64 (x : Int), .slice (some ⟨gb, ob, none⟩) 32 cu] 109) = w1 at *
  have hRD0 : RD w1 F q gk vs vp { d with kept := over d.kept (32 * x) (b.take 0) } := by rw [List.take_zero, over_nil]; exact h1
  have e11 := Chg.refl (fun k => k = gk) w1
  have hh := Lib.hid hnew
  have hlenh := Lib.hid hlen
  have hblh := Lib.hid hbl
  have hw1h := Lib.hid hw1
  have hnB : ¬ w.heap.size = gk := by omega
  have hb1h := Lib.hid hb1
  clear hat hk0 hc0 h hbB hnew h1 hlen hbl hb1 hu
  go_enter Tryd.func67, Tryd.ntmps67
  go_upto_region 1 with fail
  clear hw1
  go_wp2
  go_loopw [6] (fun i wr => ∃ k : Nat, k ≤ m ∧ i = .int .i64 (k : Int) ∧ RD wr F q gk vs vp { d with kept := over d.kept (32 * x) (b.take k) } ∧ Chg (fun k => k = gk) w1 wr) (fun i _ => m - (intOf i).toNat)
  case atStart => exact ⟨0, Nat.zero_le _, rfl, hRD0, e11⟩
  case round =>
    clear hRD0 e11
    obtain ⟨k, hk, rfl, hR, ek⟩ := hrel
    by_cases hlt : k < m
    · have hkl : (over d.kept (32 * x) (b.take k)).length = d.kept.length := over_len' (by have := hlenh.out; omega)
      have hd := hR.hd
      simp only [hkl] at hd
      obtain ⟨c0, -⟩ := rhd_cells hd
      obtain ⟨cur, hkk, hcur⟩ := hR.kept
      have hs : cur.size = d.kept.length := by rw [← Array.length_toList, hcur, List.length_map]; exact hkl
      have b0 := ek.cell (show w1.cell? ⟨w.heap.size, 0, none⟩ = some (.int .i64 (x : Int)) by rw [cell_of_row _ _ _ _ _ _ hh.out]; rfl) hnB
      have b1 := ek.cell (show w1.cell? ⟨w.heap.size, 1, none⟩ = some (.slice (some ⟨gb, ob, none⟩) 32 cu) by rw [cell_of_row _ _ _ _ _ _ hh.out]; rfl) hnB
      have hbw := hb1h.out
      obtain ⟨a', c', e, hat'⟩ := hbw
      simp only [Value.slice.injEq] at e
      obtain ⟨rfl, -, rfl⟩ := e
      obtain ⟨g', o', e, cb⟩ := hat'.get k (by rw [hblh.out]; omega)
      cases e
      have cb := ek.cell cb hne
      have ff : wr.frozen? ⟨gk, 32 * x + k, none⟩ = false := by simp [World.frozen?, hkk]
      have hin : 32 * x + k < d.kept.length := by have := hlenh.out; omega
      have ck : wr.cell? ⟨gk, 32 * x + k, none⟩ = some cur[32 * x + k] := by rw [cell_of_row _ _ _ _ _ _ hkk, Array.getElem?_eq_getElem (by omega)]
      have hst := Lib.hid (over_step (K := d.kept) (b := b) (o := 32 * x) (k := k) (by rw [hblh.out]; omega) hin)
      have t1 : IntKind.i64.wrap (32 * (x : Int)) = 32 * (x : Int) := by rw [IntKind.wrap_i64]; omega
      have t2 : IntKind.i64.wrap (32 * (x : Int) + (k : Int)) = 32 * (x : Int) + (k : Int) := by rw [IntKind.wrap_i64]; omega
      have t3 : (0 : Int) ≤ 32 * (x : Int) + (k : Int) := by omega
      have t4 : 32 * (x : Int) + (k : Int) < (d.kept.length : Int) := by omega
      have t5 : (32 * (x : Int) + (k : Int)).toNat = 32 * x + k := by omega
      have t6 : (k : Int) < (m : Int) := by omega
      have t7 : (k : Int) < 32 := by omega
      have hrow := setCell_row wr gk (32 * x + k) _ _ _ (.int .u8 ((b.getD k 0).toNat : Int)) hkk
      have hrowh := Lib.hid hrow
      have hcurh := Lib.hid hcur
      have hRh := Lib.hid hR
      have hkh := Lib.hid hkl
      generalize hcx : cur[32 * x + k] = cx at ck
      clear hd hkk hcur hat' hrow hR hkl hs hcx hin
      generalize hby : b.getD k 0 = y at *
      go_wp2
      go_still_tail 15, (by kernel_rfl)
      go_wp2
      go_roundw
      case rel =>
        have c : Chg (fun k => k = gk) wr (wr.setCell ⟨gk, 32 * x + k, none⟩ (.int .u8 (y.toNat : Int))).drew := ((Chg.refl (fun k => k = gk) wr).setCell (x := ⟨gk, 32 * x + k, none⟩) (fun _ => rfl) _).drew
        have hl2 : (over d.kept (32 * x) (b.take (k + 1))).length = (over d.kept (32 * x) (b.take k)).length := by rw [hst.out, List.length_set]
        exact ⟨k + 1, by omega, by go_num, hRh.out.kset c hrowh.out (by
          rw [Array.toList_setIfInBounds, hcurh.out]
          show _ = List.map u8v (over d.kept (32 * x) (b.take (k + 1)))
          rw [hst.out, List.map_set]; rfl) hl2 rfl rfl rfl rfl, ek.trans c⟩
      case measure => simp [intOf]; omega
    · obtain rfl : k = m := by omega
      go_wp2
      go_end0
      exact ⟨rfl, (Chg.of_ext e1).trans (ek.mono fun j hj => by rw [hj]; exact hFk), hR⟩
theorem lay_ok {d : D} (h : d.Ok) (cut : Nat → Nat) (hc : ∀ i, cut i ≤ 32) {k : Nat} (hk : k ≤ d.st.length) : ({ d with kept := lay d.kept d.st cut k } : D).Ok ∧ ({ d with kept := lay d.kept d.st cut k } : D).n = d.n := by
  have hl := lay_length h.len h.at_ cut hc k hk
  have hn : ({ d with kept := lay d.kept d.st cut k } : D).n = d.n := by
    show (lay _ _ _ _).length / 32 = _
    rw [hl]; omega
  exact ⟨⟨by rw [hn]; exact hl, by rw [hn]; exact h.most, fun w hw => by rw [hn]; exact h.at_ w hw⟩, hn⟩
theorem info_staged : (Tryd.prog.info? 109).map (·.size) = some 2 := by kernel_rfl
/-- the k-th staged block, where it lies -/
theorem RSt.at_ {w : World} {G : Nat → Prop} {v : Value} {st : List (Nat × List UInt8)} (h : RSt w G v st) : ∃ a cap, v = .slice a st.length cap ∧ st.length ≤ 9223372036854775807 ∧ st.length ≤ cap ∧ ∀ k x, st[k]? = some x → ∃ g u, a = some ⟨g, 0, none⟩ ∧ w.rangeAt g (k * 2) [.int .i64 (x.1 : Int), u] ∧ Bytes w u x.2 ∧ ∀ k, vblk u = some k → x.2 ≠ [] → G k := by
  obtain ⟨a, cap, h1, h2, h3, h4, h5⟩ := h
  refine ⟨a, cap, h1, by unfold maxLen at h3; omega, h2, fun k x hk => ?_⟩
  obtain ⟨g, u, k1, k2, k3, k4, k5, k6⟩ := h5 k x hk
  refine ⟨g, u, k1, fun j v hv => ?_, k5, k6⟩
  match j, hv with
  | 0, hv => simp at hv; subst hv; exact k3
  | 1, hv => simp at hv; subst hv; exact k4
set_option maxRecDepth 20000 in
set_option maxHeartbeats 1000000 in
theorem rsync_any {w : World} {F : Nat → Prop} {q : Nat} {d : D} (h : RDisk w F q d) :
    Calls Tryd.prog 88 #[.pointer (some ⟨q, 0, none⟩)] w fun e w' => e = .returned (.int .i64 (syncE d)) ∧ Chg F w w' ∧ RDisk w' F q (sync d) := by
  obtain ⟨gk, vs, vp, h, ok⟩ := h
  have hfl := rfails_any h
  have hFp := h.fq
  have hok2 := Lib.hid (after_ok ok)
  cases hf : fl d
  · have hS : RowKit.Hid (syncE d = 0 ∧ sync d = { after d with kept := lay d.kept d.st (fun _ => 32) d.st.length, st := [] }) := Lib.hid (by unfold syncE sync; rw [hf]; exact ⟨rfl, rfl⟩)
    rw [hf] at hfl
    go_enter Tryd.func88, Tryd.ntmps88
    go_upto_region 4 with (go_at_call 89; refine hfl.mono ?_; rintro e w1 ⟨rfl, hc1, vp', hD1⟩)
    have hokS := Lib.hid (sync_ok ok)
    have hK := after_kept d
    have hE := after_st d
    have hR0 : RD w1 F q gk vs vp' { after d with kept := lay (after d).kept (after d).st (fun _ => 32) 0 } := hD1
    have hSd : RowKit.Hid (sync d = { after d with kept := lay (after d).kept (after d).st (fun _ => 32) (after d).st.length, st := [] }) := Lib.hid (by rw [hS.out.2, hK, hE])
    generalize after d = A at *
    have hR0h := Lib.hid hR0
    have e11 : Chg F w1 w1 := Chg.refl _ _
    obtain ⟨a, cap, rfl, hsm, hcap, -⟩ := hD1.st.at_
    have hCw := Lib.hid (hc1.mono fun k hk => by rw [hk]; exact hFp : Chg F w w1)
    clear hK hE hR0 hD1 hfl h hc1
    go_wp2
    go_loopw [4] (fun i wr => ∃ k : Nat, k ≤ A.st.length ∧ i = .int .i64 (k : Int) ∧ RD wr F q gk (.slice a A.st.length cap) vp' { A with kept := lay A.kept A.st (fun _ => 32) k } ∧ Chg F w1 wr) (fun i _ => A.st.length - (intOf i).toNat)
    case atStart => exact ⟨0, Nat.zero_le _, rfl, hR0h.out, e11⟩
    case round =>
      clear e11
      obtain ⟨k, hk, rfl, hR, ek⟩ := hrel
      have hd := hR.hd
      obtain ⟨c0, c1, c2, c3, c4, ff⟩ := rhd_cells hd
      by_cases hlt : k < A.st.length
      · obtain ⟨x, hx⟩ : ∃ x, A.st[k]? = some x := ⟨_, List.getElem?_eq_getElem hlt⟩
        have hxd : A.st.getD k (0, []) = x := by rw [List.getD_eq_getElem?_getD, hx]; rfl
        obtain ⟨hx1, hx2⟩ := hok2.out.at_ x (List.mem_of_getElem? hx)
        obtain ⟨a', cap', e, -, -, hst⟩ := hR.st.at_
        cases e
        obtain ⟨g, u, rfl, hrg, hbu, hgu⟩ := hst k x hx
        obtain ⟨lok, ln⟩ := lay_ok hok2.out (fun _ => 32) (fun _ => Nat.le_refl _) hk
        have hstep : RowKit.Hid (lay A.kept A.st (fun _ => 32) (k + 1) = over (lay A.kept A.st (fun _ => 32) k) (32 * x.1) (x.2.take 32)) := Lib.hid (by rw [lay, hxd])
        have hL := rlay_any hR lok x.1 (by rw [ln]; exact hx1) u x.2 hbu hx2 (fun j hj => (hgu j hj (fun e => by rw [e] at hx2; simp at hx2)).2.2) 32 (Nat.le_refl _)
        have hki : (k : Int) < (A.st.length : Int) := by omega
        clear hx hxd hst hbu hgu lok ln c0 c2 c3 c4 ff hd hx1 hx2
        obtain ⟨x1, x2⟩ := x
        simp only at hrg hL hstep
        go_wp2_with (first
          | (refine wpList_load_mid rfl 109 _ rfl g (k * 2) rfl [.int .i64 (x1 : Int), u] _ hrg Tryd.underlying109 rfl info_staged ?_)
          | (go_at_call 67; refine hL.mono ?_; rintro e w2 ⟨rfl, c2, h2⟩))
        go_roundw
        case rel => exact ⟨k + 1, by omega, by go_num, by rw [hstep.out]; exact h2, ek.trans c2⟩
        case measure => simp [intOf]; omega
      · obtain rfl : k = A.st.length := by omega
        have hdh := Lib.hid hd
        have hRh := Lib.hid hR
        clear hd hR c0 c2 c3 c4
        go_wp2
        go_ret
        have c := (Chg.refl (fun k => k = q) wr).setq 1 (.slice none 0 0)
        refine ⟨by rw [hS.out.1]; rfl, (hCw.out.trans ek).trans (c.mono fun k hk => by rw [hk]; exact hFp), gk, .slice none 0 0, vp', ?_, hokS.out⟩
        rw [hSd.out]
        exact hRh.out.own c rfl (rhd_set1 _ hdh.out) (.inr ⟨rfl, rfl⟩) (.inl ⟨rfl, rfl⟩) hRh.out.lf
  · have hS : RowKit.Hid (syncE d = 21 ∧ sync d = after d) := Lib.hid (by unfold syncE sync; rw [hf]; exact ⟨rfl, rfl⟩)
    rw [hf] at hfl
    go_enter Tryd.func88, Tryd.ntmps88
    go_wp2_with (go_at_call 89; refine hfl.mono ?_; rintro e w1 ⟨rfl, hc1, vp', hD1⟩)
    go_ret
    exact ⟨by rw [hS.out.1]; rfl, hc1.mono fun k hk => by rw [hk]; exact hFp, gk, _, _, by rw [hS.out.2]; exact hD1, by rw [hS.out.2]; exact hok2.out⟩
set_option maxRecDepth 20000 in
set_option maxHeartbeats 1000000 in
theorem rcrash_any {w : World} {F : Nat → Prop} {q : Nat} {d : D} (h : RDisk w F q d) (u : Value) (cuts : List UInt8) (hb : ∀ w', Chg F w w' → Bytes w' u cuts) :
    Calls Tryd.prog 47 #[.pointer (some ⟨q, 0, none⟩), u] w fun e w' => e = .returned (.tuple #[]) ∧ Chg F w w' ∧ RDisk w' F q (crash cuts d) := by
  obtain ⟨gk, vs, vp, h, ok⟩ := h
  have hFp := h.fq
  have hbh := Lib.hid hb
  obtain ⟨au, capu, rfl, hbu⟩ := hb w (Chg.refl _ _)
  have hul := hbu.len
  have hokh := Lib.hid ok
  have hokC := Lib.hid (crash_ok cuts ok)
  have hR0h : RowKit.Hid (RD w F q gk vs vp { d with kept := lay d.kept d.st (cutAt cuts) 0 }) := Lib.hid h
  obtain ⟨a, cap, rfl, hsm, hcap, -⟩ := h.st.at_
  have e11 : Chg F w w := Chg.refl _ _
  clear hb hbu h ok
  go_enter Tryd.func47, Tryd.ntmps47
  go_wp2
  go_loopw [4] (fun i wr => ∃ k : Nat, k ≤ d.st.length ∧ i = .int .i64 (k : Int) ∧ RD wr F q gk (.slice a d.st.length cap) vp { d with kept := lay d.kept d.st (cutAt cuts) k } ∧ Chg F w wr) (fun i _ => d.st.length - (intOf i).toNat)
  case atStart => exact ⟨0, Nat.zero_le _, rfl, hR0h.out, e11⟩
  case round =>
    clear e11
    obtain ⟨k, hk, rfl, hR, ek⟩ := hrel
    have hd := hR.hd
    obtain ⟨c0, c1, c2, c3, c4, ff⟩ := rhd_cells hd
    by_cases hlt : k < d.st.length
    · obtain ⟨x, hx⟩ : ∃ x, d.st[k]? = some x := ⟨_, List.getElem?_eq_getElem hlt⟩
      have hxd : d.st.getD k (0, []) = x := by rw [List.getD_eq_getElem?_getD, hx]; rfl
      obtain ⟨hx1, hx2⟩ := hokh.out.at_ x (List.mem_of_getElem? hx)
      obtain ⟨a', cap', e, -, -, hst⟩ := hR.st.at_
      cases e
      obtain ⟨g, v, rfl, hrg, hbu, hgu⟩ := hst k x hx
      obtain ⟨lok, ln⟩ := lay_ok hokh.out (cutAt cuts) (cutAt_le cuts) hk
      have hstep : RowKit.Hid (lay d.kept d.st (cutAt cuts) (k + 1) = over (lay d.kept d.st (cutAt cuts) k) (32 * x.1) (x.2.take (cutAt cuts k))) := Lib.hid (by rw [lay, hxd])
      have hL := rlay_any hR lok x.1 (by rw [ln]; exact hx1) v x.2 hbu hx2 (fun j hj => (hgu j hj (fun e => by rw [e] at hx2; simp at hx2)).2.2) (cutAt cuts k) (cutAt_le cuts k)
      have hki : (k : Int) < (d.st.length : Int) := by omega
      have hBc := hbh.out _ ek
      obtain ⟨au', capu', e, hBc⟩ := hBc
      cases e
      clear hx hxd hst hbu hgu lok ln c0 c2 c3 c4 ff hd hx1 hx2
      obtain ⟨x1, x2⟩ := x
      simp only at hrg hL hstep
      by_cases hkc : k < cuts.length
      · obtain ⟨gu, ou, rfl, hcc⟩ := hBc.get k hkc
        have hcv : RowKit.Hid (((cutAt cuts k : Nat) : Int) = ((cuts.getD k 0).toNat : Int) % 33) := Lib.hid (by unfold cutAt; rw [if_pos hkc]; omega)
        have hbb := (cuts.getD k 0).toNat_lt
        have hkci : (k : Int) < (cuts.length : Int) := by omega
        rw [hcv.out] at hL
        generalize cuts.getD k 0 = y at *
        have t1 : IntKind.i64.wrap (y.toNat : Int) = (y.toNat : Int) := by rw [IntKind.wrap_i64]; omega
        go_wp2_with (first
          | (refine wpList_load_mid rfl 109 _ rfl g (k * 2) rfl [.int .i64 (x1 : Int), v] _ hrg Tryd.underlying109 rfl info_staged ?_)
          | (go_at_call 67; refine hL.mono ?_; rintro e w2 ⟨rfl, c2, h2⟩))
        go_roundw
        case rel => exact ⟨k + 1, by omega, by go_num, by rw [hstep.out]; exact h2, ek.trans c2⟩
        case measure => simp [intOf]; omega
      · have hcv : RowKit.Hid (cutAt cuts k = 0) := Lib.hid (by unfold cutAt; rw [if_neg hkc])
        have hkci : (cuts.length : Int) ≤ (k : Int) := by omega
        rw [hcv.out] at hL hstep
        go_wp2_with (first
          | (refine wpList_load_mid rfl 109 _ rfl g (k * 2) rfl [.int .i64 (x1 : Int), v] _ hrg Tryd.underlying109 rfl info_staged ?_)
          | (go_at_call 67; refine hL.mono ?_; rintro e w2 ⟨rfl, c2, h2⟩))
        go_roundw
        case rel => exact ⟨k + 1, by omega, by go_num, by rw [hstep.out]; exact h2, ek.trans c2⟩
        case measure => simp [intOf]; omega
    · obtain rfl : k = d.st.length := by omega
      have hdh := Lib.hid hd
      have hRh := Lib.hid hR
      clear hd hR c0
      go_wp2
      go_end0
      have c := ((((Chg.refl (fun k => k = q) wr).setq 1 (.slice none 0 0)).setq 2 (.slice none 0 0)).setq 3 (.bool false)).setq 4 (.int .i64 0)
      refine ⟨rfl, ek.trans (c.mono fun k hk => by rw [hk]; exact hFp), gk, .slice none 0 0, .slice none 0 0, ?_, hokC.out⟩
      exact hRh.out.own c rfl (rhd_set4 0 0 rfl (rhd_set3 false (rhd_set2 _ (rhd_set1 _ hdh.out)))) (.inr ⟨rfl, rfl⟩) (.inr (.inl ⟨rfl, rfl⟩)) (by simp [crash])
end Go.Proofs.YtmpjcnopakfdmaaDoor


namespace Go.Proofs.YtmpjcnopakfdmaaDoor
set_option linter.unusedVariables false
set_option linter.unusedSimpArgs false
open Go.RowKit Dk
set_option maxRecDepth 20000

theorem RD.bytes {w : World} {F : Nat → Prop} {q gk : Nat} {vs vp : Value} {d : D} (h : RD w F q gk vs vp d) (ok : d.Ok) {i : Nat} (hi : i < d.n) (cap : Nat) (hcap : 32 ≤ cap) (hcm : cap ≤ maxLen) : Bytes w (.slice (some ⟨gk, 32 * i, none⟩) 32 cap) (blk d.kept i) := by
  obtain ⟨cur, h1, h2⟩ := h.kept
  have hb := blk_length ok.len hi
  refine Bytes.row hb.symm (by omega) hcm fun j hj => ?_
  rw [cell_of_row w gk _ cur _ _ h1, ← Array.getElem?_toList, h2, List.getElem?_map]
  have e := blk_get d.kept i j (by omega)
  rw [List.getElem?_eq_getElem hj] at e
  rw [← e]; rfl
set_option maxRecDepth 20000 in
set_option maxHeartbeats 1000000 in
theorem rread_any {w : World} {F : Nat → Prop} {q : Nat} {d : D} (h : RDisk w F q d) (i : Int) :
    Calls Tryd.prog 59 #[.pointer (some ⟨q, 0, none⟩), .int .i64 i] w (Ret fun v w' => Bytes w v (rdB i d) ∧ w = w') := by
  have hLe := rLen_any h
  obtain ⟨gk, vs, vp, h, ok⟩ := h
  have hlen := ok.len
  have hmost := ok.most
  by_cases h0 : i < 0
  · have hr : RowKit.Hid (rdB i d = []) := Lib.hid (by
      have : has d i = false := by unfold has; rw [decide_eq_false (by omega)]; rfl
      unfold rdB; rw [this]; rfl)
    have d0 : decide (i < 0) = true := by rw [decide_eq_true_iff]; exact h0
    go_enter Tryd.func59, Tryd.ntmps59
    go_wp2
    go_ret
    exact Ret.mk ⟨by rw [hr.out]; exact Bytes.nil _, rfl⟩
  have d0 : decide (i < 0) = false := by rw [decide_eq_false_iff_not]; exact h0
  by_cases h1 : (d.n : Int) ≤ i
  · have hr : RowKit.Hid (rdB i d = []) := Lib.hid (by
      have : has d i = false := by unfold has; rw [decide_eq_false (p := i < (d.n : Int)) (by omega)]; simp
      unfold rdB; rw [this]; rfl)
    have d1 : decide ((d.n : Int) ≤ i) = true := by rw [decide_eq_true_iff]; exact h1
    go_enter Tryd.func59, Tryd.ntmps59
    go_wp2_with (go_at_call 58; refine hLe.mono ?_; rintro e w' ⟨rfl, rfl⟩)
    go_ret
    exact Ret.mk ⟨by rw [hr.out]; exact Bytes.nil _, rfl⟩
  · have d1 : decide ((d.n : Int) ≤ i) = false := by rw [decide_eq_false_iff_not]; exact h1
    obtain ⟨i, rfl⟩ : ∃ k : Nat, i = k := ⟨i.toNat, by omega⟩
    have hi : i < d.n := by omega
    have hr : RowKit.Hid (rdB (i : Int) d = rd d.kept d.st i d.st.length) := Lib.hid (by
      have : has d (i : Int) = true := by unfold has; simp; exact hi
      unfold rdB; rw [this]; rfl)
    obtain ⟨c0, c1, -⟩ := rhd_cells h.hd
    obtain ⟨a, cap, rfl, hsm, hcap, hst⟩ := h.st.at_
    have hB0 := Lib.hid (h.bytes ok hi (d.kept.length - 32 * i) (by omega) (by unfold maxLen; omega))
    have hsth := Lib.hid hst
    have hath := Lib.hid ok.at_
    have t1 : IntKind.i64.wrap (32 * (i : Int)) = 32 * (i : Int) := by rw [IntKind.wrap_i64]; omega
    have t2 : IntKind.i64.wrap (32 * (i : Int) + 32) = 32 * (i : Int) + 32 := by rw [IntKind.wrap_i64]; omega
    have t3 : (0 : Int) ≤ 32 * (i : Int) := by omega
    have t4 : 32 * (i : Int) + 32 ≤ (d.kept.length : Int) := by omega
    have t5 : (32 * (i : Int)).toNat = 32 * i := by omega
    have t6 : (32 * (i : Int) + 32).toNat = 32 * i + 32 := by omega
    have t7 : 32 * i + 32 - 32 * i = 32 := by omega
    have t8 : ¬ d.kept.length = 32 * i := by omega
    have t9 : 32 * (i : Int) ≤ 32 * (i : Int) + 32 := by omega
    clear hst h ok hlen hmost h0 h1
    go_enter Tryd.func59, Tryd.ntmps59
    go_wp2_with (go_at_call 58; refine hLe.mono ?_; rintro e w' ⟨rfl, rfl⟩)
    clear hLe t1 t2 t3 t4 t5 t6 t8 t9
    go_loop [5, 6] (fun out j => ∃ k : Nat, k ≤ d.st.length ∧ j = .int .i64 (k : Int) ∧ RowKit.Hid (Bytes w out (rd d.kept d.st i k))) (fun _ j => d.st.length - (intOf j).toNat)
    case atStart => exact ⟨0, Nat.zero_le _, rfl, by first | exact hB0 | (rw [t7]; exact hB0)⟩
    case round =>
      obtain ⟨k, hk, rfl, hB⟩ := hrel
      by_cases hlt : k < d.st.length
      · obtain ⟨x, hx⟩ : ∃ x, d.st[k]? = some x := ⟨_, List.getElem?_eq_getElem hlt⟩
        have hxd : d.st.getD k (0, []) = x := by rw [List.getD_eq_getElem?_getD, hx]; rfl
        obtain ⟨g, u, rfl, hrg, hbu, -⟩ := hsth.out k x hx
        have hrd : RowKit.Hid (rd d.kept d.st i (k + 1) = if x.1 = i then x.2 else rd d.kept d.st i k) := Lib.hid (by rw [rd, hxd])
        have k1 := hrg 0 _ rfl
        have k2 := hrg 1 _ rfl
        have hki : (k : Int) < (d.st.length : Int) := by omega
        have hbuh := Lib.hid hbu
        obtain ⟨au, cu, rfl, -⟩ := hbu
        clear hx hxd hrg hB0
        rw [Nat.add_zero] at k1
        by_cases hxi : x.1 = i
        · have hq : ((x.1 : Int) == (i : Int)) = true := by rw [hxi]; simp
          go_wp2
          go_round
          case rel => exact ⟨k + 1, by omega, by go_num, Lib.hid (by rw [hrd.out, if_pos hxi]; exact hbuh.out)⟩
          case measure => simp [intOf]; omega
        · have hq : ((x.1 : Int) == (i : Int)) = false := by rw [beq_eq_false_iff_ne]; omega
          go_wp2
          go_round
          case rel => exact ⟨k + 1, by omega, by go_num, Lib.hid (by rw [hrd.out, if_neg hxi]; exact hB.out)⟩
          case measure => simp [intOf]; omega
      · obtain rfl : k = d.st.length := by omega
        go_wp2
        go_ret
        exact Ret.mk ⟨by rw [hr.out]; exact hB.out, rfl⟩
end Go.Proofs.YtmpjcnopakfdmaaDoor


namespace Go.Proofs.YtmpjcnopakfdmaaDoor
set_option linter.unusedVariables false
set_option linter.unusedSimpArgs false
open Go.RowKit Dk
set_option maxRecDepth 20000

theorem info_stagedZ : (Tryd.prog.info? 109).map (fun i => (i.zero, i.size, i.bytes)) = some (some (.agg #[.int .i64 0, .slice none 0 0]), 2, 32) := by kernel_rfl
theorem wpList_append2 {ops : Array Oper} {rest : List Oper} {o : Oper} {a : Act} {w : World} {Q : Exit → Act → World → Prop} (hgd : o.guard = none) (s x : Operand)
    (ho : o.op = .call { callee := .builtin .append, args := #[s, x], argTypes := #[54, 54] })
    (F : Nat → Prop) (v : Value) (n : Nat) (xs : List Value) (hs : a.eval s = v) (hown : OwnF 109 2 w F v n xs) (ax : Option Addr) (m c : Nat) (news : List Value) (hx : a.eval x = .slice ax m c) (hnone : ax = none → m = 0 ∧ c = 0)
    (hl : news.length = m * 2) (hnews : ∀ ad, ax = some ad → ∀ j u, news[j]? = some u → w.cell? (ad.add j) = some u) (hone : ∀ u ∈ news, u.oneCell' = true) (hlen : n + m ≤ 1048576)
    (h : ∀ v' w', OwnF 109 2 w' (fun k => F k ∨ w.heap.size ≤ k) v' (n + m) (xs ++ news) → Chg F w w' → wpList Tryd.prog ops Q rest (a.put o.dst v') w') : wpList Tryd.prog ops Q (o :: rest) a w := by
  refine wpList_plain hgd fun K hK => ?_
  cases ax with
  | none =>
    obtain ⟨rfl, rfl⟩ := hnone rfl
    obtain rfl : news = [] := List.eq_nil_of_length_eq_zero (by omega)
    obtain ⟨i, hi, hz0, hz1, hz2⟩ := info_parts info_stagedZ
    have hr := run_append_owned_none (P := Tryd.prog) w 0 54 o.type 109 i 2 Tryd.underlying54 hi v n xs hown.1
    unfold Oper.wp execOp
    simp only [ho, resolve, invoke, builtin, Sem.run_bind, Sem.run_pure, Result.andThen_ok, List.map_toArray, List.map_cons, List.map_nil, hs, hx, hr]
    exact hK _ _ (h v w (by rw [List.append_nil]; exact hown.mono fun _ => Or.inl) (Chg.refl _ _))
  | some ad =>
    obtain ⟨v', w', hr, h1, h2⟩ := run_appendF (P := Tryd.prog) (T := 54) Tryd.underlying54 info_stagedZ rfl (by decide) o.type w F v n xs hown ad m c news hl (hnews ad rfl) hone (by unfold maxLen; omega) (by omega)
    unfold Oper.wp execOp
    simp only [ho, resolve, invoke, builtin, Sem.run_bind, Sem.run_pure, Result.andThen_ok, List.map_toArray, List.map_cons, List.map_nil, hs, hx, hr]
    exact hK _ _ (h v' w' h1 h2)
/-- the cells of staged blocks -/
def Cells2 (w : World) (G : Nat → Prop) (xs : List Value) (st : List (Nat × List UInt8)) : Prop :=
  xs.length = st.length * 2 ∧ (∀ u ∈ xs, u.oneCell' = true) ∧ ∀ (j : Nat) (x : Nat × List UInt8), st[j]? = some x → xs[j * 2]? = some (.int .i64 (x.1 : Int)) ∧ ∃ u, xs[j * 2 + 1]? = some u ∧ Bytes w u x.2 ∧ ∀ k, vblk u = some k → x.2 ≠ [] → G k
theorem Cells2.ext {w w' : World} {G : Nat → Prop} {xs : List Value} {st : List (Nat × List UInt8)} (h : Cells2 w G xs st) (e : Ext w w') : Cells2 w' G xs st :=
  ⟨h.1, h.2.1, fun j x hj => ⟨(h.2.2 j x hj).1, let ⟨u, k1, k2, k3⟩ := (h.2.2 j x hj).2; ⟨u, k1, k2.ext e, k3⟩⟩⟩
theorem Bytes.one {w : World} {u : Value} {l : List UInt8} (h : Bytes w u l) : u.oneCell' = true := by
  obtain ⟨a, c, rfl, _⟩ := h; rfl
theorem RSt.cells {w : World} {G : Nat → Prop} {v : Value} {st : List (Nat × List UInt8)} (h : RSt w G v st) : ∃ a cap xs, v = .slice a st.length cap ∧ (a = none → st.length = 0 ∧ cap = 0) ∧ Cells2 w G xs st ∧ ∀ ad, a = some ad → ∀ j u, xs[j]? = some u → w.cell? (ad.add j) = some u := by
  obtain ⟨a, cap, h1, h2, h3, h4, h5⟩ := h
  have hnn : a = none → st.length = 0 ∧ cap = 0 := fun e => by have := h4 e; omega
  by_cases h0 : st.length = 0
  · refine ⟨a, cap, [], h1, hnn, ⟨by simp [h0], fun u hu => by simp at hu, fun j x hj => ?_⟩, fun ad _ j u hu => by simp at hu⟩
    have := (List.getElem?_eq_some_iff.1 hj).1
    omega
  · obtain ⟨g, u0, rfl, -⟩ := h5 0 _ (List.getElem?_eq_getElem (by omega))
    have hcell : ∀ j, j < st.length * 2 → ∃ u, w.cell? ⟨g, j, none⟩ = some u ∧ u.oneCell' = true := fun j hj => by
      obtain ⟨g', u, e, k2, k3, k4, k5, k6⟩ := h5 (j / 2) _ (List.getElem?_eq_getElem (by omega))
      cases e
      by_cases hp : j % 2 = 0
      · have : j = j / 2 * 2 := by omega
        rw [this]
        exact ⟨_, k3, rfl⟩
      · have : j = j / 2 * 2 + 1 := by omega
        rw [this]
        exact ⟨_, k4, k5.one⟩
    refine ⟨_, cap, (List.range (st.length * 2)).map fun j => (w.cell? ⟨g, j, none⟩).getD undef, h1, hnn, ⟨by simp, fun u hu => ?_, fun j x hj => ?_⟩, fun ad e j u hu => ?_⟩
    · obtain ⟨j, hj, rfl⟩ := List.mem_map.1 hu
      obtain ⟨u, k1, k2⟩ := hcell j (by simpa using hj)
      rw [k1]; exact k2
    · obtain ⟨g', u, e, k2, k3, k4, k5, k6⟩ := h5 j x hj
      cases e
      have hjl := (List.getElem?_eq_some_iff.1 hj).1
      refine ⟨?_, u, ?_, k5, k6⟩
      · rw [List.getElem?_map, List.getElem?_range (by omega)]; simp [k3]
      · rw [List.getElem?_map, List.getElem?_range (by omega)]; simp [k4]
    · cases e
      rw [List.getElem?_map] at hu
      obtain ⟨j', hj', rfl⟩ := Option.map_eq_some_iff.1 hu
      have hjl : j < st.length * 2 := by
        have := (List.getElem?_eq_some_iff.1 hj').1
        simpa using this
      rw [List.getElem?_range hjl] at hj'
      obtain rfl := Option.some.inj hj'
      obtain ⟨u, k1, k2⟩ := hcell j hjl
      rw [Addr.add_lit, Nat.zero_add, k1]; rfl
theorem RSt.of_own {w : World} {F G : Nat → Prop} {v : Value} {xs : List Value} {st : List (Nat × List UInt8)} (h : OwnF 109 2 w F v st.length xs) (hF : ∀ k, F k → G k) (hc : Cells2 w G xs st) : RSt w G v st := by
  obtain ⟨⟨h1, h2⟩, h3⟩ := h
  rcases h2 with ⟨rfl, h0⟩ | ⟨g, cap, cur, rfl, hb, hh, hn, hm, hs, ht⟩
  · obtain rfl := List.eq_nil_of_length_eq_zero h0
    exact RSt.nil _ _
  · refine ⟨_, cap, rfl, hn, hm, fun e => by simp at e, fun j x hj => ?_⟩
    obtain ⟨k1, u, k2, k3, k4⟩ := hc.2.2 j x hj
    have hjl := (List.getElem?_eq_some_iff.1 hj).1
    have cell : ∀ (i : Nat) (y : Value), i < st.length * 2 → xs[i]? = some y → w.cell? ⟨g, i, none⟩ = some y := fun i y hi hy => by
      rw [← ht, List.getElem?_take, if_pos hi] at hy
      rw [cell_of_row w g i cur _ _ hh, ← Array.getElem?_toList]; exact hy
    exact ⟨g, u, rfl, hF g (h3 g rfl), cell _ _ (by omega) k1, cell _ _ (by omega) k2, k3, k4⟩
theorem Cells2.snoc {w : World} {G : Nat → Prop} {xs : List Value} {st : List (Nat × List UInt8)} (h : Cells2 w G xs st) (i : Nat) (u : Value) (b : List UInt8) (hb : Bytes w u b) (hu : ∀ k, vblk u = some k → b ≠ [] → G k) : Cells2 w G (xs ++ [.int .i64 (i : Int), u]) (st ++ [(i, b)]) := by
  refine ⟨by simp [h.1]; omega, fun y hy => ?_, fun j x hj => ?_⟩
  · rcases List.mem_append.1 hy with hy | hy
    · exact h.2.1 y hy
    · simp at hy
      rcases hy with rfl | rfl
      · rfl
      · exact hb.one
  · by_cases hl : j < st.length
    · rw [List.getElem?_append_left hl] at hj
      obtain ⟨k1, v, k2, k3, k4⟩ := h.2.2 j x hj
      have := h.1
      exact ⟨by rw [List.getElem?_append_left (by omega)]; exact k1, v, by rw [List.getElem?_append_left (by omega)]; exact k2, k3, k4⟩
    · have hjl : j = st.length := by
        have := (List.getElem?_eq_some_iff.1 hj).1
        simp at this; omega
      subst hjl
      rw [List.getElem?_append_right (by omega), Nat.sub_self] at hj
      simp at hj
      subst hj
      have := h.1
      refine ⟨?_, u, ?_, hb, hu⟩
      · rw [List.getElem?_append_right (by omega), show st.length * 2 - xs.length = 0 by omega]; rfl
      · rw [List.getElem?_append_right (by omega), show st.length * 2 + 1 - xs.length = 1 by omega]; rfl
theorem Cells2.mono {w : World} {G H : Nat → Prop} {xs : List Value} {st : List (Nat × List UInt8)} (h : Cells2 w G xs st) (hG : ∀ k, G k → H k) : Cells2 w H xs st :=
  ⟨h.1, h.2.1, fun j x hj => ⟨(h.2.2 j x hj).1, let ⟨u, k1, k2, k3⟩ := (h.2.2 j x hj).2; ⟨u, k1, k2, fun k h1 h2 => hG k (k3 k h1 h2)⟩⟩⟩
/-- the first k bytes, and 0s -/
def padk (b : List UInt8) (k : Nat) : List UInt8 := b.take k ++ List.replicate (32 - k) 0
theorem padk_zero (b : List UInt8) : ((padk b 0).map u8v).toArray = zrow 32 := rfl
theorem padk_full (b : List UInt8) : padk b b.length = pad b := by unfold padk pad; rw [List.take_length]
theorem padk_len {b : List UInt8} {k : Nat} (h : k ≤ b.length) (hb : b.length ≤ 32) : (padk b k).length = 32 := by unfold padk; simp; omega
theorem padk_step {b : List UInt8} {k : Nat} (h : k < b.length) (hb : b.length ≤ 32) : ((padk b k).map u8v).toArray.setIfInBounds k (.int .u8 ((b.getD k 0).toNat : Int)) = ((padk b (k + 1)).map u8v).toArray := by
  apply Array.ext_getElem?
  intro j
  have l1 : (b.take k).length = k := by rw [List.length_take]; omega
  have l2 : (b.take (k + 1)).length = k + 1 := by rw [List.length_take]; omega
  rw [Array.getElem?_setIfInBounds, List.getElem?_toArray, List.getElem?_toArray, List.getElem?_map, List.getElem?_map, List.size_toArray, List.length_map, padk_len (by omega) hb]
  unfold padk
  by_cases h1 : k = j
  · subst h1
    rw [if_pos rfl, if_pos (by omega), List.getElem?_append_left (by omega), List.getElem?_take, if_pos (by omega), List.getElem?_eq_getElem h, List.getD_eq_getElem?_getD, List.getElem?_eq_getElem h]; rfl
  · rw [if_neg h1]
    by_cases h2 : j < k
    · rw [List.getElem?_append_left (by omega), List.getElem?_append_left (by omega), List.getElem?_take, List.getElem?_take, if_pos h2, if_pos (by omega)]
    · rw [List.getElem?_append_right (by omega), List.getElem?_append_right (by omega), List.getElem?_replicate, List.getElem?_replicate, l1, l2]
      by_cases h3 : j < 32
      · rw [if_pos (by omega), if_pos (by omega)]
      · rw [if_neg (by omega), if_neg (by omega)]
theorem bytes_of_row {w : World} {g n : Nat} {b : List UInt8} {E : TypeId} {fr : Nat × Nat} (h : w.heap[g]? = some (.cells (b.map u8v).toArray E fr)) (hn : n = b.length) (hb : b.length ≤ maxLen) : Bytes w (.slice (some ⟨g, 0, none⟩) n n) b :=
  Bytes.row hn (by omega) (by omega) fun j hj => by
    rw [cell_of_row w g _ _ _ _ h, Nat.zero_add]
    simp [hj, u8v]
theorem cells_new2 (w : World) (x y : Value) (t : TypeId) : ∀ ad, some (⟨w.heap.size, 0, none⟩ : Addr) = some ad → ∀ j u, [x, y][j]? = some u → (w.alloc (.cells #[x, y] t)).cell? (ad.add j) = some u := by
  intro ad e j u hj
  cases e
  rw [Addr.add_lit, Nat.zero_add, cell_of_row _ _ _ _ _ _ (heap_alloc_new w _)]
  match j, hj with
  | 0, hj => simpa using hj
  | 1, hj => simpa using hj
theorem made2 (w : World) : OwnF 109 2 (w.alloc (.cells #[] 109)) (fun k => w.heap.size ≤ k) (.slice (some ⟨w.heap.size, 0, none⟩) 0 0) 0 [] :=
  ⟨World.ownsRow_made w #[] 0 (Nat.zero_le _) (by simp [maxLen]) rfl, fun k hk => by simp [Value.ownBlock] at hk; omega⟩
theorem wr_ok2 (i : Nat) (b : List UInt8) {d : D} (h : d.Ok) (hi : i < d.n) (hb : b.length ≤ 32) : ({ after d with st := d.st ++ [(i, pad b)] } : D).Ok := wr_ok i b (after_ok h) hi hb
attribute [local irreducible] pad padk zrow
set_option maxRecDepth 20000 in
set_option maxHeartbeats 2000000 in
theorem rwrite_any {w : World} {F : Nat → Prop} {q : Nat} {d : D} (h : RDisk w F q d) (hst : d.st.length ≤ 1048000) (i : Int) (u : Value) (b : List UInt8) (hb : ∀ w', Chg F w w' → Bytes w' u b) :
    Calls Tryd.prog 87 #[.pointer (some ⟨q, 0, none⟩), .int .i64 i, u] w fun e w' => e = .returned (.int .i64 (wrE i b d)) ∧ Chg F w w' ∧ RDisk w' (grow F w) q (wrB i b d) := by
  have hLe := rLen_any h
  have hD0 := Lib.hid (h.mono (G := grow F w) fun _ => Or.inl)
  obtain ⟨gk, vs, vp, h, ok⟩ := h
  have hmost := ok.most
  have hbh := Lib.hid hb
  obtain ⟨au, cu, rfl, hbu⟩ := hb w (Chg.refl _ _)
  have hbl := hbu.len
  clear hb hbu
  by_cases h0 : i < 0
  · have hr : RowKit.Hid (wrE i b d = 4 ∧ wrB i b d = d) := Lib.hid (by
      have : has d i = false := by unfold has; rw [decide_eq_false (by omega)]; rfl
      unfold wrE wrB; rw [this]; exact ⟨rfl, rfl⟩)
    have d0 : decide (i < 0) = true := by rw [decide_eq_true_iff]; exact h0
    go_enter Tryd.func87, Tryd.ntmps87
    go_wp2
    go_ret
    exact ⟨by rw [hr.out.1]; rfl, Chg.refl _ _, by rw [hr.out.2]; exact hD0.out⟩
  have d0 : decide (i < 0) = false := by rw [decide_eq_false_iff_not]; exact h0
  by_cases h1 : (d.n : Int) ≤ i
  · have hr : RowKit.Hid (wrE i b d = 4 ∧ wrB i b d = d) := Lib.hid (by
      have : has d i = false := by unfold has; rw [decide_eq_false (p := i < (d.n : Int)) (by omega)]; simp
      unfold wrE wrB; rw [this]; exact ⟨rfl, rfl⟩)
    have d1 : decide ((d.n : Int) ≤ i) = true := by rw [decide_eq_true_iff]; exact h1
    go_enter Tryd.func87, Tryd.ntmps87
    go_wp2_with (go_at_call 58; refine hLe.mono ?_; rintro e w' ⟨rfl, rfl⟩)
    go_ret
    exact ⟨by rw [hr.out.1]; rfl, Chg.refl _ _, by rw [hr.out.2]; exact hD0.out⟩
  have d1 : decide ((d.n : Int) ≤ i) = false := by rw [decide_eq_false_iff_not]; exact h1
  obtain ⟨i, rfl⟩ : ∃ k : Nat, i = k := ⟨i.toNat, by omega⟩
  have hi : i < d.n := by omega
  have hh : has d (i : Int) = true := by unfold has; simp; exact hi
  by_cases h32 : 32 < b.length
  · have hr : RowKit.Hid (wrE (i : Int) b d = 2 ∧ wrB (i : Int) b d = d) := Lib.hid (by
      unfold wrE wrB; rw [hh]; simp [h32])
    have d2 : decide ((32 : Int) < (b.length : Int)) = true := by rw [decide_eq_true_iff]; omega
    go_enter Tryd.func87, Tryd.ntmps87
    go_wp2_with (go_at_call 58; refine hLe.mono ?_; rintro e w' ⟨rfl, rfl⟩)
    go_ret
    exact ⟨by rw [hr.out.1]; rfl, Chg.refl _ _, by rw [hr.out.2]; exact hD0.out⟩
  have d2 : decide ((32 : Int) < (b.length : Int)) = false := by rw [decide_eq_false_iff_not]; omega
  have hb32 : b.length ≤ 32 := by omega
  have hfl := rfails_any h
  have hFp := h.fq
  cases hf : fl d
  · have hr : RowKit.Hid (wrE (i : Int) b d = 0 ∧ wrB (i : Int) b d = { after d with st := d.st ++ [(i, pad b)] }) := Lib.hid (by
      unfold wrE wrB; rw [hh, hf]; simp [h32])
    rw [hf] at hfl
    have hokW := Lib.hid (wr_ok2 i b ok hi hb32)
    have hK := after_kept d
    have hE := after_st d
    have hmk : ∀ W, (Instr.makeSlice 22 (.int .i64 32) (.int .i64 32)).run Tryd.prog W = .ok (.slice (some ⟨W.heap.size, 0, none⟩) 32 32) (W.alloc (.cells ((padk b 0).map u8v).toArray 5)) := fun W => by rw [padk_zero]; exact rmake 32 (by decide) W
    go_enter Tryd.func87, Tryd.ntmps87
    go_upto_region 8 with (first
      | (go_at_call 58; refine hLe.mono ?_; rintro e w' ⟨rfl, rfl⟩)
      | (go_at_call 89; refine hfl.mono ?_; rintro e w1 ⟨rfl, hc1, vp', hD1⟩))
    generalize after d = A at *
    have hE2 := Lib.hid hE
    rw [← hE] at hst
    have hqb := (Array.getElem?_eq_some_iff.1 hD1.hd).1
    obtain ⟨gx, hgx⟩ : ∃ g, g = w1.heap.size := ⟨_, rfl⟩
    have hrow0 := heap_alloc_new w1 (.cells ((padk b 0).map u8v).toArray 5)
    rw [← hgx] at hrow0
    have ec0 := (Ext.refl w1).alloc (.cells ((padk b 0).map u8v).toArray 5)
    have hCw := Lib.hid (hc1.mono fun k hk => by rw [hk]; exact hFp : Chg F w w1)
    have hDh := Lib.hid hD1
    clear hfl hLe hc1 hD1 hE hK hD0 h ok hh h0 h1 d0 d1 d2 h32
    go_wp2
    rw [← hgx]
    have hgxh := Lib.hid hgx
    clear hgx hmk
    go_loopw [9] (fun j wr => ∃ k : Nat, k ≤ b.length ∧ j = .int .i64 (k : Int) ∧ wr.heap[gx]? = some (.cells ((padk b k).map u8v).toArray 5 (0, 0)) ∧ Ext w1 wr) (fun j _ => b.length - (intOf j).toNat)
    case atStart => exact ⟨0, Nat.zero_le _, rfl, hrow0, ec0⟩
    case round =>
      clear hrow0 ec0
      obtain ⟨k, hk, rfl, hrow, ek⟩ := hrel
      by_cases hlt : k < b.length
      · have hki : (k : Int) < (b.length : Int) := by omega
        have hk32 : (k : Int) < 32 := by omega
        have hfl := Lib.hid (padk_len (k := k) hk hb32)
        have c1 : wr.cell? ⟨gx, k, none⟩ = some (u8v ((padk b k).getD k 0)) := by
          rw [cell_of_row _ _ _ _ _ _ hrow, List.getElem?_toArray, List.getElem?_map, List.getD_eq_getElem?_getD, List.getElem?_eq_getElem (by rw [hfl.out]; omega)]; rfl
        have f1 : wr.frozen? ⟨gx, k, none⟩ = false := by simp [World.frozen?, hrow]
        have hBu := hbh.out _ (hCw.out.ext ek)
        obtain ⟨a', c', e, hat⟩ := hBu
        simp only [Value.slice.injEq] at e
        obtain ⟨rfl, -, rfl⟩ := e
        obtain ⟨gu, ou, rfl, cb⟩ := hat.get k hlt
        have hrow2 := setCell_row wr gx k _ _ _ (.int .u8 ((b.getD k 0).toNat : Int)) hrow
        rw [padk_step hlt hb32] at hrow2
        have hrowh := Lib.hid hrow2
        generalize b.getD k 0 = y at *
        clear hrow hrow2 hat
        go_wp2
        go_roundw
        case rel => exact ⟨k + 1, by omega, by go_num, hrowh.out, ek.setCell (by show w1.heap.size ≤ gx; rw [hgxh.out]; exact Nat.le_refl _) _⟩
        case measure => simp [intOf]; omega
      · obtain rfl : k = b.length := by omega
        rw [padk_full] at hrow
        have hpl := pad_length hb32
        have hBx := bytes_of_row (n := 32) hrow hpl.symm (by rw [hpl]; decide)
        have hR := hDh.out.ext ek
        obtain ⟨a, cap, xs, rfl, hnn, hc2, hcells⟩ := hR.st.cells
        obtain ⟨c0, c1, -, -, -, ff⟩ := rhd_cells hR.hd
        have ff1 := ff 1
        have eA := (Ext.refl wr).alloc (.cells #[] 109)
        have cA := eA.cell c1
        have hcA : ∀ ad, a = some ad → ∀ j u, xs[j]? = some u → (wr.alloc (.cells #[] 109)).cell? (ad.add j) = some u := fun ad e j u h => eA.cell (hcells ad e j u h)
        have hcAh := Lib.hid hcA
        have hRh := Lib.hid hR
        have hc2h := Lib.hid hc2
        have hnnh := Lib.hid hnn
        clear hrow hR c0 ff hcells hcA hc2 hnn hpl hlt hk
        have hqf : ∀ W, Ext wr W → W.frozen? ⟨q, 1, none⟩ = false := fun W e => by
          have := e.heap hRh.out.hd
          simp [World.frozen?, this]
        have hqfh := Lib.hid hqf
        clear hqf
        have hon := made2 wr
        go_wp2_with (first
          | (at_builtin; refine wpList_append2 rfl _ _ rfl (fun k => wr.heap.size ≤ k) _ 0 [] rfl hon a A.st.length cap xs rfl hnnh.out hc2h.out.1 hcAh.out hc2h.out.2.1 (by omega) ?_; intro v2 W2 g1 g2; simp only [Nat.zero_add, List.nil_append] at g1; obtain ⟨a2, cp2, rfl, -⟩ := g1.shape (by decide); have e2 : Ext wr W2 := eA.chg g2 fun _ h => h)
          | (at_builtin; refine wpList_append2 rfl _ _ rfl _ _ A.st.length xs rfl (g1.ext ((Ext.refl W2).alloc _)) (some ⟨W2.heap.size, 0, none⟩) 1 1 [.int .i64 (i : Int), .slice (some ⟨gx, 0, none⟩) 32 32] rfl (fun h => by cases h) rfl (cells_new2 _ _ _ _) (by intro u hu; simp at hu; rcases hu with rfl | rfl <;> rfl) (by omega) ?_; intro v3 W3 g3 g4; have e3 : Ext wr W3 := (e2.alloc _).chg g4 (fun k hk => hk.elim id (fun h => Nat.le_trans (by exact eA.size) h)); obtain ⟨a3, cp3, rfl, -⟩ := g3.shape (by decide); have c3 := e3.cell c1; have f3 := hqfh.out _ e3))
        go_ret
        have c := (Chg.refl (fun k => k = q) W3).setq 1 (.slice a3 (A.st.length + 1) cp3)
        have z1 : w.heap.size ≤ w1.heap.size := hCw.out.size
        have z2 := ek.size
        have z3 := e2.size
        have z4 : wr.heap.size ≤ (wr.alloc (.cells #[] 109)).heap.size := eA.size
        have z5 : W2.heap.size ≤ (W2.alloc (.cells #[.int .i64 (i : Int), .slice (some ⟨gx, 0, none⟩) 32 32] 109)).heap.size := ((Ext.refl W2).alloc _).size
        have z6 := hgxh.out
        obtain ⟨cur0, m1, -⟩ := hDh.out.kept
        have z7 := (Array.getElem?_eq_some_iff.1 m1).1
        have R3 := hRh.out.ext e3
        obtain ⟨cur, k1, k2⟩ := R3.kept
        have hs : RSt W3 (oth (grow F w) q gk) (.slice a3 (A.st.length + 1) cp3) (A.st ++ [(i, pad b)]) := RSt.of_own (st := A.st ++ [(i, pad b)]) (by rw [List.length_append]; exact g3) (fun k hk => by
          have : wr.heap.size ≤ k := by rcases hk with (hk | hk) | hk <;> omega
          exact ⟨.inr (by omega), by omega, by omega⟩) (((hc2h.out.ext e3).mono (oth_mono fun _ => Or.inl)).snoc i _ _ (hBx.ext e3) (fun k hk _ => by
            simp only [vblk, Option.some.injEq] at hk
            subst hk
            exact ⟨.inr (by omega), by omega, by omega⟩))
        refine ⟨by rw [hr.out.1]; rfl, ((hCw.out.ext ek).ext e3).trans (c.mono fun k hk => by rw [hk]; exact hFp), gk, .slice a3 (A.st.length + 1) cp3, vp', ?_, by rw [hr.out.2]; exact hokW.out⟩
        rw [hr.out.2]
        exact ⟨rhd_set1 _ (e3.heap hRh.out.hd), .inl hFp, ⟨cur, by rw [c.block gk (Array.getElem?_eq_some_iff.1 k1).1 (fun e => R3.ne e.symm)]; exact k1, k2⟩, .inl R3.fk, by rw [← hE2.out]; exact hs.chg c fun k _ hk e => hk.2.1 e, (R3.plan.chg c fun k hk e => hk.2.1 e).mono (oth_mono fun _ => Or.inl), R3.lf⟩
  · have hr : RowKit.Hid (wrE (i : Int) b d = 21 ∧ wrB (i : Int) b d = after d) := Lib.hid (by
      unfold wrE wrB; rw [hh, hf]; simp [h32])
    have hok2 := Lib.hid (after_ok ok)
    rw [hf] at hfl
    clear hD0 hh h32
    go_enter Tryd.func87, Tryd.ntmps87
    go_wp2_with (first
      | (go_at_call 58; refine hLe.mono ?_; rintro e w' ⟨rfl, rfl⟩)
      | (go_at_call 89; refine hfl.mono ?_; rintro e w1 ⟨rfl, hc1, vp', hD1⟩))
    go_ret
    exact ⟨by rw [hr.out.1]; rfl, hc1.mono fun k hk => by rw [hk]; exact hFp, gk, _, _, by rw [hr.out.2]; exact hD1.mono fun _ => Or.inl, by rw [hr.out.2]; exact hok2.out⟩
end Go.Proofs.YtmpjcnopakfdmaaDoor


