/- The document's disk in memory. -/
import Derived.Test.YtehgdoceaeammaaDiskR
import Derived.Test.YtehgdoceaeammaaLL
namespace Go.Proofs.Ytehgdoceaeammaa
open Go.RowKit Dk

def rhd (n gk : Nat) (vs vp : Value) (off : Bool) (z : Nat) : Array Value := #[.slice (some ⟨gk, 0, none⟩) n n, vs, vp, .bool off, .int .i64 (z : Int)]
/-- staged blocks, all within G -/
def RSt (w : World) (G : Nat → Prop) (v : Value) (st : List (Nat × List UInt8)) : Prop :=
  ∃ a cap, v = .slice a st.length cap ∧ st.length ≤ cap ∧ cap ≤ maxLen ∧ (a = none → cap = 0) ∧
    ∀ (j : Nat) (x : Nat × List UInt8), st[j]? = some x → ∃ g u, a = some ⟨g, 0, none⟩ ∧ G g ∧ w.cell? ⟨g, j * 2, none⟩ = some (.int .i64 (x.1 : Int)) ∧ w.cell? ⟨g, j * 2 + 1, none⟩ = some u ∧ Bytes w u x.2 ∧ ∀ k, vblk u = some k → x.2 ≠ [] → G k
theorem RSt.nil (w : World) (G : Nat → Prop) : RSt w G (.slice none 0 0) [] := ⟨none, 0, rfl, Nat.le_refl _, by simp [maxLen], fun _ => rfl, fun j x h => by simp at h⟩
theorem RSt.mono {w : World} {G H : Nat → Prop} {v : Value} {st : List (Nat × List UInt8)} (h : RSt w G v st) (hG : ∀ k, G k → H k) : RSt w H v st := by
  obtain ⟨a, cap, h1, h2, h3, h4, h5⟩ := h
  refine ⟨a, cap, h1, h2, h3, h4, fun j x hj => ?_⟩
  obtain ⟨g, u, k1, k2, k3, k4, k5, k6⟩ := h5 j x hj
  exact ⟨g, u, k1, hG _ k2, k3, k4, k5, fun k h1 h2 => hG _ (k6 k h1 h2)⟩
theorem cell_chg {P : Nat → Prop} {w w' : World} (c : Chg P w w') {a : Addr} {v : Value} (h : w.cell? a = some v) (hn : ¬ P a.block) : w'.cell? a = some v := c.cell h hn
theorem RSt.chg {w w' : World} {G H : Nat → Prop} {v : Value} {st : List (Nat × List UInt8)} (h : RSt w G v st) (c : Chg H w w') (hG : ∀ k, k < w.heap.size → G k → ¬ H k) : RSt w' G v st := by
  obtain ⟨a, cap, h1, h2, h3, h4, h5⟩ := h
  refine ⟨a, cap, h1, h2, h3, h4, fun j x hj => ?_⟩
  obtain ⟨g, u, k1, k2, k3, k4, k5, k6⟩ := h5 j x hj
  have hl := World.block_lt_of_cell? w _ k3
  exact ⟨g, u, k1, k2, c.cell k3 (hG g hl k2), c.cell k4 (hG g hl k2), k5.chgV c fun k h1 h2 => hG k (k5.blk_lt h2 k h1) (k6 k h1 h2), k6⟩
theorem RSt.lt {w : World} {G : Nat → Prop} {v : Value} {st : List (Nat × List UInt8)} (h : RSt w G v st) : RSt w (fun k => G k ∧ k < w.heap.size) v st := by
  obtain ⟨a, cap, h1, h2, h3, h4, h5⟩ := h
  refine ⟨a, cap, h1, h2, h3, h4, fun j x hj => ?_⟩
  obtain ⟨g, u, k1, k2, k3, k4, k5, k6⟩ := h5 j x hj
  exact ⟨g, u, k1, ⟨k2, World.block_lt_of_cell? w _ k3⟩, k3, k4, k5, fun k h1 h2 => ⟨k6 k h1 h2, k5.blk_lt h2 k h1⟩⟩
/-- what the disk has beside its own block and its bytes' -/
def oth (F : Nat → Prop) (q gk : Nat) : Nat → Prop := fun k => F k ∧ k ≠ q ∧ k ≠ gk
structure RD (w : World) (F : Nat → Prop) (q gk : Nat) (vs vp : Value) (d : D) : Prop where
  hd : w.heap[q]? = some (.cells (rhd d.kept.length gk vs vp d.off d.left) 46 (0, 0))
  fq : F q
  kept : ∃ cur : Array Value, w.heap[gk]? = some (.cells cur 5 (0, 0)) ∧ cur.toList = d.kept.map u8v
  fk : F gk
  st : RSt w (oth F q gk) vs d.st
  plan : OwnO bv 4 w (oth F q gk) vp d.plan
  lf : d.left ≤ 9223372036854775807
theorem RD.ne {w : World} {F : Nat → Prop} {q gk : Nat} {vs vp : Value} {d : D} (h : RD w F q gk vs vp d) : q ≠ gk := by
  obtain ⟨cur, h1, _⟩ := h.kept
  exact apart h.hd h1 (by decide)
/-- the document's disk, at block q, with all it has within F -/
def RDisk (w : World) (F : Nat → Prop) (q : Nat) (d : D) : Prop := ∃ gk vs vp, RD w F q gk vs vp d ∧ d.Ok
theorem oth_mono {F G : Nat → Prop} {q gk : Nat} (h : ∀ k, F k → G k) : ∀ k, oth F q gk k → oth G q gk k := fun k hk => ⟨h k hk.1, hk.2⟩
theorem RD.mono {w : World} {F G : Nat → Prop} {q gk : Nat} {vs vp : Value} {d : D} (h : RD w F q gk vs vp d) (hF : ∀ k, F k → G k) : RD w G q gk vs vp d :=
  ⟨h.hd, hF _ h.fq, h.kept, hF _ h.fk, h.st.mono (oth_mono hF), h.plan.mono (oth_mono hF), h.lf⟩
theorem RDisk.mono {w : World} {F G : Nat → Prop} {q : Nat} {d : D} (h : RDisk w F q d) (hF : ∀ k, F k → G k) : RDisk w G q d := by
  obtain ⟨gk, vs, vp, h, ok⟩ := h
  exact ⟨gk, vs, vp, h.mono hF, ok⟩
theorem RD.chg {w w' : World} {F G : Nat → Prop} {q gk : Nat} {vs vp : Value} {d : D} (h : RD w F q gk vs vp d) (c : Chg G w w') (hG : ∀ k, F k → ¬ G k) : RD w' F q gk vs vp d := by
  obtain ⟨cur, h1, h2⟩ := h.kept
  exact ⟨by rw [c.block q (Array.getElem?_eq_some_iff.1 h.hd).1 (hG _ h.fq)]; exact h.hd, h.fq, ⟨cur, by rw [c.block gk (Array.getElem?_eq_some_iff.1 h1).1 (hG _ h.fk)]; exact h1, h2⟩, h.fk, h.st.chg c fun k _ hk => hG k hk.1, h.plan.chg c fun k hk => hG k hk.1, h.lf⟩
theorem RDisk.chg {w w' : World} {F G : Nat → Prop} {q : Nat} {d : D} (h : RDisk w F q d) (c : Chg G w w') (hG : ∀ k, F k → ¬ G k) : RDisk w' F q d := by
  obtain ⟨gk, vs, vp, h, ok⟩ := h
  exact ⟨gk, vs, vp, h.chg c hG, ok⟩
theorem RDisk.ext {w w' : World} {F : Nat → Prop} {q : Nat} {d : D} (h : RDisk w F q d) (e : Ext w w') : RDisk w' F q d := h.chg (G := fun _ => False) (Chg.of_ext e) fun _ _ => id
theorem RD.ext {w w' : World} {F : Nat → Prop} {q gk : Nat} {vs vp : Value} {d : D} (h : RD w F q gk vs vp d) (e : Ext w w') : RD w' F q gk vs vp d := h.chg (G := fun _ => False) (Chg.of_ext e) fun _ _ => id
theorem RDisk.bound {w : World} {F : Nat → Prop} {q : Nat} {d : D} (h : RDisk w F q d) : RDisk w (fun k => F k ∧ k < w.heap.size) q d := by
  obtain ⟨gk, vs, vp, h, ok⟩ := h
  obtain ⟨cur, k1, k2⟩ := h.kept
  exact ⟨gk, vs, vp, ⟨h.hd, ⟨h.fq, (Array.getElem?_eq_some_iff.1 h.hd).1⟩, ⟨cur, k1, k2⟩, ⟨h.fk, (Array.getElem?_eq_some_iff.1 k1).1⟩, h.st.lt.mono fun k hk => ⟨⟨hk.1.1, hk.2⟩, hk.1.2⟩, h.plan.lt.mono fun k hk => ⟨⟨hk.1.1, hk.2⟩, hk.1.2⟩, h.lf⟩, ok⟩
theorem rhd_cells {w : World} {q n gk : Nat} {vs vp : Value} {off : Bool} {z : Nat} (h : w.heap[q]? = some (.cells (rhd n gk vs vp off z) 46 (0, 0))) :
    w.cell? ⟨q, 0, none⟩ = some (.slice (some ⟨gk, 0, none⟩) n n) ∧ w.cell? ⟨q, 1, none⟩ = some vs ∧ w.cell? ⟨q, 2, none⟩ = some vp ∧ w.cell? ⟨q, 3, none⟩ = some (.bool off) ∧ w.cell? ⟨q, 4, none⟩ = some (.int .i64 (z : Int)) ∧ ∀ j, w.frozen? ⟨q, j, none⟩ = false :=
  ⟨by rw [cell_of_row _ _ _ _ _ _ h]; rfl, by rw [cell_of_row _ _ _ _ _ _ h]; rfl, by rw [cell_of_row _ _ _ _ _ _ h]; rfl, by rw [cell_of_row _ _ _ _ _ _ h]; rfl, by rw [cell_of_row _ _ _ _ _ _ h]; rfl, fun j => by simp [World.frozen?, h]⟩
section
variable {w : World} {q n gk : Nat} {vs vp : Value} {off : Bool} {z : Nat}
theorem rhd_set1 (u : Value) (h : w.heap[q]? = some (.cells (rhd n gk vs vp off z) 46 (0, 0))) : (w.setCell ⟨q, 1, none⟩ u).heap[q]? = some (.cells (rhd n gk u vp off z) 46 (0, 0)) := setCell_row w q 1 _ _ _ _ h
theorem rhd_set2 (u : Value) (h : w.heap[q]? = some (.cells (rhd n gk vs vp off z) 46 (0, 0))) : (w.setCell ⟨q, 2, none⟩ u).heap[q]? = some (.cells (rhd n gk vs u off z) 46 (0, 0)) := setCell_row w q 2 _ _ _ _ h
theorem rhd_set3 (b : Bool) (h : w.heap[q]? = some (.cells (rhd n gk vs vp off z) 46 (0, 0))) : (w.setCell ⟨q, 3, none⟩ (.bool b)).heap[q]? = some (.cells (rhd n gk vs vp b z) 46 (0, 0)) := setCell_row w q 3 _ _ _ _ h
theorem rhd_set4 (y : Nat) (x : Int) (hx : x = (y : Int)) (h : w.heap[q]? = some (.cells (rhd n gk vs vp off z) 46 (0, 0))) : (w.setCell ⟨q, 4, none⟩ (.int .i64 x)).heap[q]? = some (.cells (rhd n gk vs vp off y) 46 (0, 0)) := by subst hx; exact setCell_row w q 4 _ _ _ _ h
end
/-- only the disk's own block has turned -/
theorem RD.own {w w' : World} {F : Nat → Prop} {q gk : Nat} {vs vp vs' vp' : Value} {d d' : D} (h : RD w F q gk vs vp d) (c : Chg (fun k => k = q) w w') (hk : d'.kept = d.kept) (hd : w'.heap[q]? = some (.cells (rhd d.kept.length gk vs' vp' d'.off d'.left) 46 (0, 0)))
    (hs : vs' = vs ∧ d'.st = d.st ∨ vs' = .slice none 0 0 ∧ d'.st = []) (hp : vp' = vp ∧ d'.plan = d.plan ∨ OwnO bv 4 w (oth F q gk) vp' d'.plan) (hl : d'.left ≤ 9223372036854775807) : RD w' F q gk vs' vp' d' := by
  obtain ⟨cur, h1, h2⟩ := h.kept
  have hne := h.ne
  refine ⟨by rw [hk]; exact hd, h.fq, ⟨cur, by rw [c.block gk (Array.getElem?_eq_some_iff.1 h1).1 (fun e => hne e.symm)]; exact h1, by rw [hk]; exact h2⟩, h.fk, ?_, ?_, hl⟩
  · rcases hs with ⟨rfl, e⟩ | ⟨rfl, e⟩
    · rw [e]; exact h.st.chg c fun k _ hk e => hk.2.1 e
    · rw [e]; exact RSt.nil _ _
  · rcases hp with ⟨rfl, e⟩ | hp
    · rw [e]; exact h.plan.chg c fun k hk e => hk.2.1 e
    · exact hp.chg c fun k hk e => hk.2.1 e
theorem Chg.setq {q : Nat} {w w' : World} (h : Chg (fun k => k = q) w w') (j : Nat) (u : Value) : Chg (fun k => k = q) w (w'.setCell ⟨q, j, none⟩ u) := h.setCell (fun _ => rfl) u

theorem rLen_any {w : World} {F : Nat → Prop} {q : Nat} {d : D} (h : RDisk w F q d) :
    Calls Try.prog 26 #[.pointer (some ⟨q, 0, none⟩)] w fun e w' => e = .returned (.int .i64 (d.n : Int)) ∧ w = w' := by
  obtain ⟨gk, vs, vp, h, ok⟩ := h
  obtain ⟨c0, -⟩ := rhd_cells h.hd
  have h1 := ok.len
  have h2 := ok.most
  have hw : IntKind.i64.wrap ((d.kept.length : Int) / 32) = (d.n : Int) := by rw [IntKind.wrap_i64]; omega
  have hw2 : RowKit.Hid ((d.kept.length : Int) / 32 = (d.n : Int)) := Lib.hid (by omega)
  have hl : (d.kept.length : Int) ≤ 16384 := by omega
  clear h ok h1 hw
  go_enter Try.func26, Try.ntmps26
  go_wp2
  go_ret
  exact ⟨rfl, rfl⟩
set_option maxHeartbeats 800000 in
theorem rfails_any {w : World} {F : Nat → Prop} {q gk : Nat} {vs vp : Value} {d : D} (h : RD w F q gk vs vp d) :
    Calls Try.prog 39 #[.pointer (some ⟨q, 0, none⟩)] w fun e w' => e = .returned (.bool (fl d)) ∧ Chg (fun k => k = q) w w' ∧ ∃ vp', RD w' F q gk vs vp' (after d) := by
  have hD := h
  have h1 := h.hd
  have hpl0 := h.plan
  have hlf := h.lf
  obtain ⟨K, st, plan, off, left⟩ := d
  simp only at h1 hpl0 hlf
  obtain ⟨c0, c1, c2, c3, c4, ff⟩ := rhd_cells h1
  have hDh := Lib.hid hD
  have h1h := Lib.hid h1
  clear h hD h1
  cases off
  · have hg2 : left = 0 ∨ left = 1 ∨ 1 < left := by omega
    cases plan with
    | nil =>
      obtain ⟨a, cap, rfl⟩ := hpl0.shape
      simp only [List.length_nil] at c2
      clear hpl0
      rcases hg2 with rfl | rfl | hl
      · have hf : RowKit.Hid (fl ⟨K, st, [], false, 0⟩ = false ∧ after ⟨K, st, [], false, 0⟩ = ⟨K, st, [], false, 0⟩) := Lib.hid ⟨rfl, rfl⟩
        go_enter Try.func39, Try.ntmps39
        go_wp2
        go_ret
        exact ⟨by rw [hf.out.1]; rfl, Chg.refl _ _, by rw [hf.out.2]; exact ⟨_, hDh.out⟩⟩
      · have hf : RowKit.Hid (fl ⟨K, st, [], false, 1⟩ = false ∧ after ⟨K, st, [], false, 1⟩ = ⟨K, st, [], true, 0⟩) := Lib.hid ⟨rfl, rfl⟩
        go_enter Try.func39, Try.ntmps39
        go_wp2
        go_ret
        have c := ((Chg.refl (fun k => k = q) w).setq 4 (.int .i64 0)).setq 3 (.bool true)
        exact ⟨by rw [hf.out.1]; rfl, c, by rw [hf.out.2]; exact ⟨_, hDh.out.own c rfl (rhd_set3 true (rhd_set4 0 0 rfl h1h.out)) (.inl ⟨rfl, rfl⟩) (.inl ⟨rfl, rfl⟩) (by simp)⟩⟩
      · have hf : RowKit.Hid (fl ⟨K, st, [], false, left⟩ = false ∧ after ⟨K, st, [], false, left⟩ = ⟨K, st, [], false, left - 1⟩) := Lib.hid ⟨rfl, by unfold after; simp; omega⟩
        have hzb : (((left : Int) - 1) == 0) = false := by rw [beq_eq_false_iff_ne]; omega
        have hli : (0 : Int) < (left : Int) := by omega
        go_enter Try.func39, Try.ntmps39
        go_wp2
        go_ret
        have c := ((Chg.refl (fun k => k = q) w).setq 4 (.int .i64 ((left : Int) - 1))).setq 3 (.bool false)
        exact ⟨by rw [hf.out.1]; rfl, c, by rw [hf.out.2]; exact ⟨_, hDh.out.own c rfl (rhd_set3 false (rhd_set4 (left - 1) _ (by omega) h1h.out)) (.inl ⟨rfl, rfl⟩) (.inl ⟨rfl, rfl⟩) (by simp; omega)⟩⟩
    | cons x plan =>
      have hsl := hpl0.sl
      have hpl := Lib.hid hpl0
      obtain ⟨a, cap, rfl⟩ := hpl0.shape
      obtain ⟨a', cap', e, hsl⟩ := hsl
      cases e
      obtain ⟨gd, od, rfl, cd⟩ := hsl.cells 0 x rfl
      have hcl := hsl.le
      have hcm := hsl.capm
      unfold maxLen at hcm
      have hgp : gd ≠ q := by
        rcases hpl0 with ⟨h, _⟩ | ⟨g, o, cap2, cur, e, hG, hh, _⟩
        · cases h
        · cases e
          exact hG.2.1
      unfold bv at cd
      simp only [Nat.add_zero] at cd
      simp only [List.length_cons] at c2 hcl
      have hgp1 : ¬ gd = q := hgp
      have hgp2 : ¬ q = gd := fun h => hgp h.symm
      clear hsl hgp hpl0
      have hq1 : (((plan.length + 1 : Nat) : Int) == 0) = false := by rw [beq_eq_false_iff_ne]; omega
      have hq2 : ((plan.length : Int) + 1 == 0) = false := by rw [beq_eq_false_iff_ne]; omega
      rcases hg2 with rfl | rfl | hl
      · have hf : RowKit.Hid (fl ⟨K, st, x :: plan, false, 0⟩ = x ∧ after ⟨K, st, x :: plan, false, 0⟩ = ⟨K, st, plan, false, 0⟩) := Lib.hid ⟨rfl, rfl⟩
        go_enter Try.func39, Try.ntmps39
        go_wp2
        all_goals
          go_ret
          have ht := hpl.out.tail
          first | simp [sliced, ‹cap = 1›] at ht | simp [sliced, ‹¬cap = 1›, Addr.add_lit] at ht
          have c := (Chg.refl (fun k => k = q) w).setq 2
          refine ⟨by rw [hf.out.1]; rfl, c _, ?_⟩
          rw [hf.out.2]
          exact ⟨_, hDh.out.own (c _) rfl (rhd_set2 _ h1h.out) (.inl ⟨rfl, rfl⟩) (.inr ht) (by simp)⟩
      · have hf : RowKit.Hid (fl ⟨K, st, x :: plan, false, 1⟩ = x ∧ after ⟨K, st, x :: plan, false, 1⟩ = ⟨K, st, plan, true, 0⟩) := Lib.hid ⟨rfl, rfl⟩
        go_enter Try.func39, Try.ntmps39
        go_wp2
        all_goals
          go_ret
          have ht := hpl.out.tail
          first | simp [sliced, ‹cap = 1›] at ht | simp [sliced, ‹¬cap = 1›, Addr.add_lit] at ht
          have c := (((Chg.refl (fun k => k = q) w).setq 4 (.int .i64 0)).setq 3 (.bool true)).setq 2
          refine ⟨by rw [hf.out.1]; rfl, c _, ?_⟩
          rw [hf.out.2]
          exact ⟨_, hDh.out.own (c _) rfl (rhd_set2 _ (rhd_set3 true (rhd_set4 0 0 rfl h1h.out))) (.inl ⟨rfl, rfl⟩) (.inr ht) (by simp)⟩
      · have hf : RowKit.Hid (fl ⟨K, st, x :: plan, false, left⟩ = x ∧ after ⟨K, st, x :: plan, false, left⟩ = ⟨K, st, plan, false, left - 1⟩) := Lib.hid ⟨rfl, by unfold after; simp; omega⟩
        have hzb : (((left : Int) - 1) == 0) = false := by rw [beq_eq_false_iff_ne]; omega
        have hli : (0 : Int) < (left : Int) := by omega
        go_enter Try.func39, Try.ntmps39
        go_wp2
        all_goals
          go_ret
          have ht := hpl.out.tail
          first | simp [sliced, ‹cap = 1›] at ht | simp [sliced, ‹¬cap = 1›, Addr.add_lit] at ht
          have c := (((Chg.refl (fun k => k = q) w).setq 4 (.int .i64 ((left : Int) - 1))).setq 3 (.bool false)).setq 2
          refine ⟨by rw [hf.out.1]; rfl, c _, ?_⟩
          rw [hf.out.2]
          exact ⟨_, hDh.out.own (c _) rfl (rhd_set2 _ (rhd_set3 false (rhd_set4 (left - 1) _ (by omega) h1h.out))) (.inl ⟨rfl, rfl⟩) (.inr ht) (by simp; omega)⟩
  · have hf : RowKit.Hid (fl ⟨K, st, plan, true, left⟩ = true ∧ after ⟨K, st, plan, true, left⟩ = ⟨K, st, plan, true, left⟩) := Lib.hid ⟨rfl, rfl⟩
    clear hpl0
    go_enter Try.func39, Try.ntmps39
    go_wp2
    go_ret
    exact ⟨by rw [hf.out.1]; rfl, Chg.refl _ _, by rw [hf.out.2]; exact ⟨_, hDh.out⟩⟩
end Go.Proofs.Ytehgdoceaeammaa
